/- The call of ImageKeeps: it returns true. Condition: the table reads from memory; the error variables hold what E says. -/
import Derived.Test.YthilnpfpllplaaaGreatDoorS27
import Derived.Test.YthilnpfpllplaaaGreatDoorS28
import Derived.Test.YthilnpfpllplaaaGreatDoorS29
namespace Go.Proofs.YthilnpfpllplaaaGreatDoor
open Go.RowKit BagP RuleP SubP FarR NatP

theorem keepsI {K R : Int} {T : List Int} (h : (ofF 0 K R T).2.2 = none) : (∀ l ∈ (ofF 0 K R T).2.1, l.length ≤ 4096) ∧ (wordsF K R T 9).2 = none ∧ (limbs (wordsF K R T 9).1).length ≤ 1000 := by
  rcases ofF_cases 0 K R T with ⟨tl, h'⟩ | ⟨k, r, t, S, rfl, rfl, rfl, hr, hl, hS, h', hau⟩
  · rw [h'] at h; cases h
  · have hw := wordsF_run h' (n := 9) (by decide)
    rw [show ((9 : Nat) : Int) = 9 from rfl] at hw
    rw [h', hw]
    have hk4 := hr.k4
    refine ⟨fun l hl => ?_, rfl, ?_⟩
    · have := hau.len l hl
      omega
    · have h1 := sum_waysV hau 9
      have h2 : k ^ 9 < W32 ^ 17 := Nat.lt_of_le_of_lt (Nat.pow_le_pow_left hk4 _) (pow_fit (by omega))
      have := limbs_len_of_lt _ _ (Nat.lt_of_le_of_lt h1 h2)
      show (limbs (waysV (leastA k S.next) 9).sum).length ≤ 1000
      omega
/-- One append more: what lay below the base lies there still. -/
theorem grownI {B : Nat} {wx w8 w' : World} {e n : Nat} {v : Value} {xs : List Value} (hk : Below B wx w8) (h : w8.ownsRow B e 1 v n xs) (hg : w8.grownBy w' v.ownBlock) (hs : B ≤ w8.heap.size) : Below B wx w' :=
  hk.trans ((Keeps.of_grown hg).below hs (fun b hb => (h.lt b hb).1))
theorem grpWid {w : World} {lo lo' hi hi' m : Nat} {R : List (Value × List Int)} (h : FarR.Grp w lo hi m R) (h1 : lo' ≤ lo) (h2 : hi ≤ hi') : FarR.Grp w lo' hi' m R :=
  { h with blk := fun p hp g hg => by have := h.blk p hp g hg; omega }
def u32i (l : List Nat) : List Int := l.map (fun (x : Nat) => (x : Int))
theorem rowI {w : World} {lo hi n : Nat} {v : Value} {l : List Nat} (h : RowN w lo hi v n (l.map wv)) : RowN w lo hi v n ((u32i l).map (Value.int .u32)) := by
  have e : (u32i l).map (Value.int .u32) = l.map wv := by
    unfold u32i wv
    rw [List.map_map]
    rfl
  rw [e]
  exact h
theorem rowOfI {w w' : World} {base n : Nat} {v : Value} {l : List Nat} (h : w.ownsRow base 75 1 v n (l.map wv)) (hb : Below w.heap.size w w') : RowN w' base w.heap.size v n (l.map wv) :=
  (RowN.of h).below hb

set_option maxRecDepth 100000 in
set_option maxHeartbeats 4000000 in
theorem imageKeeps_c (w : World) (E : Nat → Addr) (hE : Errs w E) (hT : ErrT w) (hAp : Apart12 E) (hB : ErrBlk w E) (K R : Int) (A : Option Addr) (n c : Nat) (T : List Int) (hS : Sl w A n (T.map (Value.int .i64))) (hn : n ≤ c) (hz : c * 8 ≤ 140737488351232) :
    Calls Tryz.prog 5 #[ruleV K R A n c] w fun e w' => e = .returned (.bool true) ∧ Below w.heap.size w w' := by
  have HER := Lib.hid (fun (wz : World) (hz : Below w.heap.size w wz) => (⟨hE.below hz, hT.below hz, hB.below hz⟩ : _ ∧ _ ∧ _))
  clear hE hT hB
  have hb0 := (Below.refl w.heap.size w).alloc (Nat.le_refl _) (.cells #[.int .i64 K, .int .i64 R, .slice A n c] 24)
  have HAW := Lib.hid (awake11_c _ E (HER.out _ hb0).1 (HER.out _ hb0).2.1 hAp (HER.out _ hb0).2.2)
  have hr0 := RuleAt.new w (.int .i64 K) (.int .i64 R) (.slice A n c)
  unfold ruleV at *
  go_enter Tryz.func5, Tryz.ntmps5
  go_wp2_with fail
  refine (HAW.out).mono ?_
  rintro e w1 ⟨rfl, b1⟩
  have hr1 := hr0.below b1 (by simp)
  have hb1 := below_box b1
  have hq1 : w.heap.size < w1.heap.size := hr1.lt
  have HR := Lib.hid (fun (wz : World) (hz : Below w1.heap.size w1 wz) => (hr1.below hz hr1.lt).facts)
  obtain ⟨r0, r1, r2, _⟩ := hr1.facts
  have hKF := keepsI (K := K) (R := R) (T := T)
  obtain ⟨o, ho⟩ : ∃ o, ofF 0 K R T = o := ⟨_, rfl⟩
  obtain ⟨kk, L1, tt⟩ := o
  obtain ⟨o2, ho2⟩ : ∃ o, wordsF K R T 9 = o := ⟨_, rfl⟩
  obtain ⟨X, t2⟩ := o2
  have hWU := fun (wz : World) (hz : Below w.heap.size w wz) => leastU_c wz E (HER.out _ hz).1 (HER.out _ hz).2.1 hAp (HER.out _ hz).2.2 K R A n c T (hS.below hz) (by omega)
  have hSU := fun (wz : World) (hz : Below w.heap.size w wz) => words_u wz E (HER.out _ hz).1 (HER.out _ hz).2.1 hAp (HER.out _ hz).2.2 K R A n c T (hS.below hz) (by omega) 9
  rw [ho] at hWU hKF
  rw [ho2] at hSU hKF
  unfold ruleV autoV at hWU
  unfold ruleV at hSU
  obtain ⟨lx, hlx⟩ : ∃ lx, (limbs X).length = lx := ⟨_, rfl⟩
  dsimp only at hKF hSU
  rw [hlx] at hSU hKF
  have HLX := Lib.hid hlx
  have HWU := Lib.hid hWU
  have HSU := Lib.hid hSU
  have HKF := Lib.hid hKF
  obtain ⟨l1, hl1⟩ : ∃ l1, L1.length = l1 := ⟨_, rfl⟩
  have HL1 := Lib.hid hl1
  clear b1 HAW hWU hSU hKF ho ho2 hr1 hr0 hS hl1 hb0 hlx
  go_wp2_with fail
  refine (HWU.out w1 hb1).mono ?_
  rintro e w2 ⟨C2, c2, rows2, v2, rfl, ho2, he2, b2⟩
  have hb2 := hb1.trans (b2.mono hb1.size)
  have ha3 : AutoAt (w2.alloc (.cells #[.int .i64 kk, .slice C2 L1.length c2] 50)) w2.heap.size (.int .i64 kk) (.slice C2 L1.length c2) := heap_new w2 (.cells #[.int .i64 kk, .slice C2 L1.length c2] 50)
  have b3 := (Below.refl w2.heap.size w2).alloc (Nat.le_refl _) (.cells #[.int .i64 kk, .slice C2 L1.length c2] 50)
  rw [HL1.out] at ha3 b3
  dsimp only
  rw [HL1.out]
  obtain ⟨w3, hw3⟩ : ∃ w3, w2.alloc (.cells #[.int .i64 kk, .slice C2 l1 c2] 50) = w3 := ⟨_, rfl⟩
  have HW3 := Lib.hid hw3
  rw [hw3] at ha3 b3
  have hl3 : w2.heap.size < w3.heap.size := by rw [← hw3]; simp
  have hb3 := hb2.trans (b3.mono hb2.size)
  have HB3 := Lib.hid hb3
  clear hw3 r0 r1 r2
  cases tt with
  | some tl =>
    have he2' : ErrIs w2 E tl.1 tl.2 v2 := he2
    obtain ⟨u, p, rfl⟩ := he2'.iface
    clear he2 he2' ha3 ho2 hb3
    go_wp2_with fail
    rw [HW3.out]
    go_ret
    exact ⟨rfl, HB3.out⟩
  | none =>
    have he2' : v2 = .nilIface := he2
    clear he2
    subst he2'
    obtain ⟨a0, a1, _, _⟩ := ha3.facts
    by_cases hL : 60 < l1
    · clear ha3 ho2 hb3
      go_wp2_with fail
      rw [HW3.out]
      go_ret
      exact ⟨rfl, HB3.out⟩
    · obtain ⟨q3, q1, q2⟩ := (HKF.out rfl : (∀ l ∈ L1, l.length ≤ 4096) ∧ t2 = none ∧ lx ≤ 1000)
      subst q1
      obtain ⟨r0, r1, r2, _⟩ := HR.out w2 b2
      have r3 : w.heap.size < w2.heap.size := Nat.lt_of_lt_of_le hq1 b2.size
      have HQ := Lib.hid (⟨q2, q3⟩ : _ ∧ _)
      clear q2 q3 HKF
      go_wp2_with fail
      rw [HW3.out]
      refine (HWU.out w3 HB3.out).mono ?_
      rintro e w4 ⟨C4, c4, rows4, v4, rfl, ho4, he4, b4⟩
      have he4' : v4 = .nilIface := he4
      clear he4
      subst he4'
      have hb4 := hb3.trans (b4.mono hb3.size)
      have hx5 : AutoAt (w4.alloc (.cells #[.int .i64 kk, .slice C4 L1.length c4] 50)) w4.heap.size (.int .i64 kk) (.slice C4 L1.length c4) := heap_new w4 (.cells #[.int .i64 kk, .slice C4 L1.length c4] 50)
      have b5 := (Below.refl w4.heap.size w4).alloc (Nat.le_refl _) (.cells #[.int .i64 kk, .slice C4 L1.length c4] 50)
      rw [HL1.out] at hx5 b5
      dsimp only
      rw [HL1.out]
      obtain ⟨w5, hw5⟩ : ∃ w5, w4.alloc (.cells #[.int .i64 kk, .slice C4 l1 c4] 50) = w5 := ⟨_, rfl⟩
      have HW5 := Lib.hid hw5
      rw [hw5] at hx5 b5
      have hl5 : w4.heap.size < w5.heap.size := by rw [← hw5]; simp
      have hb5 := hb4.trans (b5.mono hb4.size)
      have z13 := pure_trans b2 b3
      have z35 := pure_trans b4 b5
      have z15 := pure_trans z13 z35
      obtain ⟨r0, r1, r2, _⟩ := HR.out w4 (pure_trans z13 b4)
      have r3 : w.heap.size < w4.heap.size := Nat.lt_of_lt_of_le hq1 (pure_trans z13 b4).size
      clear hw5
      go_wp2_with fail
      rw [HW5.out]
      refine (HSU.out w5 hb5).mono ?_
      rintro e w6 ⟨C6, c6, v6, rfl, ho6, he6, b6⟩
      have he6' : v6 = .nilIface := he6
      clear he6
      subst he6'
      have hb6 := hb5.trans (b6.mono hb5.size)
      have z16 := pure_trans z15 b6
      obtain ⟨r0, r1, r2, _⟩ := HR.out w6 z16
      go_wp2_with fail
      refine (HSU.out w6 hb6).mono ?_
      rintro e w7 ⟨C7, c7, v7, rfl, ho7, he7, b7⟩
      have he7' : v7 = .nilIface := he7
      clear he7
      subst he7'
      have hb7 := hb6.trans (b7.mono hb6.size)
      have z17 := pure_trans z16 b7
      have z57 := pure_trans b6 b7
      have z47 := pure_trans b5 z57
      have z37 := pure_trans b4 z47
      have z27 := pure_trans b3 z37
      have hG2 := (Grp.list ho2 HQ.out.2).pure z27
      have hG4 := (Grp.list ho4 HQ.out.2).pure z47
      have hl1n : L1.length = l1 := HL1.out
      have hs2 : Sl w7 C2 l1 rows2 := by have := Sl.of_own (own_below ho2.lst z27); rwa [hl1n] at this
      have hs4 : Sl w7 C4 l1 rows4 := by have := Sl.of_own (own_below ho4.lst z47); rwa [hl1n] at this
      have hla : ListAt w7 C2 l1 L1 := by have := ho2.list.keep z27; rwa [hl1n] at this
      have hlb : ListAt w7 C4 l1 L1 := by have := ho4.list.keep z47; rwa [hl1n] at this
      have H2 := Lib.hid (rows_one ho2)
      have H4 := Lib.hid (rows_one ho4)
      have hk2 := ho2.len
      have hk4 := ho4.len
      have hau := autos_same w7 kk C2 C4 l1 c2 c4 L1 hla hlb (by omega)
      unfold autoV at hau
      have HAU := Lib.hid hau
      have hmx := own_le ho6
      have hnt := fun (wz : World) (hz : Below w7.heap.size w7 wz) => nats_b wz C6 C7 lx lx c6 c7 (limbs X) (limbs X) (((Sl.of_own ho6).below b7).below hz) ((Sl.of_own ho7).below hz) (Nat.le_trans hmx.1 hmx.2)
      rw [decide_eq_true rfl] at hnt
      have HNT := Lib.hid hnt
      have hn6 := rowOfI ho6 b7
      have hn7 := RowN.of ho7
      have HA := Lib.hid (fun (wz : World) (hz : Below w7.heap.size w7 wz) => (⟨(ha3.below (pure_trans z37 hz) hl3).facts.1, (ha3.below (pure_trans z37 hz) hl3).facts.2.1, (hx5.below (pure_trans z57 hz) hl5).facts.1, (hx5.below (pure_trans z57 hz) hl5).facts.2.1⟩ :
        wz.cell? ⟨w2.heap.size, 0, none⟩ = some (.int .i64 kk) ∧ wz.cell? ⟨w2.heap.size, 1, none⟩ = some (.slice C2 l1 c2) ∧ wz.cell? ⟨w4.heap.size, 0, none⟩ = some (.int .i64 kk) ∧ wz.cell? ⟨w4.heap.size, 1, none⟩ = some (.slice C4 l1 c4)))
      have HZ := Lib.hid (⟨b2.size, b3.size, b4.size, b5.size, b6.size, b7.size⟩ : _ ∧ _ ∧ _ ∧ _ ∧ _ ∧ _)
      obtain ⟨p0, p1, p2, p3⟩ := HA.out w7 (Below.refl _ _)
      have HK := Lib.hid (⟨hk2, hk4, hl1n⟩ : _ ∧ _ ∧ _)
      have HG := Lib.hid (⟨hG2, hG4⟩ : _ ∧ _)
      have HN67 := Lib.hid (⟨hn6, hn7⟩ : _ ∧ _)
      have HB7 := Lib.hid hb7
      clear hnt hau hla hlb hk2 hk4 hl1n hG2 hG4 ha3 hx5 hl3 hl5 z27 z37 z47 z57 z17 z16 z15 z35 z13 b2 b3 b4 b5 b6 b7 hb2 hb3 hb4 hb5 hb6 hb7 ho2 ho4 ho6 ho7 r0 r1 r2 a0 a1 hn6 hn7
      go_wp2_with fail
      refine (HAU.out).mono ?_
      rintro e w10 ⟨rfl, b10⟩
      go_wp2_with fail
      refine (HNT.out w10 b10).mono ?_
      rintro e w12 ⟨rfl, b12⟩
      have b912 := pure_trans b10 b12
      have ba := (Below.refl w12.heap.size w12).alloc (Nat.le_refl _) (.cells #[] 22)
      have hlit := World.ownsRow_lit (base := w12.heap.size) (e := 22) (size := 1) w12 #[] 0 (Nat.le_refl _) (by decide) rfl
      have hs213 := hs2.below (pure_trans b912 ba)
      obtain ⟨p0, p1, p2, p3⟩ := HA.out _ (pure_trans b912 ba)
      clear b10 b12
      go_wp2_with (first
        | (at_builtin; refine wpList_cat rfl (.tmp 65) (.tmp 67) _ rfl tIntss hlit rfl hs213 rfl H2.out (by simp only [maxLen]; omega) (by omega) ba.size ?_; intro v14 w14 hown14 hg14 _ _; rw [Nat.zero_add] at hown14; obtain ⟨C14, cc14, rfl, _, _⟩ := own_slice hown14; have hb14 := grownI ba hlit hg14 ba.size; have hs414 := hs4.below (pure_trans b912 hb14); obtain ⟨p0, p1, p2, p3⟩ := HA.out _ (pure_trans b912 hb14))
        | (at_builtin; go_loud (refine wpList_cat rfl (.tmp 69) (.tmp 71) _ rfl tIntss hown14 rfl hs414 rfl H4.out (by simp only [maxLen]; omega) (by omega) hb14.size ?_); intro v15 w15 hown15 hg15 _ _; obtain ⟨C15, cc15, rfl, _, _⟩ := own_slice hown15; have hb15 := grownI hb14 hown14 hg15 hb14.size))
      obtain ⟨g2, g4⟩ := HG.out
      obtain ⟨k2, k4, hl1n⟩ := HK.out
      obtain ⟨y2, y3, y4, y5, y6, y7⟩ := HZ.out
      have hb715 := pure_trans b912 hb15
      have hgr := ((grpWid g2 (Nat.le_refl _) y3).app g4 (by omega) (by omega)).pure hb715
      obtain ⟨Q, hQ⟩ : ∃ Q, rowsI rows2 L1 ++ rowsI rows4 L1 = Q := ⟨_, rfl⟩
      have hfst : Q.map (·.1) = ((#[] : Array Value).toList ++ rows2) ++ rows4 := by
        rw [← hQ]
        simp only [List.map_append, rowsI_fst k2, rowsI_fst k4]
        rfl
      rw [hQ] at hgr
      have hL15 := Sl.of_own hown15
      rw [← hfst] at hL15
      have HAP := Lib.hid (apart_c w15 C15 (l1 + l1) cc15 Q hL15 (rows_of hgr.own) hgr.far (fun ad e hf => by
        have h1 := (hown15.lt ad.block (by rw [e]; rfl)).1
        obtain ⟨p, hp, hg⟩ := hf
        have h2 := (hgr.blk p hp _ hg).2
        have h3 := b912.size
        omega) (by omega) (fun p hp => by have := hgr.len p hp; omega))
      have HFT := Lib.hid (show ∀ b, Apart.Foot Q b → w1.heap.size ≤ b ∧ b < w4.heap.size from fun b hf => by
        obtain ⟨p, hp, hg⟩ := hf
        exact hgr.blk p hp _ hg)
      have HBB := Lib.hid (HB7.out.trans (hb715.mono HB7.out.size))
      have HN := Lib.hid (⟨HN67.out.1.below hb715, HN67.out.2.below hb715⟩ : _ ∧ _)
      clear hgr hfst hL15 hown15 hown14 hg14 hg15 g2 g4 k2 k4 hl1n hQ hs213 hs414 hlit ba p0 p1 p2 p3
      go_wp2_with fail
      refine (HAP.out).mono ?_
      rintro e w18 ⟨rfl, hk18⟩
      have hsz := HBB.out.size
      have hzz := HZ.out
      have hb18 := HBB.out.trans (hk18.below hsz (fun b hb => by have := HFT.out b hb; omega))
      have hn6 := HN.out.1.keeps hk18 (fun b hb h1 h2 => by have := HFT.out b hb; omega)
      have hn7 := HN.out.2.keeps hk18 (fun b hb h1 h2 => by have := HFT.out b hb; omega)
      have b19 := (Below.refl w18.heap.size w18).alloc (Nat.le_refl _) (.cells #[.slice C6 lx c6, .slice C7 lx c7] 38)
      have hlit2 := World.ownsRow_lit (base := w18.heap.size) (e := 38) (size := 1) w18 #[.slice C6 lx c6, .slice C7 lx c7] 2 (Nat.le_refl _) (by decide) rfl
      obtain ⟨w19, hw19⟩ : ∃ w19, w18.alloc (.cells #[.slice C6 lx c6, .slice C7 lx c7] 38) = w19 := ⟨_, rfl⟩
      rw [hw19] at b19 hlit2
      have HW19 := Lib.hid hw19
      have hui : (u32i (limbs X)).length = lx := by unfold u32i; rw [List.length_map]; exact HLX.out
      have hrg : RangedN w19 w5.heap.size [(Value.slice C6 lx c6, u32i (limbs X)), (Value.slice C7 lx c7, u32i (limbs X))] :=
        .cons (Nat.le_refl _) (by omega) (rowI (hn6.below b19)) hui (Nat.le_refl _) (.cons (Nat.le_refl _) (by omega) (rowI (hn7.below b19)) hui (Nat.le_refl _) (.nil _ _))
      have hin : ∀ bk, ApartN.Foot [(Value.slice C6 lx c6, u32i (limbs X)), (Value.slice C7 lx c7, u32i (limbs X))] bk → w5.heap.size ≤ bk ∧ bk < w7.heap.size := by
        rintro bk ⟨p, hp, hg⟩
        simp only [List.mem_cons, List.not_mem_nil, or_false] at hp
        rcases hp with rfl | rfl
        · have h1 := (hn6.own.lt bk hg).1; have h2 := hn6.hi bk hg; omega
        · have h1 := (hn7.own.lt bk hg).1; have h2 := hn7.hi bk hg; omega
      have hs18 := hk18.size
      have h715 := hb715.size
      have HAQ := Lib.hid (apartN_r w19 (some ⟨w18.heap.size, 0, none⟩) 2 2 _ w5.heap.size (Sl.of_own hlit2) hrg (fun ad had hf => by
          cases had
          have := hin _ hf
          simp only at this
          omega) (by decide) (fun p hp => by
          simp only [List.mem_cons, List.not_mem_nil, or_false] at hp
          rcases hp with rfl | rfl <;> (show (u32i (limbs X)).length ≤ 1000000) <;> (have := HQ.out.1; omega)))
      have HIN := Lib.hid hin
      have HB19 := Lib.hid (hb18.trans (b19.mono hb18.size))
      clear hrg hin hn6 hn7 b19 hlit2 hw19 hb18 hk18 hui hzz HA HNT HAU
      go_wp2_with fail
      rw [HW19.out]
      refine (HAQ.out).mono ?_
      rintro e w20 ⟨rfl, hk20⟩
      have HEND := Lib.hid (HB19.out.trans (hk20.below (B := w.heap.size) HB19.out.size (fun b hb => by have := HIN.out b hb; have := HB7.out.size; obtain ⟨y2, y3, y4, y5, y6, y7⟩ := HZ.out; omega)))
      clear hk20
      go_wp2_with fail
      go_ret
      exact ⟨rfl, HEND.out⟩
end Go.Proofs.YthilnpfpllplaaaGreatDoor
