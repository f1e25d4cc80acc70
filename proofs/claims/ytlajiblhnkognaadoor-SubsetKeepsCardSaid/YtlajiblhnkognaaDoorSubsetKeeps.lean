/- The call of SubsetKeeps: it returns true. Condition: the table reads from memory; the error variables hold what E says. -/
import Derived.Test.YtlajiblhnkognaaDoorLentRR
import Derived.Test.YtlajiblhnkognaaDoorSubWalkU
import Derived.Test.YtlajiblhnkognaaDoorSubFar
import Derived.Test.YtlajiblhnkognaaDoorApartC
namespace Go.Proofs.YtlajiblhnkognaaDoor
open Go.RowKit RuleP SubP FarR

theorem keepsF {K R : Int} {T : List Int} (h : (walkF K R T).2.2.2 = none) : (ontoF K R T).2.2 = none ∧ (ontoF K R T).2.1.length ≤ 4096 ∧ (walkF K R T).2.2.1.length = (walkF K R T).2.1.length ∧ (∀ l ∈ (walkF K R T).2.1, l.length ≤ 4096) ∧ ∀ l ∈ (walkF K R T).2.2.1, l.length ≤ 4096 := by
  rcases walkF_cases K R T with ⟨tl, h'⟩ | ⟨k, r, t, S, rfl, rfl, rfl, hr, hl, h'⟩ | ⟨k, r, t, rfl, rfl, rfl, hr, hl, h'⟩
  · rw [walkF_bad h'] at h; cases h
  · have hN : 0 < k ^ (2 * r) := Nat.pow_pos hr.k1
    obtain ⟨h1, h2⟩ := next_len hN h'
    obtain ⟨h3, _⟩ := fin_ok hN h'
    obtain ⟨o, ho⟩ : ∃ o, fin k (k ^ (2 * r)) t true = o := ⟨_, rfl⟩
    have hk4 := hr.k4
    have hb : k ^ (2 * r) ≤ 256 := by
      have h4 := hr.len
      rw [Nat.pow_succ] at h4
      have h5 : k ^ (2 * r) * 1 ≤ k ^ (2 * r) * k := Nat.mul_le_mul_left _ hr.k1
      omega
    rw [walkF_good hr hl h', ontoF_good hr hl ho]
    refine ⟨?_, ?_, ?_, fun l hl => by have := h2 l hl; omega, fun l hl => ?_⟩
    · cases o with
      | go S' row => rfl
      | orphan x => rfl
      | over => exact absurd ho (fin_not_over h')
    · cases o with
      | go S' row => exact Nat.zero_le _
      | orphan x => show (ints x).length ≤ 4096; rw [ints_len]; exact orphan_len hN ho
      | over => exact Nat.zero_le _
    · show (setsL S).length = S.next.length
      unfold setsL; rw [List.length_map, h1]
    · have hl' : l ∈ setsL S := hl
      unfold setsL at hl'
      obtain ⟨B, hB, rfl⟩ := List.mem_map.1 hl'
      have h6 : (nodesOf B).length ≤ B.length := nodesTo_len B B.length
      rw [ints_len]
      have := h3 B hB
      omega
  · rw [walkF_good hr hl h'] at h; cases h

/-- One append more: what lay below the base lies there still. -/
theorem grownK {B : Nat} {wx w8 w' : World} {e n : Nat} {v : Value} {xs : List Value} (hk : Below B wx w8) (h : w8.ownsRow B e 1 v n xs) (hg : w8.grownBy w' v.ownBlock) (hs : B ≤ w8.heap.size) : Below B wx w' :=
  hk.trans ((Keeps.of_grown hg).below hs (fun b hb => (h.lt b hb).1))
theorem FarR.Grp.wid {w : World} {lo lo' hi hi' m : Nat} {R : List (Value × List Int)} (h : FarR.Grp w lo hi m R) (h1 : lo' ≤ lo) (h2 : hi ≤ hi') : FarR.Grp w lo' hi' m R :=
  { h with blk := fun p hp g hg => by have := h.blk p hp g hg; omega }

set_option maxRecDepth 100000 in
set_option maxHeartbeats 4000000 in
theorem subsetKeeps_c (w : World) (E : Nat → Addr) (hE : Errs w E) (hT : ErrT w) (hAp : Apart12 E) (hB : ErrBlk w E) (K R : Int) (A : Option Addr) (n c : Nat) (T : List Int) (hS : Sl w A n (T.map (Value.int .i64))) (hn : n ≤ c) (hz : c * 8 ≤ 140737488351232) :
    Calls Tryd.prog 6 #[ruleV K R A n c] w fun e w' => e = .returned (.bool true) ∧ Below w.heap.size w w' := by
  have HER := Lib.hid (fun (wz : World) (hz : Below w.heap.size w wz) => (⟨hE.below hz, hT.below hz, hB.below hz⟩ : _ ∧ _ ∧ _))
  clear hE hT hB
  have hb0 := (Below.refl w.heap.size w).alloc (Nat.le_refl _) (.cells #[.int .i64 K, .int .i64 R, .slice A n c] 24)
  have HAW := Lib.hid (awake10_c _ E (HER.out _ hb0).1 (HER.out _ hb0).2.1 hAp (HER.out _ hb0).2.2)
  have hr0 := RuleAt.new w (.int .i64 K) (.int .i64 R) (.slice A n c)
  unfold ruleV at *
  go_enter Tryd.func6, Tryd.ntmps6
  go_wp2_with fail
  refine (HAW.out).mono ?_
  rintro e w1 ⟨rfl, b1⟩
  have hr1 := hr0.below b1 (by simp)
  have hb1 := below_box b1
  have hq1 : w.heap.size < w1.heap.size := hr1.lt
  have HR := Lib.hid (fun (wz : World) (hz : Below w1.heap.size w1 wz) => (hr1.below hz hr1.lt).facts)
  obtain ⟨r0, r1, r2, _⟩ := hr1.facts
  have hKF := keepsF (K := K) (R := R) (T := T)
  have HTO := Lib.hid (walkF_ok K R T)
  obtain ⟨o, ho⟩ : ∃ o, walkF K R T = o := ⟨_, rfl⟩
  obtain ⟨kk, L1, L2, tt⟩ := o
  obtain ⟨o2, ho2⟩ : ∃ o, ontoF K R T = o := ⟨_, rfl⟩
  obtain ⟨bb, xs, t2⟩ := o2
  have hWU := fun (wz : World) (hz : Below w.heap.size w wz) => walk_u wz E (HER.out _ hz).1 (HER.out _ hz).2.1 hAp (HER.out _ hz).2.2 K R A n c T (hS.below hz) (by omega)
  have hSU := fun (wz : World) (hz : Below w.heap.size w wz) => sets_u wz E (HER.out _ hz).1 (HER.out _ hz).2.1 hAp (HER.out _ hz).2.2 K R A n c T (hS.below hz) (by omega)
  have hOU := fun (wz : World) (hz : Below w.heap.size w wz) => onto_u wz E (HER.out _ hz).1 (HER.out _ hz).2.1 hAp (HER.out _ hz).2.2 K R A n c T (hS.below hz) (by omega)
  rw [ho] at hWU hSU HTO hKF
  rw [ho2] at hOU hKF
  unfold ruleV autoV at hWU
  unfold ruleV at hSU hOU
  have HWU := Lib.hid hWU
  have HSU := Lib.hid hSU
  have HOU := Lib.hid hOU
  have HKF := Lib.hid hKF
  obtain ⟨l1, hl1⟩ : ∃ l1, L1.length = l1 := ⟨_, rfl⟩
  have HL1 := Lib.hid hl1
  clear b1 HAW hWU hSU hOU hKF ho ho2 hr1 hr0 hS hl1 hb0
  go_wp2_with fail
  refine (HWU.out w1 hb1).mono ?_
  rintro e w2 ⟨C2, c2, rows2, v2, rfl, ho2, he2, b2⟩
  have hb2 := hb1.trans (b2.mono hb1.size)
  have ha3 : AutoAt (w2.alloc (.cells #[.int .i64 kk, .slice C2 L1.length c2] 42)) w2.heap.size (.int .i64 kk) (.slice C2 L1.length c2) := heap_new w2 (.cells #[.int .i64 kk, .slice C2 L1.length c2] 42)
  have b3 := (Below.refl w2.heap.size w2).alloc (Nat.le_refl _) (.cells #[.int .i64 kk, .slice C2 L1.length c2] 42)
  rw [HL1.out] at ha3 b3
  rw [HL1.out]
  obtain ⟨w3, hw3⟩ : ∃ w3, w2.alloc (.cells #[.int .i64 kk, .slice C2 l1 c2] 42) = w3 := ⟨_, rfl⟩
  have HW3 := Lib.hid hw3
  rw [hw3] at ha3 b3
  have hl3 : w2.heap.size < w3.heap.size := by rw [← hw3]; simp
  have hb3 := hb2.trans (b3.mono hb2.size)
  have HO2 := Lib.hid ho2
  have HB3 := Lib.hid hb3
  clear hw3 r0 r1 r2
  cases tt with
  | some tl =>
    have he2' : ErrIs w2 E tl.1 tl.2 v2 := he2
    obtain ⟨u, p, rfl⟩ := he2'.iface
    clear he2 he2' ha3 ho2 hb3
    go_wp2_with fail
    rw [HW3.out]
    go_ret
    exact ⟨rfl, HB3.out⟩
  | none =>
    have he2' : v2 = .nilIface := he2
    clear he2
    subst he2'
    obtain ⟨a0, a1, _, _⟩ := ha3.facts
    by_cases hL : 60 < l1
    · clear ha3 ho2 hb3
      go_wp2_with fail
      rw [HW3.out]
      go_ret
      exact ⟨rfl, HB3.out⟩
    · obtain ⟨q1, q2, q3, q4, q5⟩ := (HKF.out rfl : t2 = none ∧ xs.length ≤ 4096 ∧ L2.length = L1.length ∧ (∀ l ∈ L1, l.length ≤ 4096) ∧ ∀ l ∈ L2, l.length ≤ 4096)
      subst q1
      obtain ⟨r0, r1, r2, _⟩ := HR.out w2 b2
      have r3 : w.heap.size < w2.heap.size := Nat.lt_of_lt_of_le hq1 b2.size
      have HQ := Lib.hid (⟨q2, q3, q4, q5⟩ : _ ∧ _ ∧ _ ∧ _)
      clear q2 q3 q4 q5 HKF
      go_wp2_with fail
      rw [HW3.out]
      refine (HWU.out w3 HB3.out).mono ?_
      rintro e w4 ⟨C4, c4, rows4, v4, rfl, ho4, he4, b4⟩
      have he4' : v4 = .nilIface := he4
      clear he4
      subst he4'
      have hb4 := hb3.trans (b4.mono hb3.size)
      have hx5 : AutoAt (w4.alloc (.cells #[.int .i64 kk, .slice C4 L1.length c4] 42)) w4.heap.size (.int .i64 kk) (.slice C4 L1.length c4) := heap_new w4 (.cells #[.int .i64 kk, .slice C4 L1.length c4] 42)
      have b5 := (Below.refl w4.heap.size w4).alloc (Nat.le_refl _) (.cells #[.int .i64 kk, .slice C4 L1.length c4] 42)
      rw [HL1.out] at hx5 b5
      rw [HL1.out]
      obtain ⟨w5, hw5⟩ : ∃ w5, w4.alloc (.cells #[.int .i64 kk, .slice C4 l1 c4] 42) = w5 := ⟨_, rfl⟩
      have HW5 := Lib.hid hw5
      rw [hw5] at hx5 b5
      have hl5 : w4.heap.size < w5.heap.size := by rw [← hw5]; simp
      have hb5 := hb4.trans (b5.mono hb4.size)
      have z13 := pure_trans b2 b3
      have z35 := pure_trans b4 b5
      have z15 := pure_trans z13 z35
      obtain ⟨r0, r1, r2, _⟩ := HR.out w4 (pure_trans z13 b4)
      have r3 : w.heap.size < w4.heap.size := Nat.lt_of_lt_of_le hq1 (pure_trans z13 b4).size
      clear hw5
      go_wp2_with fail
      rw [HW5.out]
      refine (HSU.out w5 hb5).mono ?_
      rintro e w6 ⟨C6, c6, rows6, v6, rfl, ho6, he6, b6⟩
      have he6' : v6 = .nilIface := he6
      clear he6
      subst he6'
      rw [HQ.out.2.1, HL1.out]
      have hb6 := hb5.trans (b6.mono hb5.size)
      have z16 := pure_trans z15 b6
      obtain ⟨r0, r1, r2, _⟩ := HR.out w6 z16
      go_wp2_with fail
      refine (HSU.out w6 hb6).mono ?_
      rintro e w7 ⟨C7, c7, rows7, v7, rfl, ho7, he7, b7⟩
      have he7' : v7 = .nilIface := he7
      clear he7
      subst he7'
      rw [HQ.out.2.1, HL1.out]
      have hb7 := hb6.trans (b7.mono hb6.size)
      have z17 := pure_trans z16 b7
      obtain ⟨r0, r1, r2, _⟩ := HR.out w7 z17
      go_wp2_with fail
      refine (HOU.out w7 hb7).mono ?_
      rintro e w8 ⟨C8, M8, c8, v8, rfl, ho8, he8, b8⟩
      have he8' : v8 = .nilIface := he8
      clear he8
      subst he8'
      have hb8 := hb7.trans (b8.mono hb7.size)
      have z18 := pure_trans z17 b8
      obtain ⟨r0, r1, r2, _⟩ := HR.out w8 z18
      go_wp2_with fail
      refine (HOU.out w8 hb8).mono ?_
      rintro e w9 ⟨C9, M9, c9, v9, rfl, ho9, he9, b9⟩
      have he9' : v9 = .nilIface := he9
      clear he9
      subst he9'
      obtain rfl : M8 = M9 := by rw [← (Sl.of_own ho8).1, ← (Sl.of_own ho9).1]
      have hb9 := hb8.trans (b9.mono hb8.size)
      have z79 := pure_trans b8 b9
      have z69 := pure_trans b7 z79
      have z59 := pure_trans b6 z69
      have z49 := pure_trans b5 z59
      have z39 := pure_trans b4 z49
      have z29 := pure_trans b3 z39
      have hG2 := (Grp.list ho2 HQ.out.2.2.1).pure z29
      have hG4 := (Grp.list ho4 HQ.out.2.2.1).pure z49
      have hG6 := (Grp.list ho6 HQ.out.2.2.2).pure z69
      have hG7 := (Grp.list ho7 HQ.out.2.2.2).pure z79
      have hM8 : xs.length = M8 := by simpa using ho8.1
      have hG8 := (Grp.one (v := .slice C8 M8 c8) (l := xs) (by rw [hM8]; exact ho8) HQ.out.1).pure b9
      have hG9 := Grp.one (v := .slice C9 M8 c9) (l := xs) (by rw [hM8]; exact ho9) HQ.out.1
      have hl1n : L1.length = l1 := HL1.out
      have hl2n : L2.length = l1 := HQ.out.2.1.trans HL1.out
      have hs2 : Sl w9 C2 l1 rows2 := by have := Sl.of_own (own_below ho2.lst z29); rwa [hl1n] at this
      have hs4 : Sl w9 C4 l1 rows4 := by have := Sl.of_own (own_below ho4.lst z49); rwa [hl1n] at this
      have hs6 : Sl w9 C6 l1 rows6 := by have := Sl.of_own (own_below ho6.lst z69); rwa [hl2n] at this
      have hs7 : Sl w9 C7 l1 rows7 := by have := Sl.of_own (own_below ho7.lst z79); rwa [hl2n] at this
      have hla : ListAt w9 C2 l1 L1 := by have := ho2.list.keep z29; rwa [hl1n] at this
      have hlb : ListAt w9 C4 l1 L1 := by have := ho4.list.keep z49; rwa [hl1n] at this
      have hlc : ListAt w9 C6 l1 L2 := by have := ho6.list.keep z69; rwa [hl2n] at this
      have hld : ListAt w9 C7 l1 L2 := by have := ho7.list.keep z79; rwa [hl2n] at this
      have H2 := Lib.hid (rows_one ho2)
      have H4 := Lib.hid (rows_one ho4)
      have H6 := Lib.hid (rows_one ho6)
      have H7 := Lib.hid (rows_one ho7)
      have hk2 := ho2.len
      have hk4 := ho4.len
      have hk6 := ho6.len
      have hk7 := ho7.len
      have hau := autos_same w9 kk C2 C4 l1 c2 c4 L1 hla hlb (by omega)
      unfold autoV at hau
      have HAU := Lib.hid hau
      have HLI := Lib.hid (fun (wz : World) (hz : Below w9.heap.size w9 wz) => lists_same wz C6 C7 l1 c6 c7 L2 (hlc.keep hz) (hld.keep hz) (by omega))
      have hmx := HQ.out.1
      have hin := fun (wz : World) (hz : Below w9.heap.size w9 wz) => ints_b wz C8 C9 M8 M8 c8 c9 xs xs (((Sl.of_own ho8).below b9).below hz) ((Sl.of_own ho9).below hz) (by omega) (by omega)
      rw [decide_eq_true rfl] at hin
      have HIN := Lib.hid hin
      have HA := Lib.hid (fun (wz : World) (hz : Below w9.heap.size w9 wz) => (⟨(ha3.below (pure_trans z39 hz) hl3).facts.1, (ha3.below (pure_trans z39 hz) hl3).facts.2.1, (hx5.below (pure_trans z59 hz) hl5).facts.1, (hx5.below (pure_trans z59 hz) hl5).facts.2.1⟩ :
        wz.cell? ⟨w2.heap.size, 0, none⟩ = some (.int .i64 kk) ∧ wz.cell? ⟨w2.heap.size, 1, none⟩ = some (.slice C2 l1 c2) ∧ wz.cell? ⟨w4.heap.size, 0, none⟩ = some (.int .i64 kk) ∧ wz.cell? ⟨w4.heap.size, 1, none⟩ = some (.slice C4 l1 c4)))
      have HZ := Lib.hid (⟨b2.size, b3.size, b4.size, b5.size, b6.size, b7.size, b8.size, b9.size⟩ : _ ∧ _ ∧ _ ∧ _ ∧ _ ∧ _ ∧ _ ∧ _)
      obtain ⟨p0, p1, p2, p3⟩ := HA.out w9 (Below.refl _ _)
      have HK := Lib.hid (⟨hk2, hk4, hk6, hk7, hl1n, hl2n, hM8⟩ : _ ∧ _ ∧ _ ∧ _ ∧ _ ∧ _ ∧ _)
      have HG := Lib.hid (⟨hG2, hG4, hG6, hG7, hG8, hG9⟩ : _ ∧ _ ∧ _ ∧ _ ∧ _ ∧ _)
      have HB9 := Lib.hid hb9
      clear hin hau hla hlb hlc hld hk2 hk4 hk6 hk7 hl1n hl2n hM8 hG2 hG4 hG6 hG7 hG8 hG9 ha3 hx5 hl3 hl5 z79 z69 z59 z49 z39 z29 z18 z17 z16 z15 z35 z13 b2 b3 b4 b5 b6 b7 b8 b9 hb2 hb3 hb4 hb5 hb6 hb7 hb8 hb9 ho2 ho4 ho6 ho7 ho8 ho9 r0 r1 r2 a0 a1
      go_wp2_with fail
      refine (HAU.out).mono ?_
      rintro e w10 ⟨rfl, b10⟩
      go_wp2_with fail
      refine (HLI.out w10 b10).mono ?_
      rintro e w11 ⟨rfl, b11⟩
      have b911 := pure_trans b10 b11
      go_wp2_with fail
      refine (HIN.out w11 b911).mono ?_
      rintro e w12 ⟨rfl, b12⟩
      have b912 := pure_trans b911 b12
      have ba := (Below.refl w12.heap.size w12).alloc (Nat.le_refl _) (.cells #[.slice C8 M8 c8, .slice C9 M8 c9] 22)
      have hlit := World.ownsRow_lit (base := w12.heap.size) (e := 22) (size := 1) w12 #[.slice C8 M8 c8, .slice C9 M8 c9] 2 (Nat.le_refl _) (by decide) rfl
      have hs213 := hs2.below (pure_trans b912 ba)
      obtain ⟨p0, p1, p2, p3⟩ := HA.out _ (pure_trans b912 ba)
      clear b10 b11 b12 b911
      go_wp2_with (first
        | (at_builtin; refine wpList_cat rfl (.tmp 99) (.tmp 101) _ rfl tIntss hlit rfl hs213 rfl H2.out (by simp only [maxLen]; omega) (by omega) ba.size ?_; intro v14 w14 hown14 hg14 _ _; obtain ⟨C14, cc14, rfl, _, _⟩ := own_slice hown14; have hb14 := grownK ba hlit hg14 ba.size; have hs414 := hs4.below (pure_trans b912 hb14); obtain ⟨p0, p1, p2, p3⟩ := HA.out _ (pure_trans b912 hb14))
        | (at_builtin; refine wpList_cat rfl (.tmp 103) (.tmp 105) _ rfl tIntss hown14 rfl hs414 rfl H4.out (by simp only [maxLen]; omega) (by omega) hb14.size ?_; intro v15 w15 hown15 hg15 _ _; obtain ⟨C15, cc15, rfl, _, _⟩ := own_slice hown15; have hb15 := grownK hb14 hown14 hg15 hb14.size; have hs615 := hs6.below (pure_trans b912 hb15))
        | (at_builtin; refine wpList_cat rfl (.tmp 107) (.tmp 108) _ rfl tIntss hown15 rfl hs615 rfl H6.out (by simp only [maxLen]; omega) (by omega) hb15.size ?_; intro v16 w16 hown16 hg16 _ _; obtain ⟨C16, cc16, rfl, _, _⟩ := own_slice hown16; have hb16 := grownK hb15 hown15 hg16 hb15.size; have hs716 := hs7.below (pure_trans b912 hb16))
        | (at_builtin; refine wpList_cat rfl (.tmp 110) (.tmp 111) _ rfl tIntss hown16 rfl hs716 rfl H7.out (by simp only [maxLen]; omega) (by omega) hb16.size ?_; intro v17 w17 hown17 hg17 _ _; obtain ⟨C17, cc17, rfl, _, _⟩ := own_slice hown17; have hb17 := grownK hb16 hown16 hg17 hb16.size))
      obtain ⟨g2, g4, g6, g7, g8, g9⟩ := HG.out
      obtain ⟨k2, k4, k6, k7, hl1n, hl2n, hM8⟩ := HK.out
      obtain ⟨y2, y3, y4, y5, y6, y7, y8, y9⟩ := HZ.out
      have hb917 := pure_trans b912 hb17
      have hgr := (((((g2.wid (Nat.le_refl _) y3).app (g4.wid (Nat.le_refl _) y5) (by omega) (by omega)).app g6 (by omega) (by omega)).app g7 (by omega) (by omega)).comm (g8.app g9 y8 y9) (by omega) (by omega)).pure hb917
      obtain ⟨R, hR⟩ : ∃ R, ([(Value.slice C8 M8 c8, xs)] ++ [(Value.slice C9 M8 c9, xs)]) ++ (((rowsI rows2 L1 ++ rowsI rows4 L1) ++ rowsI rows6 L2) ++ rowsI rows7 L2) = R := ⟨_, rfl⟩
      have hfst : R.map (·.1) = (((#[Value.slice C8 M8 c8, Value.slice C9 M8 c9].toList ++ rows2) ++ rows4) ++ rows6) ++ rows7 := by
        rw [← hR]
        simp only [List.map_append, rowsI_fst k2, rowsI_fst k4, rowsI_fst k6, rowsI_fst k7, List.append_assoc]
        rfl
      rw [hR] at hgr
      have hL17 := Sl.of_own hown17
      rw [← hfst] at hL17
      have HAP := Lib.hid (apart_c w17 C17 (2 + l1 + l1 + l1 + l1) cc17 R hL17 (rows_of hgr.own) hgr.far (fun ad e hf => by
        have h1 := (hown17.lt ad.block (by rw [e]; rfl)).1
        obtain ⟨p, hp, hg⟩ := hf
        have h2 := (hgr.blk p hp _ hg).2
        have h3 := b912.size
        omega) (by omega) (fun p hp => by have := hgr.len p hp; omega))
      have HFT := Lib.hid (show ∀ b, Apart.Foot R b → w1.heap.size ≤ b from fun b hf => by
        obtain ⟨p, hp, hg⟩ := hf
        exact (hgr.blk p hp _ hg).1)
      have HBB := Lib.hid (HB9.out.trans (hb917.mono HB9.out.size))
      clear hgr hfst hL17 hown17 hown16 hown15 hown14 hg14 hg15 hg16 hg17 g2 g4 g6 g7 g8 g9 k2 k4 k6 k7 hl1n hl2n hM8 hR hs213 hs414 hs615 hs716 hlit ba p0 p1 p2 p3
      refine (HAP.out).mono ?_
      rintro e w18 ⟨rfl, hk18⟩
      have hsz := HBB.out.size
      have HEND := Lib.hid (HBB.out.trans (hk18.below hsz (fun b hb => by have := HFT.out b hb; omega)))
      clear hk18
      go_wp2_with fail
      go_ret
      exact ⟨rfl, HEND.out⟩
end Go.Proofs.YtlajiblhnkognaaDoor
