/- The call of SubsetRuns: it returns true. Condition: the lists read from memory; the error variables hold what E says. -/
import Derived.Test.YtlajiblhnkognaaDoorLentRR
import Derived.Test.YtlajiblhnkognaaDoorSubWalkU
import Derived.Test.YtlajiblhnkognaaDoorSubR
import Derived.BigQuiet
import Derived.Deep.QuietTactic
namespace Go.Proofs.YtlajiblhnkognaaDoor
open Go.RowKit RuleP SubP BagP

/-- A number brought to a symbol. -/
def symR (k : Nat) (x : Int) : Nat := ((x.tmod (k : Int) + (k : Int)) % (k : Int)).toNat
theorem symR_all (x : Int) {k : Nat} (h1 : 1 ≤ k) (h4 : k ≤ 4) : symR k x < k ∧ (x.tmod (k : Int) + (k : Int)) % (k : Int) = (symR k x : Int) ∧ 0 < x.tmod (k : Int) + (k : Int) ∧ x.tmod (k : Int) + (k : Int) ≤ 8 ∧ -4 ≤ x.tmod (k : Int) ∧ x.tmod (k : Int) ≤ 4 := by
  have hk : (0 : Int) < (k : Int) := by omega
  have hb : -(k : Int) < x.tmod (k : Int) ∧ x.tmod (k : Int) < (k : Int) := by
    rcases Int.lt_or_le x 0 with h | h
    · have e : x.tmod (k : Int) = -((-x) % (k : Int)) := by
        rw [← Int.tmod_eq_emod_of_nonneg (by omega : 0 ≤ -x), Int.neg_tmod, Int.neg_neg]
      have h2 := Int.emod_nonneg (-x) (show (k : Int) ≠ 0 by omega)
      have h3 := Int.emod_lt_of_pos (-x) hk
      omega
    · rw [Int.tmod_eq_emod_of_nonneg h]
      have h2 := Int.emod_nonneg x (show (k : Int) ≠ 0 by omega)
      have h3 := Int.emod_lt_of_pos x hk
      omega
  have h2 := Int.emod_nonneg (x.tmod (k : Int) + (k : Int)) (show (k : Int) ≠ 0 by omega)
  have h3 := Int.emod_lt_of_pos (x.tmod (k : Int) + (k : Int)) hk
  unfold symR
  omega
theorem listAt_len {w : World} {A : Option Addr} {n : Nat} {L : List (List Int)} (h : ListAt w A n L) : n = L.length := by
  obtain ⟨vs, _, h2, _⟩ := h
  exact h2

set_option maxRecDepth 100000 in
set_option maxHeartbeats 4000000 in
theorem subsetRuns_bad (w : World) (E : Nat → Addr) (hE : Errs w E) (hT : ErrT w) (hAp : Apart12 E) (hB : ErrBlk w E) (K R : Int) (A : Option Addr) (n c : Nat) (T : List Int) (hS : Sl w A n (T.map (Value.int .i64))) (hn : n ≤ c) (hz : c * 8 ≤ 140737488351232)
    (B : Option Addr) (m d : Nat) (kk : Int) (tl : Tale) (ho : walkF K R T = (kk, [], [], some tl)) :
    Calls Tryd.prog 5 #[ruleV K R A n c, .slice B m d] w fun e w' => e = .returned (.bool true) ∧ Below w.heap.size w w' := by
  have HER := Lib.hid (fun (wz : World) (hz : Below w.heap.size w wz) => (⟨hE.below hz, hT.below hz, hB.below hz⟩ : _ ∧ _ ∧ _))
  clear hE hT hB
  have hb0 := (Below.refl w.heap.size w).alloc (Nat.le_refl _) (.cells #[.int .i64 K, .int .i64 R, .slice A n c] 24)
  have HAW := Lib.hid (awake10_c _ E (HER.out _ hb0).1 (HER.out _ hb0).2.1 hAp (HER.out _ hb0).2.2)
  have hr0 := RuleAt.new w (.int .i64 K) (.int .i64 R) (.slice A n c)
  unfold ruleV at *
  go_enter Tryd.func5, Tryd.ntmps5
  go_wp2_with fail
  refine (HAW.out).mono ?_
  rintro e w1 ⟨rfl, b1⟩
  have hr1 := hr0.below b1 (by simp)
  have hb1 := below_box b1
  have hq1 : w.heap.size < w1.heap.size := hr1.lt
  have HR := Lib.hid (fun (wz : World) (hz : Below w1.heap.size w1 wz) => (hr1.below hz hr1.lt).facts)
  obtain ⟨r0, r1, r2, _⟩ := hr1.facts
  have hWU := fun (wz : World) (hz : Below w.heap.size w wz) => walk_u wz E (HER.out _ hz).1 (HER.out _ hz).2.1 hAp (HER.out _ hz).2.2 K R A n c T (hS.below hz) (by omega)
  have hSU := fun (wz : World) (hz : Below w.heap.size w wz) => sets_u wz E (HER.out _ hz).1 (HER.out _ hz).2.1 hAp (HER.out _ hz).2.2 K R A n c T (hS.below hz) (by omega)
  rw [ho] at hWU hSU
  simp only [List.length_nil] at hWU hSU
  unfold ruleV autoV at hWU
  unfold ruleV at hSU
  have HWU := Lib.hid hWU
  have HSU := Lib.hid hSU
  clear b1 HAW hWU hSU ho hr1 hr0 hS hb0
  go_wp2_with fail
  refine (HWU.out w1 hb1).mono ?_
  rintro e w2 ⟨C2, c2, rows2, v2, rfl, ho2, he2, b2⟩
  have hb2 := hb1.trans (b2.mono hb1.size)
  have ha3 : AutoAt (w2.alloc (.cells #[.int .i64 kk, .slice C2 0 c2] 42)) w2.heap.size (.int .i64 kk) (.slice C2 0 c2) := heap_new w2 (.cells #[.int .i64 kk, .slice C2 0 c2] 42)
  have b3 := (Below.refl w2.heap.size w2).alloc (Nat.le_refl _) (.cells #[.int .i64 kk, .slice C2 0 c2] 42)
  obtain ⟨w3, hw3⟩ : ∃ w3, w2.alloc (.cells #[.int .i64 kk, .slice C2 0 c2] 42) = w3 := ⟨_, rfl⟩
  have HW3 := Lib.hid hw3
  rw [hw3] at ha3 b3
  have hl3 : w2.heap.size < w3.heap.size := by rw [← hw3]; simp
  have hb3 := hb2.trans (b3.mono hb2.size)
  have he2' : ErrIs w2 E tl.1 tl.2 v2 := he2
  obtain ⟨u, p, rfl⟩ := he2'.iface
  obtain ⟨r0, r1, r2, _⟩ := HR.out w2 b2
  have r3 : w.heap.size < w2.heap.size := Nat.lt_of_lt_of_le hq1 b2.size
  clear hw3 he2 he2'
  go_wp2_with fail
  rw [HW3.out]
  refine (HSU.out w3 hb3).mono ?_
  rintro e w4 ⟨C4, c4, rows4, v4, rfl, ho4, he4, b4⟩
  have he4' : ErrIs w4 E tl.1 tl.2 v4 := he4
  obtain ⟨u', p', rfl⟩ := he4'.iface
  obtain ⟨a0, a1, _, _⟩ := (ha3.below b4 hl3).facts
  have HB4 := Lib.hid (hb3.trans (b4.mono hb3.size))
  clear he4 he4' ha3 ho2 ho4
  go_wp2_with fail
  go_ret
  exact ⟨rfl, HB4.out⟩

set_option maxRecDepth 100000 in
set_option maxHeartbeats 8000000 in
theorem subsetRuns_good (w : World) (E : Nat → Addr) (hE : Errs w E) (hT : ErrT w) (hAp : Apart12 E) (hB : ErrBlk w E) (k r : Nat) (A : Option Addr) (n c : Nat) (t : List Nat) (hS : Sl w A n ((ints t).map (Value.int .i64))) (hn : n ≤ c) (hz : c * 8 ≤ 140737488351232)
    (B : Option Addr) (m d : Nat) (W : List Int) (hW : Sl w B m (W.map (Value.int .i64))) (hm : m ≤ d) (hd : d * 8 ≤ 140737488351232) (hr : IsRule k r t) (hl : t.length ≤ 256) (S : St) (hf : fin k (k ^ (2 * r)) t false = .go S []) :
    Calls Tryd.prog 5 #[ruleV k r A n c, .slice B m d] w fun e w' => e = .returned (.bool true) ∧ Below w.heap.size w w' := by
  have HER := Lib.hid (fun (wz : World) (hz : Below w.heap.size w wz) => (⟨hE.below hz, hT.below hz, hB.below hz⟩ : _ ∧ _ ∧ _))
  clear hE hT hB
  have hb0 := (Below.refl w.heap.size w).alloc (Nat.le_refl _) (.cells #[.int .i64 (k : Int), .int .i64 (r : Int), .slice A n c] 24)
  have HAW := Lib.hid (awake10_c _ E (HER.out _ hb0).1 (HER.out _ hb0).2.1 hAp (HER.out _ hb0).2.2)
  have hr0 := RuleAt.new w (.int .i64 (k : Int)) (.int .i64 (r : Int)) (.slice A n c)
  obtain ⟨N, hN⟩ : ∃ N, k ^ (2 * r) = N := ⟨_, rfl⟩
  have hN0 : 0 < N := by rw [← hN]; exact Nat.pow_pos hr.k1
  have hlen : t.length = N * k := by rw [hr.len, Nat.pow_succ, hN]
  have hk1 := hr.k1
  have hk4 := hr.k4
  have hr3 := hr.r3
  have hNb : N ≤ 256 := by
    have h5 : N * 1 ≤ N * k := Nat.mul_le_mul_left _ hk1
    omega
  have hwf := walkF_good hr hl hf
  have hrk := fin_rows (by rw [hN]; exact hN0) hf
  have hbig := (fin_ok (by rw [hN]; exact hN0) hf).2
  rw [hN] at hrk
  unfold ruleV at *
  go_enter Tryd.func5, Tryd.ntmps5
  go_wp2_with fail
  refine (HAW.out).mono ?_
  rintro e w1 ⟨rfl, b1⟩
  have hr1 := hr0.below b1 (by simp)
  have hb1 := below_box b1
  have hq1 : w.heap.size < w1.heap.size := hr1.lt
  have HR := Lib.hid (fun (wz : World) (hz : Below w1.heap.size w1 wz) => (hr1.below hz hr1.lt).facts)
  obtain ⟨r0, r1, r2, _⟩ := hr1.facts
  have hWU := fun (wz : World) (hz : Below w.heap.size w wz) => walk_u wz E (HER.out _ hz).1 (HER.out _ hz).2.1 hAp (HER.out _ hz).2.2 (k : Int) (r : Int) A n c (ints t) (hS.below hz) (by omega)
  have hSU := fun (wz : World) (hz : Below w.heap.size w wz) => sets_u wz E (HER.out _ hz).1 (HER.out _ hz).2.1 hAp (HER.out _ hz).2.2 (k : Int) (r : Int) A n c (ints t) (hS.below hz) (by omega)
  rw [hwf] at hWU hSU
  obtain ⟨M, hM⟩ : ∃ M, S.sets.length = M := ⟨_, rfl⟩
  have hm1 : S.next.length = M := by rw [hrk.len, hM]
  have hm2 : (setsL S).length = M := by unfold setsL; rw [List.length_map, hM]
  have hM0 : 0 < M := by rw [← hM]; exact hrk.pos
  have hM4 : M ≤ 4096 := by rw [← hM]; exact hbig
  simp only [hm1, hm2] at hWU hSU
  unfold ruleV autoV at hWU
  unfold ruleV at hSU
  have HWU := Lib.hid hWU
  have HSU := Lib.hid hSU
  have HRK := Lib.hid hrk
  have HM := Lib.hid (⟨hm1, hm2, hM⟩ : _ ∧ _ ∧ _)
  have HN := Lib.hid hN
  have HLEN := Lib.hid hlen
  have HSY := Lib.hid hr.sym
  have HSS := Lib.hid (fun (wz : World) (hz : Below w.heap.size w wz) => hS.below hz)
  have HWW := Lib.hid (fun (wz : World) (hz : Below w.heap.size w wz) => hW.below hz)
  clear b1 HAW hWU hSU hr1 hr0 hS hb0 hwf hrk hbig hf hr hN hlen hm1 hm2 hM hW hl
  go_wp2_with fail
  refine (HWU.out w1 hb1).mono ?_
  rintro e w2 ⟨C2, c2, rows2, v2, rfl, ho2, he2, b2⟩
  have he2' : v2 = .nilIface := he2
  clear he2
  subst he2'
  have hb2 := hb1.trans (b2.mono hb1.size)
  have ha3 : AutoAt (w2.alloc (.cells #[.int .i64 (k : Int), .slice C2 M c2] 42)) w2.heap.size (.int .i64 (k : Int)) (.slice C2 M c2) := heap_new w2 (.cells #[.int .i64 (k : Int), .slice C2 M c2] 42)
  have b3 := (Below.refl w2.heap.size w2).alloc (Nat.le_refl _) (.cells #[.int .i64 (k : Int), .slice C2 M c2] 42)
  obtain ⟨w3, hw3⟩ : ∃ w3, w2.alloc (.cells #[.int .i64 (k : Int), .slice C2 M c2] 42) = w3 := ⟨_, rfl⟩
  have HW3 := Lib.hid hw3
  rw [hw3] at ha3 b3
  have hl3 : w2.heap.size < w3.heap.size := by rw [← hw3]; simp
  have hb3 := hb2.trans (b3.mono hb2.size)
  obtain ⟨r0, r1, r2, _⟩ := HR.out w2 b2
  have r3 : w.heap.size < w2.heap.size := Nat.lt_of_lt_of_le hq1 b2.size
  clear hw3
  go_wp2_with fail
  rw [HW3.out]
  refine (HSU.out w3 hb3).mono ?_
  rintro e w4 ⟨C4, c4, rows4, v4, rfl, ho4, he4, b4⟩
  have he4' : v4 = .nilIface := he4
  clear he4
  subst he4'
  have hb4 := hb3.trans (b4.mono hb3.size)
  have z14 := pure_trans b2 (pure_trans b3 b4)
  have hla : ListAt w4 C2 M S.next := by
    have h1 : ListAt w2 C2 S.next.length S.next := RowsAt.list (by rw [HM.out.1]; exact ho2)
    rw [HM.out.1] at h1
    exact h1.keep (pure_trans b3 b4)
  have hlb : ListAt w4 C4 M (setsL S) := by
    have h1 : ListAt w4 C4 (setsL S).length (setsL S) := RowsAt.list (by rw [HM.out.2.1]; exact ho4)
    rwa [HM.out.2.1] at h1
  have HF := Lib.hid (fun (wz : World) (hz : Below w4.heap.size w4 wz) => (⟨(ha3.below (pure_trans b4 hz) hl3).facts.1, (ha3.below (pure_trans b4 hz) hl3).facts.2.1, (HR.out _ (pure_trans z14 hz)).1, (HR.out _ (pure_trans z14 hz)).2.1, (HR.out _ (pure_trans z14 hz)).2.2.1⟩ :
    wz.cell? ⟨w2.heap.size, 0, none⟩ = some (.int .i64 (k : Int)) ∧ wz.cell? ⟨w2.heap.size, 1, none⟩ = some (.slice C2 M c2) ∧ wz.cell? ⟨w.heap.size, 0, none⟩ = some (.int .i64 (k : Int)) ∧ wz.cell? ⟨w.heap.size, 1, none⟩ = some (.int .i64 (r : Int)) ∧ wz.cell? ⟨w.heap.size, 2, none⟩ = some (.slice A n c)))
  have HLA := Lib.hid (fun (wz : World) (hz : Below w4.heap.size w4 wz) => hla.keep hz)
  have HLB := Lib.hid (fun (wz : World) (hz : Below w4.heap.size w4 wz) => hlb.keep hz)
  have HB4 := Lib.hid hb4
  obtain ⟨a0, a1, r0, r1, r2⟩ := HF.out w4 (Below.refl _ _)
  have hmk := run_make_row' (P := Tryd.prog) 53 4 (.bool false) 1 tBools.und tBools.info rfl .i64 .i64 M (by omega) (by omega) w4
  have hkk : ((k : Int) != (k : Int)) = false := by simp
  have hMM : ((M : Int) != (M : Int)) = false := by simp
  have hM0' : ((M : Int) == 0) = false := by simp; omega
  have hown0 := make_row_bools w4 M (by simp only [maxLen]; omega)
  have hfz := hown0.frozenAt 0
  have hcz : (w4.alloc (.cells (madeCells #[.bool false] M) 4)).cell? ⟨w4.heap.size, 0, none⟩ = some (.bool false) := by
    rw [hown0.cellAt 0 (by omega), List.getElem?_replicate, if_pos hM0]
  have hlit := World.ownsRow_lit (base := w4.heap.size) (e := 4) (size := 1) w4 ((madeCells #[.bool false] M).setIfInBounds 0 (.bool true)) M (Nat.le_refl _) (by simp only [maxLen]; omega) (by rw [Array.size_setIfInBounds, size_madeCells]; simp)
  rw [Array.toList_setIfInBounds, toList_madeCells_one, show (List.replicate M (Value.bool false)).set 0 (.bool true) = ((List.replicate M false).set 0 true).map Value.bool by rw [List.map_set, List.map_replicate]] at hlit
  have HLIT := Lib.hid hlit
  have hbl := (Below.refl w4.heap.size w4).alloc (Nat.le_refl _) (.cells ((madeCells #[.bool false] M).setIfInBounds 0 (.bool true)) 4)
  have HBL := Lib.hid hbl
  obtain ⟨gs, hgs⟩ : ∃ gs, w4.heap.size = gs := ⟨_, rfl⟩
  have HGS := Lib.hid hgs
  clear hla hlb ha3 hl3 ho2 ho4 z14 b2 b3 b4 hb1 hb2 hb3 hb4 hlit hbl hgs hown0
  go_wp2_with fail
  clear hmk hfz hcz a0 a1 r0 r1 r2 hMM hM0'
  have HSE := Lib.hid (Seen.start HRK.out)
  rw [HM.out.2.2] at HSE
  go_loopw [10] (fun iv wr => ∃ (i : Nat) (L : List Bool), i ≤ M ∧ iv = .int .i64 (i : Int) ∧ Hid (Seen S i 0 L) ∧ wr.ownsRow w4.heap.size 4 1 (.slice (some ⟨w4.heap.size, 0, none⟩) M M) M (L.map Value.bool) ∧ Hid (Below w4.heap.size w4 wr)) (fun iv _ => M - (intOf iv).toNat)
  case atStart => exact ⟨0, _, Nat.zero_le _, rfl, HSE, HLIT.out, HBL⟩
  case round =>
    clear HSE HLIT HBL
    obtain ⟨i, L, hi, rfl, hse, hown, hb⟩ := hrel
    obtain ⟨wo, rfl⟩ : ∃ wo : World, wo = wr := ⟨_, rfl⟩
    by_cases hlt : i < M
    · obtain ⟨a0, a1, r0, r1, r2⟩ := HF.out wo hb.out
      obtain ⟨ad, l, P, pc, rfl, hl1, hc1, _, _⟩ := (HLA.out wo hb.out).at_ hlt
      obtain ⟨ad2, l2, P2, pc2, rfl, hl2, hc2, _, _⟩ := (HLB.out wo hb.out).at_ hlt
      have hlk := HRK.out.row i l hl1
      rw [hlk] at hc1
      obtain ⟨nl, hnl⟩ : ∃ nl, l2.length = nl := ⟨_, rfl⟩
      have hn0 : 0 < nl := by
        unfold setsL at hl2
        rw [List.getElem?_map] at hl2
        cases hB : S.sets[i]? with
        | none => rw [hB] at hl2; cases hl2
        | some B' =>
          rw [hB] at hl2
          obtain rfl := Option.some.inj hl2
          rw [← hnl, ints_len]
          exact List.length_pos_iff.2 (HRK.out.set B' (List.mem_of_getElem? hB)).2
      rw [hnl] at hc2
      have hnl0 : ((nl : Int) == 0) = false := by simp; omega
      have hs1 := hse.out.at_ HRK.out (by rw [HM.out.2.2]; exact hlt)
      have hcs : wo.cell? ⟨w4.heap.size, i, none⟩ = some (.bool true) := by rw [hown.cellAt i (by omega), List.getElem?_map, hs1]; rfl
      have HL1 := Lib.hid hl1
      have HLK := Lib.hid hlk
      have hi0 : (0 : Int) ≤ (i : Int) := by omega
      have hiM : (i : Int) < (M : Int) := by omega
      clear hl1 hl2 hlk hnl hs1
      go_wp2_with (go_quiet (fail))
      clear a0 a1 r0 r1 r2 hc1 hc2 hcs hnl0 hi0 hiM
      go_loopw [11] (fun sv wl => ∃ (s : Nat) (L' : List Bool), s ≤ k ∧ sv = .int .i64 (s : Int) ∧ Hid (Seen S i s L') ∧ wl.ownsRow w4.heap.size 4 1 (.slice (some ⟨w4.heap.size, 0, none⟩) M M) M (L'.map Value.bool) ∧ Hid (Below w4.heap.size w4 wl)) (fun sv _ => k - (intOf sv).toNat)
      case atStart => exact ⟨0, L, Nat.zero_le _, rfl, hse, hown, Lib.hid (below_drewN hb.out _)⟩
      case round =>
        clear hse hown hb
        obtain ⟨s, L', hs, rfl, hse, hown, hb⟩ := hrel
        obtain ⟨a0, a1, r0, r1, r2⟩ := HF.out wr hb.out
        by_cases hlk : s < k
        · obtain ⟨ad', l', P, pc, e, hl1, hc1, _, hsl⟩ := (HLA.out wr hb.out).at_ hlt
          cases e
          rw [HL1.out] at hl1
          obtain rfl := Option.some.inj hl1
          rw [HLK.out] at hc1 hsl
          obtain ⟨pad, x, rfl, hx, hcx⟩ := hsl.int_ hlk
          rcases HRK.out.to i s l x HL1.out hx with ⟨rfl, _⟩ | ⟨q, rfl, hq, _⟩
          · have HSE2 := Lib.hid (hse.out.none HL1.out hx (by decide))
            clear hx hl1 hsl hse
            go_wp2_with fail
            exact ⟨⟨s + 1, L', by omega, by go_num, HSE2, hown, hb⟩, by simp [intOf]; omega⟩
          · have HSE2 := Lib.hid (hse.out.put HL1.out hx hq)
            have hlen := hse.out.len
            obtain ⟨z, hz⟩ : ∃ z, L'[q]? = some z := ⟨_, List.getElem?_eq_getElem (by omega)⟩
            rw [HM.out.2.2] at hq
            have hcs : wr.cell? ⟨w4.heap.size, q, none⟩ = some (.bool z) := by rw [hown.cellAt q (by omega), List.getElem?_map, hz]; rfl
            have hfr := hown.frozenAt q
            have hst := (hown.stored q (.bool true)).1
            rw [← List.map_set] at hst
            have HST := Lib.hid hst
            have HB2 := Lib.hid (hb.out.setCell (p := ⟨w4.heap.size, q, none⟩) (Nat.le_refl _) (.bool true))
            clear hx hl1 hsl hse hlen hz hst hown hb
            go_wp2_with fail
            exact ⟨⟨s + 1, _, by omega, by go_num, HSE2, HST.out, HB2⟩, by simp [intOf]; omega⟩
        · have hsk : s = k := by omega
          have HSE2 : Hid (Seen S (i + 1) 0 L') := Lib.hid (by have h := hse.out; rw [hsk] at h; exact h.row HRK.out)
          clear hsk hse
          go_wp2_with fail
          exact ⟨⟨i + 1, L', by omega, by go_num, HSE2, hown, hb⟩, by simp [intOf]; omega⟩
    · have hiM : ¬ (i : Int) < (M : Int) := by omega
      obtain ⟨a0, a1, r0, r1, r2⟩ := HF.out wo hb.out
      have hpw := power_c wo k (2 * r) hk1 hk4 (by omega)
      rw [show (((2 * r : Nat)) : Int) = 2 * (r : Int) by simp, HN.out] at hpw
      have HPW := Lib.hid hpw
      clear hpw hse hown
      go_wp2_with fail
      refine (HPW.out).mono ?_
      rintro e w' ⟨rfl, rfl⟩
      have hmk2 := run_make_row' (P := Tryd.prog) 53 4 (.bool false) 1 tBools.und tBools.info rfl .i64 .i64 N (by omega) (by omega) wo
      have hs4 := hb.out.size
      have HO2 := Lib.hid (own_base (make_row_bools wo N (by simp only [maxLen]; omega)) hs4)
      have HB2 := Lib.hid (hb.out.alloc hs4 (.cells (madeCells #[.bool false] N) 4))
      obtain ⟨g0, hg0⟩ : ∃ g0, wo.heap.size = g0 := ⟨_, rfl⟩
      have HG0 := Lib.hid hg0
      rw [hg0] at hs4 HO2
      clear hg0
      go_wp2_with fail
      clear hmk2 a0 a1 r0 r1 r2
      rw [HG0.out]
      go_loopw [15] (fun uv wl => ∃ (u : Nat), u ≤ N ∧ uv = .int .i64 (u : Int) ∧ wl.ownsRow w4.heap.size 4 1 (.slice (some ⟨g0, 0, none⟩) N N) N ((List.replicate u true ++ List.replicate (N - u) false).map Value.bool) ∧ Hid (Below w4.heap.size w4 wl)) (fun uv _ => N - (intOf uv).toNat)
      case atStart => exact ⟨0, Nat.zero_le _, rfl, by rw [List.replicate_zero, List.nil_append, Nat.sub_zero, List.map_replicate]; exact HO2.out, HB2⟩
      case round =>
        clear HO2 HB2 hb
        obtain ⟨u, hu, rfl, hown, hb⟩ := hrel
        by_cases hlu : u < N
        · have hcs : wr.cell? ⟨g0, u, none⟩ = some (.bool false) := by
            rw [hown.cellAt u (by omega), List.getElem?_map, List.getElem?_append_right (by simp), List.length_replicate, Nat.sub_self, List.getElem?_replicate, if_pos (by omega)]; rfl
          have hfr := hown.frozenAt u
          have hst := (hown.stored u (.bool true)).1
          rw [← List.map_set, show (List.replicate u true ++ List.replicate (N - u) false).set u true = List.replicate (u + 1) true ++ List.replicate (N - (u + 1)) false by
            rw [List.set_append_right _ _ (by simp), List.length_replicate, Nat.sub_self, show N - u = (N - (u + 1)) + 1 by omega, List.replicate_succ, List.set_cons_zero, List.replicate_succ' (n := u), List.append_assoc]
            rfl] at hst
          have HST := Lib.hid hst
          have HB2 := Lib.hid (hb.out.setCell (p := ⟨g0, u, none⟩) hs4 (.bool true))
          clear hst hown hb
          go_wp2_with fail
          exact ⟨⟨u + 1, by omega, by go_num, HST.out, HB2⟩, by simp [intOf]; omega⟩
        · have hlu' : ¬ (u : Int) < (N : Int) := by omega
          have huN : u = N := by omega
          rw [huN, Nat.sub_self, List.replicate_zero, List.append_nil] at hown
          have HOW := Lib.hid hown
          have HBU := Lib.hid hb.out
          have HS0 := Lib.hid (show S.sets[0]? = some (run k N t ((W.map (symR k)).take 0)) from HRK.out.zero)
          clear huN hown hb
          go_wp2_with fail
          go_loopw [13, 14, 16] (fun qv sv iv wl => ∃ (i q g : Nat), i ≤ m ∧ i ≤ 200 ∧ iv = .int .i64 (i : Int) ∧ qv = .int .i64 (q : Int) ∧ sv = .slice (some ⟨g, 0, none⟩) N N ∧ Hid (S.sets[q]? = some (run k N t ((W.map (symR k)).take i))) ∧ wl.ownsRow w4.heap.size 4 1 (.slice (some ⟨g, 0, none⟩) N N) N ((run k N t ((W.map (symR k)).take i)).map Value.bool) ∧ Hid (Below w4.heap.size w4 wl)) (fun _ _ iv _ => m - (intOf iv).toNat)
          case atStart => exact ⟨0, 0, g0, Nat.zero_le _, Nat.zero_le _, rfl, rfl, rfl, HS0, HOW.out, HBU⟩
          case round =>
            clear HS0 HOW HBU
            obtain ⟨i, q, g, hi, hi2, rfl, rfl, rfl, hq, hown, hb⟩ := hrel
            obtain ⟨a0, a1, r0, r1, r2⟩ := HF.out wr hb.out
            by_cases hlt : i < m
            · by_cases h200 : i < 200
              · obtain ⟨wad, x, hBe, hxi, hcx⟩ := (HWW.out wr (HB4.out.trans (hb.out.mono HB4.out.size))).int_ hlt
                subst hBe
                obtain ⟨s1, s2, s3, s4, s5, s6⟩ := symR_all x hk1 hk4
                have hk0 : ¬ ((k : Int) = 0) := by omega
                have HXI := Lib.hid hxi
                obtain ⟨s, hs⟩ : ∃ s, symR k x = s := ⟨_, rfl⟩
                have HSX := Lib.hid hs
                rw [hs] at s1 s2
                have e1 : IntKind.i64.wrap (x.tmod (k : Int)) = x.tmod (k : Int) := IntWalk.i64_in _ (by omega)
                have e2 : IntKind.i64.wrap (x.tmod (k : Int) + (k : Int)) = x.tmod (k : Int) + (k : Int) := IntWalk.i64_in _ (by omega)
                have e3 : (x.tmod (k : Int) + (k : Int)).tmod (k : Int) = (s : Int) := by rw [Int.tmod_eq_emod_of_nonneg (by omega), s2]
                have e4 : IntKind.i64.wrap (s : Int) = (s : Int) := IntWalk.i64_in _ (by omega)
                have hi0 : (0 : Int) ≤ (i : Int) := by omega
                have him : (i : Int) < (m : Int) := by omega
                clear hxi hs s2
                have hTT := HSS.out wr (HB4.out.trans (hb.out.mono HB4.out.size))
                have hbd := fun (qn : Nat) => behind_c (wr.drewN qn) k r N A (some ⟨g, 0, none⟩) n c N t (run k N t ((W.map (symR k)).take i)) s hTT (Sl.of_own hown) hk1 hk4 hN0 (by omega) HLEN.out HSY.out
                unfold ruleV at hbd
                have HBD := Lib.hid hbd
                have hnx : beh k N t (run k N t ((W.map (symR k)).take i)) s = run k N t ((W.map (symR k)).take (i + 1)) := by
                  rw [← run_snoc, List.take_add_one, List.getElem?_map, HXI.out]
                  simp [HSX.out]
                have HNX := Lib.hid hnx
                clear hTT hbd hnx
                go_wp2_with (go_quiet (fail))
                refine (HBD.out _).mono ?_
                rintro e w5 ⟨g5, rfl, hown5, b5⟩
                have hb5 := hb.out.trans (((pure_drewN wr _).trans (b5.mono (pure_drewN wr _).size)).mono hb.out.size)
                have hown5' := own_base hown5 (Nat.le_trans hb.out.size (pure_drewN wr _).size)
                have hql := (List.getElem?_eq_some_iff.1 hq.out).1
                rw [HM.out.2.2] at hql
                obtain ⟨a0, a1, r0, r1, r2⟩ := HF.out w5 hb5
                obtain ⟨ad, l, P, pc, rfl, hl1, hc1, _, hsl⟩ := (HLA.out w5 hb5).at_ hql
                have hlk := HRK.out.row q l hl1
                rw [hlk] at hc1 hsl
                obtain ⟨pad, y, rfl, hy, hcy⟩ := hsl.int_ s1
                have hgd : S.sets.getD q [] = run k N t ((W.map (symR k)).take i) := getD_of hq.out
                have hto := HRK.out.to q s l y hl1 hy
                rw [hgd, HNX.out] at hto
                rw [HNX.out] at hown5'
                have HTO := Lib.hid hto
                have HB5 := Lib.hid hb5
                obtain ⟨R5, hR5⟩ : ∃ R5, run k N t ((W.map (symR k)).take (i + 1)) = R5 := ⟨_, rfl⟩
                have HR5 := Lib.hid hR5
                rw [hR5] at HTO hown5'
                have hRl : R5.length = N := by have := hown5'.1; simpa using this
                have HRL := Lib.hid hRl
                have HOW5 := Lib.hid hown5'
                have HNIL := Lib.hid (World.ownsRow_nil w5 w5.heap.size 3 1)
                clear e1 e2 e3 e4 hi0 him s3 s4 s5 s6 hk0 hcx hq hown hb hown5 b5 hb5 hlk hl1 hsl hy hgd hto hR5 hRl hown5' HBD HNX HSX HXI
                go_wp2_with fail
                go_loopw [18, 19] (fun sv uv wl => ∃ u : Nat, u ≤ N ∧ uv = .int .i64 (u : Int) ∧ wl.ownsRow w5.heap.size 3 1 sv ((ints (nodesTo R5 u)).map (Value.int .i64)).length ((ints (nodesTo R5 u)).map (Value.int .i64)) ∧ Hid (Below w5.heap.size w5 wl)) (fun _ uv _ => N - (intOf uv).toNat)
                case atStart => exact ⟨0, Nat.zero_le _, rfl, HNIL.out, Lib.hid (Below.refl _ _)⟩
                case round =>
                  clear HNIL a0 a1 r0 r1 r2 hc1 hcy
                  obtain ⟨u, hu, rfl, hown, hbi⟩ := hrel
                  by_cases hul : u < N
                  · have hkl : ((ints (nodesTo R5 u)).map (Value.int .i64)).length ≤ u := by rw [List.length_map, ints_len]; exact nodesTo_len R5 u
                    have HNS := Lib.hid (nodesTo_succ R5 u)
                    obtain ⟨z, hz⟩ : ∃ z, R5[u]? = some z := ⟨_, List.getElem?_eq_getElem (by rw [HRL.out]; exact hul)⟩
                    have hcz : wr.cell? ⟨g5, u, none⟩ = some (.bool z) := by
                      rw [(own_below HOW5.out hbi.out).cellAt u (by omega), List.getElem?_map, hz]; rfl
                    have HZ := Lib.hid (getD_of (d := false) hz)
                    clear hz
                    cases z with
                    | true =>
                      rw [HZ.out, if_pos rfl] at HNS
                      have hbw := hbi.out.size
                      go_wp2_with (at_builtin; refine wpList_push rfl _ _ _ rfl tInts hown rfl _ 0 rfl rfl rfl (by simp only [maxLen]; omega) (by omega) hbw ?_; intro g3 cap w3 hown3 hg3 hat3 hlt3)
                      refine ⟨⟨u + 1, by omega, by go_num, ?_, Lib.hid (hbi.out.grown hg3 hbw (fun q hq => (hown.lt q hq).1))⟩, by simp [intOf]; omega⟩
                      rw [HNS.out]
                      simpa [ints] using hown3
                    | false =>
                      rw [HZ.out, if_neg (by simp), List.append_nil] at HNS
                      go_wp2_with fail
                      exact ⟨⟨u + 1, by omega, by go_num, by rw [HNS.out]; exact hown, hbi⟩, by simp [intOf]; omega⟩
                  · have huN : u = N := by omega
                    have hul' : ¬ (u : Int) < (N : Int) := by omega
                    have hno : nodesTo R5 u = nodesOf R5 := by unfold nodesOf; rw [huN, HRL.out]
                    rw [hno] at hown
                    obtain ⟨WA, wc, hWe, _, _⟩ := own_slice hown
                    subst hWe
                    have hBB := Lib.hid (HB5.out.trans (hbi.out.mono HB5.out.size))
                    have HEND := Lib.hid (HB4.out.trans (hBB.out.mono HB4.out.size))
                    have HOW6 := Lib.hid (own_below HOW5.out hbi.out)
                    obtain ⟨nl, hnl⟩ : ∃ nl, ((ints (nodesOf R5)).map (Value.int .i64)).length = nl := ⟨_, rfl⟩
                    rcases HTO.out with ⟨hyv, hem⟩ | ⟨j, hyv, hj, hjs⟩
                    · subst hyv
                      have hn0 : nl = 0 := by rw [← hnl, hem]; rfl
                      rw [hnl]
                      subst hn0
                      clear hnl hno huN hown hem
                      go_wp2_with fail
                      go_ret
                      exact ⟨rfl, HEND.out⟩
                    · subst hyv
                      have hjM : j < M := by rw [← HM.out.2.2]; exact hj
                      obtain ⟨ad2, l2, P2, pc2, he2, hl2, hc2, hlm, hs2⟩ := (HLB.out wr hBB.out).at_ hjM
                      subst he2
                      have hl2e : l2 = ints (nodesOf R5) := by
                        unfold setsL at hl2
                        rw [List.getElem?_map, hjs] at hl2
                        exact (Option.some.inj hl2).symm
                      subst hl2e
                      have hle : (ints (nodesOf R5)).length = nl := by rw [← hnl, List.length_map]
                      rw [hle] at hc2 hs2 hlm
                      rw [hnl]
                      have hw2 : Sl wr WA nl ((ints (nodesOf R5)).map (Value.int .i64)) := by
                        have := Sl.of_own hown
                        rwa [hnl] at this
                      have hi5 := ints_b wr P2 WA nl nl pc2 wc (ints (nodesOf R5)) (ints (nodesOf R5)) hs2 hw2 hlm hlm
                      rw [decide_eq_true rfl] at hi5
                      have HI5 := Lib.hid hi5
                      have HJS := Lib.hid hjs
                      have hj0 : (0 : Int) ≤ (j : Int) := by omega
                      have hjM' : (j : Int) < (M : Int) := by omega
                      clear hnl hno huN hown hl2 hs2 hle hw2 hi5 hjs hj
                      go_wp2_with fail
                      refine (HI5.out).mono ?_
                      rintro e w7 ⟨rfl, b7⟩
                      have HB7 := Lib.hid (hBB.out.trans (b7.mono hBB.out.size))
                      have HOW7 := Lib.hid (own_below HOW6.out b7)
                      clear b7
                      go_wp2_with fail
                      exact ⟨⟨i + 1, j, g5, by omega, by omega, by go_num, rfl, rfl, Lib.hid (by rw [HR5.out]; exact HJS.out), by rw [HR5.out]; exact HOW7.out, HB7⟩, by simp [intOf]; omega⟩
              · have h200' : ¬ (i : Int) < 200 := by omega
                have HEND := Lib.hid (HB4.out.trans (hb.out.mono HB4.out.size))
                go_wp2_with fail
                go_ret
                exact ⟨rfl, HEND.out⟩
            · have hlt' : ¬ (i : Int) < (m : Int) := by omega
              have HEND := Lib.hid (HB4.out.trans (hb.out.mono HB4.out.size))
              go_wp2_with fail
              go_ret
              exact ⟨rfl, HEND.out⟩

theorem subsetRuns_c (w : World) (E : Nat → Addr) (hE : Errs w E) (hT : ErrT w) (hAp : Apart12 E) (hB : ErrBlk w E) (K R : Int) (A : Option Addr) (n c : Nat) (T : List Int) (hS : Sl w A n (T.map (Value.int .i64))) (hn : n ≤ c) (hz : c * 8 ≤ 140737488351232)
    (B : Option Addr) (m d : Nat) (W : List Int) (hW : Sl w B m (W.map (Value.int .i64))) (hm : m ≤ d) (hd : d * 8 ≤ 140737488351232) :
    Calls Tryd.prog 5 #[ruleV K R A n c, .slice B m d] w fun e w' => e = .returned (.bool true) ∧ Below w.heap.size w w' := by
  rcases walkF_cases K R T with ⟨tl, h⟩ | ⟨k, r, t, S, rfl, rfl, rfl, hr, hl, h⟩ | ⟨k, r, t, rfl, rfl, rfl, hr, hl, h⟩
  · exact subsetRuns_bad w E hE hT hAp hB K R A n c T hS hn hz B m d 0 _ (walkF_bad h)
  · exact subsetRuns_good w E hE hT hAp hB k r A n c t hS hn hz B m d W hW hm hd hr hl S h
  · exact subsetRuns_bad w E hE hT hAp hB k r A n c (ints t) hS hn hz B m d 0 _ (walkF_good hr hl h)
end Go.Proofs.YtlajiblhnkognaaDoor
