/- The call of SubsetOntos: it returns true. Condition: the table reads from memory; the error variables hold what E says. -/
import Derived.Test.YtlajiblhnkognaaDoorLentRR
import Derived.Test.YtlajiblhnkognaaDoorSubUA
namespace Go.Proofs.YtlajiblhnkognaaDoor
open Go.RowKit RuleP

set_option maxRecDepth 100000 in
set_option maxHeartbeats 1000000 in
theorem subsetOntos_c (w : World) (E : Nat → Addr) (hE : Errs w E) (hT : ErrT w) (hAp : Apart12 E) (hB : ErrBlk w E) (K R : Int) (A : Option Addr) (n c : Nat) (T : List Int) (hS : Sl w A n (T.map (Value.int .i64))) (hn : n ≤ c) (hz : c * 8 ≤ 140737488351232) :
    Calls Tryd.prog 3 #[ruleV K R A n c] w fun e w' => e = .returned (.bool true) ∧ Below w.heap.size w w' := by
  have HER := Lib.hid (fun (wz : World) (hz : Below w.heap.size w wz) => (⟨hE.below hz, hT.below hz, hB.below hz⟩ : _ ∧ _ ∧ _))
  clear hE hT hB
  have hb0 := (Below.refl w.heap.size w).alloc (Nat.le_refl _) (.cells #[.int .i64 K, .int .i64 R, .slice A n c] 24)
  have HAW := Lib.hid (awake10_c _ E (HER.out _ hb0).1 (HER.out _ hb0).2.1 hAp (HER.out _ hb0).2.2)
  have hr0 := RuleAt.new w (.int .i64 K) (.int .i64 R) (.slice A n c)
  unfold ruleV at *
  go_enter Tryd.func3, Tryd.ntmps3
  go_wp2_with fail
  refine (HAW.out).mono ?_
  rintro e w1 ⟨rfl, b1⟩
  have hr1 := hr0.below b1 (by simp)
  have hb1 := below_box b1
  obtain ⟨r0, r1, r2, _⟩ := hr1.facts
  clear b1 HAW
  go_wp2_with fail
  refine (lentRule_c w1 K R A n c _ (hS.below hb1) (ints_one T) (by omega)).mono ?_
  rintro e w2 ⟨g, rfl, hg, hown, b2⟩
  have hb2 := hb1.trans (b2.mono hb1.size)
  have hr2 := hr1.below b2 hr1.lt
  have hm3 := RuleAt.new w2 (.int .i64 K) (.int .i64 R) (.slice (some ⟨g, 0, none⟩) n (n + 2))
  have b3 := (Below.refl w2.heap.size w2).alloc (Nat.le_refl _) (.cells #[.int .i64 K, .int .i64 R, .slice (some ⟨g, 0, none⟩) n (n + 2)] 24)
  unfold ruleV
  obtain ⟨w3, hw3⟩ : ∃ w3, w2.alloc (.cells #[.int .i64 K, .int .i64 R, .slice (some ⟨g, 0, none⟩) n (n + 2)] 24) = w3 := ⟨_, rfl⟩
  have HW3 := Lib.hid hw3
  rw [hw3] at hm3 b3
  have hb3 := hb2.trans (b3.mono hb2.size)
  have hr3 := hr2.below b3 hr2.lt
  have ho3 := own_below hown b3
  have hS3 := Sl.of_own ho3
  have hA3 : Sl w3 (some ⟨g, 0, none⟩) n (T.map (Value.int .i64)) := sl_take' hS3 (by simpa using hS.1)
  obtain ⟨s0, s1, s2, _⟩ := hm3.facts
  obtain ⟨q1, q2, q3⟩ := HER.out w3 hb3
  have HON := Lib.hid (onto_u w3 E q1 q2 hAp q3 K R (some ⟨g, 0, none⟩) n (n + 2) T hA3 (by omega))
  clear r0 r1 r2 hr1 hr2 hown b2 hw3 q1 q2 q3 hb2 b3
  unfold ruleV at HON
  go_wp2_with fail
  rw [HW3.out]
  refine (HON.out).mono ?_
  rintro e w4 ⟨C4, M4, c4, v4, rfl, ho4, he4, b4⟩
  have hb4 := hb3.trans (b4.mono hb3.size)
  obtain ⟨r0, r1, r2, _⟩ := (hr3.below b4 hr3.lt).facts
  have HRF := Lib.hid (refOnto_u w4 K R A n c T (hS.below hb4) (by omega))
  clear s0 s1 s2 HON
  unfold ruleV at HRF
  go_wp2_with fail
  refine (HRF.out).mono ?_
  rintro e w5 ⟨C5, M5, c5, N5, A5, n5, k5, D5, m5, d5, rfl, ho5, hu5, b5⟩
  have hb5 := hb4.trans (b5.mono hb4.size)
  have hf6 := WantAt.new w5 (.int .i64 (N5 : Int)) (.slice A5 n5 k5) (.slice D5 m5 d5)
  have b6 := (Below.refl w5.heap.size w5).alloc (Nat.le_refl _) (.cells #[.int .i64 (N5 : Int), .slice A5 n5 k5, .slice D5 m5 d5] 33)
  obtain ⟨w6, hw6⟩ : ∃ w6, w5.alloc (.cells #[.int .i64 (N5 : Int), .slice A5 n5 k5, .slice D5 m5 d5] 33) = w6 := ⟨_, rfl⟩
  have HW6 := Lib.hid hw6
  rw [hw6] at hf6 b6
  have hb6 := hb5.trans (b6.mono hb5.size)
  have z5 := b5.trans (b6.mono b5.size)
  have z4 := b4.trans (z5.mono b4.size)
  have hm6 := (hm3.below z4 hm3.lt).facts
  have hr6 := (hr3.below z4 hr3.lt).facts
  have hf6' := hf6.facts
  have HF := Lib.hid (fun (wz : World) (hz : Below w6.heap.size w6 wz) => (⟨cell_later hz hr6.1, cell_later hz hr6.2.1, cell_later hz hr6.2.2.1, cell_later hz hm6.1, cell_later hz hm6.2.1, cell_later hz hm6.2.2.1, cell_later hz hf6'.1, cell_later hz hf6'.2.1, cell_later hz hf6'.2.2.1⟩ :
    wz.cell? ⟨w.heap.size, 0, none⟩ = some (.int .i64 K) ∧ wz.cell? ⟨w.heap.size, 1, none⟩ = some (.int .i64 R) ∧ wz.cell? ⟨w.heap.size, 2, none⟩ = some (.slice A n c) ∧
    wz.cell? ⟨w2.heap.size, 0, none⟩ = some (.int .i64 K) ∧ wz.cell? ⟨w2.heap.size, 1, none⟩ = some (.int .i64 R) ∧ wz.cell? ⟨w2.heap.size, 2, none⟩ = some (.slice (some ⟨g, 0, none⟩) n (n + 2)) ∧
    wz.cell? ⟨w5.heap.size, 0, none⟩ = some (.int .i64 (N5 : Int)) ∧ wz.cell? ⟨w5.heap.size, 1, none⟩ = some (.slice A5 n5 k5) ∧ wz.cell? ⟨w5.heap.size, 2, none⟩ = some (.slice D5 m5 d5)))
  have hl4 := own_le ho4
  have hl5 := own_le ho5
  unfold maxLen at hl4 hl5
  obtain rfl : M4 = M5 := by rw [← (Sl.of_own ho4).1, ← (Sl.of_own ho5).1]
  have hI := fun (wz : World) (hz : Below w6.heap.size w6 wz) => ints_b wz C4 C5 M4 M4 c4 c5 (ontoF K R T).2.1 (ontoF K R T).2.1 (((Sl.of_own ho4).below z5).below hz) (((Sl.of_own ho5).below b6).below hz) (by omega) (by omega)
  rw [decide_eq_true rfl] at hI
  have HINTS := Lib.hid hI
  have hSB := hS.below hb6
  have HIS := Lib.hid (fun (wz : World) (hz : Below w6.heap.size w6 wz) (t : Option Tale) (ht : TaleOk t) (v u : Value) (hv : ErrV wz E t v) (hu : WantV wz t u) => rawIs_c wz E (HER.out _ (hb6.trans (hz.mono hb6.size))).1 (HER.out _ (hb6.trans (hz.mono hb6.size))).2.1 t ht v u hv hu)
  have HKP := Lib.hid (fun (wz : World) (hz : Below w6.heap.size w6 wz) => keptRule_c wz K R (some ⟨g, 0, none⟩) A n (n + 2) c T (hSB.below hz) ((hS3.below z4).below hz) (Nat.le_refl _) (by simp only [maxLen]; omega))
  have HE4 := Lib.hid (he4.below z5)
  have HU5 := Lib.hid (hu5.below b6)
  have HB6 := Lib.hid hb6
  have HTO := Lib.hid (ontoF_ok K R T)
  obtain ⟨o, ho⟩ : ∃ o, ontoF K R T = o := ⟨_, rfl⟩
  obtain ⟨bb, xs, tt⟩ := o
  rw [ho] at HE4 HU5 HTO
  simp only [ho]
  have hbb : (bb == bb) = true := by simp
  clear hS hSB hI hw6 hm6 hr6 hf6 hf6' z5 z4 b4 b5 b6 hb6 hb5 hb4 hb3 hb1 hb0 r0 r1 r2 hm3 hr3 he4 hu5 ho4 ho5 hA3 hS3 hr0 ho3 ho hl4 hl5 HRF
  unfold ruleV at HKP
  have h0 := Below.refl w6.heap.size w6
  obtain ⟨p0, p1, p2, p3, p4, p5, p6, p7, p8⟩ := HF.out _ h0
  go_wp2_with fail
  rw [HW6.out]
  refine (HINTS.out _ h0).mono ?_
  rintro e w12 ⟨rfl, b12⟩
  obtain ⟨p0, p1, p2, p3, p4, p5, p6, p7, p8⟩ := HF.out _ b12
  go_wp2_with fail
  refine (HIS.out _ b12 _ HTO.out _ _ (HE4.out.below b12) (HU5.out.below b12)).mono ?_
  rintro e w13 ⟨rfl, b13⟩
  have hb13 := b12.trans (b13.mono b12.size)
  obtain ⟨p0, p1, p2, p3, p4, p5, p6, p7, p8⟩ := HF.out _ hb13
  go_wp2_with fail
  refine (HKP.out _ hb13).mono ?_
  rintro e w15 ⟨rfl, b15⟩
  have hb15 := hb13.trans (b15.mono hb13.size)
  go_wp2_with fail
  go_ret
  exact ⟨rfl, HB6.out.trans (hb15.mono HB6.out.size)⟩
end Go.Proofs.YtlajiblhnkognaaDoor
