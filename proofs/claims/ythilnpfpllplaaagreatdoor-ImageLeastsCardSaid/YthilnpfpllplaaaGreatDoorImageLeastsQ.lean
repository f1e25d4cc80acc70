/- The call of ImageLeasts: it returns true. Condition: the table reads from memory; the error variables hold what E says. -/
import Derived.Test.YthilnpfpllplaaaGreatDoorQ3
import Derived.Test.YthilnpfpllplaaaGreatDoorQ21
import Derived.Test.YthilnpfpllplaaaGreatDoorQ23
namespace Go.Proofs.YthilnpfpllplaaaGreatDoor
open Go.RowKit BagP RuleP SubP

set_option maxRecDepth 100000 in
set_option maxHeartbeats 2000000 in
theorem imageLeasts_c (w : World) (E : Nat → Addr) (hE : Errs w E) (hT : ErrT w) (hAp : Apart12 E) (hB : ErrBlk w E) (K R : Int) (A : Option Addr) (n c : Nat) (T : List Int) (hS : Sl w A n (T.map (Value.int .i64))) (hn : n ≤ c) (hz : c * 8 ≤ 140737488351232) :
    Calls Tryz.prog 4 #[ruleV K R A n c] w fun e w' => e = .returned (.bool true) ∧ Below w.heap.size w w' := by
  have HER := Lib.hid (fun (wz : World) (hz : Below w.heap.size w wz) => (⟨hE.below hz, hT.below hz, hB.below hz⟩ : _ ∧ _ ∧ _))
  clear hE hT hB
  have hb0 := (Below.refl w.heap.size w).alloc (Nat.le_refl _) (.cells #[.int .i64 K, .int .i64 R, .slice A n c] 24)
  have HAW := Lib.hid (awake11_c _ E (HER.out _ hb0).1 (HER.out _ hb0).2.1 hAp (HER.out _ hb0).2.2)
  have hr0 := RuleAt.new w (.int .i64 K) (.int .i64 R) (.slice A n c)
  unfold ruleV at *
  go_enter Tryz.func4, Tryz.ntmps4
  go_wp2_with fail
  refine (HAW.out).mono ?_
  rintro e w1 ⟨rfl, b1⟩
  have hr1 := hr0.below b1 (by simp)
  have hb1 := below_box b1
  obtain ⟨r0, r1, r2, _⟩ := hr1.facts
  clear b1 HAW
  go_wp2_with fail
  refine (lentRule_c w1 K R A n c _ (hS.below hb1) (ints_one T) (by omega)).mono ?_
  rintro e w2 ⟨g, rfl, hg, hown, b2⟩
  have hb2 := hb1.trans (b2.mono hb1.size)
  have hr2 := hr1.below b2 hr1.lt
  have hm3 := RuleAt.new w2 (.int .i64 K) (.int .i64 R) (.slice (some ⟨g, 0, none⟩) n (n + 2))
  have b3 := (Below.refl w2.heap.size w2).alloc (Nat.le_refl _) (.cells #[.int .i64 K, .int .i64 R, .slice (some ⟨g, 0, none⟩) n (n + 2)] 24)
  unfold ruleV
  obtain ⟨w3, hw3⟩ : ∃ w3, w2.alloc (.cells #[.int .i64 K, .int .i64 R, .slice (some ⟨g, 0, none⟩) n (n + 2)] 24) = w3 := ⟨_, rfl⟩
  have HW3 := Lib.hid hw3
  rw [hw3] at hm3 b3
  have hb3 := hb2.trans (b3.mono hb2.size)
  have hr3 := hr2.below b3 hr2.lt
  have ho3 := own_below hown b3
  have hS3 := Sl.of_own ho3
  have hA3 : Sl w3 (some ⟨g, 0, none⟩) n (T.map (Value.int .i64)) := sl_take' hS3 (by simpa using hS.1)
  obtain ⟨s0, s1, s2, _⟩ := hm3.facts
  have HTO := Lib.hid (ofF_ok 0 K R T (walkF_ok K R T))
  obtain ⟨o, ho⟩ : ∃ o, ofF 0 K R T = o := ⟨_, rfl⟩
  obtain ⟨kk, L1, tt⟩ := o
  rw [ho] at HTO
  have HO := Lib.hid ho
  clear ho
  have hWU := fun (wz : World) (hz : Below w3.heap.size w3 wz) => leastU_c wz E (HER.out _ (hb3.trans (hz.mono hb3.size))).1 (HER.out _ (hb3.trans (hz.mono hb3.size))).2.1 hAp (HER.out _ (hb3.trans (hz.mono hb3.size))).2.2 K R (some ⟨g, 0, none⟩) n (n + 2) T (hA3.below hz) (by omega)
  have hRW := fun (wz : World) (hz : Below w.heap.size w wz) => refLeast_u wz K R A n c T (hS.below hz) (by omega)
  rw [HO.out] at hWU hRW
  unfold ruleV autoV at hWU hRW
  have HWU := Lib.hid hWU
  have HRW := Lib.hid hRW
  clear hWU hRW r0 r1 r2 hr1 hr2 hown b2 hw3 hb2 b3
  go_wp2_with fail
  rw [HW3.out]
  refine (HWU.out w3 (Below.refl _ _)).mono ?_
  rintro e w4 ⟨C4, c4, rows4, v4, rfl, ho4, he4, b4⟩
  have hb4 := hb3.trans (b4.mono hb3.size)
  have ha5 : AutoAt (w4.alloc (.cells #[.int .i64 kk, .slice C4 L1.length c4] 50)) w4.heap.size (.int .i64 kk) (.slice C4 L1.length c4) := heap_new w4 (.cells #[.int .i64 kk, .slice C4 L1.length c4] 50)
  have b5 := (Below.refl w4.heap.size w4).alloc (Nat.le_refl _) (.cells #[.int .i64 kk, .slice C4 L1.length c4] 50)
  obtain ⟨w5, hw5⟩ : ∃ w5, w4.alloc (.cells #[.int .i64 kk, .slice C4 L1.length c4] 50) = w5 := ⟨_, rfl⟩
  have HW5 := Lib.hid hw5
  rw [hw5] at ha5 b5
  have hl5 : w4.heap.size < w5.heap.size := by rw [← hw5]; simp
  have hb5 := hb4.trans (b5.mono hb4.size)
  have hr4 := hr3.below b4 hr3.lt
  obtain ⟨r0, r1, r2, _⟩ := hr4.facts
  have r3 := hr4.lt
  clear s0 s1 s2 hw5
  go_wp2_with fail
  rw [HW5.out]
  refine (HRW.out w5 hb5).mono ?_
  rintro e w6 ⟨C6, c6, rows6, N6, A6, n6, k6, D6, m6, d6, rfl, ho6, hu6, b6⟩
  have hb6 := hb5.trans (b6.mono hb5.size)
  have hq6 : AutoAt (w6.alloc (.cells #[.int .i64 kk, .slice C6 L1.length c6] 50)) w6.heap.size (.int .i64 kk) (.slice C6 L1.length c6) := heap_new w6 (.cells #[.int .i64 kk, .slice C6 L1.length c6] 50)
  have ha7 : AutoAt ((w6.alloc (.cells #[.int .i64 kk, .slice C6 L1.length c6] 50)).alloc (.cells #[.int .i64 (N6 : Int), .slice A6 n6 k6, .slice D6 m6 d6] 34)) w6.heap.size (.int .i64 kk) (.slice C6 L1.length c6) := hq6.below ((Below.refl _ _).alloc (Nat.le_refl _) _) (by simp)
  have hf7 := WantAt.new (w6.alloc (.cells #[.int .i64 kk, .slice C6 L1.length c6] 50)) (.int .i64 (N6 : Int)) (.slice A6 n6 k6) (.slice D6 m6 d6)
  rw [World.size_alloc] at hf7
  have b7 := ((Below.refl w6.heap.size w6).alloc (Nat.le_refl _) (.cells #[.int .i64 kk, .slice C6 L1.length c6] 50)).alloc (by simp) (.cells #[.int .i64 (N6 : Int), .slice A6 n6 k6, .slice D6 m6 d6] 34)
  obtain ⟨w10, hw10⟩ : ∃ w10, (w6.alloc (.cells #[.int .i64 kk, .slice C6 L1.length c6] 50)).alloc (.cells #[.int .i64 (N6 : Int), .slice A6 n6 k6, .slice D6 m6 d6] 34) = w10 := ⟨_, rfl⟩
  have HW10 := Lib.hid hw10
  rw [hw10] at ha7 hf7 b7
  have hb10 := hb6.trans (b7.mono hb6.size)
  have z6 := b6.trans (b7.mono b6.size)
  have z5 := b5.trans (z6.mono b5.size)
  have z4 := b4.trans (z5.mono b4.size)
  have hm11 := (hm3.below z4 hm3.lt).facts
  have hr11 := (hr3.below z4 hr3.lt).facts
  have ha11 := (ha5.below z6 hl5).facts
  have hq11 := ha7.facts
  have hf11 := hf7.facts
  have HF := Lib.hid (fun (wz : World) (hz : Below w10.heap.size w10 wz) => (⟨cell_later hz hr11.1, cell_later hz hr11.2.1, cell_later hz hr11.2.2.1, cell_later hz hm11.1, cell_later hz hm11.2.1, cell_later hz hm11.2.2.1, cell_later hz hf11.1, cell_later hz hf11.2.1, cell_later hz hf11.2.2.1,
      cell_later hz ha11.1, cell_later hz ha11.2.1, cell_later hz hq11.1, cell_later hz hq11.2.1⟩ :
    wz.cell? ⟨w.heap.size, 0, none⟩ = some (.int .i64 K) ∧ wz.cell? ⟨w.heap.size, 1, none⟩ = some (.int .i64 R) ∧ wz.cell? ⟨w.heap.size, 2, none⟩ = some (.slice A n c) ∧
    wz.cell? ⟨w2.heap.size, 0, none⟩ = some (.int .i64 K) ∧ wz.cell? ⟨w2.heap.size, 1, none⟩ = some (.int .i64 R) ∧ wz.cell? ⟨w2.heap.size, 2, none⟩ = some (.slice (some ⟨g, 0, none⟩) n (n + 2)) ∧
    wz.cell? ⟨w6.heap.size + 1, 0, none⟩ = some (.int .i64 (N6 : Int)) ∧ wz.cell? ⟨w6.heap.size + 1, 1, none⟩ = some (.slice A6 n6 k6) ∧ wz.cell? ⟨w6.heap.size + 1, 2, none⟩ = some (.slice D6 m6 d6) ∧
    wz.cell? ⟨w4.heap.size, 0, none⟩ = some (.int .i64 kk) ∧ wz.cell? ⟨w4.heap.size, 1, none⟩ = some (.slice C4 L1.length c4) ∧
    wz.cell? ⟨w6.heap.size, 0, none⟩ = some (.int .i64 kk) ∧ wz.cell? ⟨w6.heap.size, 1, none⟩ = some (.slice C6 L1.length c6)))
  have hx1 : L1.length ≤ 9223372036854775807 := by have h := own_le ho4.lst; unfold maxLen at h; omega
  have hAU := fun (wz : World) (hz : Below w10.heap.size w10 wz) => autos_same wz kk C4 C6 L1.length c4 c6 L1 ((ho4.list.keep z5).keep hz) ((ho6.list.keep b7).keep hz) hx1
  unfold autoV at hAU
  have HAU := Lib.hid hAU
  have hSB := hS.below hb10
  have HIS := Lib.hid (fun (wz : World) (hz : Below w10.heap.size w10 wz) (t : Option Tale) (ht : TaleOk t) (v u : Value) (hv : ErrV wz E t v) (hu : WantV wz t u) => rawIs_c wz E (HER.out _ (hb10.trans (hz.mono hb10.size))).1 (HER.out _ (hb10.trans (hz.mono hb10.size))).2.1 t ht v u hv hu)
  have HKP := Lib.hid (fun (wz : World) (hz : Below w10.heap.size w10 wz) => keptRule_c wz K R (some ⟨g, 0, none⟩) A n (n + 2) c T (hSB.below hz) ((hS3.below z4).below hz) (Nat.le_refl _) (by simp only [maxLen]; omega))
  have HE4 := Lib.hid (he4.below z5)
  have HU6 := Lib.hid (hu6.want.below b7)
  have HB10 := Lib.hid hb10
  obtain ⟨t50, t51, _, _⟩ := (ha5.below b6 hl5).facts
  have t5l : w4.heap.size < w6.heap.size := Nat.lt_of_lt_of_le hl5 b6.size
  obtain ⟨l1, hl1⟩ : ∃ l1, L1.length = l1 := ⟨_, rfl⟩
  rw [hl1] at HF HAU t51
  simp only [hl1]
  rw [hl1] at HW10
  clear hl1 hx1 hAU
  clear hS hSB hw10 hm11 hr11 ha11 hq11 hf11 z4 z5 z6 b4 b5 b6 b7 hb10 hb6 hb5 hb4 hb3 hb1 hb0 r0 r1 r2 hm3 hr3 hr4 he4 hu6 ho4 ho6 hA3 hS3 hr0 ho3 ha5 ha7 hf7 hq6 HWU HRW hl5
  unfold ruleV at HKP
  have h0 := Below.refl w10.heap.size w10
  obtain ⟨p0, p1, p2, p3, p4, p5, p6, p7, p8, p9, p10, p11, p12⟩ := HF.out _ h0
  go_wp2_with fail
  rw [HW10.out]
  refine (HAU.out _ h0).mono ?_
  rintro e w11 ⟨rfl, b11⟩
  obtain ⟨p0, p1, p2, p3, p4, p5, p6, p7, p8, p9, p10, p11, p12⟩ := HF.out _ b11
  go_wp2_with fail
  refine (HIS.out _ b11 _ HTO.out _ _ (HE4.out.below b11) (HU6.out.below b11)).mono ?_
  rintro e w12 ⟨rfl, b12⟩
  have hb12 := b11.trans (b12.mono b11.size)
  obtain ⟨p0, p1, p2, p3, p4, p5, p6, p7, p8, p9, p10, p11, p12⟩ := HF.out _ hb12
  go_wp2_with fail
  refine (HKP.out _ hb12).mono ?_
  rintro e w15 ⟨rfl, b15⟩
  have hb15 := hb12.trans (b15.mono hb12.size)
  go_wp2_with fail
  go_ret
  exact ⟨rfl, HB10.out.trans (hb15.mono HB10.out.size)⟩
end Go.Proofs.YthilnpfpllplaaaGreatDoor
