/- The call of ImageWords: it returns true. Condition: the lists read from memory; the error variables hold what E says. -/
import Derived.Test.YthilnpfpllplaaaGreatDoorQ3
import Derived.Test.YthilnpfpllplaaaGreatDoorQ21
import Derived.Test.YthilnpfpllplaaaGreatDoorQ24
import Derived.Test.YthilnpfpllplaaaGreatDoorQ26
namespace Go.Proofs.YthilnpfpllplaaaGreatDoor
open Go.RowKit BagP RuleP SubP NatP

theorem ofF_okT (K R : Int) (T : List Int) : TaleOk (ofF 0 K R T).2.2 := ofF_ok 0 K R T (walkF_ok K R T)
theorem taleOk_one {n : Nat} (h : 1 ≤ n ∧ n ≤ 11) (l : List (ByteArray × Int)) : TaleOk (some (n, l)) := fun x hx => by cases hx; exact h
theorem hasF_ok (K R : Int) (T ws : List Int) : TaleOk (hasF K R T ws).2 := by
  have h0 := ofF_okT K R T
  unfold hasF
  cases h : (ofF 0 K R T).2.2 with
  | some tl => rw [h] at h0; exact h0
  | none =>
    dsimp only
    split
    · exact taleOk_one ⟨by decide, by decide⟩ _
    · split
      · exact taleOk_one ⟨by decide, by decide⟩ _
      · intro x hx; cases hx
theorem wordsF_ok (K R : Int) (T : List Int) (N : Int) : TaleOk (wordsF K R T N).2 := by
  have h0 := ofF_okT K R T
  unfold wordsF
  cases h : (ofF 0 K R T).2.2 with
  | some tl => rw [h] at h0; exact h0
  | none =>
    dsimp only
    split
    · exact taleOk_one ⟨by decide, by decide⟩ _
    · split
      · exact taleOk_one ⟨by decide, by decide⟩ _
      · intro x hx; cases hx

set_option maxRecDepth 100000 in
set_option maxHeartbeats 2000000 in
theorem imageWords_c (w : World) (E : Nat → Addr) (hE : Errs w E) (hT : ErrT w) (hAp : Apart12 E) (hB : ErrBlk w E) (K R : Int) (A : Option Addr) (n c : Nat) (T : List Int) (hS : Sl w A n (T.map (Value.int .i64))) (hn : n ≤ c) (hz : c * 8 ≤ 140737488351232)
    (B : Option Addr) (m d : Nat) (W : List Int) (hW : Sl w B m (W.map (Value.int .i64))) (hmd : m ≤ d) (hz2 : d * 8 ≤ 140737488351232) (N : Int) :
    Calls Tryz.prog 3 #[ruleV K R A n c, .slice B m d, .int .i64 N] w fun e w' => e = .returned (.bool true) ∧ Below w.heap.size w w' := by
  have HER := Lib.hid (fun (wz : World) (hz : Below w.heap.size w wz) => (⟨hE.below hz, hT.below hz, hB.below hz⟩ : _ ∧ _ ∧ _))
  clear hE hT hB
  have hb0 := (Below.refl w.heap.size w).alloc (Nat.le_refl _) (.cells #[.int .i64 K, .int .i64 R, .slice A n c] 24)
  have HAW := Lib.hid (awake11_c _ E (HER.out _ hb0).1 (HER.out _ hb0).2.1 hAp (HER.out _ hb0).2.2)
  have hr0 := RuleAt.new w (.int .i64 K) (.int .i64 R) (.slice A n c)
  unfold ruleV at *
  go_enter Tryz.func3, Tryz.ntmps3
  go_wp2_with fail
  refine (HAW.out).mono ?_
  rintro e w1 ⟨rfl, b1⟩
  have hr1 := hr0.below b1 (by simp)
  have hb1 := below_box b1
  obtain ⟨r0, r1, r2, _⟩ := hr1.facts
  clear b1 HAW
  go_wp2_with fail
  refine (lentRule_c w1 K R A n c _ (hS.below hb1) (ints_one T) (by omega)).mono ?_
  rintro e w2 ⟨g, rfl, hg, hown, b2⟩
  have hb2 := hb1.trans (b2.mono hb1.size)
  have hr2 := hr1.below b2 hr1.lt
  have hm3 := RuleAt.new w2 (.int .i64 K) (.int .i64 R) (.slice (some ⟨g, 0, none⟩) n (n + 2))
  have b3 := (Below.refl w2.heap.size w2).alloc (Nat.le_refl _) (.cells #[.int .i64 K, .int .i64 R, .slice (some ⟨g, 0, none⟩) n (n + 2)] 24)
  unfold ruleV
  obtain ⟨w3, hw3⟩ : ∃ w3, w2.alloc (.cells #[.int .i64 K, .int .i64 R, .slice (some ⟨g, 0, none⟩) n (n + 2)] 24) = w3 := ⟨_, rfl⟩
  have HW3 := Lib.hid hw3
  rw [hw3] at hm3 b3
  have hb3 := hb2.trans (b3.mono hb2.size)
  have hr3 := hr2.below b3 hr2.lt
  have ho3 := own_below hown b3
  have hS3 := Sl.of_own ho3
  have hA3 : Sl w3 (some ⟨g, 0, none⟩) n (T.map (Value.int .i64)) := sl_take' hS3 (by simpa using hS.1)
  obtain ⟨s0, s1, s2, _⟩ := hm3.facts
  have HTH := Lib.hid (hasF_ok K R T W)
  have HTW := Lib.hid (wordsF_ok K R T N)
  obtain ⟨oh, hoh⟩ : ∃ o, hasF K R T W = o := ⟨_, rfl⟩
  obtain ⟨bb, th⟩ := oh
  obtain ⟨ow, how⟩ : ∃ o, wordsF K R T N = o := ⟨_, rfl⟩
  obtain ⟨X, tw⟩ := ow
  rw [hoh] at HTH
  rw [how] at HTW
  have HOH := Lib.hid hoh
  have HOW := Lib.hid how
  clear hoh how
  have HLN := Lib.hid (lent_c w3 B m d _ (hW.below hb3) (ints_one W) (by omega))
  clear r0 r1 r2 hr1 hr2 hown b2 hw3 hb2
  go_wp2_with fail
  rw [HW3.out]
  refine (HLN.out).mono ?_
  rintro e w4 ⟨rfl, hlw, b4⟩
  clear HLN
  have hb4 := hb3.trans (b4.mono hb3.size)
  have hm4 := hm3.below b4 hm3.lt
  have hr4 := hr3.below b4 hr3.lt
  have hLW4 := Sl.of_own hlw
  have hW4 : Sl w4 (some ⟨w3.heap.size, 0, none⟩) m (W.map (Value.int .i64)) := sl_take' hLW4 (by simpa using hW.1)
  have hA4 := hA3.below b4
  have hhu := fun (wz : World) (hz : Below w4.heap.size w4 wz) => has_u wz E (HER.out _ (hb4.trans (hz.mono hb4.size))).1 (HER.out _ (hb4.trans (hz.mono hb4.size))).2.1 hAp (HER.out _ (hb4.trans (hz.mono hb4.size))).2.2 K R (some ⟨g, 0, none⟩) n (n + 2) T (hA4.below hz) (by omega) (some ⟨w3.heap.size, 0, none⟩) m (m + 2) W (hW4.below hz) (by omega)
  have hwu := fun (wz : World) (hz : Below w4.heap.size w4 wz) => words_u wz E (HER.out _ (hb4.trans (hz.mono hb4.size))).1 (HER.out _ (hb4.trans (hz.mono hb4.size))).2.1 hAp (HER.out _ (hb4.trans (hz.mono hb4.size))).2.2 K R (some ⟨g, 0, none⟩) n (n + 2) T (hA4.below hz) (by omega) N
  have hrh := fun (wz : World) (hz : Below w.heap.size w wz) => refHas_u wz K R A n c T (hS.below hz) (by omega) B m d W (hW.below hz) (by omega)
  have hrw := fun (wz : World) (hz : Below w.heap.size w wz) => refWords_u wz K R A n c T (hS.below hz) (by omega) N
  rw [HOH.out] at hhu hrh
  rw [HOW.out] at hwu hrw
  unfold ruleV at hhu hwu hrh hrw
  have HHU := Lib.hid hhu
  have HWU := Lib.hid hwu
  have HRH := Lib.hid hrh
  have HRW := Lib.hid hrw
  have HB4 := Lib.hid hb4
  have HM4 := Lib.hid hm4
  have HR4 := Lib.hid hr4
  have HLW := Lib.hid hLW4
  have HLS := Lib.hid (hS3.below b4)
  have HSB := Lib.hid (hS.below hb4)
  have HWB := Lib.hid (hW.below hb4)
  obtain ⟨s0, s1, s2, _⟩ := hm4.facts
  have s3 := hm4.lt
  obtain ⟨lx, hlx⟩ : ∃ lx, (limbs X).length = lx := ⟨_, rfl⟩
  have HLX := Lib.hid hlx
  rw [hlx] at HWU HRW
  clear hhu hwu hrh hrw hb4 hm4 hr4 hLW4 hlw hW4 hA4 hA3 hS3 ho3 b4 hb3 hm3 hr3 hS hW hb1 hb0 hr0 hlx b3
  go_wp2_with fail
  refine (HHU.out w4 (Below.refl _ _)).mono ?_
  rintro e w5 ⟨v5, rfl, he5, b5⟩
  obtain ⟨r0, r1, r2, _⟩ := (HR4.out.below b5 HR4.out.lt).facts
  have r3 := Nat.lt_of_lt_of_le HR4.out.lt b5.size
  have hb5 := HB4.out.trans (b5.mono HB4.out.size)
  clear s0 s1 s2 s3 HHU
  go_wp2_with fail
  refine (HRH.out w5 hb5).mono ?_
  rintro e w6 ⟨N6, A6, n6, k6, D6, m6, d6, rfl, hu6, b6⟩
  have hf7 := WantAt.new w6 (.int .i64 (N6 : Int)) (.slice A6 n6 k6) (.slice D6 m6 d6)
  have b7 := (Below.refl w6.heap.size w6).alloc (Nat.le_refl _) (.cells #[.int .i64 (N6 : Int), .slice A6 n6 k6, .slice D6 m6 d6] 34)
  obtain ⟨w7, hw7⟩ : ∃ w7, w6.alloc (.cells #[.int .i64 (N6 : Int), .slice A6 n6 k6, .slice D6 m6 d6] 34) = w7 := ⟨_, rfl⟩
  have HW7 := Lib.hid hw7
  rw [hw7] at hf7 b7
  have z7 := pure_trans (pure_trans b5 b6) b7
  obtain ⟨s0, s1, s2, _⟩ := (HM4.out.below (pure_trans b5 b6) HM4.out.lt).facts
  have s3 := Nat.lt_of_lt_of_le HM4.out.lt (pure_trans b5 b6).size
  clear r0 r1 r2 r3 hw7 HRH
  go_wp2_with fail
  rw [HW7.out]
  refine (HWU.out w7 z7).mono ?_
  rintro e w8 ⟨C8, c8, v8, rfl, ho8, he8, b8⟩
  have z8 := pure_trans z7 b8
  obtain ⟨r0, r1, r2, _⟩ := (HR4.out.below z8 HR4.out.lt).facts
  have r3 := Nat.lt_of_lt_of_le HR4.out.lt z8.size
  clear s0 s1 s2 s3 HWU
  go_wp2_with fail
  refine (HRW.out w8 (HB4.out.trans (z8.mono HB4.out.size))).mono ?_
  rintro e w9 ⟨C9, c9, N9, A9, n9, k9, D9, m9, d9, rfl, ho9, hu9, b9⟩
  have hh10 := WantAt.new w9 (.int .i64 (N9 : Int)) (.slice A9 n9 k9) (.slice D9 m9 d9)
  have b10 := (Below.refl w9.heap.size w9).alloc (Nat.le_refl _) (.cells #[.int .i64 (N9 : Int), .slice A9 n9 k9, .slice D9 m9 d9] 34)
  obtain ⟨w10, hw10⟩ : ∃ w10, w9.alloc (.cells #[.int .i64 (N9 : Int), .slice A9 n9 k9, .slice D9 m9 d9] 34) = w10 := ⟨_, rfl⟩
  have HW10 := Lib.hid hw10
  rw [hw10] at hh10 b10
  have y9 := pure_trans b9 b10
  have y8 := pure_trans b8 y9
  have y7 := pure_trans b7 y8
  have y6 := pure_trans b6 y7
  have y5 := pure_trans b5 y6
  have hb10 := HB4.out.trans (y5.mono HB4.out.size)
  have HB10 := Lib.hid hb10
  have hm11 := (HM4.out.below y5 HM4.out.lt).facts
  have hr11 := (HR4.out.below y5 HR4.out.lt).facts
  have hf11 := (hf7.below y8 hf7.lt).facts
  have hh11 := hh10.facts
  have HF := Lib.hid (fun (wz : World) (hz : Below w10.heap.size w10 wz) => (⟨cell_later hz hr11.1, cell_later hz hr11.2.1, cell_later hz hr11.2.2.1, cell_later hz hm11.1, cell_later hz hm11.2.1, cell_later hz hm11.2.2.1, cell_later hz hf11.1, cell_later hz hf11.2.1, cell_later hz hf11.2.2.1, cell_later hz hh11.1, cell_later hz hh11.2.1, cell_later hz hh11.2.2.1⟩ :
    wz.cell? ⟨w.heap.size, 0, none⟩ = some (.int .i64 K) ∧ wz.cell? ⟨w.heap.size, 1, none⟩ = some (.int .i64 R) ∧ wz.cell? ⟨w.heap.size, 2, none⟩ = some (.slice A n c) ∧
    wz.cell? ⟨w2.heap.size, 0, none⟩ = some (.int .i64 K) ∧ wz.cell? ⟨w2.heap.size, 1, none⟩ = some (.int .i64 R) ∧ wz.cell? ⟨w2.heap.size, 2, none⟩ = some (.slice (some ⟨g, 0, none⟩) n (n + 2)) ∧
    wz.cell? ⟨w6.heap.size, 0, none⟩ = some (.int .i64 (N6 : Int)) ∧ wz.cell? ⟨w6.heap.size, 1, none⟩ = some (.slice A6 n6 k6) ∧ wz.cell? ⟨w6.heap.size, 2, none⟩ = some (.slice D6 m6 d6) ∧
    wz.cell? ⟨w9.heap.size, 0, none⟩ = some (.int .i64 (N9 : Int)) ∧ wz.cell? ⟨w9.heap.size, 1, none⟩ = some (.slice A9 n9 k9) ∧ wz.cell? ⟨w9.heap.size, 2, none⟩ = some (.slice D9 m9 d9)))
  have HIS := Lib.hid (fun (wz : World) (hz : Below w10.heap.size w10 wz) (t : Option Tale) (ht : TaleOk t) (v u : Value) (hv : ErrV wz E t v) (hu : WantV wz t u) => rawIs_c wz E (HER.out _ (hb10.trans (hz.mono hb10.size))).1 (HER.out _ (hb10.trans (hz.mono hb10.size))).2.1 t ht v u hv hu)
  have hkp := fun (wz : World) (hz : Below w10.heap.size w10 wz) => keptRule_c wz K R (some ⟨g, 0, none⟩) A n (n + 2) c T ((HSB.out.below y5).below hz) ((HLS.out.below y5).below hz) (Nat.le_refl _) (by simp only [maxLen]; omega)
  unfold ruleV at hkp
  have HKP := Lib.hid hkp
  have HKE := Lib.hid (fun (wz : World) (hz : Below w10.heap.size w10 wz) => kept_c wz (some ⟨w3.heap.size, 0, none⟩) B m (m + 2) d W ((HWB.out.below y5).below hz) ((HLW.out.below y5).below hz) (Nat.le_refl _) (by simp only [maxLen]; omega))
  obtain ⟨_, _, hq8, _, hq8'⟩ := own_slice ho8
  have hnt := fun (wz : World) (hz : Below w10.heap.size w10 wz) => nats_b wz C8 C9 lx lx c8 c9 (limbs X) (limbs X) (((Sl.of_own ho8).below y9).below hz) (((Sl.of_own ho9).below b10).below hz) (Nat.le_trans (own_le ho8).1 (own_le ho8).2)
  rw [decide_eq_true rfl] at hnt
  have HNT := Lib.hid hnt
  have HE5 := Lib.hid (he5.below y6)
  have HU6 := Lib.hid (hu6.want.below y7)
  have HE8 := Lib.hid (he8.below y9)
  have HU9 := Lib.hid (hu9.want.below b10)
  have h0 := Below.refl w10.heap.size w10
  obtain ⟨t60, t61, t62, _⟩ := (hf7.below (pure_trans b8 b9) hf7.lt).facts
  have t6l : w6.heap.size < w9.heap.size := Nat.lt_of_lt_of_le hf7.lt (pure_trans b8 b9).size
  clear hnt hkp hm11 hr11 hf11 hh11 y5 y6 y7 y8 y9 z7 z8 b5 b6 b7 b8 b9 b10 hb5 hb10 he5 hu6 he8 hu9 ho8 ho9 hf7 hh10 hw10 r0 r1 r2 r3 HRW HM4 HR4 hq8 hq8'
  obtain ⟨p0, p1, p2, p3, p4, p5, p6, p7, p8, p9, p10, p11⟩ := HF.out _ h0
  go_wp2_with fail
  rw [HW10.out]
  refine (HIS.out _ h0 _ HTH.out _ _ HE5.out HU6.out).mono ?_
  rintro e w11 ⟨rfl, b11⟩
  obtain ⟨p0, p1, p2, p3, p4, p5, p6, p7, p8, p9, p10, p11⟩ := HF.out _ b11
  go_wp2_with fail
  refine (HNT.out _ b11).mono ?_
  rintro e w12 ⟨rfl, b12⟩
  have b12 := pure_trans b11 b12
  obtain ⟨p0, p1, p2, p3, p4, p5, p6, p7, p8, p9, p10, p11⟩ := HF.out _ b12
  go_wp2_with fail
  refine (HIS.out _ b12 _ HTW.out _ _ (HE8.out.below b12) (HU9.out.below b12)).mono ?_
  rintro e w13 ⟨rfl, b13⟩
  have b13 := pure_trans b12 b13
  obtain ⟨p0, p1, p2, p3, p4, p5, p6, p7, p8, p9, p10, p11⟩ := HF.out _ b13
  go_wp2_with fail
  refine (HKP.out _ b13).mono ?_
  rintro e w14 ⟨rfl, b14⟩
  have b14 := pure_trans b13 b14
  go_wp2_with fail
  refine (HKE.out _ b14).mono ?_
  rintro e w15 ⟨rfl, b15⟩
  have b15 := pure_trans b14 b15
  go_wp2_with fail
  go_ret
  exact ⟨rfl, HB10.out.trans (b15.mono HB10.out.size)⟩
end Go.Proofs.YthilnpfpllplaaaGreatDoor
