/- The call of FormsKeeps: it returns true. Condition: the table reads from memory; the error variables hold what E says. -/
import Derived.Test.YtnahcgndidbliaaDoorLaw5A
import Derived.Test.YtnahcgndidbliaaDoorFormN
import Derived.Test.YtnahcgndidbliaaDoorRanged
namespace Go.Proofs.YtnahcgndidbliaaDoor
open Go.RowKit RuleP

theorem power_one (w : World) (E : Nat → Addr) (hE : Errs w E) (k r : Nat) (A : Option Addr) (n c : Nat) (t : List Nat) (hr : IsRule k r t) (hT : Sl w A n ((ints t).map (Value.int .i64))) :
    Calls Tryd.prog 16 #[ruleV k r A n c, .int .i64 1] w (RuleRes w E k r (ints t) none) := by
  have hp : pw k r t 1 = t := by
    show comp k r t (0 * r) (idT k) = t
    rw [Nat.zero_mul]
    exact comp_id hr
  by_cases h0 : r = 0
  · have h := power_zero w E hE k r A n c t hr hT h0 1 (by omega)
    subst h0
    rw [hp] at h
    exact h
  · have h := power_pos w E hE k r A n c t hr hT 1 (3 / r) (by omega) rfl (by
      have h3 := hr.r3
      have h4 : r = 1 ∨ r = 2 ∨ r = 3 := by omega
      rcases h4 with rfl | rfl | rfl <;> decide)
    rw [hp, Nat.one_mul] at h
    exact h
theorem widen_same (w : World) (E : Nat → Addr) (hE : Errs w E) (k r : Nat) (A : Option Addr) (n c : Nat) (t : List Nat) (hr : IsRule k r t) (hT : Sl w A n ((ints t).map (Value.int .i64))) :
    Calls Tryd.prog 15 #[ruleV k r A n c, .int .i64 (r : Int)] w (RuleRes w E k r (ints t) none) := by
  have h := widen_good w E hE k r A n c t hr hT 0 r (Nat.add_zero r) hr.r3
  rw [wide_zero hr] at h
  exact h

set_option maxRecDepth 100000 in
set_option maxHeartbeats 4000000 in
theorem formsKeeps_bad (w : World) (E : Nat → Addr) (hE : Errs w E) (K R : Int) (A : Option Addr) (n c : Nat) (T : List Int) (hS : Sl w A n (T.map (Value.int .i64))) (hn : n ≤ c) (hz : c * 8 ≤ 140737488351232) (tl : Tale) (hc : checkF 0 K R T = some tl) :
    Calls Tryd.prog 4 #[ruleV K R A n c] w fun e w' => e = .returned (.bool true) ∧ Below w.heap.size w w' := by
  have hb0 := (Below.refl w.heap.size w).alloc (Nat.le_refl _) (.cells #[.int .i64 K, .int .i64 R, .slice A n c] 24)
  have HE := Lib.hid (hE.below hb0)
  have hr0 := RuleAt.new w (.int .i64 K) (.int .i64 R) (.slice A n c)
  have hn8 : n * 8 ≤ 140737488351232 := by omega
  unfold ruleV at *
  go_enter Tryd.func4, Tryd.ntmps4
  go_wp2_with fail
  refine (awake5_c _ E HE.out).mono ?_
  rintro e w1 ⟨rfl, b1⟩
  have hr1 := hr0.below b1 (by simp)
  have hb1 := below_box b1
  obtain ⟨r0, r1, r2, _⟩ := hr1.facts
  clear b1 hb0 hr0
  go_wp2_with fail
  refine (lentRule_c w1 K R A n c _ (hS.below hb1) (ints_one _) hn8).mono ?_
  rintro e w2 ⟨g, rfl, hg, hown, b2⟩
  have hg2 := (hown.lt g rfl).2
  have hb2 := hb1.trans (b2.mono hb1.size)
  have hr2 := hr1.below b2 hr1.lt
  have hm3 := RuleAt.new w2 (.int .i64 K) (.int .i64 R) (.slice (some ⟨g, 0, none⟩) n (n + 2))
  have b3 := (Below.refl w2.heap.size w2).alloc (Nat.le_refl _) (.cells #[.int .i64 K, .int .i64 R, .slice (some ⟨g, 0, none⟩) n (n + 2)] 24)
  unfold ruleV
  obtain ⟨u0, hu0⟩ : ∃ u0, w2.alloc (.cells #[.int .i64 K, .int .i64 R, .slice (some ⟨g, 0, none⟩) n (n + 2)] 24) = u0 := ⟨_, rfl⟩
  have HU0 := Lib.hid hu0
  rw [hu0] at hm3 b3
  have hb3 := hb2.trans (b3.mono hb2.size)
  have hr3 := hr2.below b3 hr2.lt
  have hM3 := own_below hown b3
  have hA3 : Sl u0 (some ⟨g, 0, none⟩) n (T.map (Value.int .i64)) := sl_take' (Sl.of_own hM3) (by simpa using hS.1)
  have HM := Lib.hid hM3
  have hl0 : w.heap.size < u0.heap.size := hr3.lt
  have hl2 : w2.heap.size < u0.heap.size := hm3.lt
  have HLT := Lib.hid (⟨hl0, hl2, hr2.lt, hg2⟩ : _ ∧ _ ∧ _ ∧ _)
  have HFX := Lib.hid (fun (wz : World) (hz : Below u0.heap.size u0 wz) => (⟨(hm3.below hz hm3.lt).facts.1, (hm3.below hz hm3.lt).facts.2.1, (hm3.below hz hm3.lt).facts.2.2.1, (hr3.below hz hr3.lt).facts.1, (hr3.below hz hr3.lt).facts.2.1, (hr3.below hz hr3.lt).facts.2.2.1⟩ : _ ∧ _ ∧ _ ∧ _ ∧ _ ∧ _))
  have HRR := Lib.hid (⟨hm3, hr3⟩ : _ ∧ _)
  have HTT := Lib.hid (fun (wz : World) (hz : Below u0.heap.size u0 wz) => (⟨hE.below (hb3.trans (hz.mono hb3.size)), hA3.below hz, hS.below (hb3.trans (hz.mono hb3.size))⟩ : _ ∧ _ ∧ _))
  have HB0 := Lib.hid hb3
  have hb00 := Below.refl u0.heap.size u0
  have H0 := Lib.hid hb00
  obtain ⟨hE0, hA0, _⟩ := HTT.out u0 hb00

  have HCK := Lib.hid hc
  clear hc
  obtain ⟨hE0, hA0, _⟩ := HTT.out u0 H0.out
  have hc := narrow_bad u0 E hE0 K R (some ⟨g, 0, none⟩) n (n + 2) T hA0 (by omega) tl HCK.out
  unfold ruleV at hc
  have HC0 := Lib.hid hc
  clear hc hE0 hA0
  clear hm3 hr3 hr2 hr1 hM3 hown b2 b3 hb1 hb2 hb3 hE hS hu0 hA3 hb00 r0 r1 r2
  go_wp2_with fail
  rw [HU0.out]
  refine (HC0.out).mono ?_
  rintro e v0 ⟨C0, N0, d0, x0, rfl, ho, he, hb⟩
  have he' : ErrIs v0 E tl.1 tl.2 x0 := he
  obtain ⟨y0, q0, rfl⟩ := he'.iface
  have hN : N0 = 0 := (Sl.of_own ho).1.symm
  subst hN
  clear he he'
  have hcv := H0.out.trans (hb.mono H0.out.size)
  obtain ⟨a0, a1, a2, r0, r1, r2⟩ := HFX.out v0 hcv
  have hl0 : w.heap.size < v0.heap.size := Nat.lt_of_lt_of_le HLT.out.1 hcv.size
  have hl2 : w2.heap.size < v0.heap.size := Nat.lt_of_lt_of_le HLT.out.2.1 hcv.size
  have ba := (Below.refl v0.heap.size v0).alloc (Nat.le_refl _) (.cells #[.int .i64 0, .int .i64 0, .slice C0 0 d0] 24)
  have hx := RuleAt.new v0 (.int .i64 0) (.int .i64 0) (.slice C0 0 d0)
  obtain ⟨u1, hu⟩ : ∃ u, v0.alloc (.cells #[.int .i64 0, .int .i64 0, .slice C0 0 d0] 24) = u := ⟨_, rfl⟩
  rw [hu] at ba hx
  have HU1 := Lib.hid hu
  have HV1 := Lib.hid (show v0.heap.size < u1.heap.size from hx.lt)
  have H1 := Lib.hid (hcv.trans (ba.mono hcv.size))
  clear hcv ba hx hu ho hb
  obtain ⟨hE1, hA1, _⟩ := HTT.out u1 H1.out
  have hc := narrow_bad u1 E hE1 K R (some ⟨g, 0, none⟩) n (n + 2) T hA1 (by omega) tl HCK.out
  unfold ruleV at hc
  have HC1 := Lib.hid hc
  clear hc hE1 hA1
  unfold ruleV
  go_wp2_with fail
  rw [HU1.out]
  clear a0 a1 a2 r0 r1 r2 hl0 hl2
  refine (HC1.out).mono ?_
  rintro e v1 ⟨C1, N1, d1, x1, rfl, ho, he, hb⟩
  have he' : ErrIs v1 E tl.1 tl.2 x1 := he
  obtain ⟨y1, q1, rfl⟩ := he'.iface
  have hN : N1 = 0 := (Sl.of_own ho).1.symm
  subst hN
  clear he he'
  have hcv := H1.out.trans (hb.mono H1.out.size)
  obtain ⟨a0, a1, a2, r0, r1, r2⟩ := HFX.out v1 hcv
  have hl0 : w.heap.size < v1.heap.size := Nat.lt_of_lt_of_le HLT.out.1 hcv.size
  have hl2 : w2.heap.size < v1.heap.size := Nat.lt_of_lt_of_le HLT.out.2.1 hcv.size
  have ba := (Below.refl v1.heap.size v1).alloc (Nat.le_refl _) (.cells #[.int .i64 0, .int .i64 0, .slice C1 0 d1] 24)
  have hx := RuleAt.new v1 (.int .i64 0) (.int .i64 0) (.slice C1 0 d1)
  obtain ⟨u2, hu⟩ : ∃ u, v1.alloc (.cells #[.int .i64 0, .int .i64 0, .slice C1 0 d1] 24) = u := ⟨_, rfl⟩
  rw [hu] at ba hx
  have HU2 := Lib.hid hu
  have HV2 := Lib.hid (show v1.heap.size < u2.heap.size from hx.lt)
  have H2 := Lib.hid (hcv.trans (ba.mono hcv.size))
  clear hcv ba hx hu ho hb
  obtain ⟨hE2, hA2, _⟩ := HTT.out u2 H2.out
  have hc := widen_bad u2 E hE2 K R (some ⟨g, 0, none⟩) n (n + 2) T hA2 (by omega) R tl HCK.out
  unfold ruleV at hc
  have HC2 := Lib.hid hc
  clear hc hE2 hA2
  unfold ruleV
  go_wp2_with fail
  rw [HU2.out]
  clear a0 a1 a2 r0 r1 r2 hl0 hl2
  refine (HC2.out).mono ?_
  rintro e v2 ⟨C2, N2, d2, x2, rfl, ho, he, hb⟩
  have he' : ErrIs v2 E tl.1 tl.2 x2 := he
  obtain ⟨y2, q2, rfl⟩ := he'.iface
  have hN : N2 = 0 := (Sl.of_own ho).1.symm
  subst hN
  clear he he'
  have hcv := H2.out.trans (hb.mono H2.out.size)
  obtain ⟨a0, a1, a2, r0, r1, r2⟩ := HFX.out v2 hcv
  have hl0 : w.heap.size < v2.heap.size := Nat.lt_of_lt_of_le HLT.out.1 hcv.size
  have hl2 : w2.heap.size < v2.heap.size := Nat.lt_of_lt_of_le HLT.out.2.1 hcv.size
  have ba := (Below.refl v2.heap.size v2).alloc (Nat.le_refl _) (.cells #[.int .i64 0, .int .i64 0, .slice C2 0 d2] 24)
  have hx := RuleAt.new v2 (.int .i64 0) (.int .i64 0) (.slice C2 0 d2)
  obtain ⟨u3, hu⟩ : ∃ u, v2.alloc (.cells #[.int .i64 0, .int .i64 0, .slice C2 0 d2] 24) = u := ⟨_, rfl⟩
  rw [hu] at ba hx
  have HU3 := Lib.hid hu
  have HV3 := Lib.hid (show v2.heap.size < u3.heap.size from hx.lt)
  have H3 := Lib.hid (hcv.trans (ba.mono hcv.size))
  clear hcv ba hx hu ho hb
  obtain ⟨hE3, hA3, _⟩ := HTT.out u3 H3.out
  have hc := power_bad u3 E hE3 K R (some ⟨g, 0, none⟩) n (n + 2) T hA3 (by omega) 1 tl HCK.out
  unfold ruleV at hc
  have HC3 := Lib.hid hc
  clear hc hE3 hA3
  unfold ruleV
  go_wp2_with fail
  rw [HU3.out]
  clear a0 a1 a2 r0 r1 r2 hl0 hl2
  refine (HC3.out).mono ?_
  rintro e v3 ⟨C3, N3, d3, x3, rfl, ho, he, hb⟩
  have he' : ErrIs v3 E tl.1 tl.2 x3 := he
  obtain ⟨y3, q3, rfl⟩ := he'.iface
  have hN : N3 = 0 := (Sl.of_own ho).1.symm
  subst hN
  clear he he'
  have hcv := H3.out.trans (hb.mono H3.out.size)
  obtain ⟨a0, a1, a2, r0, r1, r2⟩ := HFX.out v3 hcv
  have hl0 : w.heap.size < v3.heap.size := Nat.lt_of_lt_of_le HLT.out.1 hcv.size
  have hl2 : w2.heap.size < v3.heap.size := Nat.lt_of_lt_of_le HLT.out.2.1 hcv.size
  have ba := (Below.refl v3.heap.size v3).alloc (Nat.le_refl _) (.cells #[.int .i64 0, .int .i64 0, .slice C3 0 d3] 24)
  have hx := RuleAt.new v3 (.int .i64 0) (.int .i64 0) (.slice C3 0 d3)
  obtain ⟨u4, hu⟩ : ∃ u, v3.alloc (.cells #[.int .i64 0, .int .i64 0, .slice C3 0 d3] 24) = u := ⟨_, rfl⟩
  rw [hu] at ba hx
  have HU4 := Lib.hid hu
  have HV4 := Lib.hid (show v3.heap.size < u4.heap.size from hx.lt)
  have H4 := Lib.hid (hcv.trans (ba.mono hcv.size))
  clear hcv ba hx hu ho hb
  unfold ruleV
  have hz := HB0.out.trans (H4.out.mono HB0.out.size)
  have HZ := Lib.hid hz
  clear hz a0 a1 a2 r0 r1 r2 hl0 hl2
  go_wp2_with fail
  rw [HU4.out]
  go_ret
  exact ⟨rfl, HZ.out⟩

set_option maxRecDepth 100000 in
set_option maxHeartbeats 8000000 in
theorem formsKeeps_good (w : World) (E : Nat → Addr) (hE : Errs w E) (k r : Nat) (A : Option Addr) (n c : Nat) (t : List Nat) (hS : Sl w A n ((ints t).map (Value.int .i64))) (hn : n ≤ c) (hz : c * 8 ≤ 140737488351232) (hr : IsRule k r t) :
    Calls Tryd.prog 4 #[ruleV k r A n c] w fun e w' => e = .returned (.bool true) ∧ Below w.heap.size w w' := by
  have HRU := Lib.hid hr
  clear hr
  have hb0 := (Below.refl w.heap.size w).alloc (Nat.le_refl _) (.cells #[.int .i64 (k : Int), .int .i64 (r : Int), .slice A n c] 24)
  have HE := Lib.hid (hE.below hb0)
  have hr0 := RuleAt.new w (.int .i64 (k : Int)) (.int .i64 (r : Int)) (.slice A n c)
  have hn8 : n * 8 ≤ 140737488351232 := by omega
  unfold ruleV at *
  go_enter Tryd.func4, Tryd.ntmps4
  go_wp2_with fail
  refine (awake5_c _ E HE.out).mono ?_
  rintro e w1 ⟨rfl, b1⟩
  have hr1 := hr0.below b1 (by simp)
  have hb1 := below_box b1
  obtain ⟨r0, r1, r2, _⟩ := hr1.facts
  clear b1 hb0 hr0
  go_wp2_with fail
  refine (lentRule_c w1 (k : Int) (r : Int) A n c _ (hS.below hb1) (ints_one _) hn8).mono ?_
  rintro e w2 ⟨g, rfl, hg, hown, b2⟩
  have hg2 := (hown.lt g rfl).2
  have hb2 := hb1.trans (b2.mono hb1.size)
  have hr2 := hr1.below b2 hr1.lt
  have hm3 := RuleAt.new w2 (.int .i64 (k : Int)) (.int .i64 (r : Int)) (.slice (some ⟨g, 0, none⟩) n (n + 2))
  have b3 := (Below.refl w2.heap.size w2).alloc (Nat.le_refl _) (.cells #[.int .i64 (k : Int), .int .i64 (r : Int), .slice (some ⟨g, 0, none⟩) n (n + 2)] 24)
  unfold ruleV
  obtain ⟨u0, hu0⟩ : ∃ u0, w2.alloc (.cells #[.int .i64 (k : Int), .int .i64 (r : Int), .slice (some ⟨g, 0, none⟩) n (n + 2)] 24) = u0 := ⟨_, rfl⟩
  have HU0 := Lib.hid hu0
  rw [hu0] at hm3 b3
  have hb3 := hb2.trans (b3.mono hb2.size)
  have hr3 := hr2.below b3 hr2.lt
  have hM3 := own_below hown b3
  have hA3 : Sl u0 (some ⟨g, 0, none⟩) n ((ints t).map (Value.int .i64)) := sl_take' (Sl.of_own hM3) (by simpa using hS.1)
  have HM := Lib.hid hM3
  have hl0 : w.heap.size < u0.heap.size := hr3.lt
  have hl2 : w2.heap.size < u0.heap.size := hm3.lt
  have HLT := Lib.hid (⟨hl0, hl2, hr2.lt, hg2⟩ : _ ∧ _ ∧ _ ∧ _)
  have HFX := Lib.hid (fun (wz : World) (hz : Below u0.heap.size u0 wz) => (⟨(hm3.below hz hm3.lt).facts.1, (hm3.below hz hm3.lt).facts.2.1, (hm3.below hz hm3.lt).facts.2.2.1, (hr3.below hz hr3.lt).facts.1, (hr3.below hz hr3.lt).facts.2.1, (hr3.below hz hr3.lt).facts.2.2.1⟩ : _ ∧ _ ∧ _ ∧ _ ∧ _ ∧ _))
  have HRR := Lib.hid (⟨hm3, hr3⟩ : _ ∧ _)
  have HTT := Lib.hid (fun (wz : World) (hz : Below u0.heap.size u0 wz) => (⟨hE.below (hb3.trans (hz.mono hb3.size)), hA3.below hz, hS.below (hb3.trans (hz.mono hb3.size))⟩ : _ ∧ _ ∧ _))
  have HB0 := Lib.hid hb3
  have hb00 := Below.refl u0.heap.size u0
  have H0 := Lib.hid hb00
  obtain ⟨hE0, hA0, _⟩ := HTT.out u0 hb00

  obtain ⟨R2, hR2⟩ : ∃ R2, (narrow k r t).1 = R2 := ⟨_, rfl⟩
  obtain ⟨t2, ht2⟩ : ∃ t2, (narrow k r t).2 = t2 := ⟨_, rfl⟩
  have hN2 := fun (u : World) (hEu : Errs u E) (hAu : Sl u (some ⟨g, 0, none⟩) n ((ints t).map (Value.int .i64))) => narrow_good u E hEu k r (some ⟨g, 0, none⟩) n (n + 2) t HRU.out hAu
  rw [hR2, ht2] at hN2
  have HN2 := Lib.hid hN2
  have HL2 := Lib.hid (show t2.length ≤ 16384 by rw [← ht2]; exact (narrow_rule HRU.out).le)
  clear hN2 hR2 ht2
  obtain ⟨hE0, hA0, _⟩ := HTT.out u0 H0.out
  have hc := HN2.out u0 hE0 hA0
  unfold ruleV at hc
  have HC0 := Lib.hid hc
  clear hc hE0 hA0
  clear hm3 hr3 hr2 hr1 hM3 hown b2 b3 hb1 hb2 hb3 hE hS hu0 hA3 hb00 r0 r1 r2
  go_wp2_with fail
  rw [HU0.out]
  refine (HC0.out).mono ?_
  rintro e v0 ⟨C0, N0, d0, x0, rfl, ho, he, hb⟩
  have he' : x0 = .nilIface := he
  clear he
  subst he'
  have hcv := H0.out.trans (hb.mono H0.out.size)
  obtain ⟨a0, a1, a2, r0, r1, r2⟩ := HFX.out v0 hcv
  have hl0 : w.heap.size < v0.heap.size := Nat.lt_of_lt_of_le HLT.out.1 hcv.size
  have hl2 : w2.heap.size < v0.heap.size := Nat.lt_of_lt_of_le HLT.out.2.1 hcv.size
  have ba := (Below.refl v0.heap.size v0).alloc (Nat.le_refl _) (.cells #[.int .i64 (k : Int), .int .i64 (R2 : Int), .slice C0 N0 d0] 24)
  have hx := RuleAt.new v0 (.int .i64 (k : Int)) (.int .i64 (R2 : Int)) (.slice C0 N0 d0)
  obtain ⟨u1, hu⟩ : ∃ u, v0.alloc (.cells #[.int .i64 (k : Int), .int .i64 (R2 : Int), .slice C0 N0 d0] 24) = u := ⟨_, rfl⟩
  rw [hu] at ba hx
  have HU1 := Lib.hid hu
  have HV1 := Lib.hid (show v0.heap.size < u1.heap.size from hx.lt)
  have hw := (Row.of ho).below ba
  have HR0 := Lib.hid (fun (wz : World) (hz : Below u1.heap.size u1 wz) => (⟨hw.below hz, (hx.below hz hx.lt).facts.1, (hx.below hz hx.lt).facts.2.1, (hx.below hz hx.lt).facts.2.2.1⟩ : _ ∧ _ ∧ _ ∧ _))
  have hs0 := hb.size
  have HS0 := Lib.hid hs0
  have hst := hb.trans (ba.mono hb.size)
  have B1_1 := Lib.hid (Below.refl u1.heap.size u1)
  clear hw hst hs0
  have H1 := Lib.hid (hcv.trans (ba.mono hcv.size))
  clear hcv ba hx hu ho hb
  obtain ⟨hE1, hA1, _⟩ := HTT.out u1 H1.out
  have hc := HN2.out u1 hE1 hA1
  unfold ruleV at hc
  have HC1 := Lib.hid hc
  clear hc hE1 hA1
  unfold ruleV
  go_wp2_with fail
  rw [HU1.out]
  clear a0 a1 a2 r0 r1 r2 hl0 hl2
  refine (HC1.out).mono ?_
  rintro e v1 ⟨C1, N1, d1, x1, rfl, ho, he, hb⟩
  have he' : x1 = .nilIface := he
  clear he
  subst he'
  have hcv := H1.out.trans (hb.mono H1.out.size)
  obtain ⟨a0, a1, a2, r0, r1, r2⟩ := HFX.out v1 hcv
  have hl0 : w.heap.size < v1.heap.size := Nat.lt_of_lt_of_le HLT.out.1 hcv.size
  have hl2 : w2.heap.size < v1.heap.size := Nat.lt_of_lt_of_le HLT.out.2.1 hcv.size
  have ba := (Below.refl v1.heap.size v1).alloc (Nat.le_refl _) (.cells #[.int .i64 (k : Int), .int .i64 (R2 : Int), .slice C1 N1 d1] 24)
  have hx := RuleAt.new v1 (.int .i64 (k : Int)) (.int .i64 (R2 : Int)) (.slice C1 N1 d1)
  obtain ⟨u2, hu⟩ : ∃ u, v1.alloc (.cells #[.int .i64 (k : Int), .int .i64 (R2 : Int), .slice C1 N1 d1] 24) = u := ⟨_, rfl⟩
  rw [hu] at ba hx
  have HU2 := Lib.hid hu
  have HV2 := Lib.hid (show v1.heap.size < u2.heap.size from hx.lt)
  have hw := (Row.of ho).below ba
  have HR1 := Lib.hid (fun (wz : World) (hz : Below u2.heap.size u2 wz) => (⟨hw.below hz, (hx.below hz hx.lt).facts.1, (hx.below hz hx.lt).facts.2.1, (hx.below hz hx.lt).facts.2.2.1⟩ : _ ∧ _ ∧ _ ∧ _))
  have hs1 := hb.size
  have HS1 := Lib.hid hs1
  have hst := hb.trans (ba.mono hb.size)
  have B1_2 := Lib.hid (B1_1.out.trans (hst.mono B1_1.out.size))
  have B2_2 := Lib.hid (Below.refl u2.heap.size u2)
  clear hw hst hs1
  have H2 := Lib.hid (hcv.trans (ba.mono hcv.size))
  clear hcv ba hx hu ho hb
  obtain ⟨hE2, hA2, _⟩ := HTT.out u2 H2.out
  have hc := widen_same u2 E hE2 k r (some ⟨g, 0, none⟩) n (n + 2) t HRU.out hA2
  unfold ruleV at hc
  have HC2 := Lib.hid hc
  clear hc hE2 hA2
  unfold ruleV
  go_wp2_with fail
  rw [HU2.out]
  clear a0 a1 a2 r0 r1 r2 hl0 hl2
  refine (HC2.out).mono ?_
  rintro e v2 ⟨C2, N2, d2, x2, rfl, ho, he, hb⟩
  have he' : x2 = .nilIface := he
  clear he
  subst he'
  have hcv := H2.out.trans (hb.mono H2.out.size)
  obtain ⟨a0, a1, a2, r0, r1, r2⟩ := HFX.out v2 hcv
  have hl0 : w.heap.size < v2.heap.size := Nat.lt_of_lt_of_le HLT.out.1 hcv.size
  have hl2 : w2.heap.size < v2.heap.size := Nat.lt_of_lt_of_le HLT.out.2.1 hcv.size
  have ba := (Below.refl v2.heap.size v2).alloc (Nat.le_refl _) (.cells #[.int .i64 (k : Int), .int .i64 (r : Int), .slice C2 N2 d2] 24)
  have hx := RuleAt.new v2 (.int .i64 (k : Int)) (.int .i64 (r : Int)) (.slice C2 N2 d2)
  obtain ⟨u3, hu⟩ : ∃ u, v2.alloc (.cells #[.int .i64 (k : Int), .int .i64 (r : Int), .slice C2 N2 d2] 24) = u := ⟨_, rfl⟩
  rw [hu] at ba hx
  have HU3 := Lib.hid hu
  have HV3 := Lib.hid (show v2.heap.size < u3.heap.size from hx.lt)
  have hw := (Row.of ho).below ba
  have HR2 := Lib.hid (fun (wz : World) (hz : Below u3.heap.size u3 wz) => (⟨hw.below hz, (hx.below hz hx.lt).facts.1, (hx.below hz hx.lt).facts.2.1, (hx.below hz hx.lt).facts.2.2.1⟩ : _ ∧ _ ∧ _ ∧ _))
  have hs2 := hb.size
  have HS2 := Lib.hid hs2
  have hst := hb.trans (ba.mono hb.size)
  have B1_3 := Lib.hid (B1_2.out.trans (hst.mono B1_2.out.size))
  have B2_3 := Lib.hid (B2_2.out.trans (hst.mono B2_2.out.size))
  have B3_3 := Lib.hid (Below.refl u3.heap.size u3)
  clear hw hst hs2
  have H3 := Lib.hid (hcv.trans (ba.mono hcv.size))
  clear hcv ba hx hu ho hb
  obtain ⟨hE3, hA3, _⟩ := HTT.out u3 H3.out
  have hc := power_one u3 E hE3 k r (some ⟨g, 0, none⟩) n (n + 2) t HRU.out hA3
  unfold ruleV at hc
  have HC3 := Lib.hid hc
  clear hc hE3 hA3
  unfold ruleV
  go_wp2_with fail
  rw [HU3.out]
  clear a0 a1 a2 r0 r1 r2 hl0 hl2
  refine (HC3.out).mono ?_
  rintro e v3 ⟨C3, N3, d3, x3, rfl, ho, he, hb⟩
  have he' : x3 = .nilIface := he
  clear he
  subst he'
  have hcv := H3.out.trans (hb.mono H3.out.size)
  obtain ⟨a0, a1, a2, r0, r1, r2⟩ := HFX.out v3 hcv
  have hl0 : w.heap.size < v3.heap.size := Nat.lt_of_lt_of_le HLT.out.1 hcv.size
  have hl2 : w2.heap.size < v3.heap.size := Nat.lt_of_lt_of_le HLT.out.2.1 hcv.size
  have ba := (Below.refl v3.heap.size v3).alloc (Nat.le_refl _) (.cells #[.int .i64 (k : Int), .int .i64 (r : Int), .slice C3 N3 d3] 24)
  have hx := RuleAt.new v3 (.int .i64 (k : Int)) (.int .i64 (r : Int)) (.slice C3 N3 d3)
  obtain ⟨u4, hu⟩ : ∃ u, v3.alloc (.cells #[.int .i64 (k : Int), .int .i64 (r : Int), .slice C3 N3 d3] 24) = u := ⟨_, rfl⟩
  rw [hu] at ba hx
  have HU4 := Lib.hid hu
  have HV4 := Lib.hid (show v3.heap.size < u4.heap.size from hx.lt)
  have hw := (Row.of ho).below ba
  have HR3 := Lib.hid (fun (wz : World) (hz : Below u4.heap.size u4 wz) => (⟨hw.below hz, (hx.below hz hx.lt).facts.1, (hx.below hz hx.lt).facts.2.1, (hx.below hz hx.lt).facts.2.2.1⟩ : _ ∧ _ ∧ _ ∧ _))
  have hs3 := hb.size
  have HS3 := Lib.hid hs3
  have hst := hb.trans (ba.mono hb.size)
  have B1_4 := Lib.hid (B1_3.out.trans (hst.mono B1_3.out.size))
  have B2_4 := Lib.hid (B2_3.out.trans (hst.mono B2_3.out.size))
  have B3_4 := Lib.hid (B3_3.out.trans (hst.mono B3_3.out.size))
  have B4_4 := Lib.hid (Below.refl u4.heap.size u4)
  clear hw hst hs3
  have H4 := Lib.hid (hcv.trans (ba.mono hcv.size))
  clear hcv ba hx hu ho hb
  obtain ⟨hE4, hA4, _⟩ := HTT.out u4 H4.out
  have hc := mirror_good u4 E hE4 k r (some ⟨g, 0, none⟩) n (n + 2) t HRU.out hA4
  unfold ruleV at hc
  have HC4 := Lib.hid hc
  clear hc hE4 hA4
  unfold ruleV
  go_wp2_with fail
  rw [HU4.out]
  clear a0 a1 a2 r0 r1 r2 hl0 hl2
  refine (HC4.out).mono ?_
  rintro e v4 ⟨C4, N4, d4, x4, rfl, ho, he, hb⟩
  have he' : x4 = .nilIface := he
  clear he
  subst he'
  have hcv := H4.out.trans (hb.mono H4.out.size)
  obtain ⟨a0, a1, a2, r0, r1, r2⟩ := HFX.out v4 hcv
  have hl0 : w.heap.size < v4.heap.size := Nat.lt_of_lt_of_le HLT.out.1 hcv.size
  have hl2 : w2.heap.size < v4.heap.size := Nat.lt_of_lt_of_le HLT.out.2.1 hcv.size
  have ba := (Below.refl v4.heap.size v4).alloc (Nat.le_refl _) (.cells #[.int .i64 (k : Int), .int .i64 (r : Int), .slice C4 N4 d4] 24)
  have hx := RuleAt.new v4 (.int .i64 (k : Int)) (.int .i64 (r : Int)) (.slice C4 N4 d4)
  obtain ⟨u5, hu⟩ : ∃ u, v4.alloc (.cells #[.int .i64 (k : Int), .int .i64 (r : Int), .slice C4 N4 d4] 24) = u := ⟨_, rfl⟩
  rw [hu] at ba hx
  have HU5 := Lib.hid hu
  have HV5 := Lib.hid (show v4.heap.size < u5.heap.size from hx.lt)
  have hw := (Row.of ho).below ba
  have HR4 := Lib.hid (fun (wz : World) (hz : Below u5.heap.size u5 wz) => (⟨hw.below hz, (hx.below hz hx.lt).facts.1, (hx.below hz hx.lt).facts.2.1, (hx.below hz hx.lt).facts.2.2.1⟩ : _ ∧ _ ∧ _ ∧ _))
  have hs4 := hb.size
  have HS4 := Lib.hid hs4
  have hst := hb.trans (ba.mono hb.size)
  have B1_5 := Lib.hid (B1_4.out.trans (hst.mono B1_4.out.size))
  have B2_5 := Lib.hid (B2_4.out.trans (hst.mono B2_4.out.size))
  have B3_5 := Lib.hid (B3_4.out.trans (hst.mono B3_4.out.size))
  have B4_5 := Lib.hid (B4_4.out.trans (hst.mono B4_4.out.size))
  have B5_5 := Lib.hid (Below.refl u5.heap.size u5)
  clear hw hst hs4
  obtain ⟨_, c0, c1, c2⟩ := HR2.out v4 (B3_4.out.trans (hb.mono B3_4.out.size))
  have hl3 : v2.heap.size < v4.heap.size := by have := HV3.out; have := HS4.out; have := B3_4.out.size; omega
  have H5 := Lib.hid (hcv.trans (ba.mono hcv.size))
  clear hcv ba hx hu ho hb
  have h5 := H5.out
  have hrr := rules_b u5 k r k r C2 A N2 n d2 c (ints t) (ints t) (HR2.out u5 B3_5.out).1.sl (HTT.out u5 h5).2.2 (by have := own_le (HR2.out u5 B3_5.out).1.own; simp only [maxLen] at this; omega) (by omega)
  rw [decide_eq_true ⟨rfl, rfl, rfl⟩] at hrr
  unfold ruleV at hrr
  have HQ5 := Lib.hid hrr
  clear hrr h5
  unfold ruleV
  go_wp2_with fail
  rw [HU5.out]
  refine (HQ5.out).mono ?_
  rintro e y6 ⟨rfl, b6⟩
  clear a0 a1 a2 r0 r1 r2 hl0 hl2 hl3 c0 c1 c2
  have h6 := H5.out.trans (b6.mono H5.out.size)
  obtain ⟨_, _, _, r0, r1, r2⟩ := HFX.out y6 h6
  have h46 := B4_5.out.trans (b6.mono B4_5.out.size)
  obtain ⟨hw3, d0', d1', d2'⟩ := HR3.out y6 h46
  have hrr := rules_b y6 k r k r C3 A N3 n d3 c (ints t) (ints t) hw3.sl (HTT.out y6 h6).2.2 (by have := own_le hw3.own; simp only [maxLen] at this; omega) (by omega)
  rw [decide_eq_true ⟨rfl, rfl, rfl⟩] at hrr
  unfold ruleV at hrr
  have HQ6 := Lib.hid hrr
  have H6 := Lib.hid h6
  have B16 := Lib.hid (B1_5.out.trans (b6.mono B1_5.out.size))
  have B26 := Lib.hid (B2_5.out.trans (b6.mono B2_5.out.size))
  have B36 := Lib.hid (B3_5.out.trans (b6.mono B3_5.out.size))
  have B46 := Lib.hid h46
  have B56 := Lib.hid (B5_5.out.trans (b6.mono B5_5.out.size))
  clear hrr h6 h46 hw3 b6
  go_wp2_with fail
  refine (HQ6.out).mono ?_
  rintro e y7 ⟨rfl, b7⟩
  clear r0 r1 r2 d0' d1' d2'
  obtain ⟨hw0, a0, a1, a2⟩ := HR0.out y7 (B16.out.trans (b7.mono B16.out.size))
  obtain ⟨hw1, c0, c1, c2⟩ := HR1.out y7 (B26.out.trans (b7.mono B26.out.size))
  have hrr := rules_b y7 k R2 k R2 C0 C1 N0 N1 d0 d1 (ints t2) (ints t2) hw0.sl hw1.sl (by have := own_le hw0.own; simp only [maxLen] at this; omega) (by have := own_le hw1.own; simp only [maxLen] at this; omega)
  rw [decide_eq_true ⟨rfl, rfl, rfl⟩] at hrr
  unfold ruleV at hrr
  have HQ7 := Lib.hid hrr
  have H7 := Lib.hid (H6.out.trans (b7.mono H6.out.size))
  have B17 := Lib.hid (B16.out.trans (b7.mono B16.out.size))
  have B27 := Lib.hid (B26.out.trans (b7.mono B26.out.size))
  have B37 := Lib.hid (B36.out.trans (b7.mono B36.out.size))
  have B47 := Lib.hid (B46.out.trans (b7.mono B46.out.size))
  have B57 := Lib.hid (B56.out.trans (b7.mono B56.out.size))
  clear hrr hw0 hw1 b7
  go_wp2_with fail
  refine (HQ7.out).mono ?_
  rintro e y8 ⟨rfl, b8⟩
  clear a0 a1 a2 c0 c1 c2
  obtain ⟨hw0, a0, a1, a2⟩ := HR0.out y8 (B17.out.trans (b8.mono B17.out.size))
  obtain ⟨hw1, c0, c1, c2⟩ := HR1.out y8 (B27.out.trans (b8.mono B27.out.size))
  obtain ⟨hw2, f0, f1, f2⟩ := HR2.out y8 (B37.out.trans (b8.mono B37.out.size))
  obtain ⟨hw3, i0, i1, i2⟩ := HR3.out y8 (B47.out.trans (b8.mono B47.out.size))
  obtain ⟨hw4, j0, j1, j2⟩ := HR4.out y8 (B57.out.trans (b8.mono B57.out.size))
  have h8 := H7.out.trans (b8.mono H7.out.size)
  have HW := Lib.hid (⟨hw0, hw1, hw2, hw3, hw4⟩ : _ ∧ _ ∧ _ ∧ _ ∧ _)
  have H8 := Lib.hid h8
  clear hw0 hw1 hw2 hw3 hw4 h8 b8
  go_wp2_with fail

  have ba : Below y8.heap.size y8 (y8.alloc (.cells #[.slice C0 N0 d0, .slice C1 N1 d1, .slice C2 N2 d2, .slice C3 N3 d3, .slice C4 N4 d4] 22)) := (Below.refl _ _).alloc (Nat.le_refl _) _
  have hlit := World.ownsRow_lit (base := y8.heap.size) (e := 22) (size := 1) y8 #[.slice C0 N0 d0, .slice C1 N1 d1, .slice C2 N2 d2, .slice C3 N3 d3, .slice C4 N4 d4] 5 (Nat.le_refl _) (by decide) rfl
  obtain ⟨ya, hya⟩ : ∃ ya, y8.alloc (.cells #[.slice C0 N0 d0, .slice C1 N1 d1, .slice C2 N2 d2, .slice C3 N3 d3, .slice C4 N4 d4] 22) = ya := ⟨_, rfl⟩
  rw [hya]
  rw [hya] at ba hlit
  have hu8 := H8.out.size
  obtain ⟨hw0, hw1, hw2, hw3, hw4⟩ := HW.out
  have l0 : (ints t2).length = N0 := by simpa using hw0.sl.1
  have l1 : (ints t2).length = N1 := by simpa using hw1.sl.1
  have l2 : (ints t).length = N2 := by simpa using hw2.sl.1
  have l3 : (ints t).length = N3 := by simpa using hw3.sl.1
  have l4 : (ints (mir k r t)).length = N4 := by simpa using hw4.sl.1
  have hrg : Ranged ya u0.heap.size [(.slice C0 N0 d0, ints t2), (.slice C1 N1 d1, ints t2), (.slice C2 N2 d2, ints t), (.slice C3 N3 d3, ints t), (.slice C4 N4 d4, ints (mir k r t))] :=
    .cons (Nat.le_refl _) HS0.out (hw0.below ba) l0 (Nat.le_of_lt HV1.out) (.cons (Nat.le_refl _) HS1.out (hw1.below ba) l1 (Nat.le_of_lt HV2.out) (.cons (Nat.le_refl _) HS2.out (hw2.below ba) l2 (Nat.le_of_lt HV3.out) (.cons (Nat.le_refl _) HS3.out (hw3.below ba) l3 (Nat.le_of_lt HV4.out) (.cons (Nat.le_refl _) HS4.out (hw4.below ba) l4 (Nat.le_of_lt HV5.out) (.nil _ _)))))
  have hin : ∀ b, Apart.Foot [(.slice C0 N0 d0, ints t2), (.slice C1 N1 d1, ints t2), (.slice C2 N2 d2, ints t), (.slice C3 N3 d3, ints t), (.slice C4 N4 d4, ints (mir k r t))] b → u0.heap.size ≤ b ∧ b < y8.heap.size := by
    intro b hf
    refine ⟨hrg.foot hf, ?_⟩
    obtain ⟨p, hp, hg⟩ := hf
    simp only [List.mem_cons, List.not_mem_nil, or_false] at hp
    rcases hp with rfl | rfl | rfl | rfl | rfl
    · exact (hw0.own.lt b hg).2
    · exact (hw1.own.lt b hg).2
    · exact (hw2.own.lt b hg).2
    · exact (hw3.own.lt b hg).2
    · exact (hw4.own.lt b hg).2
  have hle1 := HRU.out.le
  have hle2 := (mir_rule HRU.out).le
  have hle3 := HL2.out
  refine (apart_r ya (some ⟨y8.heap.size, 0, none⟩) 5 5 _ u0.heap.size (Sl.of_own hlit) hrg ?_ (by decide) ?_).mono ?_
  · rintro ad had hf
    cases had
    have h := (hin _ hf).2
    simp only at h
    omega
  · intro p hp
    simp only [List.mem_cons, List.not_mem_nil, or_false] at hp
    rcases hp with rfl | rfl | rfl | rfl | rfl <;> simp only [ints_len] <;> omega
  rintro e y9 ⟨rfl, hk9⟩
  have hba := H8.out.trans (ba.mono hu8)
  obtain ⟨hl1, hl2, hl3, hg2⟩ := HLT.out
  have hm9 := (HRR.out.1.below hba hl2).keeps hk9 (fun h => by have := (hin _ h).1; omega)
  have hr9 := (HRR.out.2.below hba hl1).keeps hk9 (fun h => by have := (hin _ h).1; omega)
  have hM9 := own_keeps (own_below HM.out hba) hk9 (fun b hb h => by simp [Value.ownBlock] at hb; have := (hin _ h).1; omega)
  have hb9 := hba.trans (hk9.below (Nat.le_trans hu8 ba.size) (fun b h => (hin b h).1))
  have HKR := Lib.hid (keptRule_c y9 k r (some ⟨g, 0, none⟩) A n (n + 2) c (ints t) ((HTT.out y9 hb9).2.2) (Sl.of_own hM9) (Nat.le_refl _) (by simp only [maxLen]; omega))
  unfold ruleV at HKR
  have HB9 := Lib.hid (HB0.out.trans (hb9.mono HB0.out.size))
  obtain ⟨m0, m1, m2, _⟩ := hm9.facts
  obtain ⟨r0, r1, r2, _⟩ := hr9.facts
  clear hya hlit ba hrg hin hle1 hle2 hle3 hk9 hba hm9 hr9 hM9 hb9 hw0 hw1 hw2 hw3 hw4 l0 l1 l2 l3 l4 hu8 a0 a1 a2 c0 c1 c2 f0 f1 f2 i0 i1 i2 j0 j1 j2 hl1 hl2 hl3 hg2
  go_wp2_with fail
  refine (HKR.out).mono ?_
  rintro e y10 ⟨rfl, b10⟩
  have HB10 := Lib.hid (HB9.out.trans (b10.mono HB9.out.size))
  clear b10
  go_wp2_with fail
  go_ret
  exact ⟨rfl, HB10.out⟩

theorem formsKeeps_c (w : World) (E : Nat → Addr) (hE : Errs w E) (K R : Int) (A : Option Addr) (n c : Nat) (T : List Int) (hS : Sl w A n (T.map (Value.int .i64))) (hn : n ≤ c) (hz : c * 8 ≤ 140737488351232) :
    Calls Tryd.prog 4 #[ruleV K R A n c] w fun e w' => e = .returned (.bool true) ∧ Below w.heap.size w w' := by
  cases h : checkF 0 K R T with
  | some tl => exact formsKeeps_bad w E hE K R A n c T hS hn hz tl h
  | none =>
    obtain ⟨k, r, t, rfl, rfl, rfl, hr⟩ := checkF_none h
    exact formsKeeps_good w E hE k r A n c t hS hn hz hr
end Go.Proofs.YtnahcgndidbliaaDoor
