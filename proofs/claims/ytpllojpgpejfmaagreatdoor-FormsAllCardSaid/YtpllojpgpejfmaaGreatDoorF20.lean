/- The document's powers at fault: edenref05.Power of a good rule. Condition: the table reads from memory. -/
import Derived.Test.YtpllojpgpejfmaaGreatDoorF17
namespace Go.Proofs.YtpllojpgpejfmaaGreatDoor
open Go.RowKit RuleP

set_option maxRecDepth 100000 in
set_option maxHeartbeats 2000000 in
theorem power5_neg (w : World) (k r : Nat) (A : Option Addr) (n c : Nat) (t : List Nat) (hr : IsRule k r t) (hT : Sl w A n ((ints t).map (Value.int .i64))) (x : Int) (hx : x < 0) :
    Calls Tryz.prog 25 #[ruleV (k : Int) (r : Int) A n c, .int .i64 x] w (Rule5E w 0 0 [] (some (3, [(sForms, 0)]))) := by
  have hn : t.length = n := by simpa [ints] using hT.1
  have hn16 := hr.le
  rw [hn] at hn16
  have hk1 := hr.k1
  have hk4 := hr.k4
  have hr3 := hr.r3
  have hr0 := ((RuleAt.new w (.int .i64 (k : Int)) (.int .i64 (r : Int)) (.slice A n c)).alloc (.cells #[.int .i64 0, .int .i64 0, .slice none 0 0] 26)).alloc (.cells #[.int .i64 0, .slice none 0 0, .slice none 0 0] 45)
  have hz0 := (RuleAt.new (w.alloc (.cells #[.int .i64 (k : Int), .int .i64 (r : Int), .slice A n c] 26)) (.int .i64 0) (.int .i64 0) (.slice none 0 0)).alloc (.cells #[.int .i64 0, .slice none 0 0, .slice none 0 0] 45)
  have hw0 := WantAt.new ((w.alloc (.cells #[.int .i64 (k : Int), .int .i64 (r : Int), .slice A n c] 26)).alloc (.cells #[.int .i64 0, .int .i64 0, .slice none 0 0] 26)) (.int .i64 0) (.slice none 0 0) (.slice none 0 0)
  rw [World.size_alloc] at hz0
  rw [World.size_alloc, World.size_alloc] at hw0
  have hb0 := (((Below.refl w.heap.size w).alloc (Nat.le_refl _) (.cells #[.int .i64 (k : Int), .int .i64 (r : Int), .slice A n c] 26)).alloc (by simp) (.cells #[.int .i64 0, .int .i64 0, .slice none 0 0] 26)).alloc (by simp; omega) (.cells #[.int .i64 0, .slice none 0 0, .slice none 0 0] 45)
  obtain ⟨wx, hwx⟩ : ∃ wx, ((w.alloc (.cells #[.int .i64 (k : Int), .int .i64 (r : Int), .slice A n c] 26)).alloc (.cells #[.int .i64 0, .int .i64 0, .slice none 0 0] 26)).alloc (.cells #[.int .i64 0, .slice none 0 0, .slice none 0 0] 45) = wx := ⟨_, rfl⟩
  have hsx : wx.heap.size = w.heap.size + 3 := by rw [← hwx]; simp
  have HWX := Lib.hid hwx
  obtain ⟨q0, q1, q2, _⟩ := hr0.facts
  rw [hwx] at hr0 hz0 hw0 hb0
  have hf := fault5_c wx 0 (k : Int) (r : Int) A n c (ints t) (hT.below hb0) (by omega)
  rw [checkF_rule 0 hr] at hf
  have HF := Lib.hid hf
  have HR0 := Lib.hid hr0
  have HZ0 := Lib.hid hz0
  have HW0 := Lib.hid hw0
  have HB0 := Lib.hid hb0
  have HRU := Lib.hid hr
  have HT := Lib.hid (fun (wz : World) (hz : Below w.heap.size w wz) => hT.below hz)
  have HN := Lib.hid hn
  clear hf hwx hr0 hz0 hw0 hb0 hr hT hn
  unfold ruleV at *
  go_enter Tryz.func25, Tryz.ntmps25
  go_wp2_with fail
  rw [HWX.out]
  clear q0 q1 q2
  refine (HF.out).mono ?_
  rintro e w1 ⟨N, A1, n1, c1, A2, n2, c2, rfl, hu, hb1⟩
  obtain rfl : N = 0 := hu.num
  obtain ⟨rfl, rfl, rfl, rfl, rfl, rfl⟩ : A1 = none ∧ n1 = 0 ∧ c1 = 0 ∧ A2 = none ∧ n2 = 0 ∧ c2 = 0 := by
    have e := hu.none_eq
    simp at e
    obtain ⟨⟨q1, q2, q3⟩, q4, q5, q6⟩ := e
    exact ⟨q1, q2, q3, q4, q5, q6⟩
  have hb2 : Below w1.heap.size w1 (w1.alloc (.cells #[.int .i64 0, .slice none 0 0, .slice none 0 0] 45)) := (Below.refl _ _).alloc (Nat.le_refl _) _
  have hv2 := WantAt.new w1 (.int .i64 0) (.slice none 0 0) (.slice none 0 0)
  obtain ⟨wy, hwy⟩ : ∃ wy, w1.alloc (.cells #[.int .i64 0, .slice none 0 0, .slice none 0 0] 45) = wy := ⟨_, rfl⟩
  have HWY := Lib.hid hwy
  have hlt2 : w1.heap.size < wy.heap.size := by rw [← hwy]; simp
  rw [hwy] at hb2 hv2
  have hs1 := hb1.size
  have hr2 := (HR0.out.below hb1 (by omega)).below hb2 (by omega)
  have hz2 := (HZ0.out.below hb1 (by omega)).below hb2 (by omega)
  have hw2 := (HW0.out.below hb1 (by omega)).below hb2 (by omega)
  have hbx := HB0.out.trans ((hb1.trans (hb2.mono hb1.size)).mono HB0.out.size)
  have HBAD := Lib.hid (badZero5 wy)
  obtain ⟨ge, hge'⟩ : ∃ ge, w1.heap.size = ge := ⟨_, rfl⟩
  rw [hge'] at hv2 hs1 hlt2
  have hge : w.heap.size + 3 ≤ ge := by omega
  obtain ⟨v0, v1, v2, _⟩ := hv2.facts
  have HGE := Lib.hid hge'
  have HR2 := Lib.hid hr2
  have HZ2 := Lib.hid hz2
  have HW2 := Lib.hid hw2
  have HV2 := Lib.hid hv2
  have HB2 := Lib.hid hbx
  clear hu hb1 hb2 hr2 hz2 hw2 hv2 hbx hwy hge' hs1 hsx
  rw [show ((0 : Nat) : Int) = 0 from rfl]
  go_wp2_with fail
  rw [HWY.out, HGE.out]
  refine (HBAD.out).mono ?_
  rintro e w3 ⟨rfl, hb3⟩
  have hge2 : ge < w3.heap.size := Nat.lt_of_lt_of_le hlt2 hb3.size
  have HR3 := Lib.hid (HR2.out.below hb3 (by omega))
  have HZ3 := Lib.hid (HZ2.out.below hb3 (by omega))
  have HW3 := Lib.hid (HW2.out.below hb3 (by omega))
  have HV3 := Lib.hid (HV2.out.below hb3 (by omega))
  have HB3 := Lib.hid (HB2.out.trans (hb3.mono HB2.out.size))
  obtain ⟨r0, r1, r2, _⟩ := HR3.out.facts
  clear v0 v1 v2 hb3 hlt2 HF HR0 HZ0 HW0 HB0 HWX HWY HGE HR2 HZ2 HW2 HV2 HB2 HBAD
  have HNW := Lib.hid (newB_c w3 sForms 0 3)
  go_wp2_with fail
  refine (HNW.out).mono ?_
  rintro e w4 ⟨A1, n1, c1, A2, n2, c2, rfl, hu, hb4⟩
  clear r0 r1 r2
  have hres := put6_res (w := w) (HZ3.out.below hb4 (by omega)) (HW3.out.below hb4 (by omega)) (by omega) (by omega) (B := w.heap.size + 3) (C := none) (N := 0) (cc := 0) (xs := []) (World.ownsRow_nil _ _ _ _) (by omega) hu (by omega) (HB3.out.trans (hb4.mono HB3.out.size)) 0 0
  have hpf := put6_facts (HZ3.out.below hb4 (by omega)) (HW3.out.below hb4 (by omega)) (by omega) (.int .i64 0) (.int .i64 0) (.slice none 0 0) (.int .i64 3) (.slice A1 n1 c1) (.slice A2 n2 c2)
  obtain ⟨d0, d1, d2, f0, f1, f2⟩ := ((HW3.out.below hb4 (by omega))).facts
  obtain ⟨z0, z1, z2, z3, z4, z5⟩ := ((HZ3.out.below hb4 (by omega))).facts
  have HRS := Lib.hid hres
  have HPF := Lib.hid hpf
  have HPW := Lib.hid (show ((((((w4).setCell ⟨(w.heap.size + 1), 0, none⟩ (.int .i64 0)).setCell ⟨(w.heap.size + 1), 1, none⟩ (.int .i64 0)).setCell ⟨(w.heap.size + 1), 2, none⟩ (.slice none 0 0)).setCell ⟨(w.heap.size + 1 + 1), 0, none⟩ (.int .i64 3)).setCell ⟨(w.heap.size + 1 + 1), 1, none⟩ (.slice A1 n1 c1)).setCell ⟨(w.heap.size + 1 + 1), 2, none⟩ (.slice A2 n2 c2) = put6 (w4) (w.heap.size + 1) (w.heap.size + 1 + 1) (.int .i64 0) (.int .i64 0) (.slice none 0 0) (.int .i64 3) (.slice A1 n1 c1) (.slice A2 n2 c2) from rfl)
  clear hres hpf hu hb4
  go_wp2_with fail
  rw [HPW.out]
  obtain ⟨⟨s0, s1, s2, _⟩, s3, s4, s5, _⟩ := (⟨HPF.out.1.facts, HPF.out.2.facts⟩ : _ ∧ _)
  have HR := HRS.out
  exact bodyPost_ret (v := .tuple #[.agg #[.int .i64 0, .int .i64 0, .slice none 0 0], .agg #[.int .i64 3, .slice A1 n1 c1, .slice A2 n2 c2]]) (by simp [results, Tryz.results25, go_sem, s0, s1, s2, s3, s4, s5]) rfl ⟨none, 0, 0, 3, _, _, _, _, _, _, rfl, HR.1, HR.2.1, HR.2.2⟩

set_option maxRecDepth 100000 in
set_option maxHeartbeats 2000000 in
theorem power5_big (w : World) (k r : Nat) (A : Option Addr) (n c : Nat) (t : List Nat) (hr : IsRule k r t) (hT : Sl w A n ((ints t).map (Value.int .i64))) (x : Int) (hx0 : 0 ≤ x) (hr1 : 0 < r) (hbig : 3 < x ∨ 3 < (r : Int) * x) :
    Calls Tryz.prog 25 #[ruleV (k : Int) (r : Int) A n c, .int .i64 x] w (Rule5E w 0 0 [] (some (4, [(sForms, 0)]))) := by
  have hn : t.length = n := by simpa [ints] using hT.1
  have hn16 := hr.le
  rw [hn] at hn16
  have hk1 := hr.k1
  have hk4 := hr.k4
  have hr3 := hr.r3
  have hr0 := ((RuleAt.new w (.int .i64 (k : Int)) (.int .i64 (r : Int)) (.slice A n c)).alloc (.cells #[.int .i64 0, .int .i64 0, .slice none 0 0] 26)).alloc (.cells #[.int .i64 0, .slice none 0 0, .slice none 0 0] 45)
  have hz0 := (RuleAt.new (w.alloc (.cells #[.int .i64 (k : Int), .int .i64 (r : Int), .slice A n c] 26)) (.int .i64 0) (.int .i64 0) (.slice none 0 0)).alloc (.cells #[.int .i64 0, .slice none 0 0, .slice none 0 0] 45)
  have hw0 := WantAt.new ((w.alloc (.cells #[.int .i64 (k : Int), .int .i64 (r : Int), .slice A n c] 26)).alloc (.cells #[.int .i64 0, .int .i64 0, .slice none 0 0] 26)) (.int .i64 0) (.slice none 0 0) (.slice none 0 0)
  rw [World.size_alloc] at hz0
  rw [World.size_alloc, World.size_alloc] at hw0
  have hb0 := (((Below.refl w.heap.size w).alloc (Nat.le_refl _) (.cells #[.int .i64 (k : Int), .int .i64 (r : Int), .slice A n c] 26)).alloc (by simp) (.cells #[.int .i64 0, .int .i64 0, .slice none 0 0] 26)).alloc (by simp; omega) (.cells #[.int .i64 0, .slice none 0 0, .slice none 0 0] 45)
  obtain ⟨wx, hwx⟩ : ∃ wx, ((w.alloc (.cells #[.int .i64 (k : Int), .int .i64 (r : Int), .slice A n c] 26)).alloc (.cells #[.int .i64 0, .int .i64 0, .slice none 0 0] 26)).alloc (.cells #[.int .i64 0, .slice none 0 0, .slice none 0 0] 45) = wx := ⟨_, rfl⟩
  have hsx : wx.heap.size = w.heap.size + 3 := by rw [← hwx]; simp
  have HWX := Lib.hid hwx
  obtain ⟨q0, q1, q2, _⟩ := hr0.facts
  rw [hwx] at hr0 hz0 hw0 hb0
  have hf := fault5_c wx 0 (k : Int) (r : Int) A n c (ints t) (hT.below hb0) (by omega)
  rw [checkF_rule 0 hr] at hf
  have HF := Lib.hid hf
  have HR0 := Lib.hid hr0
  have HZ0 := Lib.hid hz0
  have HW0 := Lib.hid hw0
  have HB0 := Lib.hid hb0
  have HRU := Lib.hid hr
  have HT := Lib.hid (fun (wz : World) (hz : Below w.heap.size w wz) => hT.below hz)
  have HN := Lib.hid hn
  have hr1' : (0 : Int) < (r : Int) := by omega
  have hx0' : ¬ x < 0 := by omega
  clear hf hwx hr0 hz0 hw0 hb0 hr hT hn
  unfold ruleV at *
  go_enter Tryz.func25, Tryz.ntmps25
  go_wp2_with fail
  rw [HWX.out]
  clear q0 q1 q2
  refine (HF.out).mono ?_
  rintro e w1 ⟨N, A1, n1, c1, A2, n2, c2, rfl, hu, hb1⟩
  obtain rfl : N = 0 := hu.num
  obtain ⟨rfl, rfl, rfl, rfl, rfl, rfl⟩ : A1 = none ∧ n1 = 0 ∧ c1 = 0 ∧ A2 = none ∧ n2 = 0 ∧ c2 = 0 := by
    have e := hu.none_eq
    simp at e
    obtain ⟨⟨q1, q2, q3⟩, q4, q5, q6⟩ := e
    exact ⟨q1, q2, q3, q4, q5, q6⟩
  have hb2 : Below w1.heap.size w1 (w1.alloc (.cells #[.int .i64 0, .slice none 0 0, .slice none 0 0] 45)) := (Below.refl _ _).alloc (Nat.le_refl _) _
  have hv2 := WantAt.new w1 (.int .i64 0) (.slice none 0 0) (.slice none 0 0)
  obtain ⟨wy, hwy⟩ : ∃ wy, w1.alloc (.cells #[.int .i64 0, .slice none 0 0, .slice none 0 0] 45) = wy := ⟨_, rfl⟩
  have HWY := Lib.hid hwy
  have hlt2 : w1.heap.size < wy.heap.size := by rw [← hwy]; simp
  rw [hwy] at hb2 hv2
  have hs1 := hb1.size
  have hr2 := (HR0.out.below hb1 (by omega)).below hb2 (by omega)
  have hz2 := (HZ0.out.below hb1 (by omega)).below hb2 (by omega)
  have hw2 := (HW0.out.below hb1 (by omega)).below hb2 (by omega)
  have hbx := HB0.out.trans ((hb1.trans (hb2.mono hb1.size)).mono HB0.out.size)
  have HBAD := Lib.hid (badZero5 wy)
  obtain ⟨ge, hge'⟩ : ∃ ge, w1.heap.size = ge := ⟨_, rfl⟩
  rw [hge'] at hv2 hs1 hlt2
  have hge : w.heap.size + 3 ≤ ge := by omega
  obtain ⟨v0, v1, v2, _⟩ := hv2.facts
  have HGE := Lib.hid hge'
  have HR2 := Lib.hid hr2
  have HZ2 := Lib.hid hz2
  have HW2 := Lib.hid hw2
  have HV2 := Lib.hid hv2
  have HB2 := Lib.hid hbx
  clear hu hb1 hb2 hr2 hz2 hw2 hv2 hbx hwy hge' hs1 hsx
  rw [show ((0 : Nat) : Int) = 0 from rfl]
  go_wp2_with fail
  rw [HWY.out, HGE.out]
  refine (HBAD.out).mono ?_
  rintro e w3 ⟨rfl, hb3⟩
  have hge2 : ge < w3.heap.size := Nat.lt_of_lt_of_le hlt2 hb3.size
  have HR3 := Lib.hid (HR2.out.below hb3 (by omega))
  have HZ3 := Lib.hid (HZ2.out.below hb3 (by omega))
  have HW3 := Lib.hid (HW2.out.below hb3 (by omega))
  have HV3 := Lib.hid (HV2.out.below hb3 (by omega))
  have HB3 := Lib.hid (HB2.out.trans (hb3.mono HB2.out.size))
  obtain ⟨r0, r1, r2, _⟩ := HR3.out.facts
  clear v0 v1 v2 hb3 hlt2 HF HR0 HZ0 HW0 HB0 HWX HWY HGE HR2 HZ2 HW2 HV2 HB2 HBAD
  by_cases h1 : 3 < x
  case' neg =>
    have h2 : 3 < (r : Int) * x := hbig.resolve_left h1
    have e1 : IntKind.i64.wrap ((r : Int) * x) = (r : Int) * x := IntWalk.i64_in _ (by
      have h3 : (r : Int) * x ≤ 3 * 3 := Int.mul_le_mul (by omega) (by omega) hx0 (by decide)
      omega)
  all_goals
    clear hbig
    have HNW := Lib.hid (newB_c w3 sForms 0 4)
    go_wp2_with fail
    refine (HNW.out).mono ?_
    rintro e w4 ⟨A1, n1, c1, A2, n2, c2, rfl, hu, hb4⟩
    clear r0 r1 r2
    have hres := put6_res (w := w) (HZ3.out.below hb4 (by omega)) (HW3.out.below hb4 (by omega)) (by omega) (by omega) (B := w.heap.size + 3) (C := none) (N := 0) (cc := 0) (xs := []) (World.ownsRow_nil _ _ _ _) (by omega) hu (by omega) (HB3.out.trans (hb4.mono HB3.out.size)) 0 0
    have hpf := put6_facts (HZ3.out.below hb4 (by omega)) (HW3.out.below hb4 (by omega)) (by omega) (.int .i64 0) (.int .i64 0) (.slice none 0 0) (.int .i64 4) (.slice A1 n1 c1) (.slice A2 n2 c2)
    obtain ⟨d0, d1, d2, f0, f1, f2⟩ := ((HW3.out.below hb4 (by omega))).facts
    obtain ⟨z0, z1, z2, z3, z4, z5⟩ := ((HZ3.out.below hb4 (by omega))).facts
    have HRS := Lib.hid hres
    have HPF := Lib.hid hpf
    have HPW := Lib.hid (show ((((((w4).setCell ⟨(w.heap.size + 1), 0, none⟩ (.int .i64 0)).setCell ⟨(w.heap.size + 1), 1, none⟩ (.int .i64 0)).setCell ⟨(w.heap.size + 1), 2, none⟩ (.slice none 0 0)).setCell ⟨(w.heap.size + 1 + 1), 0, none⟩ (.int .i64 4)).setCell ⟨(w.heap.size + 1 + 1), 1, none⟩ (.slice A1 n1 c1)).setCell ⟨(w.heap.size + 1 + 1), 2, none⟩ (.slice A2 n2 c2) = put6 (w4) (w.heap.size + 1) (w.heap.size + 1 + 1) (.int .i64 0) (.int .i64 0) (.slice none 0 0) (.int .i64 4) (.slice A1 n1 c1) (.slice A2 n2 c2) from rfl)
    clear hres hpf hu hb4
    go_wp2_with fail
    rw [HPW.out]
    obtain ⟨⟨s0, s1, s2, _⟩, s3, s4, s5, _⟩ := (⟨HPF.out.1.facts, HPF.out.2.facts⟩ : _ ∧ _)
    have HR := HRS.out
    exact bodyPost_ret (v := .tuple #[.agg #[.int .i64 0, .int .i64 0, .slice none 0 0], .agg #[.int .i64 4, .slice A1 n1 c1, .slice A2 n2 c2]]) (by simp [results, Tryz.results25, go_sem, s0, s1, s2, s3, s4, s5]) rfl ⟨none, 0, 0, 4, _, _, _, _, _, _, rfl, HR.1, HR.2.1, HR.2.2⟩

end Go.Proofs.YtpllojpgpejfmaaGreatDoor
