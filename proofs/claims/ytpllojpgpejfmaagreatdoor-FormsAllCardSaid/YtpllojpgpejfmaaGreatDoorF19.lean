/- The document's rule behind a rule: edenref05.Compose of two good rules. Condition: the tables read from memory. -/
import Derived.Test.YtpllojpgpejfmaaGreatDoorF18
namespace Go.Proofs.YtpllojpgpejfmaaGreatDoor
open Go.RowKit RuleP

set_option maxRecDepth 100000 in
set_option maxHeartbeats 4000000 in
theorem compose5_alien (w : World) (k r k2 r2 : Nat) (A B : Option Addr) (n c m d : Nat) (t t2 : List Nat) (hr : IsRule k r t) (hT : Sl w A n ((ints t).map (Value.int .i64))) (hr2 : IsRule k2 r2 t2) (hT2 : Sl w B m ((ints t2).map (Value.int .i64))) (hne : k ≠ k2) :
    Calls Tryz.prog 23 #[ruleV (k : Int) (r : Int) A n c, ruleV (k2 : Int) (r2 : Int) B m d] w (Rule5E w 0 0 [] (some (3, [(sForms, 1)]))) := by
  have hn : t.length = n := by simpa [ints] using hT.1
  have hn16 := hr.le
  rw [hn] at hn16
  have hm' : t2.length = m := by simpa [ints] using hT2.1
  have hm16 := hr2.le
  rw [hm'] at hm16
  have hk1 := hr.k1
  have hk4 := hr.k4
  have hr3 := hr.r3
  have hk21 := hr2.k1
  have hk24 := hr2.k4
  have hr23 := hr2.r3
  have hx0 := (((RuleAt.new w (.int .i64 (k : Int)) (.int .i64 (r : Int)) (.slice A n c)).alloc (.cells #[.int .i64 (k2 : Int), .int .i64 (r2 : Int), .slice B m d] 26)).alloc (.cells #[.int .i64 0, .int .i64 0, .slice none 0 0] 26)).alloc (.cells #[.int .i64 0, .slice none 0 0, .slice none 0 0] 45)
  have hy0 := ((RuleAt.new (w.alloc (.cells #[.int .i64 (k : Int), .int .i64 (r : Int), .slice A n c] 26)) (.int .i64 (k2 : Int)) (.int .i64 (r2 : Int)) (.slice B m d)).alloc (.cells #[.int .i64 0, .int .i64 0, .slice none 0 0] 26)).alloc (.cells #[.int .i64 0, .slice none 0 0, .slice none 0 0] 45)
  have hz0 := (RuleAt.new ((w.alloc (.cells #[.int .i64 (k : Int), .int .i64 (r : Int), .slice A n c] 26)).alloc (.cells #[.int .i64 (k2 : Int), .int .i64 (r2 : Int), .slice B m d] 26)) (.int .i64 0) (.int .i64 0) (.slice none 0 0)).alloc (.cells #[.int .i64 0, .slice none 0 0, .slice none 0 0] 45)
  have hw0 := WantAt.new (((w.alloc (.cells #[.int .i64 (k : Int), .int .i64 (r : Int), .slice A n c] 26)).alloc (.cells #[.int .i64 (k2 : Int), .int .i64 (r2 : Int), .slice B m d] 26)).alloc (.cells #[.int .i64 0, .int .i64 0, .slice none 0 0] 26)) (.int .i64 0) (.slice none 0 0) (.slice none 0 0)
  rw [World.size_alloc] at hy0
  rw [World.size_alloc, World.size_alloc] at hz0
  rw [World.size_alloc, World.size_alloc, World.size_alloc] at hw0
  have hb0 := ((((Below.refl w.heap.size w).alloc (Nat.le_refl _) (.cells #[.int .i64 (k : Int), .int .i64 (r : Int), .slice A n c] 26)).alloc (by simp) (.cells #[.int .i64 (k2 : Int), .int .i64 (r2 : Int), .slice B m d] 26)).alloc (by simp; omega) (.cells #[.int .i64 0, .int .i64 0, .slice none 0 0] 26)).alloc (by simp; omega) (.cells #[.int .i64 0, .slice none 0 0, .slice none 0 0] 45)
  obtain ⟨wx, hwx⟩ : ∃ wx, (((w.alloc (.cells #[.int .i64 (k : Int), .int .i64 (r : Int), .slice A n c] 26)).alloc (.cells #[.int .i64 (k2 : Int), .int .i64 (r2 : Int), .slice B m d] 26)).alloc (.cells #[.int .i64 0, .int .i64 0, .slice none 0 0] 26)).alloc (.cells #[.int .i64 0, .slice none 0 0, .slice none 0 0] 45) = wx := ⟨_, rfl⟩
  have hsx : wx.heap.size = w.heap.size + 4 := by rw [← hwx]; simp
  have HWX := Lib.hid hwx
  have HSX := Lib.hid hsx
  obtain ⟨q0, q1, q2, _⟩ := hx0.facts
  rw [hwx] at hx0 hy0 hz0 hw0 hb0
  have hf := fault5_c wx 0 (k : Int) (r : Int) A n c (ints t) (hT.below hb0) (by omega)
  have HF2 := Lib.hid (fun (wz : World) (hz : Below w.heap.size w wz) => fault5_c wz 1 (k2 : Int) (r2 : Int) B m d (ints t2) (hT2.below hz) (by omega))
  have HX0 := Lib.hid hx0
  have HY0 := Lib.hid hy0
  have HZ0 := Lib.hid hz0
  have HW0 := Lib.hid hw0
  have HB0 := Lib.hid hb0
  have HTT := Lib.hid (fun (wz : World) (hz : Below w.heap.size w wz) => (⟨hT.below hz, hT2.below hz⟩ : _ ∧ _))
  rw [checkF_rule 0 hr] at hf
  rw [checkF_rule 1 hr2] at HF2
  have HF := Lib.hid hf
  have HRU := Lib.hid hr
  have HRU2 := Lib.hid hr2
  have hne' : (k : Int) ≠ (k2 : Int) := by omega
  clear hf hwx hx0 hy0 hz0 hw0 hb0 hT hT2 hr hr2 hn hm' hne
  unfold ruleV at *
  go_enter Tryz.func23, Tryz.ntmps23
  go_wp2_with fail
  rw [HWX.out]
  clear q0 q1 q2
  refine (HF.out).mono ?_
  rintro e w1 ⟨N, A1, n1, c1, A2, n2, c2, rfl, hu, hb1⟩
  have hb2 : Below w1.heap.size w1 (w1.alloc (.cells #[.int .i64 (N : Int), .slice A1 n1 c1, .slice A2 n2 c2] 45)) := (Below.refl _ _).alloc (Nat.le_refl _) _
  have hv2 := WantAt.new w1 (.int .i64 (N : Int)) (.slice A1 n1 c1) (.slice A2 n2 c2)
  obtain ⟨wy, hwy⟩ : ∃ wy, w1.alloc (.cells #[.int .i64 (N : Int), .slice A1 n1 c1, .slice A2 n2 c2] 45) = wy := ⟨_, rfl⟩
  have HWY := Lib.hid hwy
  have hlt2 : w1.heap.size < wy.heap.size := by rw [← hwy]; simp
  rw [hwy] at hb2 hv2
  have hs1 := hb1.size
  have hx2 := (HX0.out.below hb1 (by omega)).below hb2 (by omega)
  have hy2 := (HY0.out.below hb1 (by omega)).below hb2 (by omega)
  have hz2 := (HZ0.out.below hb1 (by omega)).below hb2 (by omega)
  have hw2 := (HW0.out.below hb1 (by omega)).below hb2 (by omega)
  have hu2 := hu.below hb2
  have HBAD := Lib.hid (errBad_c wy N A1 n1 c1 A2 n2 c2)
  have hbx := HB0.out.trans ((hb1.trans (hb2.mono hb1.size)).mono HB0.out.size)
  obtain ⟨ge, hge'⟩ : ∃ ge, w1.heap.size = ge := ⟨_, rfl⟩
  rw [hge'] at hv2 hs1 hlt2
  have hge : w.heap.size + 4 ≤ ge := by omega
  obtain ⟨v0, v1, v2, _⟩ := hv2.facts
  have HGE := Lib.hid hge'
  have HX2 := Lib.hid hx2
  have HY2 := Lib.hid hy2
  have HZ2 := Lib.hid hz2
  have HW2 := Lib.hid hw2
  have HV2 := Lib.hid hv2
  have HB2 := Lib.hid hbx
  have HU2 := Lib.hid hu2
  clear hu hb1 hb2 hx2 hy2 hz2 hw2 hv2 hbx hwy hge' hs1 hsx hu2
  obtain rfl : N = 0 := HU2.out.num
  obtain ⟨rfl, rfl, rfl, rfl, rfl, rfl⟩ : A1 = none ∧ n1 = 0 ∧ c1 = 0 ∧ A2 = none ∧ n2 = 0 ∧ c2 = 0 := by
    have e := HU2.out.none_eq
    simp at e
    obtain ⟨⟨q1, q2, q3⟩, q4, q5, q6⟩ := e
    exact ⟨q1, q2, q3, q4, q5, q6⟩
  rw [show decide ((0 : Nat) ≠ 0) = false from rfl] at HBAD
  rw [show ((0 : Nat) : Int) = 0 from rfl] at HBAD HWY v0
  rw [show ((0 : Nat) : Int) = 0 from rfl]
  go_wp2_with fail
  rw [HWY.out, HGE.out]
  refine (HBAD.out).mono ?_
  rintro e w3 ⟨rfl, hb3⟩
  have hb3s := hb3.size
  have hge2 : ge < w3.heap.size := by omega
  have HX3 := Lib.hid (HX2.out.below hb3 (by omega))
  have HY3 := Lib.hid (HY2.out.below hb3 (by omega))
  have HZ3 := Lib.hid (HZ2.out.below hb3 (by omega))
  have HW3 := Lib.hid (HW2.out.below hb3 (by omega))
  have HB3 := Lib.hid (HB2.out.trans (hb3.mono HB2.out.size))
  have HV3 := Lib.hid (HV2.out.below hb3 (by omega))
  have hB3w := HB3.out
  have hf2 := HF2.out w3 hB3w
  clear v0 v1 v2 hb3 hB3w
  have HFF := Lib.hid hf2
  clear hf2
  obtain ⟨y0, y1, y2, _⟩ := HY3.out.facts
  go_wp2_with fail
  refine (HFF.out).mono ?_
  rintro e w4 ⟨N, A1, n1, c1, A2, n2, c2, rfl, hu, hb4⟩
  have hb4s := hb4.size
  have hk4 := keeps_set3 w4 ge (.int .i64 (N : Int)) (.slice A1 n1 c1) (.slice A2 n2 c2)
  have hx5 := (HX3.out.below hb4 (by omega)).keeps hk4 (by omega)
  have hy5 := (HY3.out.below hb4 (by omega)).keeps hk4 (by omega)
  have hz5 := (HZ3.out.below hb4 (by omega)).keeps hk4 (by omega)
  have hw5 := (HW3.out.below hb4 (by omega)).keeps hk4 (by omega)
  have hv5 := (HV3.out.below hb4 (by omega)).set3 (.int .i64 (N : Int)) (.slice A1 n1 c1) (.slice A2 n2 c2)
  have hu5 := hu.set3 (g := ge) (by omega) (.int .i64 (N : Int)) (.slice A1 n1 c1) (.slice A2 n2 c2)
  have hb5 := below_set3 (HB3.out.trans (hb4.mono HB3.out.size)) (show w.heap.size ≤ ge by omega) (.int .i64 (N : Int)) (.slice A1 n1 c1) (.slice A2 n2 c2)
  obtain ⟨_, _, _, k0, k1, k2⟩ := (HV3.out.below hb4 (by omega)).facts
  have hsz5 : ((((w4.setCell ⟨ge, 0, none⟩ (.int .i64 (N : Int))).setCell ⟨ge, 1, none⟩ (.slice A1 n1 c1)).setCell ⟨ge, 2, none⟩ (.slice A2 n2 c2))).heap.size = w4.heap.size := by simp [World.setCell]
  obtain ⟨w5, hw5e⟩ : ∃ w5, (((w4.setCell ⟨ge, 0, none⟩ (.int .i64 (N : Int))).setCell ⟨ge, 1, none⟩ (.slice A1 n1 c1)).setCell ⟨ge, 2, none⟩ (.slice A2 n2 c2)) = w5 := ⟨_, rfl⟩
  rw [hw5e] at hx5 hy5 hz5 hw5 hv5 hu5 hb5 hsz5
  have HW5E := Lib.hid hw5e
  have HX5 := Lib.hid hx5
  have HY5 := Lib.hid hy5
  have HZ5 := Lib.hid hz5
  have HW5 := Lib.hid hw5
  have HV5 := Lib.hid hv5
  have HU5 := Lib.hid hu5
  have HB5 := Lib.hid hb5
  have HBAD5 := Lib.hid (errBad_c w5 N A1 n1 c1 A2 n2 c2)
  obtain ⟨g0, g1, g2, _⟩ := HV5.out.facts
  clear hu hb4 hk4 hx5 hy5 hz5 hw5 hv5 hu5 hb5 hw5e y0 y1 y2
  obtain rfl : N = 0 := HU5.out.num
  obtain ⟨rfl, rfl, rfl, rfl, rfl, rfl⟩ : A1 = none ∧ n1 = 0 ∧ c1 = 0 ∧ A2 = none ∧ n2 = 0 ∧ c2 = 0 := by
    have e := HU5.out.none_eq
    simp at e
    obtain ⟨⟨q1, q2, q3⟩, q4, q5, q6⟩ := e
    exact ⟨q1, q2, q3, q4, q5, q6⟩
  rw [show decide ((0 : Nat) ≠ 0) = false from rfl] at HBAD5
  rw [show ((0 : Nat) : Int) = 0 from rfl] at HBAD5 HW5E g0
  rw [show ((0 : Nat) : Int) = 0 from rfl]
  go_wp2_with fail
  rw [HW5E.out]
  clear k0 k1 k2
  refine (HBAD5.out).mono ?_
  rintro e w6 ⟨rfl, hb6⟩
  have hb6s := hb6.size
  have HX6 := Lib.hid (HX5.out.below hb6 (by omega))
  have HY6 := Lib.hid (HY5.out.below hb6 (by omega))
  have HZ6 := Lib.hid (HZ5.out.below hb6 (by omega))
  have HW6 := Lib.hid (HW5.out.below hb6 (by omega))
  have HB6 := Lib.hid (HB5.out.trans (hb6.mono HB5.out.size))
  obtain ⟨x0, x1, x2, _⟩ := HX6.out.facts
  obtain ⟨y0, y1, y2, _⟩ := HY6.out.facts
  clear g0 g1 g2 hb6 HX2 HY2 HZ2 HW2 HV2 HB2 HU2 HX3 HY3 HZ3 HW3 HB3 HV3 HX5 HY5 HZ5 HW5 HV5 HU5 HB5 HX0 HY0 HZ0 HW0 HB0 HWX HWY HGE HSX HBAD HBAD5 HFF HF2 HW5E
  have HNW := Lib.hid (newB_c w6 sForms 1 3)
  go_wp2_with fail
  refine (HNW.out).mono ?_
  rintro e w7 ⟨A1, n1, c1, A2, n2, c2, rfl, hu, hb7⟩
  clear x0 x1 x2 y0 y1 y2
  have hres := put6_res (w := w) (HZ6.out.below hb7 (by omega)) (HW6.out.below hb7 (by omega)) (by omega) (by omega) (B := w.heap.size + 4) (C := none) (N := 0) (cc := 0) (xs := []) (World.ownsRow_nil _ _ _ _) (by omega) hu (by omega) (HB6.out.trans (hb7.mono HB6.out.size)) 0 0
  have hpf := put6_facts (HZ6.out.below hb7 (by omega)) (HW6.out.below hb7 (by omega)) (by omega) (.int .i64 0) (.int .i64 0) (.slice none 0 0) (.int .i64 3) (.slice A1 n1 c1) (.slice A2 n2 c2)
  obtain ⟨d0, d1, d2, f0, f1, f2⟩ := ((HW6.out.below hb7 (by omega))).facts
  obtain ⟨z0, z1, z2, z3, z4, z5⟩ := ((HZ6.out.below hb7 (by omega))).facts
  have HRS := Lib.hid hres
  have HPF := Lib.hid hpf
  have HPW := Lib.hid (show ((((((w7).setCell ⟨(w.heap.size + 1 + 1), 0, none⟩ (.int .i64 0)).setCell ⟨(w.heap.size + 1 + 1), 1, none⟩ (.int .i64 0)).setCell ⟨(w.heap.size + 1 + 1), 2, none⟩ (.slice none 0 0)).setCell ⟨(w.heap.size + 1 + 1 + 1), 0, none⟩ (.int .i64 3)).setCell ⟨(w.heap.size + 1 + 1 + 1), 1, none⟩ (.slice A1 n1 c1)).setCell ⟨(w.heap.size + 1 + 1 + 1), 2, none⟩ (.slice A2 n2 c2) = put6 (w7) (w.heap.size + 1 + 1) (w.heap.size + 1 + 1 + 1) (.int .i64 0) (.int .i64 0) (.slice none 0 0) (.int .i64 3) (.slice A1 n1 c1) (.slice A2 n2 c2) from rfl)
  clear hres hpf hu hb7
  go_wp2_with fail
  rw [HPW.out]
  obtain ⟨⟨s0, s1, s2, _⟩, s3, s4, s5, _⟩ := (⟨HPF.out.1.facts, HPF.out.2.facts⟩ : _ ∧ _)
  have HR := HRS.out
  exact bodyPost_ret (v := .tuple #[.agg #[.int .i64 0, .int .i64 0, .slice none 0 0], .agg #[.int .i64 3, .slice A1 n1 c1, .slice A2 n2 c2]]) (by simp [results, Tryz.results23, go_sem, s0, s1, s2, s3, s4, s5]) rfl ⟨none, 0, 0, 3, _, _, _, _, _, _, rfl, HR.1, HR.2.1, HR.2.2⟩
set_option maxRecDepth 100000 in
set_option maxHeartbeats 4000000 in
theorem compose5_big (w : World) (k r r2 : Nat) (A B : Option Addr) (n c m d : Nat) (t t2 : List Nat) (hr : IsRule k r t) (hT : Sl w A n ((ints t).map (Value.int .i64))) (hr2 : IsRule k r2 t2) (hT2 : Sl w B m ((ints t2).map (Value.int .i64))) (hbig : 3 < r + r2) :
    Calls Tryz.prog 23 #[ruleV (k : Int) (r : Int) A n c, ruleV (k : Int) (r2 : Int) B m d] w (Rule5E w 0 0 [] (some (4, [(sForms, 0)]))) := by
  have hn : t.length = n := by simpa [ints] using hT.1
  have hn16 := hr.le
  rw [hn] at hn16
  have hm' : t2.length = m := by simpa [ints] using hT2.1
  have hm16 := hr2.le
  rw [hm'] at hm16
  have hk1 := hr.k1
  have hk4 := hr.k4
  have hr3 := hr.r3
  have hk21 := hr2.k1
  have hk24 := hr2.k4
  have hr23 := hr2.r3
  have hx0 := (((RuleAt.new w (.int .i64 (k : Int)) (.int .i64 (r : Int)) (.slice A n c)).alloc (.cells #[.int .i64 (k : Int), .int .i64 (r2 : Int), .slice B m d] 26)).alloc (.cells #[.int .i64 0, .int .i64 0, .slice none 0 0] 26)).alloc (.cells #[.int .i64 0, .slice none 0 0, .slice none 0 0] 45)
  have hy0 := ((RuleAt.new (w.alloc (.cells #[.int .i64 (k : Int), .int .i64 (r : Int), .slice A n c] 26)) (.int .i64 (k : Int)) (.int .i64 (r2 : Int)) (.slice B m d)).alloc (.cells #[.int .i64 0, .int .i64 0, .slice none 0 0] 26)).alloc (.cells #[.int .i64 0, .slice none 0 0, .slice none 0 0] 45)
  have hz0 := (RuleAt.new ((w.alloc (.cells #[.int .i64 (k : Int), .int .i64 (r : Int), .slice A n c] 26)).alloc (.cells #[.int .i64 (k : Int), .int .i64 (r2 : Int), .slice B m d] 26)) (.int .i64 0) (.int .i64 0) (.slice none 0 0)).alloc (.cells #[.int .i64 0, .slice none 0 0, .slice none 0 0] 45)
  have hw0 := WantAt.new (((w.alloc (.cells #[.int .i64 (k : Int), .int .i64 (r : Int), .slice A n c] 26)).alloc (.cells #[.int .i64 (k : Int), .int .i64 (r2 : Int), .slice B m d] 26)).alloc (.cells #[.int .i64 0, .int .i64 0, .slice none 0 0] 26)) (.int .i64 0) (.slice none 0 0) (.slice none 0 0)
  rw [World.size_alloc] at hy0
  rw [World.size_alloc, World.size_alloc] at hz0
  rw [World.size_alloc, World.size_alloc, World.size_alloc] at hw0
  have hb0 := ((((Below.refl w.heap.size w).alloc (Nat.le_refl _) (.cells #[.int .i64 (k : Int), .int .i64 (r : Int), .slice A n c] 26)).alloc (by simp) (.cells #[.int .i64 (k : Int), .int .i64 (r2 : Int), .slice B m d] 26)).alloc (by simp; omega) (.cells #[.int .i64 0, .int .i64 0, .slice none 0 0] 26)).alloc (by simp; omega) (.cells #[.int .i64 0, .slice none 0 0, .slice none 0 0] 45)
  obtain ⟨wx, hwx⟩ : ∃ wx, (((w.alloc (.cells #[.int .i64 (k : Int), .int .i64 (r : Int), .slice A n c] 26)).alloc (.cells #[.int .i64 (k : Int), .int .i64 (r2 : Int), .slice B m d] 26)).alloc (.cells #[.int .i64 0, .int .i64 0, .slice none 0 0] 26)).alloc (.cells #[.int .i64 0, .slice none 0 0, .slice none 0 0] 45) = wx := ⟨_, rfl⟩
  have hsx : wx.heap.size = w.heap.size + 4 := by rw [← hwx]; simp
  have HWX := Lib.hid hwx
  have HSX := Lib.hid hsx
  obtain ⟨q0, q1, q2, _⟩ := hx0.facts
  rw [hwx] at hx0 hy0 hz0 hw0 hb0
  have hf := fault5_c wx 0 (k : Int) (r : Int) A n c (ints t) (hT.below hb0) (by omega)
  have HF2 := Lib.hid (fun (wz : World) (hz : Below w.heap.size w wz) => fault5_c wz 1 (k : Int) (r2 : Int) B m d (ints t2) (hT2.below hz) (by omega))
  have HX0 := Lib.hid hx0
  have HY0 := Lib.hid hy0
  have HZ0 := Lib.hid hz0
  have HW0 := Lib.hid hw0
  have HB0 := Lib.hid hb0
  have HTT := Lib.hid (fun (wz : World) (hz : Below w.heap.size w wz) => (⟨hT.below hz, hT2.below hz⟩ : _ ∧ _))
  rw [checkF_rule 0 hr] at hf
  rw [checkF_rule 1 hr2] at HF2
  have HF := Lib.hid hf
  have HRU := Lib.hid hr
  have HRU2 := Lib.hid hr2
  have e1 : IntKind.i64.wrap ((r : Int) + (r2 : Int)) = (r : Int) + (r2 : Int) := IntWalk.i64_in _ (by omega)
  have hbig' : (3 : Int) < (r : Int) + (r2 : Int) := by omega
  clear hf hwx hx0 hy0 hz0 hw0 hb0 hT hT2 hr hr2 hn hm' hbig
  unfold ruleV at *
  go_enter Tryz.func23, Tryz.ntmps23
  go_wp2_with fail
  rw [HWX.out]
  clear q0 q1 q2
  refine (HF.out).mono ?_
  rintro e w1 ⟨N, A1, n1, c1, A2, n2, c2, rfl, hu, hb1⟩
  have hb2 : Below w1.heap.size w1 (w1.alloc (.cells #[.int .i64 (N : Int), .slice A1 n1 c1, .slice A2 n2 c2] 45)) := (Below.refl _ _).alloc (Nat.le_refl _) _
  have hv2 := WantAt.new w1 (.int .i64 (N : Int)) (.slice A1 n1 c1) (.slice A2 n2 c2)
  obtain ⟨wy, hwy⟩ : ∃ wy, w1.alloc (.cells #[.int .i64 (N : Int), .slice A1 n1 c1, .slice A2 n2 c2] 45) = wy := ⟨_, rfl⟩
  have HWY := Lib.hid hwy
  have hlt2 : w1.heap.size < wy.heap.size := by rw [← hwy]; simp
  rw [hwy] at hb2 hv2
  have hs1 := hb1.size
  have hx2 := (HX0.out.below hb1 (by omega)).below hb2 (by omega)
  have hy2 := (HY0.out.below hb1 (by omega)).below hb2 (by omega)
  have hz2 := (HZ0.out.below hb1 (by omega)).below hb2 (by omega)
  have hw2 := (HW0.out.below hb1 (by omega)).below hb2 (by omega)
  have hu2 := hu.below hb2
  have HBAD := Lib.hid (errBad_c wy N A1 n1 c1 A2 n2 c2)
  have hbx := HB0.out.trans ((hb1.trans (hb2.mono hb1.size)).mono HB0.out.size)
  obtain ⟨ge, hge'⟩ : ∃ ge, w1.heap.size = ge := ⟨_, rfl⟩
  rw [hge'] at hv2 hs1 hlt2
  have hge : w.heap.size + 4 ≤ ge := by omega
  obtain ⟨v0, v1, v2, _⟩ := hv2.facts
  have HGE := Lib.hid hge'
  have HX2 := Lib.hid hx2
  have HY2 := Lib.hid hy2
  have HZ2 := Lib.hid hz2
  have HW2 := Lib.hid hw2
  have HV2 := Lib.hid hv2
  have HB2 := Lib.hid hbx
  have HU2 := Lib.hid hu2
  clear hu hb1 hb2 hx2 hy2 hz2 hw2 hv2 hbx hwy hge' hs1 hsx hu2
  obtain rfl : N = 0 := HU2.out.num
  obtain ⟨rfl, rfl, rfl, rfl, rfl, rfl⟩ : A1 = none ∧ n1 = 0 ∧ c1 = 0 ∧ A2 = none ∧ n2 = 0 ∧ c2 = 0 := by
    have e := HU2.out.none_eq
    simp at e
    obtain ⟨⟨q1, q2, q3⟩, q4, q5, q6⟩ := e
    exact ⟨q1, q2, q3, q4, q5, q6⟩
  rw [show decide ((0 : Nat) ≠ 0) = false from rfl] at HBAD
  rw [show ((0 : Nat) : Int) = 0 from rfl] at HBAD HWY v0
  rw [show ((0 : Nat) : Int) = 0 from rfl]
  go_wp2_with fail
  rw [HWY.out, HGE.out]
  refine (HBAD.out).mono ?_
  rintro e w3 ⟨rfl, hb3⟩
  have hb3s := hb3.size
  have hge2 : ge < w3.heap.size := by omega
  have HX3 := Lib.hid (HX2.out.below hb3 (by omega))
  have HY3 := Lib.hid (HY2.out.below hb3 (by omega))
  have HZ3 := Lib.hid (HZ2.out.below hb3 (by omega))
  have HW3 := Lib.hid (HW2.out.below hb3 (by omega))
  have HB3 := Lib.hid (HB2.out.trans (hb3.mono HB2.out.size))
  have HV3 := Lib.hid (HV2.out.below hb3 (by omega))
  have hB3w := HB3.out
  have hf2 := HF2.out w3 hB3w
  clear v0 v1 v2 hb3 hB3w
  have HFF := Lib.hid hf2
  clear hf2
  obtain ⟨y0, y1, y2, _⟩ := HY3.out.facts
  go_wp2_with fail
  refine (HFF.out).mono ?_
  rintro e w4 ⟨N, A1, n1, c1, A2, n2, c2, rfl, hu, hb4⟩
  have hb4s := hb4.size
  have hk4 := keeps_set3 w4 ge (.int .i64 (N : Int)) (.slice A1 n1 c1) (.slice A2 n2 c2)
  have hx5 := (HX3.out.below hb4 (by omega)).keeps hk4 (by omega)
  have hy5 := (HY3.out.below hb4 (by omega)).keeps hk4 (by omega)
  have hz5 := (HZ3.out.below hb4 (by omega)).keeps hk4 (by omega)
  have hw5 := (HW3.out.below hb4 (by omega)).keeps hk4 (by omega)
  have hv5 := (HV3.out.below hb4 (by omega)).set3 (.int .i64 (N : Int)) (.slice A1 n1 c1) (.slice A2 n2 c2)
  have hu5 := hu.set3 (g := ge) (by omega) (.int .i64 (N : Int)) (.slice A1 n1 c1) (.slice A2 n2 c2)
  have hb5 := below_set3 (HB3.out.trans (hb4.mono HB3.out.size)) (show w.heap.size ≤ ge by omega) (.int .i64 (N : Int)) (.slice A1 n1 c1) (.slice A2 n2 c2)
  obtain ⟨_, _, _, k0, k1, k2⟩ := (HV3.out.below hb4 (by omega)).facts
  have hsz5 : ((((w4.setCell ⟨ge, 0, none⟩ (.int .i64 (N : Int))).setCell ⟨ge, 1, none⟩ (.slice A1 n1 c1)).setCell ⟨ge, 2, none⟩ (.slice A2 n2 c2))).heap.size = w4.heap.size := by simp [World.setCell]
  obtain ⟨w5, hw5e⟩ : ∃ w5, (((w4.setCell ⟨ge, 0, none⟩ (.int .i64 (N : Int))).setCell ⟨ge, 1, none⟩ (.slice A1 n1 c1)).setCell ⟨ge, 2, none⟩ (.slice A2 n2 c2)) = w5 := ⟨_, rfl⟩
  rw [hw5e] at hx5 hy5 hz5 hw5 hv5 hu5 hb5 hsz5
  have HW5E := Lib.hid hw5e
  have HX5 := Lib.hid hx5
  have HY5 := Lib.hid hy5
  have HZ5 := Lib.hid hz5
  have HW5 := Lib.hid hw5
  have HV5 := Lib.hid hv5
  have HU5 := Lib.hid hu5
  have HB5 := Lib.hid hb5
  have HBAD5 := Lib.hid (errBad_c w5 N A1 n1 c1 A2 n2 c2)
  obtain ⟨g0, g1, g2, _⟩ := HV5.out.facts
  clear hu hb4 hk4 hx5 hy5 hz5 hw5 hv5 hu5 hb5 hw5e y0 y1 y2
  obtain rfl : N = 0 := HU5.out.num
  obtain ⟨rfl, rfl, rfl, rfl, rfl, rfl⟩ : A1 = none ∧ n1 = 0 ∧ c1 = 0 ∧ A2 = none ∧ n2 = 0 ∧ c2 = 0 := by
    have e := HU5.out.none_eq
    simp at e
    obtain ⟨⟨q1, q2, q3⟩, q4, q5, q6⟩ := e
    exact ⟨q1, q2, q3, q4, q5, q6⟩
  rw [show decide ((0 : Nat) ≠ 0) = false from rfl] at HBAD5
  rw [show ((0 : Nat) : Int) = 0 from rfl] at HBAD5 HW5E g0
  rw [show ((0 : Nat) : Int) = 0 from rfl]
  go_wp2_with fail
  rw [HW5E.out]
  clear k0 k1 k2
  refine (HBAD5.out).mono ?_
  rintro e w6 ⟨rfl, hb6⟩
  have hb6s := hb6.size
  have HX6 := Lib.hid (HX5.out.below hb6 (by omega))
  have HY6 := Lib.hid (HY5.out.below hb6 (by omega))
  have HZ6 := Lib.hid (HZ5.out.below hb6 (by omega))
  have HW6 := Lib.hid (HW5.out.below hb6 (by omega))
  have HB6 := Lib.hid (HB5.out.trans (hb6.mono HB5.out.size))
  obtain ⟨x0, x1, x2, _⟩ := HX6.out.facts
  obtain ⟨y0, y1, y2, _⟩ := HY6.out.facts
  clear g0 g1 g2 hb6 HX2 HY2 HZ2 HW2 HV2 HB2 HU2 HX3 HY3 HZ3 HW3 HB3 HV3 HX5 HY5 HZ5 HW5 HV5 HU5 HB5 HX0 HY0 HZ0 HW0 HB0 HWX HWY HGE HSX HBAD HBAD5 HFF HF2 HW5E
  have HNW := Lib.hid (newB_c w6 sForms 0 4)
  go_wp2_with fail
  refine (HNW.out).mono ?_
  rintro e w7 ⟨A1, n1, c1, A2, n2, c2, rfl, hu, hb7⟩
  clear x0 x1 x2 y0 y1 y2
  have hres := put6_res (w := w) (HZ6.out.below hb7 (by omega)) (HW6.out.below hb7 (by omega)) (by omega) (by omega) (B := w.heap.size + 4) (C := none) (N := 0) (cc := 0) (xs := []) (World.ownsRow_nil _ _ _ _) (by omega) hu (by omega) (HB6.out.trans (hb7.mono HB6.out.size)) 0 0
  have hpf := put6_facts (HZ6.out.below hb7 (by omega)) (HW6.out.below hb7 (by omega)) (by omega) (.int .i64 0) (.int .i64 0) (.slice none 0 0) (.int .i64 4) (.slice A1 n1 c1) (.slice A2 n2 c2)
  obtain ⟨d0, d1, d2, f0, f1, f2⟩ := ((HW6.out.below hb7 (by omega))).facts
  obtain ⟨z0, z1, z2, z3, z4, z5⟩ := ((HZ6.out.below hb7 (by omega))).facts
  have HRS := Lib.hid hres
  have HPF := Lib.hid hpf
  have HPW := Lib.hid (show ((((((w7).setCell ⟨(w.heap.size + 1 + 1), 0, none⟩ (.int .i64 0)).setCell ⟨(w.heap.size + 1 + 1), 1, none⟩ (.int .i64 0)).setCell ⟨(w.heap.size + 1 + 1), 2, none⟩ (.slice none 0 0)).setCell ⟨(w.heap.size + 1 + 1 + 1), 0, none⟩ (.int .i64 4)).setCell ⟨(w.heap.size + 1 + 1 + 1), 1, none⟩ (.slice A1 n1 c1)).setCell ⟨(w.heap.size + 1 + 1 + 1), 2, none⟩ (.slice A2 n2 c2) = put6 (w7) (w.heap.size + 1 + 1) (w.heap.size + 1 + 1 + 1) (.int .i64 0) (.int .i64 0) (.slice none 0 0) (.int .i64 4) (.slice A1 n1 c1) (.slice A2 n2 c2) from rfl)
  clear hres hpf hu hb7
  go_wp2_with fail
  rw [HPW.out]
  obtain ⟨⟨s0, s1, s2, _⟩, s3, s4, s5, _⟩ := (⟨HPF.out.1.facts, HPF.out.2.facts⟩ : _ ∧ _)
  have HR := HRS.out
  exact bodyPost_ret (v := .tuple #[.agg #[.int .i64 0, .int .i64 0, .slice none 0 0], .agg #[.int .i64 4, .slice A1 n1 c1, .slice A2 n2 c2]]) (by simp [results, Tryz.results23, go_sem, s0, s1, s2, s3, s4, s5]) rfl ⟨none, 0, 0, 4, _, _, _, _, _, _, rfl, HR.1, HR.2.1, HR.2.2⟩
set_option maxRecDepth 100000 in
set_option maxHeartbeats 4000000 in
theorem compose5_good (w : World) (k r r2 : Nat) (A B : Option Addr) (n c m d : Nat) (t t2 : List Nat) (hr : IsRule k r t) (hT : Sl w A n ((ints t).map (Value.int .i64))) (hr2 : IsRule k r2 t2) (hT2 : Sl w B m ((ints t2).map (Value.int .i64))) (q : Nat) (hq : r + r2 = q) (hq3 : q ≤ 3) :
    Calls Tryz.prog 23 #[ruleV (k : Int) (r : Int) A n c, ruleV (k : Int) (r2 : Int) B m d] w (Rule5E w (k : Int) (q : Int) (comp k r t r2 t2) none) := by
  have hn : t.length = n := by simpa [ints] using hT.1
  have hn16 := hr.le
  rw [hn] at hn16
  have hm' : t2.length = m := by simpa [ints] using hT2.1
  have hm16 := hr2.le
  rw [hm'] at hm16
  have hk1 := hr.k1
  have hk4 := hr.k4
  have hr3 := hr.r3
  have hk21 := hr2.k1
  have hk24 := hr2.k4
  have hr23 := hr2.r3
  have hx0 := (((RuleAt.new w (.int .i64 (k : Int)) (.int .i64 (r : Int)) (.slice A n c)).alloc (.cells #[.int .i64 (k : Int), .int .i64 (r2 : Int), .slice B m d] 26)).alloc (.cells #[.int .i64 0, .int .i64 0, .slice none 0 0] 26)).alloc (.cells #[.int .i64 0, .slice none 0 0, .slice none 0 0] 45)
  have hy0 := ((RuleAt.new (w.alloc (.cells #[.int .i64 (k : Int), .int .i64 (r : Int), .slice A n c] 26)) (.int .i64 (k : Int)) (.int .i64 (r2 : Int)) (.slice B m d)).alloc (.cells #[.int .i64 0, .int .i64 0, .slice none 0 0] 26)).alloc (.cells #[.int .i64 0, .slice none 0 0, .slice none 0 0] 45)
  have hz0 := (RuleAt.new ((w.alloc (.cells #[.int .i64 (k : Int), .int .i64 (r : Int), .slice A n c] 26)).alloc (.cells #[.int .i64 (k : Int), .int .i64 (r2 : Int), .slice B m d] 26)) (.int .i64 0) (.int .i64 0) (.slice none 0 0)).alloc (.cells #[.int .i64 0, .slice none 0 0, .slice none 0 0] 45)
  have hw0 := WantAt.new (((w.alloc (.cells #[.int .i64 (k : Int), .int .i64 (r : Int), .slice A n c] 26)).alloc (.cells #[.int .i64 (k : Int), .int .i64 (r2 : Int), .slice B m d] 26)).alloc (.cells #[.int .i64 0, .int .i64 0, .slice none 0 0] 26)) (.int .i64 0) (.slice none 0 0) (.slice none 0 0)
  rw [World.size_alloc] at hy0
  rw [World.size_alloc, World.size_alloc] at hz0
  rw [World.size_alloc, World.size_alloc, World.size_alloc] at hw0
  have hb0 := ((((Below.refl w.heap.size w).alloc (Nat.le_refl _) (.cells #[.int .i64 (k : Int), .int .i64 (r : Int), .slice A n c] 26)).alloc (by simp) (.cells #[.int .i64 (k : Int), .int .i64 (r2 : Int), .slice B m d] 26)).alloc (by simp; omega) (.cells #[.int .i64 0, .int .i64 0, .slice none 0 0] 26)).alloc (by simp; omega) (.cells #[.int .i64 0, .slice none 0 0, .slice none 0 0] 45)
  obtain ⟨wx, hwx⟩ : ∃ wx, (((w.alloc (.cells #[.int .i64 (k : Int), .int .i64 (r : Int), .slice A n c] 26)).alloc (.cells #[.int .i64 (k : Int), .int .i64 (r2 : Int), .slice B m d] 26)).alloc (.cells #[.int .i64 0, .int .i64 0, .slice none 0 0] 26)).alloc (.cells #[.int .i64 0, .slice none 0 0, .slice none 0 0] 45) = wx := ⟨_, rfl⟩
  have hsx : wx.heap.size = w.heap.size + 4 := by rw [← hwx]; simp
  have HWX := Lib.hid hwx
  have HSX := Lib.hid hsx
  obtain ⟨q0, q1, q2, _⟩ := hx0.facts
  rw [hwx] at hx0 hy0 hz0 hw0 hb0
  have hf := fault5_c wx 0 (k : Int) (r : Int) A n c (ints t) (hT.below hb0) (by omega)
  have HF2 := Lib.hid (fun (wz : World) (hz : Below w.heap.size w wz) => fault5_c wz 1 (k : Int) (r2 : Int) B m d (ints t2) (hT2.below hz) (by omega))
  have HX0 := Lib.hid hx0
  have HY0 := Lib.hid hy0
  have HZ0 := Lib.hid hz0
  have HW0 := Lib.hid hw0
  have HB0 := Lib.hid hb0
  have HTT := Lib.hid (fun (wz : World) (hz : Below w.heap.size w wz) => (⟨hT.below hz, hT2.below hz⟩ : _ ∧ _))
  rw [checkF_rule 0 hr] at hf
  rw [checkF_rule 1 hr2] at HF2
  have HF := Lib.hid hf
  have HRU := Lib.hid hr
  have HRU2 := Lib.hid hr2
  have e1 : IntKind.i64.wrap ((r : Int) + (r2 : Int)) = (q : Int) := by rw [show (r : Int) + (r2 : Int) = (q : Int) from by omega]; exact IntWalk.i64_in _ (by omega)
  have HRQ := Lib.hid hq
  have hq3' : ¬ (3 : Int) < (q : Int) := by omega
  clear hf hwx hx0 hy0 hz0 hw0 hb0 hT hT2 hr hr2 hn hm' hq
  unfold ruleV at *
  go_enter Tryz.func23, Tryz.ntmps23
  go_wp2_with fail
  rw [HWX.out]
  clear q0 q1 q2
  refine (HF.out).mono ?_
  rintro e w1 ⟨N, A1, n1, c1, A2, n2, c2, rfl, hu, hb1⟩
  have hb2 : Below w1.heap.size w1 (w1.alloc (.cells #[.int .i64 (N : Int), .slice A1 n1 c1, .slice A2 n2 c2] 45)) := (Below.refl _ _).alloc (Nat.le_refl _) _
  have hv2 := WantAt.new w1 (.int .i64 (N : Int)) (.slice A1 n1 c1) (.slice A2 n2 c2)
  obtain ⟨wy, hwy⟩ : ∃ wy, w1.alloc (.cells #[.int .i64 (N : Int), .slice A1 n1 c1, .slice A2 n2 c2] 45) = wy := ⟨_, rfl⟩
  have HWY := Lib.hid hwy
  have hlt2 : w1.heap.size < wy.heap.size := by rw [← hwy]; simp
  rw [hwy] at hb2 hv2
  have hs1 := hb1.size
  have hx2 := (HX0.out.below hb1 (by omega)).below hb2 (by omega)
  have hy2 := (HY0.out.below hb1 (by omega)).below hb2 (by omega)
  have hz2 := (HZ0.out.below hb1 (by omega)).below hb2 (by omega)
  have hw2 := (HW0.out.below hb1 (by omega)).below hb2 (by omega)
  have hu2 := hu.below hb2
  have HBAD := Lib.hid (errBad_c wy N A1 n1 c1 A2 n2 c2)
  have hbx := HB0.out.trans ((hb1.trans (hb2.mono hb1.size)).mono HB0.out.size)
  obtain ⟨ge, hge'⟩ : ∃ ge, w1.heap.size = ge := ⟨_, rfl⟩
  rw [hge'] at hv2 hs1 hlt2
  have hge : w.heap.size + 4 ≤ ge := by omega
  obtain ⟨v0, v1, v2, _⟩ := hv2.facts
  have HGE := Lib.hid hge'
  have HX2 := Lib.hid hx2
  have HY2 := Lib.hid hy2
  have HZ2 := Lib.hid hz2
  have HW2 := Lib.hid hw2
  have HV2 := Lib.hid hv2
  have HB2 := Lib.hid hbx
  have HU2 := Lib.hid hu2
  clear hu hb1 hb2 hx2 hy2 hz2 hw2 hv2 hbx hwy hge' hs1 hsx hu2
  obtain rfl : N = 0 := HU2.out.num
  obtain ⟨rfl, rfl, rfl, rfl, rfl, rfl⟩ : A1 = none ∧ n1 = 0 ∧ c1 = 0 ∧ A2 = none ∧ n2 = 0 ∧ c2 = 0 := by
    have e := HU2.out.none_eq
    simp at e
    obtain ⟨⟨q1, q2, q3⟩, q4, q5, q6⟩ := e
    exact ⟨q1, q2, q3, q4, q5, q6⟩
  rw [show decide ((0 : Nat) ≠ 0) = false from rfl] at HBAD
  rw [show ((0 : Nat) : Int) = 0 from rfl] at HBAD HWY v0
  rw [show ((0 : Nat) : Int) = 0 from rfl]
  go_wp2_with fail
  rw [HWY.out, HGE.out]
  refine (HBAD.out).mono ?_
  rintro e w3 ⟨rfl, hb3⟩
  have hb3s := hb3.size
  have hge2 : ge < w3.heap.size := by omega
  have HX3 := Lib.hid (HX2.out.below hb3 (by omega))
  have HY3 := Lib.hid (HY2.out.below hb3 (by omega))
  have HZ3 := Lib.hid (HZ2.out.below hb3 (by omega))
  have HW3 := Lib.hid (HW2.out.below hb3 (by omega))
  have HB3 := Lib.hid (HB2.out.trans (hb3.mono HB2.out.size))
  have HV3 := Lib.hid (HV2.out.below hb3 (by omega))
  have hB3w := HB3.out
  have hf2 := HF2.out w3 hB3w
  clear v0 v1 v2 hb3 hB3w
  have HFF := Lib.hid hf2
  clear hf2
  obtain ⟨y0, y1, y2, _⟩ := HY3.out.facts
  go_wp2_with fail
  refine (HFF.out).mono ?_
  rintro e w4 ⟨N, A1, n1, c1, A2, n2, c2, rfl, hu, hb4⟩
  have hb4s := hb4.size
  have hk4 := keeps_set3 w4 ge (.int .i64 (N : Int)) (.slice A1 n1 c1) (.slice A2 n2 c2)
  have hx5 := (HX3.out.below hb4 (by omega)).keeps hk4 (by omega)
  have hy5 := (HY3.out.below hb4 (by omega)).keeps hk4 (by omega)
  have hz5 := (HZ3.out.below hb4 (by omega)).keeps hk4 (by omega)
  have hw5 := (HW3.out.below hb4 (by omega)).keeps hk4 (by omega)
  have hv5 := (HV3.out.below hb4 (by omega)).set3 (.int .i64 (N : Int)) (.slice A1 n1 c1) (.slice A2 n2 c2)
  have hu5 := hu.set3 (g := ge) (by omega) (.int .i64 (N : Int)) (.slice A1 n1 c1) (.slice A2 n2 c2)
  have hb5 := below_set3 (HB3.out.trans (hb4.mono HB3.out.size)) (show w.heap.size ≤ ge by omega) (.int .i64 (N : Int)) (.slice A1 n1 c1) (.slice A2 n2 c2)
  obtain ⟨_, _, _, k0, k1, k2⟩ := (HV3.out.below hb4 (by omega)).facts
  have hsz5 : ((((w4.setCell ⟨ge, 0, none⟩ (.int .i64 (N : Int))).setCell ⟨ge, 1, none⟩ (.slice A1 n1 c1)).setCell ⟨ge, 2, none⟩ (.slice A2 n2 c2))).heap.size = w4.heap.size := by simp [World.setCell]
  obtain ⟨w5, hw5e⟩ : ∃ w5, (((w4.setCell ⟨ge, 0, none⟩ (.int .i64 (N : Int))).setCell ⟨ge, 1, none⟩ (.slice A1 n1 c1)).setCell ⟨ge, 2, none⟩ (.slice A2 n2 c2)) = w5 := ⟨_, rfl⟩
  rw [hw5e] at hx5 hy5 hz5 hw5 hv5 hu5 hb5 hsz5
  have HW5E := Lib.hid hw5e
  have HX5 := Lib.hid hx5
  have HY5 := Lib.hid hy5
  have HZ5 := Lib.hid hz5
  have HW5 := Lib.hid hw5
  have HV5 := Lib.hid hv5
  have HU5 := Lib.hid hu5
  have HB5 := Lib.hid hb5
  have HBAD5 := Lib.hid (errBad_c w5 N A1 n1 c1 A2 n2 c2)
  obtain ⟨g0, g1, g2, _⟩ := HV5.out.facts
  clear hu hb4 hk4 hx5 hy5 hz5 hw5 hv5 hu5 hb5 hw5e y0 y1 y2
  obtain rfl : N = 0 := HU5.out.num
  obtain ⟨rfl, rfl, rfl, rfl, rfl, rfl⟩ : A1 = none ∧ n1 = 0 ∧ c1 = 0 ∧ A2 = none ∧ n2 = 0 ∧ c2 = 0 := by
    have e := HU5.out.none_eq
    simp at e
    obtain ⟨⟨q1, q2, q3⟩, q4, q5, q6⟩ := e
    exact ⟨q1, q2, q3, q4, q5, q6⟩
  rw [show decide ((0 : Nat) ≠ 0) = false from rfl] at HBAD5
  rw [show ((0 : Nat) : Int) = 0 from rfl] at HBAD5 HW5E g0
  rw [show ((0 : Nat) : Int) = 0 from rfl]
  go_wp2_with fail
  rw [HW5E.out]
  clear k0 k1 k2
  refine (HBAD5.out).mono ?_
  rintro e w6 ⟨rfl, hb6⟩
  have hb6s := hb6.size
  have HX6 := Lib.hid (HX5.out.below hb6 (by omega))
  have HY6 := Lib.hid (HY5.out.below hb6 (by omega))
  have HZ6 := Lib.hid (HZ5.out.below hb6 (by omega))
  have HW6 := Lib.hid (HW5.out.below hb6 (by omega))
  have HB6 := Lib.hid (HB5.out.trans (hb6.mono HB5.out.size))
  obtain ⟨x0, x1, x2, _⟩ := HX6.out.facts
  obtain ⟨y0, y1, y2, _⟩ := HY6.out.facts
  clear g0 g1 g2 hb6 HX2 HY2 HZ2 HW2 HV2 HB2 HU2 HX3 HY3 HZ3 HW3 HB3 HV3 HX5 HY5 HZ5 HW5 HV5 HU5 HB5 HX0 HY0 HZ0 HW0 HB0 HWX HWY HGE HSX HBAD HBAD5 HFF HF2 HW5E
  obtain ⟨hT6, hT26⟩ := HTT.out w6 HB6.out
  have hbc := behind5_c w6 k r r2 q HRQ.out A B n c m d t t2 HRU.out HRU2.out hq3 hT6 hT26
  unfold ruleV at hbc
  have HBC := Lib.hid hbc
  clear hbc hT6 hT26
  go_wp2_with fail
  refine (HBC.out).mono ?_
  rintro e w7 ⟨C, N, cc, rfl, hown, hb7⟩
  clear x0 x1 x2 y0 y1 y2
  have hres := put6_res (w := w) (HZ6.out.below hb7 (by omega)) (HW6.out.below hb7 (by omega)) (by omega) (by omega) hown (by omega) (M := 0) (WantB.zero w7 w6.heap.size) (by omega) (HB6.out.trans (hb7.mono HB6.out.size)) (k : Int) (q : Int)
  have hpf := put6_facts (HZ6.out.below hb7 (by omega)) (HW6.out.below hb7 (by omega)) (by omega) (.int .i64 (k : Int)) (.int .i64 (q : Int)) (.slice C N cc) (.int .i64 0) (.slice none 0 0) (.slice none 0 0)
  obtain ⟨d0, d1, d2, f0, f1, f2⟩ := ((HW6.out.below hb7 (by omega))).facts
  obtain ⟨z0, z1, z2, z3, z4, z5⟩ := ((HZ6.out.below hb7 (by omega))).facts
  have HRS := Lib.hid hres
  have HPF := Lib.hid hpf
  have HPW := Lib.hid (show ((((((w7).setCell ⟨(w.heap.size + 1 + 1), 0, none⟩ (.int .i64 (k : Int))).setCell ⟨(w.heap.size + 1 + 1), 1, none⟩ (.int .i64 (q : Int))).setCell ⟨(w.heap.size + 1 + 1), 2, none⟩ (.slice C N cc)).setCell ⟨(w.heap.size + 1 + 1 + 1), 0, none⟩ (.int .i64 0)).setCell ⟨(w.heap.size + 1 + 1 + 1), 1, none⟩ (.slice none 0 0)).setCell ⟨(w.heap.size + 1 + 1 + 1), 2, none⟩ (.slice none 0 0) = put6 (w7) (w.heap.size + 1 + 1) (w.heap.size + 1 + 1 + 1) (.int .i64 (k : Int)) (.int .i64 (q : Int)) (.slice C N cc) (.int .i64 0) (.slice none 0 0) (.slice none 0 0) from rfl)
  clear hres hpf hown hb7
  go_wp2_with fail
  rw [HPW.out]
  obtain ⟨⟨s0, s1, s2, _⟩, s3, s4, s5, _⟩ := (⟨HPF.out.1.facts, HPF.out.2.facts⟩ : _ ∧ _)
  have HR := HRS.out
  exact bodyPost_ret (v := .tuple #[.agg #[.int .i64 (k : Int), .int .i64 (q : Int), .slice C N cc], .agg #[.int .i64 0, .slice none 0 0, .slice none 0 0]]) (by simp [results, Tryz.results23, go_sem, s0, s1, s2, s3, s4, s5]) rfl ⟨C, N, cc, 0, _, _, _, _, _, _, rfl, HR.1, HR.2.1, HR.2.2⟩
end Go.Proofs.YtpllojpgpejfmaaGreatDoor
