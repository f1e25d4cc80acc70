/- The document's rule behind a rule, and the errors: edenref05.Compose of any input. Condition: the tables read from memory. -/
import Derived.Test.YtpllojpgpejfmaaGreatDoorF17
namespace Go.Proofs.YtpllojpgpejfmaaGreatDoor
open Go.RowKit RuleP

set_option maxRecDepth 100000 in
set_option maxHeartbeats 4000000 in
theorem compose5_bad1 (w : World) (K R K2 R2 : Int) (A B : Option Addr) (n c m d : Nat) (T T2 : List Int) (hT : Sl w A n (T.map (Value.int .i64))) (hm : n ≤ 9223372036854775807) (hT2 : Sl w B m (T2.map (Value.int .i64))) (hm2 : m ≤ 9223372036854775807) (tl : Tale) (h : checkF 0 K R T = some tl) :
    Calls Tryz.prog 23 #[ruleV K R A n c, ruleV K2 R2 B m d] w (Rule5E w 0 0 [] (some tl)) := by
  have hx0 := (((RuleAt.new w (.int .i64 K) (.int .i64 R) (.slice A n c)).alloc (.cells #[.int .i64 K2, .int .i64 R2, .slice B m d] 26)).alloc (.cells #[.int .i64 0, .int .i64 0, .slice none 0 0] 26)).alloc (.cells #[.int .i64 0, .slice none 0 0, .slice none 0 0] 45)
  have hy0 := ((RuleAt.new (w.alloc (.cells #[.int .i64 K, .int .i64 R, .slice A n c] 26)) (.int .i64 K2) (.int .i64 R2) (.slice B m d)).alloc (.cells #[.int .i64 0, .int .i64 0, .slice none 0 0] 26)).alloc (.cells #[.int .i64 0, .slice none 0 0, .slice none 0 0] 45)
  have hz0 := (RuleAt.new ((w.alloc (.cells #[.int .i64 K, .int .i64 R, .slice A n c] 26)).alloc (.cells #[.int .i64 K2, .int .i64 R2, .slice B m d] 26)) (.int .i64 0) (.int .i64 0) (.slice none 0 0)).alloc (.cells #[.int .i64 0, .slice none 0 0, .slice none 0 0] 45)
  have hw0 := WantAt.new (((w.alloc (.cells #[.int .i64 K, .int .i64 R, .slice A n c] 26)).alloc (.cells #[.int .i64 K2, .int .i64 R2, .slice B m d] 26)).alloc (.cells #[.int .i64 0, .int .i64 0, .slice none 0 0] 26)) (.int .i64 0) (.slice none 0 0) (.slice none 0 0)
  rw [World.size_alloc] at hy0
  rw [World.size_alloc, World.size_alloc] at hz0
  rw [World.size_alloc, World.size_alloc, World.size_alloc] at hw0
  have hb0 := ((((Below.refl w.heap.size w).alloc (Nat.le_refl _) (.cells #[.int .i64 K, .int .i64 R, .slice A n c] 26)).alloc (by simp) (.cells #[.int .i64 K2, .int .i64 R2, .slice B m d] 26)).alloc (by simp; omega) (.cells #[.int .i64 0, .int .i64 0, .slice none 0 0] 26)).alloc (by simp; omega) (.cells #[.int .i64 0, .slice none 0 0, .slice none 0 0] 45)
  obtain ⟨wx, hwx⟩ : ∃ wx, (((w.alloc (.cells #[.int .i64 K, .int .i64 R, .slice A n c] 26)).alloc (.cells #[.int .i64 K2, .int .i64 R2, .slice B m d] 26)).alloc (.cells #[.int .i64 0, .int .i64 0, .slice none 0 0] 26)).alloc (.cells #[.int .i64 0, .slice none 0 0, .slice none 0 0] 45) = wx := ⟨_, rfl⟩
  have hsx : wx.heap.size = w.heap.size + 4 := by rw [← hwx]; simp
  have HWX := Lib.hid hwx
  have HSX := Lib.hid hsx
  obtain ⟨q0, q1, q2, _⟩ := hx0.facts
  rw [hwx] at hx0 hy0 hz0 hw0 hb0
  have hf := fault5_c wx 0 K R A n c T (hT.below hb0) hm
  have HF2 := Lib.hid (fun (wz : World) (hz : Below w.heap.size w wz) => fault5_c wz 1 K2 R2 B m d T2 (hT2.below hz) hm2)
  have HX0 := Lib.hid hx0
  have HY0 := Lib.hid hy0
  have HZ0 := Lib.hid hz0
  have HW0 := Lib.hid hw0
  have HB0 := Lib.hid hb0
  have HTT := Lib.hid (fun (wz : World) (hz : Below w.heap.size w wz) => (⟨hT.below hz, hT2.below hz⟩ : _ ∧ _))
  rw [h] at hf
  have hto := checkF_ok 0 K R T tl h
  have HF := Lib.hid hf
  have HTO := Lib.hid hto
  clear hf hto hwx h hx0 hy0 hz0 hw0 hb0 hT hT2
  unfold ruleV at *
  go_enter Tryz.func23, Tryz.ntmps23
  go_wp2_with fail
  rw [HWX.out]
  clear q0 q1 q2
  refine (HF.out).mono ?_
  rintro e w1 ⟨N, A1, n1, c1, A2, n2, c2, rfl, hu, hb1⟩
  have hb2 : Below w1.heap.size w1 (w1.alloc (.cells #[.int .i64 (N : Int), .slice A1 n1 c1, .slice A2 n2 c2] 45)) := (Below.refl _ _).alloc (Nat.le_refl _) _
  have hv2 := WantAt.new w1 (.int .i64 (N : Int)) (.slice A1 n1 c1) (.slice A2 n2 c2)
  obtain ⟨wy, hwy⟩ : ∃ wy, w1.alloc (.cells #[.int .i64 (N : Int), .slice A1 n1 c1, .slice A2 n2 c2] 45) = wy := ⟨_, rfl⟩
  have HWY := Lib.hid hwy
  have hlt2 : w1.heap.size < wy.heap.size := by rw [← hwy]; simp
  rw [hwy] at hb2 hv2
  have hs1 := hb1.size
  have hx2 := (HX0.out.below hb1 (by omega)).below hb2 (by omega)
  have hy2 := (HY0.out.below hb1 (by omega)).below hb2 (by omega)
  have hz2 := (HZ0.out.below hb1 (by omega)).below hb2 (by omega)
  have hw2 := (HW0.out.below hb1 (by omega)).below hb2 (by omega)
  have hu2 := hu.below hb2
  have HBAD := Lib.hid (errBad_c wy N A1 n1 c1 A2 n2 c2)
  have hbx := HB0.out.trans ((hb1.trans (hb2.mono hb1.size)).mono HB0.out.size)
  obtain ⟨ge, hge'⟩ : ∃ ge, w1.heap.size = ge := ⟨_, rfl⟩
  rw [hge'] at hv2 hs1 hlt2
  have hge : w.heap.size + 4 ≤ ge := by omega
  obtain ⟨v0, v1, v2, _⟩ := hv2.facts
  have HGE := Lib.hid hge'
  have HX2 := Lib.hid hx2
  have HY2 := Lib.hid hy2
  have HZ2 := Lib.hid hz2
  have HW2 := Lib.hid hw2
  have HV2 := Lib.hid hv2
  have HB2 := Lib.hid hbx
  have HU2 := Lib.hid hu2
  clear hu hb1 hb2 hx2 hy2 hz2 hw2 hv2 hbx hwy hge' hs1 hsx hu2
  have hN : N ≠ 0 := by have h1 := HU2.out.num; have h2 := HTO.out.1; simp only [tnum] at h1; omega
  rw [decide_eq_true hN] at HBAD
  have HNN := Lib.hid hN
  clear hN
  go_wp2_with fail
  rw [HWY.out, HGE.out]
  refine (HBAD.out).mono ?_
  rintro e w3 ⟨rfl, hb3⟩
  have hb3s := hb3.size
  have hge2 : ge < w3.heap.size := by omega
  have HZ3 := Lib.hid (HZ2.out.below hb3 (by omega))
  have HW3 := Lib.hid (HW2.out.below hb3 (by omega))
  have HU3 := Lib.hid (HU2.out.below hb3)
  have HB3 := Lib.hid (HB2.out.trans (hb3.mono HB2.out.size))
  have HV3 := Lib.hid (HV2.out.below hb3 (by omega))
  have hbad3 := errBad_c w3 N A1 n1 c1 A2 n2 c2
  rw [decide_eq_true HNN.out] at hbad3
  have HBAD3 := Lib.hid hbad3
  obtain ⟨g0, g1, g2, _⟩ := HV3.out.facts
  clear v0 v1 v2 hb3 hbad3
  go_wp2_with fail
  refine (HBAD3.out).mono ?_
  rintro e w4 ⟨rfl, hb4⟩
  have hb4s := hb4.size
  have h0 := cell_later hb4 g0
  have h1 := cell_later hb4 g1
  have h2 := cell_later hb4 g2
  have hz4 := HZ3.out.below hb4 (by omega)
  have hw4 := HW3.out.below hb4 (by omega)
  have hu4 := (HU3.out.below hb4).base (base' := w.heap.size + 4) (by have := HSX.out; omega)
  have hb4w := HB3.out.trans (hb4.mono HB3.out.size)
  clear g0 g1 g2 hb4
  have hres := put6_res (w := w) (B := ge) hz4 hw4 (by omega) (by omega) (C := none) (N := 0) (cc := 0) (xs := []) (World.ownsRow_nil _ _ _ _) (by omega) hu4 (by omega) hb4w 0 0
  have hpf := put6_facts hz4 hw4 (by omega) (.int .i64 0) (.int .i64 0) (.slice none 0 0) (.int .i64 (N : Int)) (.slice A1 n1 c1) (.slice A2 n2 c2)
  obtain ⟨d0, d1, d2, f0, f1, f2⟩ := hw4.facts
  obtain ⟨r0, r1, r2, q0, q1, q2⟩ := hz4.facts
  have HRS := Lib.hid hres
  have HPF := Lib.hid hpf
  have HPW := Lib.hid (show (((((w4.setCell ⟨w.heap.size + 1 + 1, 0, none⟩ (.int .i64 0)).setCell ⟨w.heap.size + 1 + 1, 1, none⟩ (.int .i64 0)).setCell ⟨w.heap.size + 1 + 1, 2, none⟩ (.slice none 0 0)).setCell ⟨w.heap.size + 1 + 1 + 1, 0, none⟩ (.int .i64 (N : Int))).setCell ⟨w.heap.size + 1 + 1 + 1, 1, none⟩ (.slice A1 n1 c1)).setCell ⟨w.heap.size + 1 + 1 + 1, 2, none⟩ (.slice A2 n2 c2) = put6 w4 (w.heap.size + 1 + 1) (w.heap.size + 1 + 1 + 1) (.int .i64 0) (.int .i64 0) (.slice none 0 0) (.int .i64 (N : Int)) (.slice A1 n1 c1) (.slice A2 n2 c2) from rfl)
  clear hz4 hw4 hu4 hb4w hres hpf
  go_wp2_with fail
  go_region
  all_goals
    first | go_wp2_with fail | skip
    rw [HPW.out]
    obtain ⟨⟨s0, s1, s2, _⟩, s3, s4, s5, _⟩ := (⟨HPF.out.1.facts, HPF.out.2.facts⟩ : _ ∧ _)
    obtain ⟨W, hW⟩ : ∃ W, put6 w4 (w.heap.size + 1 + 1) (w.heap.size + 1 + 1 + 1) (.int .i64 0) (.int .i64 0) (.slice none 0 0) (.int .i64 (N : Int)) (.slice A1 n1 c1) (.slice A2 n2 c2) = W := ⟨_, rfl⟩
    have HR := HRS.out
    rw [hW] at s0 s1 s2 s3 s4 s5 HR
    rw [hW]
    have hdr := (Below.refl W.heap.size W).drew
    exact bodyPost_ret (v := .tuple #[.agg #[.int .i64 0, .int .i64 0, .slice none 0 0], .agg #[.int .i64 (N : Int), .slice A1 n1 c1, .slice A2 n2 c2]]) (by simp [results, Tryz.results23, go_sem, s0, s1, s2, s3, s4, s5]) rfl ⟨none, 0, 0, N, A1, n1, c1, A2, n2, c2, rfl, World.ownsRow_nil _ _ _ _, HR.2.1.below hdr, HR.2.2.trans (hdr.mono HR.2.2.size)⟩

set_option maxRecDepth 100000 in
set_option maxHeartbeats 4000000 in
theorem compose5_bad2 (w : World) (K R K2 R2 : Int) (A B : Option Addr) (n c m d : Nat) (T T2 : List Int) (hT : Sl w A n (T.map (Value.int .i64))) (hm : n ≤ 9223372036854775807) (hT2 : Sl w B m (T2.map (Value.int .i64))) (hm2 : m ≤ 9223372036854775807) (tl : Tale) (h : checkF 0 K R T = none) (h2 : checkF 1 K2 R2 T2 = some tl) :
    Calls Tryz.prog 23 #[ruleV K R A n c, ruleV K2 R2 B m d] w (Rule5E w 0 0 [] (some tl)) := by
  have hx0 := (((RuleAt.new w (.int .i64 K) (.int .i64 R) (.slice A n c)).alloc (.cells #[.int .i64 K2, .int .i64 R2, .slice B m d] 26)).alloc (.cells #[.int .i64 0, .int .i64 0, .slice none 0 0] 26)).alloc (.cells #[.int .i64 0, .slice none 0 0, .slice none 0 0] 45)
  have hy0 := ((RuleAt.new (w.alloc (.cells #[.int .i64 K, .int .i64 R, .slice A n c] 26)) (.int .i64 K2) (.int .i64 R2) (.slice B m d)).alloc (.cells #[.int .i64 0, .int .i64 0, .slice none 0 0] 26)).alloc (.cells #[.int .i64 0, .slice none 0 0, .slice none 0 0] 45)
  have hz0 := (RuleAt.new ((w.alloc (.cells #[.int .i64 K, .int .i64 R, .slice A n c] 26)).alloc (.cells #[.int .i64 K2, .int .i64 R2, .slice B m d] 26)) (.int .i64 0) (.int .i64 0) (.slice none 0 0)).alloc (.cells #[.int .i64 0, .slice none 0 0, .slice none 0 0] 45)
  have hw0 := WantAt.new (((w.alloc (.cells #[.int .i64 K, .int .i64 R, .slice A n c] 26)).alloc (.cells #[.int .i64 K2, .int .i64 R2, .slice B m d] 26)).alloc (.cells #[.int .i64 0, .int .i64 0, .slice none 0 0] 26)) (.int .i64 0) (.slice none 0 0) (.slice none 0 0)
  rw [World.size_alloc] at hy0
  rw [World.size_alloc, World.size_alloc] at hz0
  rw [World.size_alloc, World.size_alloc, World.size_alloc] at hw0
  have hb0 := ((((Below.refl w.heap.size w).alloc (Nat.le_refl _) (.cells #[.int .i64 K, .int .i64 R, .slice A n c] 26)).alloc (by simp) (.cells #[.int .i64 K2, .int .i64 R2, .slice B m d] 26)).alloc (by simp; omega) (.cells #[.int .i64 0, .int .i64 0, .slice none 0 0] 26)).alloc (by simp; omega) (.cells #[.int .i64 0, .slice none 0 0, .slice none 0 0] 45)
  obtain ⟨wx, hwx⟩ : ∃ wx, (((w.alloc (.cells #[.int .i64 K, .int .i64 R, .slice A n c] 26)).alloc (.cells #[.int .i64 K2, .int .i64 R2, .slice B m d] 26)).alloc (.cells #[.int .i64 0, .int .i64 0, .slice none 0 0] 26)).alloc (.cells #[.int .i64 0, .slice none 0 0, .slice none 0 0] 45) = wx := ⟨_, rfl⟩
  have hsx : wx.heap.size = w.heap.size + 4 := by rw [← hwx]; simp
  have HWX := Lib.hid hwx
  have HSX := Lib.hid hsx
  obtain ⟨q0, q1, q2, _⟩ := hx0.facts
  rw [hwx] at hx0 hy0 hz0 hw0 hb0
  have hf := fault5_c wx 0 K R A n c T (hT.below hb0) hm
  have HF2 := Lib.hid (fun (wz : World) (hz : Below w.heap.size w wz) => fault5_c wz 1 K2 R2 B m d T2 (hT2.below hz) hm2)
  have HX0 := Lib.hid hx0
  have HY0 := Lib.hid hy0
  have HZ0 := Lib.hid hz0
  have HW0 := Lib.hid hw0
  have HB0 := Lib.hid hb0
  have HTT := Lib.hid (fun (wz : World) (hz : Below w.heap.size w wz) => (⟨hT.below hz, hT2.below hz⟩ : _ ∧ _))
  rw [h] at hf
  rw [h2] at HF2
  have hto := checkF_ok 1 K2 R2 T2 tl h2
  have HF := Lib.hid hf
  have HTO := Lib.hid hto
  clear hf hto hwx h h2 hx0 hy0 hz0 hw0 hb0 hT hT2
  unfold ruleV at *
  go_enter Tryz.func23, Tryz.ntmps23
  go_wp2_with fail
  rw [HWX.out]
  clear q0 q1 q2
  refine (HF.out).mono ?_
  rintro e w1 ⟨N, A1, n1, c1, A2, n2, c2, rfl, hu, hb1⟩
  have hb2 : Below w1.heap.size w1 (w1.alloc (.cells #[.int .i64 (N : Int), .slice A1 n1 c1, .slice A2 n2 c2] 45)) := (Below.refl _ _).alloc (Nat.le_refl _) _
  have hv2 := WantAt.new w1 (.int .i64 (N : Int)) (.slice A1 n1 c1) (.slice A2 n2 c2)
  obtain ⟨wy, hwy⟩ : ∃ wy, w1.alloc (.cells #[.int .i64 (N : Int), .slice A1 n1 c1, .slice A2 n2 c2] 45) = wy := ⟨_, rfl⟩
  have HWY := Lib.hid hwy
  have hlt2 : w1.heap.size < wy.heap.size := by rw [← hwy]; simp
  rw [hwy] at hb2 hv2
  have hs1 := hb1.size
  have hx2 := (HX0.out.below hb1 (by omega)).below hb2 (by omega)
  have hy2 := (HY0.out.below hb1 (by omega)).below hb2 (by omega)
  have hz2 := (HZ0.out.below hb1 (by omega)).below hb2 (by omega)
  have hw2 := (HW0.out.below hb1 (by omega)).below hb2 (by omega)
  have hu2 := hu.below hb2
  have HBAD := Lib.hid (errBad_c wy N A1 n1 c1 A2 n2 c2)
  have hbx := HB0.out.trans ((hb1.trans (hb2.mono hb1.size)).mono HB0.out.size)
  obtain ⟨ge, hge'⟩ : ∃ ge, w1.heap.size = ge := ⟨_, rfl⟩
  rw [hge'] at hv2 hs1 hlt2
  have hge : w.heap.size + 4 ≤ ge := by omega
  obtain ⟨v0, v1, v2, _⟩ := hv2.facts
  have HGE := Lib.hid hge'
  have HX2 := Lib.hid hx2
  have HY2 := Lib.hid hy2
  have HZ2 := Lib.hid hz2
  have HW2 := Lib.hid hw2
  have HV2 := Lib.hid hv2
  have HB2 := Lib.hid hbx
  have HU2 := Lib.hid hu2
  clear hu hb1 hb2 hx2 hy2 hz2 hw2 hv2 hbx hwy hge' hs1 hsx hu2
  obtain rfl : N = 0 := HU2.out.num
  obtain ⟨rfl, rfl, rfl, rfl, rfl, rfl⟩ : A1 = none ∧ n1 = 0 ∧ c1 = 0 ∧ A2 = none ∧ n2 = 0 ∧ c2 = 0 := by
    have e := HU2.out.none_eq
    simp at e
    obtain ⟨⟨q1, q2, q3⟩, q4, q5, q6⟩ := e
    exact ⟨q1, q2, q3, q4, q5, q6⟩
  rw [show decide ((0 : Nat) ≠ 0) = false from rfl] at HBAD
  rw [show ((0 : Nat) : Int) = 0 from rfl] at HBAD HWY v0
  rw [show ((0 : Nat) : Int) = 0 from rfl]
  go_wp2_with fail
  rw [HWY.out, HGE.out]
  refine (HBAD.out).mono ?_
  rintro e w3 ⟨rfl, hb3⟩
  have hb3s := hb3.size
  have hge2 : ge < w3.heap.size := by omega
  have HX3 := Lib.hid (HX2.out.below hb3 (by omega))
  have HY3 := Lib.hid (HY2.out.below hb3 (by omega))
  have HZ3 := Lib.hid (HZ2.out.below hb3 (by omega))
  have HW3 := Lib.hid (HW2.out.below hb3 (by omega))
  have HB3 := Lib.hid (HB2.out.trans (hb3.mono HB2.out.size))
  have HV3 := Lib.hid (HV2.out.below hb3 (by omega))
  have hB3w := HB3.out
  have hf2 := HF2.out w3 hB3w
  clear v0 v1 v2 hb3 hB3w
  have HFF := Lib.hid hf2
  clear hf2
  obtain ⟨y0, y1, y2, _⟩ := HY3.out.facts
  go_wp2_with fail
  refine (HFF.out).mono ?_
  rintro e w4 ⟨N, A1, n1, c1, A2, n2, c2, rfl, hu, hb4⟩
  have hb4s := hb4.size
  have hk4 := keeps_set3 w4 ge (.int .i64 (N : Int)) (.slice A1 n1 c1) (.slice A2 n2 c2)
  have hx5 := (HX3.out.below hb4 (by omega)).keeps hk4 (by omega)
  have hy5 := (HY3.out.below hb4 (by omega)).keeps hk4 (by omega)
  have hz5 := (HZ3.out.below hb4 (by omega)).keeps hk4 (by omega)
  have hw5 := (HW3.out.below hb4 (by omega)).keeps hk4 (by omega)
  have hv5 := (HV3.out.below hb4 (by omega)).set3 (.int .i64 (N : Int)) (.slice A1 n1 c1) (.slice A2 n2 c2)
  have hu5 := hu.set3 (g := ge) (by omega) (.int .i64 (N : Int)) (.slice A1 n1 c1) (.slice A2 n2 c2)
  have hb5 := below_set3 (HB3.out.trans (hb4.mono HB3.out.size)) (show w.heap.size ≤ ge by omega) (.int .i64 (N : Int)) (.slice A1 n1 c1) (.slice A2 n2 c2)
  obtain ⟨_, _, _, k0, k1, k2⟩ := (HV3.out.below hb4 (by omega)).facts
  have hsz5 : ((((w4.setCell ⟨ge, 0, none⟩ (.int .i64 (N : Int))).setCell ⟨ge, 1, none⟩ (.slice A1 n1 c1)).setCell ⟨ge, 2, none⟩ (.slice A2 n2 c2))).heap.size = w4.heap.size := by simp [World.setCell]
  obtain ⟨w5, hw5e⟩ : ∃ w5, (((w4.setCell ⟨ge, 0, none⟩ (.int .i64 (N : Int))).setCell ⟨ge, 1, none⟩ (.slice A1 n1 c1)).setCell ⟨ge, 2, none⟩ (.slice A2 n2 c2)) = w5 := ⟨_, rfl⟩
  rw [hw5e] at hx5 hy5 hz5 hw5 hv5 hu5 hb5 hsz5
  have HW5E := Lib.hid hw5e
  have HX5 := Lib.hid hx5
  have HY5 := Lib.hid hy5
  have HZ5 := Lib.hid hz5
  have HW5 := Lib.hid hw5
  have HV5 := Lib.hid hv5
  have HU5 := Lib.hid hu5
  have HB5 := Lib.hid hb5
  have HBAD5 := Lib.hid (errBad_c w5 N A1 n1 c1 A2 n2 c2)
  obtain ⟨g0, g1, g2, _⟩ := HV5.out.facts
  clear hu hb4 hk4 hx5 hy5 hz5 hw5 hv5 hu5 hb5 hw5e y0 y1 y2
  have hN : N ≠ 0 := by have h1 := HU5.out.num; have h2 := HTO.out.1; simp only [tnum] at h1; omega
  rw [decide_eq_true hN] at HBAD5
  clear hN
  go_wp2_with fail
  rw [HW5E.out]
  clear k0 k1 k2
  refine (HBAD5.out).mono ?_
  rintro e w6 ⟨rfl, hb6⟩
  have hb6s := hb6.size
  have h0 := cell_later hb6 g0
  have h1 := cell_later hb6 g1
  have h2 := cell_later hb6 g2
  have hz4 := HZ5.out.below hb6 (by omega)
  have hw4 := HW5.out.below hb6 (by omega)
  have hu4 := (HU5.out.below hb6).base (base' := w.heap.size + 4) (by omega)
  have hb4w := HB5.out.trans (hb6.mono HB5.out.size)
  clear g0 g1 g2 hb6
  have hres := put6_res (w := w) (B := ge) hz4 hw4 (by omega) (by omega) (C := none) (N := 0) (cc := 0) (xs := []) (World.ownsRow_nil _ _ _ _) (by omega) hu4 (by omega) hb4w 0 0
  have hpf := put6_facts hz4 hw4 (by omega) (.int .i64 0) (.int .i64 0) (.slice none 0 0) (.int .i64 (N : Int)) (.slice A1 n1 c1) (.slice A2 n2 c2)
  obtain ⟨d0, d1, d2, f0, f1, f2⟩ := hw4.facts
  obtain ⟨r0, r1, r2, q0, q1, q2⟩ := hz4.facts
  have HRS := Lib.hid hres
  have HPF := Lib.hid hpf
  have HPW := Lib.hid (show (((((w6.setCell ⟨w.heap.size + 1 + 1, 0, none⟩ (.int .i64 0)).setCell ⟨w.heap.size + 1 + 1, 1, none⟩ (.int .i64 0)).setCell ⟨w.heap.size + 1 + 1, 2, none⟩ (.slice none 0 0)).setCell ⟨w.heap.size + 1 + 1 + 1, 0, none⟩ (.int .i64 (N : Int))).setCell ⟨w.heap.size + 1 + 1 + 1, 1, none⟩ (.slice A1 n1 c1)).setCell ⟨w.heap.size + 1 + 1 + 1, 2, none⟩ (.slice A2 n2 c2) = put6 w6 (w.heap.size + 1 + 1) (w.heap.size + 1 + 1 + 1) (.int .i64 0) (.int .i64 0) (.slice none 0 0) (.int .i64 (N : Int)) (.slice A1 n1 c1) (.slice A2 n2 c2) from rfl)
  clear hz4 hw4 hu4 hb4w hres hpf
  go_wp2_with fail
  go_region
  all_goals
    first | go_wp2_with fail | skip
    rw [HPW.out]
    obtain ⟨⟨s0, s1, s2, _⟩, s3, s4, s5, _⟩ := (⟨HPF.out.1.facts, HPF.out.2.facts⟩ : _ ∧ _)
    obtain ⟨W, hW⟩ : ∃ W, put6 w6 (w.heap.size + 1 + 1) (w.heap.size + 1 + 1 + 1) (.int .i64 0) (.int .i64 0) (.slice none 0 0) (.int .i64 (N : Int)) (.slice A1 n1 c1) (.slice A2 n2 c2) = W := ⟨_, rfl⟩
    have HR := HRS.out
    rw [hW] at s0 s1 s2 s3 s4 s5 HR
    rw [hW]
    have hdr := (Below.refl W.heap.size W).drew
    exact bodyPost_ret (v := .tuple #[.agg #[.int .i64 0, .int .i64 0, .slice none 0 0], .agg #[.int .i64 (N : Int), .slice A1 n1 c1, .slice A2 n2 c2]]) (by simp [results, Tryz.results23, go_sem, s0, s1, s2, s3, s4, s5]) rfl ⟨none, 0, 0, N, A1, n1, c1, A2, n2, c2, rfl, World.ownsRow_nil _ _ _ _, HR.2.1.below hdr, HR.2.2.trans (hdr.mono HR.2.2.size)⟩

end Go.Proofs.YtpllojpgpejfmaaGreatDoor
