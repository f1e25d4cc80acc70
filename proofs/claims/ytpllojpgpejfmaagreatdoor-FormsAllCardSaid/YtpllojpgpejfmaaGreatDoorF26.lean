/- Whether two rules say the same: edenref05.Same. Condition: the tables read from memory. -/
import Derived.Test.YtpllojpgpejfmaaGreatDoorF18
import Derived.Test.YtpllojpgpejfmaaGreatDoorF24
namespace Go.Proofs.YtpllojpgpejfmaaGreatDoor
open Go.RowKit RuleP
/-- A bool and a value that asks for an error. -/
def Bool5E (w : World) (b : Bool) (tl : Option Tale) (e : Ending) (w' : World) : Prop :=
  ∃ (M : Nat) (A1 : Option Addr) (n1 c1 : Nat) (A2 : Option Addr) (n2 c2 : Nat), e = .returned (.tuple #[.bool b, .agg #[.int .i64 (M : Int), .slice A1 n1 c1, .slice A2 n2 c2]]) ∧
    WantB w' w.heap.size tl (.agg #[.int .i64 (M : Int), .slice A1 n1 c1, .slice A2 n2 c2]) ∧ Below w.heap.size w w'
theorem rules5 (w : World) (K R K2 R2 : Int) (A B : Option Addr) (n m c d : Nat) (T T2 : List Int) (h1 : Sl w A n (T.map (Value.int .i64))) (h2 : Sl w B m (T2.map (Value.int .i64))) (hm : n ≤ 9223372036854775807) (hm2 : m ≤ 9223372036854775807) :
    Calls Tryz.prog 29 #[.agg #[.int .i64 K, .int .i64 R, .slice A n c], .agg #[.int .i64 K2, .int .i64 R2, .slice B m d]] w fun e w' => e = .returned (.bool (decide (K = K2 ∧ R = R2 ∧ T = T2))) ∧ Below w.heap.size w w' := rules_b w K R K2 R2 A B n m c d T T2 h1 h2 hm hm2
theorem err3_res {w w5 : World} {h B : Nat} {b0 b1 b2 : Value} (hw : WantAt w5 h b0 b1 b2) {tl : Option Tale} {M : Nat} {A1 : Option Addr} {n1 c1 : Nat} {A2 : Option Addr} {n2 c2 : Nat} (hu : WantB w5 B tl (.agg #[.int .i64 (M : Int), .slice A1 n1 c1, .slice A2 n2 c2])) (hB : h < B) (hg : w.heap.size ≤ h) (hb : Below w.heap.size w w5) :
    WantB (((w5.setCell ⟨h, 0, none⟩ (.int .i64 (M : Int))).setCell ⟨h, 1, none⟩ (.slice A1 n1 c1)).setCell ⟨h, 2, none⟩ (.slice A2 n2 c2)) w.heap.size tl (.agg #[.int .i64 (M : Int), .slice A1 n1 c1, .slice A2 n2 c2]) ∧
    Below w.heap.size w (((w5.setCell ⟨h, 0, none⟩ (.int .i64 (M : Int))).setCell ⟨h, 1, none⟩ (.slice A1 n1 c1)).setCell ⟨h, 2, none⟩ (.slice A2 n2 c2)) ∧
    WantAt (((w5.setCell ⟨h, 0, none⟩ (.int .i64 (M : Int))).setCell ⟨h, 1, none⟩ (.slice A1 n1 c1)).setCell ⟨h, 2, none⟩ (.slice A2 n2 c2)) h (.int .i64 (M : Int)) (.slice A1 n1 c1) (.slice A2 n2 c2) :=
  ⟨(hu.set3 hB _ _ _).base (by omega), below_set3 hb hg _ _ _, hw.set3 _ _ _⟩

set_option maxRecDepth 100000 in
set_option maxHeartbeats 4000000 in
theorem same5_bad1 (w : World) (K R K2 R2 : Int) (A B : Option Addr) (n c m d : Nat) (T T2 : List Int) (hT : Sl w A n (T.map (Value.int .i64))) (hm : n ≤ 9223372036854775807) (hT2 : Sl w B m (T2.map (Value.int .i64))) (hm2 : m ≤ 9223372036854775807) (tl : Tale) (h : checkF 0 K R T = some tl) :
    Calls Tryz.prog 27 #[ruleV K R A n c, ruleV K2 R2 B m d] w (Bool5E w false (some tl)) := by
  have hx0 := (((RuleAt.new w (.int .i64 K) (.int .i64 R) (.slice A n c)).alloc (.cells #[.int .i64 K2, .int .i64 R2, .slice B m d] 26))).alloc (.cells #[.int .i64 0, .slice none 0 0, .slice none 0 0] 45)
  have hy0 := ((RuleAt.new (w.alloc (.cells #[.int .i64 K, .int .i64 R, .slice A n c] 26)) (.int .i64 K2) (.int .i64 R2) (.slice B m d))).alloc (.cells #[.int .i64 0, .slice none 0 0, .slice none 0 0] 45)
  have hw0 := WantAt.new (((w.alloc (.cells #[.int .i64 K, .int .i64 R, .slice A n c] 26)).alloc (.cells #[.int .i64 K2, .int .i64 R2, .slice B m d] 26))) (.int .i64 0) (.slice none 0 0) (.slice none 0 0)
  rw [World.size_alloc] at hy0
  rw [World.size_alloc, World.size_alloc] at hw0
  have hb0 := ((((Below.refl w.heap.size w).alloc (Nat.le_refl _) (.cells #[.int .i64 K, .int .i64 R, .slice A n c] 26)).alloc (by simp) (.cells #[.int .i64 K2, .int .i64 R2, .slice B m d] 26))).alloc (by simp; omega) (.cells #[.int .i64 0, .slice none 0 0, .slice none 0 0] 45)
  obtain ⟨wx, hwx⟩ : ∃ wx, (((w.alloc (.cells #[.int .i64 K, .int .i64 R, .slice A n c] 26)).alloc (.cells #[.int .i64 K2, .int .i64 R2, .slice B m d] 26))).alloc (.cells #[.int .i64 0, .slice none 0 0, .slice none 0 0] 45) = wx := ⟨_, rfl⟩
  have hsx : wx.heap.size = w.heap.size + 3 := by rw [← hwx]; simp
  have HWX := Lib.hid hwx
  have HSX := Lib.hid hsx
  obtain ⟨q0, q1, q2, _⟩ := hx0.facts
  rw [hwx] at hx0 hy0 hw0 hb0
  have hf := fault5_c wx 0 K R A n c T (hT.below hb0) hm
  have HF2 := Lib.hid (fun (wz : World) (hz : Below w.heap.size w wz) => fault5_c wz 1 K2 R2 B m d T2 (hT2.below hz) hm2)
  have HX0 := Lib.hid hx0
  have HY0 := Lib.hid hy0
  have HW0 := Lib.hid hw0
  have HB0 := Lib.hid hb0
  have HTT := Lib.hid (fun (wz : World) (hz : Below w.heap.size w wz) => (⟨hT.below hz, hT2.below hz⟩ : _ ∧ _))
  rw [h] at hf
  have hto := checkF_ok 0 K R T tl h
  have HF := Lib.hid hf
  have HTO := Lib.hid hto
  clear hf hto hwx h hx0 hy0 hw0 hb0 hT hT2
  unfold ruleV at *
  go_enter Tryz.func27, Tryz.ntmps27
  go_wp2_with fail
  rw [HWX.out]
  clear q0 q1 q2
  refine (HF.out).mono ?_
  rintro e w1 ⟨N, A1, n1, c1, A2, n2, c2, rfl, hu, hb1⟩
  have hb2 : Below w1.heap.size w1 (w1.alloc (.cells #[.int .i64 (N : Int), .slice A1 n1 c1, .slice A2 n2 c2] 45)) := (Below.refl _ _).alloc (Nat.le_refl _) _
  have hv2 := WantAt.new w1 (.int .i64 (N : Int)) (.slice A1 n1 c1) (.slice A2 n2 c2)
  obtain ⟨wy, hwy⟩ : ∃ wy, w1.alloc (.cells #[.int .i64 (N : Int), .slice A1 n1 c1, .slice A2 n2 c2] 45) = wy := ⟨_, rfl⟩
  have HWY := Lib.hid hwy
  have hlt2 : w1.heap.size < wy.heap.size := by rw [← hwy]; simp
  rw [hwy] at hb2 hv2
  have hs1 := hb1.size
  have hx2 := (HX0.out.below hb1 (by omega)).below hb2 (by omega)
  have hy2 := (HY0.out.below hb1 (by omega)).below hb2 (by omega)
  have hw2 := (HW0.out.below hb1 (by omega)).below hb2 (by omega)
  have hu2 := hu.below hb2
  have HBAD := Lib.hid (errBad_c wy N A1 n1 c1 A2 n2 c2)
  have hbx := HB0.out.trans ((hb1.trans (hb2.mono hb1.size)).mono HB0.out.size)
  obtain ⟨ge, hge'⟩ : ∃ ge, w1.heap.size = ge := ⟨_, rfl⟩
  rw [hge'] at hv2 hs1 hlt2
  have hge : w.heap.size + 3 ≤ ge := by omega
  obtain ⟨v0, v1, v2, _⟩ := hv2.facts
  have HGE := Lib.hid hge'
  have HX2 := Lib.hid hx2
  have HY2 := Lib.hid hy2
  have HW2 := Lib.hid hw2
  have HV2 := Lib.hid hv2
  have HB2 := Lib.hid hbx
  have HU2 := Lib.hid hu2
  clear hu hb1 hb2 hx2 hy2 hw2 hv2 hbx hwy hge' hs1 hsx hu2
  have hN : N ≠ 0 := by have h1 := HU2.out.num; have h2 := HTO.out.1; simp only [tnum] at h1; omega
  rw [decide_eq_true hN] at HBAD
  have HNN := Lib.hid hN
  clear hN
  go_wp2_with fail
  rw [HWY.out, HGE.out]
  refine (HBAD.out).mono ?_
  rintro e w3 ⟨rfl, hb3⟩
  have hb3s := hb3.size
  have hge2 : ge < w3.heap.size := by omega
  have HW3 := Lib.hid (HW2.out.below hb3 (by omega))
  have HU3 := Lib.hid (HU2.out.below hb3)
  have HB3 := Lib.hid (HB2.out.trans (hb3.mono HB2.out.size))
  have HV3 := Lib.hid (HV2.out.below hb3 (by omega))
  have hbad3 := errBad_c w3 N A1 n1 c1 A2 n2 c2
  rw [decide_eq_true HNN.out] at hbad3
  have HBAD3 := Lib.hid hbad3
  obtain ⟨g0, g1, g2, _⟩ := HV3.out.facts
  clear v0 v1 v2 hb3 hbad3
  go_wp2_with fail
  refine (HBAD3.out).mono ?_
  rintro e w4 ⟨rfl, hb4⟩
  have hb4s := hb4.size
  have h0 := cell_later hb4 g0
  have h1 := cell_later hb4 g1
  have h2 := cell_later hb4 g2
  have hw4 := HW3.out.below hb4 (by omega)
  have hu4 := (HU3.out.below hb4).base (base' := w.heap.size + 3) (by have := HSX.out; omega)
  have hb4w := HB3.out.trans (hb4.mono HB3.out.size)
  clear g0 g1 g2 hb4
  have hres := err3_res (w := w) hw4 hu4 (by omega) (by omega) hb4w
  obtain ⟨d0, d1, d2, f0, f1, f2⟩ := (hw4).facts
  have HRS := Lib.hid hres
  clear hres hw4 hu4 hb4w
  go_wp2_with fail
  go_region
  all_goals
    first | go_wp2_with fail | skip
    have HR := HRS.out
    obtain ⟨s3, s4, s5, _⟩ := HR.2.2.facts
    obtain ⟨W, hW⟩ : ∃ W, ((((w4).setCell ⟨w.heap.size + 1 + 1, 0, none⟩ (.int .i64 (N : Int))).setCell ⟨w.heap.size + 1 + 1, 1, none⟩ (.slice A1 n1 c1)).setCell ⟨w.heap.size + 1 + 1, 2, none⟩ (.slice A2 n2 c2)) = W := ⟨_, rfl⟩
    rw [hW] at s3 s4 s5 HR
    rw [hW]
    have hdr := (Below.refl W.heap.size W).drew
    exact bodyPost_ret (v := .tuple #[.bool false, .agg #[.int .i64 (N : Int), .slice A1 n1 c1, .slice A2 n2 c2]]) (by simp [results, Tryz.results27, go_sem, s3, s4, s5]) rfl ⟨N, _, _, _, _, _, _, rfl, HR.1.below hdr, HR.2.1.trans (hdr.mono HR.2.1.size)⟩

set_option maxRecDepth 100000 in
set_option maxHeartbeats 4000000 in
theorem same5_bad2 (w : World) (K R K2 R2 : Int) (A B : Option Addr) (n c m d : Nat) (T T2 : List Int) (hT : Sl w A n (T.map (Value.int .i64))) (hm : n ≤ 9223372036854775807) (hT2 : Sl w B m (T2.map (Value.int .i64))) (hm2 : m ≤ 9223372036854775807) (tl : Tale) (h : checkF 0 K R T = none) (h2 : checkF 1 K2 R2 T2 = some tl) :
    Calls Tryz.prog 27 #[ruleV K R A n c, ruleV K2 R2 B m d] w (Bool5E w false (some tl)) := by
  have hx0 := (((RuleAt.new w (.int .i64 K) (.int .i64 R) (.slice A n c)).alloc (.cells #[.int .i64 K2, .int .i64 R2, .slice B m d] 26))).alloc (.cells #[.int .i64 0, .slice none 0 0, .slice none 0 0] 45)
  have hy0 := ((RuleAt.new (w.alloc (.cells #[.int .i64 K, .int .i64 R, .slice A n c] 26)) (.int .i64 K2) (.int .i64 R2) (.slice B m d))).alloc (.cells #[.int .i64 0, .slice none 0 0, .slice none 0 0] 45)
  have hw0 := WantAt.new (((w.alloc (.cells #[.int .i64 K, .int .i64 R, .slice A n c] 26)).alloc (.cells #[.int .i64 K2, .int .i64 R2, .slice B m d] 26))) (.int .i64 0) (.slice none 0 0) (.slice none 0 0)
  rw [World.size_alloc] at hy0
  rw [World.size_alloc, World.size_alloc] at hw0
  have hb0 := ((((Below.refl w.heap.size w).alloc (Nat.le_refl _) (.cells #[.int .i64 K, .int .i64 R, .slice A n c] 26)).alloc (by simp) (.cells #[.int .i64 K2, .int .i64 R2, .slice B m d] 26))).alloc (by simp; omega) (.cells #[.int .i64 0, .slice none 0 0, .slice none 0 0] 45)
  obtain ⟨wx, hwx⟩ : ∃ wx, (((w.alloc (.cells #[.int .i64 K, .int .i64 R, .slice A n c] 26)).alloc (.cells #[.int .i64 K2, .int .i64 R2, .slice B m d] 26))).alloc (.cells #[.int .i64 0, .slice none 0 0, .slice none 0 0] 45) = wx := ⟨_, rfl⟩
  have hsx : wx.heap.size = w.heap.size + 3 := by rw [← hwx]; simp
  have HWX := Lib.hid hwx
  have HSX := Lib.hid hsx
  obtain ⟨q0, q1, q2, _⟩ := hx0.facts
  rw [hwx] at hx0 hy0 hw0 hb0
  have hf := fault5_c wx 0 K R A n c T (hT.below hb0) hm
  have HF2 := Lib.hid (fun (wz : World) (hz : Below w.heap.size w wz) => fault5_c wz 1 K2 R2 B m d T2 (hT2.below hz) hm2)
  have HX0 := Lib.hid hx0
  have HY0 := Lib.hid hy0
  have HW0 := Lib.hid hw0
  have HB0 := Lib.hid hb0
  have HTT := Lib.hid (fun (wz : World) (hz : Below w.heap.size w wz) => (⟨hT.below hz, hT2.below hz⟩ : _ ∧ _))
  rw [h] at hf
  rw [h2] at HF2
  have hto := checkF_ok 1 K2 R2 T2 tl h2
  have HF := Lib.hid hf
  have HTO := Lib.hid hto
  clear hf hto hwx h h2 hx0 hy0 hw0 hb0 hT hT2
  unfold ruleV at *
  go_enter Tryz.func27, Tryz.ntmps27
  go_wp2_with fail
  rw [HWX.out]
  clear q0 q1 q2
  refine (HF.out).mono ?_
  rintro e w1 ⟨N, A1, n1, c1, A2, n2, c2, rfl, hu, hb1⟩
  have hb2 : Below w1.heap.size w1 (w1.alloc (.cells #[.int .i64 (N : Int), .slice A1 n1 c1, .slice A2 n2 c2] 45)) := (Below.refl _ _).alloc (Nat.le_refl _) _
  have hv2 := WantAt.new w1 (.int .i64 (N : Int)) (.slice A1 n1 c1) (.slice A2 n2 c2)
  obtain ⟨wy, hwy⟩ : ∃ wy, w1.alloc (.cells #[.int .i64 (N : Int), .slice A1 n1 c1, .slice A2 n2 c2] 45) = wy := ⟨_, rfl⟩
  have HWY := Lib.hid hwy
  have hlt2 : w1.heap.size < wy.heap.size := by rw [← hwy]; simp
  rw [hwy] at hb2 hv2
  have hs1 := hb1.size
  have hx2 := (HX0.out.below hb1 (by omega)).below hb2 (by omega)
  have hy2 := (HY0.out.below hb1 (by omega)).below hb2 (by omega)
  have hw2 := (HW0.out.below hb1 (by omega)).below hb2 (by omega)
  have hu2 := hu.below hb2
  have HBAD := Lib.hid (errBad_c wy N A1 n1 c1 A2 n2 c2)
  have hbx := HB0.out.trans ((hb1.trans (hb2.mono hb1.size)).mono HB0.out.size)
  obtain ⟨ge, hge'⟩ : ∃ ge, w1.heap.size = ge := ⟨_, rfl⟩
  rw [hge'] at hv2 hs1 hlt2
  have hge : w.heap.size + 3 ≤ ge := by omega
  obtain ⟨v0, v1, v2, _⟩ := hv2.facts
  have HGE := Lib.hid hge'
  have HX2 := Lib.hid hx2
  have HY2 := Lib.hid hy2
  have HW2 := Lib.hid hw2
  have HV2 := Lib.hid hv2
  have HB2 := Lib.hid hbx
  have HU2 := Lib.hid hu2
  clear hu hb1 hb2 hx2 hy2 hw2 hv2 hbx hwy hge' hs1 hsx hu2
  obtain rfl : N = 0 := HU2.out.num
  obtain ⟨rfl, rfl, rfl, rfl, rfl, rfl⟩ : A1 = none ∧ n1 = 0 ∧ c1 = 0 ∧ A2 = none ∧ n2 = 0 ∧ c2 = 0 := by
    have e := HU2.out.none_eq
    simp at e
    obtain ⟨⟨q1, q2, q3⟩, q4, q5, q6⟩ := e
    exact ⟨q1, q2, q3, q4, q5, q6⟩
  rw [show decide ((0 : Nat) ≠ 0) = false from rfl] at HBAD
  rw [show ((0 : Nat) : Int) = 0 from rfl] at HBAD HWY v0
  rw [show ((0 : Nat) : Int) = 0 from rfl]
  go_wp2_with fail
  rw [HWY.out, HGE.out]
  refine (HBAD.out).mono ?_
  rintro e w3 ⟨rfl, hb3⟩
  have hb3s := hb3.size
  have hge2 : ge < w3.heap.size := by omega
  have HX3 := Lib.hid (HX2.out.below hb3 (by omega))
  have HY3 := Lib.hid (HY2.out.below hb3 (by omega))
  have HW3 := Lib.hid (HW2.out.below hb3 (by omega))
  have HB3 := Lib.hid (HB2.out.trans (hb3.mono HB2.out.size))
  have HV3 := Lib.hid (HV2.out.below hb3 (by omega))
  have hB3w := HB3.out
  have hf2 := HF2.out w3 hB3w
  clear v0 v1 v2 hb3 hB3w
  have HFF := Lib.hid hf2
  clear hf2
  obtain ⟨y0, y1, y2, _⟩ := HY3.out.facts
  go_wp2_with fail
  refine (HFF.out).mono ?_
  rintro e w4 ⟨N, A1, n1, c1, A2, n2, c2, rfl, hu, hb4⟩
  have hb4s := hb4.size
  have hk4 := keeps_set3 w4 ge (.int .i64 (N : Int)) (.slice A1 n1 c1) (.slice A2 n2 c2)
  have hx5 := (HX3.out.below hb4 (by omega)).keeps hk4 (by omega)
  have hy5 := (HY3.out.below hb4 (by omega)).keeps hk4 (by omega)
  have hw5 := (HW3.out.below hb4 (by omega)).keeps hk4 (by omega)
  have hv5 := (HV3.out.below hb4 (by omega)).set3 (.int .i64 (N : Int)) (.slice A1 n1 c1) (.slice A2 n2 c2)
  have hu5 := hu.set3 (g := ge) (by omega) (.int .i64 (N : Int)) (.slice A1 n1 c1) (.slice A2 n2 c2)
  have hb5 := below_set3 (HB3.out.trans (hb4.mono HB3.out.size)) (show w.heap.size ≤ ge by omega) (.int .i64 (N : Int)) (.slice A1 n1 c1) (.slice A2 n2 c2)
  obtain ⟨_, _, _, k0, k1, k2⟩ := (HV3.out.below hb4 (by omega)).facts
  have hsz5 : ((((w4.setCell ⟨ge, 0, none⟩ (.int .i64 (N : Int))).setCell ⟨ge, 1, none⟩ (.slice A1 n1 c1)).setCell ⟨ge, 2, none⟩ (.slice A2 n2 c2))).heap.size = w4.heap.size := by simp [World.setCell]
  obtain ⟨w5, hw5e⟩ : ∃ w5, (((w4.setCell ⟨ge, 0, none⟩ (.int .i64 (N : Int))).setCell ⟨ge, 1, none⟩ (.slice A1 n1 c1)).setCell ⟨ge, 2, none⟩ (.slice A2 n2 c2)) = w5 := ⟨_, rfl⟩
  rw [hw5e] at hx5 hy5 hw5 hv5 hu5 hb5 hsz5
  have HW5E := Lib.hid hw5e
  have HX5 := Lib.hid hx5
  have HY5 := Lib.hid hy5
  have HW5 := Lib.hid hw5
  have HV5 := Lib.hid hv5
  have HU5 := Lib.hid hu5
  have HB5 := Lib.hid hb5
  have HBAD5 := Lib.hid (errBad_c w5 N A1 n1 c1 A2 n2 c2)
  obtain ⟨g0, g1, g2, _⟩ := HV5.out.facts
  clear hu hb4 hk4 hx5 hy5 hw5 hv5 hu5 hb5 hw5e y0 y1 y2
  have hN : N ≠ 0 := by have h1 := HU5.out.num; have h2 := HTO.out.1; simp only [tnum] at h1; omega
  rw [decide_eq_true hN] at HBAD5
  clear hN
  go_wp2_with fail
  rw [HW5E.out]
  clear k0 k1 k2
  refine (HBAD5.out).mono ?_
  rintro e w6 ⟨rfl, hb6⟩
  have hb6s := hb6.size
  have h0 := cell_later hb6 g0
  have h1 := cell_later hb6 g1
  have h2 := cell_later hb6 g2
  have hw4 := HW5.out.below hb6 (by omega)
  have hu4 := (HU5.out.below hb6).base (base' := w.heap.size + 3) (by omega)
  have hb4w := HB5.out.trans (hb6.mono HB5.out.size)
  clear g0 g1 g2 hb6
  have hres := err3_res (w := w) hw4 hu4 (by omega) (by omega) hb4w
  obtain ⟨d0, d1, d2, f0, f1, f2⟩ := (hw4).facts
  have HRS := Lib.hid hres
  clear hres hw4 hu4 hb4w
  go_wp2_with fail
  go_region
  all_goals
    first | go_wp2_with fail | skip
    have HR := HRS.out
    obtain ⟨s3, s4, s5, _⟩ := HR.2.2.facts
    obtain ⟨W, hW⟩ : ∃ W, ((((w6).setCell ⟨w.heap.size + 1 + 1, 0, none⟩ (.int .i64 (N : Int))).setCell ⟨w.heap.size + 1 + 1, 1, none⟩ (.slice A1 n1 c1)).setCell ⟨w.heap.size + 1 + 1, 2, none⟩ (.slice A2 n2 c2)) = W := ⟨_, rfl⟩
    rw [hW] at s3 s4 s5 HR
    rw [hW]
    have hdr := (Below.refl W.heap.size W).drew
    exact bodyPost_ret (v := .tuple #[.bool false, .agg #[.int .i64 (N : Int), .slice A1 n1 c1, .slice A2 n2 c2]]) (by simp [results, Tryz.results27, go_sem, s3, s4, s5]) rfl ⟨N, _, _, _, _, _, _, rfl, HR.1.below hdr, HR.2.1.trans (hdr.mono HR.2.1.size)⟩

set_option maxRecDepth 100000 in
set_option maxHeartbeats 4000000 in
theorem same5_alien (w : World) (k r k2 r2 : Nat) (A B : Option Addr) (n c m d : Nat) (t t2 : List Nat) (hr : IsRule k r t) (hT : Sl w A n ((ints t).map (Value.int .i64))) (hr2 : IsRule k2 r2 t2) (hT2 : Sl w B m ((ints t2).map (Value.int .i64))) (hne : k ≠ k2) :
    Calls Tryz.prog 27 #[ruleV (k : Int) (r : Int) A n c, ruleV (k2 : Int) (r2 : Int) B m d] w (Bool5E w false none) := by
  have hn : t.length = n := by simpa [ints] using hT.1
  have hn16 := hr.le
  rw [hn] at hn16
  have hm' : t2.length = m := by simpa [ints] using hT2.1
  have hm16 := hr2.le
  rw [hm'] at hm16
  have hk1 := hr.k1
  have hk4 := hr.k4
  have hr3 := hr.r3
  have hk21 := hr2.k1
  have hk24 := hr2.k4
  have hr23 := hr2.r3
  have hx0 := (((RuleAt.new w (.int .i64 (k : Int)) (.int .i64 (r : Int)) (.slice A n c)).alloc (.cells #[.int .i64 (k2 : Int), .int .i64 (r2 : Int), .slice B m d] 26))).alloc (.cells #[.int .i64 0, .slice none 0 0, .slice none 0 0] 45)
  have hy0 := ((RuleAt.new (w.alloc (.cells #[.int .i64 (k : Int), .int .i64 (r : Int), .slice A n c] 26)) (.int .i64 (k2 : Int)) (.int .i64 (r2 : Int)) (.slice B m d))).alloc (.cells #[.int .i64 0, .slice none 0 0, .slice none 0 0] 45)
  have hw0 := WantAt.new (((w.alloc (.cells #[.int .i64 (k : Int), .int .i64 (r : Int), .slice A n c] 26)).alloc (.cells #[.int .i64 (k2 : Int), .int .i64 (r2 : Int), .slice B m d] 26))) (.int .i64 0) (.slice none 0 0) (.slice none 0 0)
  rw [World.size_alloc] at hy0
  rw [World.size_alloc, World.size_alloc] at hw0
  have hb0 := ((((Below.refl w.heap.size w).alloc (Nat.le_refl _) (.cells #[.int .i64 (k : Int), .int .i64 (r : Int), .slice A n c] 26)).alloc (by simp) (.cells #[.int .i64 (k2 : Int), .int .i64 (r2 : Int), .slice B m d] 26))).alloc (by simp; omega) (.cells #[.int .i64 0, .slice none 0 0, .slice none 0 0] 45)
  obtain ⟨wx, hwx⟩ : ∃ wx, (((w.alloc (.cells #[.int .i64 (k : Int), .int .i64 (r : Int), .slice A n c] 26)).alloc (.cells #[.int .i64 (k2 : Int), .int .i64 (r2 : Int), .slice B m d] 26))).alloc (.cells #[.int .i64 0, .slice none 0 0, .slice none 0 0] 45) = wx := ⟨_, rfl⟩
  have hsx : wx.heap.size = w.heap.size + 3 := by rw [← hwx]; simp
  have HWX := Lib.hid hwx
  have HSX := Lib.hid hsx
  obtain ⟨q0, q1, q2, _⟩ := hx0.facts
  rw [hwx] at hx0 hy0 hw0 hb0
  have hf := fault5_c wx 0 (k : Int) (r : Int) A n c (ints t) (hT.below hb0) (by omega)
  have HF2 := Lib.hid (fun (wz : World) (hz : Below w.heap.size w wz) => fault5_c wz 1 (k2 : Int) (r2 : Int) B m d (ints t2) (hT2.below hz) (by omega))
  have HX0 := Lib.hid hx0
  have HY0 := Lib.hid hy0
  have HW0 := Lib.hid hw0
  have HB0 := Lib.hid hb0
  have HTT := Lib.hid (fun (wz : World) (hz : Below w.heap.size w wz) => (⟨hT.below hz, hT2.below hz⟩ : _ ∧ _))
  rw [checkF_rule 0 hr] at hf
  rw [checkF_rule 1 hr2] at HF2
  have HF := Lib.hid hf
  have HRU := Lib.hid hr
  have HRU2 := Lib.hid hr2
  have hne' : (k : Int) ≠ (k2 : Int) := by omega
  clear hf hwx hx0 hy0 hw0 hb0 hT hT2 hr hr2 hn hm' hne
  unfold ruleV at *
  go_enter Tryz.func27, Tryz.ntmps27
  go_wp2_with fail
  rw [HWX.out]
  clear q0 q1 q2
  refine (HF.out).mono ?_
  rintro e w1 ⟨N, A1, n1, c1, A2, n2, c2, rfl, hu, hb1⟩
  have hb2 : Below w1.heap.size w1 (w1.alloc (.cells #[.int .i64 (N : Int), .slice A1 n1 c1, .slice A2 n2 c2] 45)) := (Below.refl _ _).alloc (Nat.le_refl _) _
  have hv2 := WantAt.new w1 (.int .i64 (N : Int)) (.slice A1 n1 c1) (.slice A2 n2 c2)
  obtain ⟨wy, hwy⟩ : ∃ wy, w1.alloc (.cells #[.int .i64 (N : Int), .slice A1 n1 c1, .slice A2 n2 c2] 45) = wy := ⟨_, rfl⟩
  have HWY := Lib.hid hwy
  have hlt2 : w1.heap.size < wy.heap.size := by rw [← hwy]; simp
  rw [hwy] at hb2 hv2
  have hs1 := hb1.size
  have hx2 := (HX0.out.below hb1 (by omega)).below hb2 (by omega)
  have hy2 := (HY0.out.below hb1 (by omega)).below hb2 (by omega)
  have hw2 := (HW0.out.below hb1 (by omega)).below hb2 (by omega)
  have hu2 := hu.below hb2
  have HBAD := Lib.hid (errBad_c wy N A1 n1 c1 A2 n2 c2)
  have hbx := HB0.out.trans ((hb1.trans (hb2.mono hb1.size)).mono HB0.out.size)
  obtain ⟨ge, hge'⟩ : ∃ ge, w1.heap.size = ge := ⟨_, rfl⟩
  rw [hge'] at hv2 hs1 hlt2
  have hge : w.heap.size + 3 ≤ ge := by omega
  obtain ⟨v0, v1, v2, _⟩ := hv2.facts
  have HGE := Lib.hid hge'
  have HX2 := Lib.hid hx2
  have HY2 := Lib.hid hy2
  have HW2 := Lib.hid hw2
  have HV2 := Lib.hid hv2
  have HB2 := Lib.hid hbx
  have HU2 := Lib.hid hu2
  clear hu hb1 hb2 hx2 hy2 hw2 hv2 hbx hwy hge' hs1 hsx hu2
  obtain rfl : N = 0 := HU2.out.num
  obtain ⟨rfl, rfl, rfl, rfl, rfl, rfl⟩ : A1 = none ∧ n1 = 0 ∧ c1 = 0 ∧ A2 = none ∧ n2 = 0 ∧ c2 = 0 := by
    have e := HU2.out.none_eq
    simp at e
    obtain ⟨⟨q1, q2, q3⟩, q4, q5, q6⟩ := e
    exact ⟨q1, q2, q3, q4, q5, q6⟩
  rw [show decide ((0 : Nat) ≠ 0) = false from rfl] at HBAD
  rw [show ((0 : Nat) : Int) = 0 from rfl] at HBAD HWY v0
  rw [show ((0 : Nat) : Int) = 0 from rfl]
  go_wp2_with fail
  rw [HWY.out, HGE.out]
  refine (HBAD.out).mono ?_
  rintro e w3 ⟨rfl, hb3⟩
  have hb3s := hb3.size
  have hge2 : ge < w3.heap.size := by omega
  have HX3 := Lib.hid (HX2.out.below hb3 (by omega))
  have HY3 := Lib.hid (HY2.out.below hb3 (by omega))
  have HW3 := Lib.hid (HW2.out.below hb3 (by omega))
  have HB3 := Lib.hid (HB2.out.trans (hb3.mono HB2.out.size))
  have HV3 := Lib.hid (HV2.out.below hb3 (by omega))
  have hB3w := HB3.out
  have hf2 := HF2.out w3 hB3w
  clear v0 v1 v2 hb3 hB3w
  have HFF := Lib.hid hf2
  clear hf2
  obtain ⟨y0, y1, y2, _⟩ := HY3.out.facts
  go_wp2_with fail
  refine (HFF.out).mono ?_
  rintro e w4 ⟨N, A1, n1, c1, A2, n2, c2, rfl, hu, hb4⟩
  have hb4s := hb4.size
  have hk4 := keeps_set3 w4 ge (.int .i64 (N : Int)) (.slice A1 n1 c1) (.slice A2 n2 c2)
  have hx5 := (HX3.out.below hb4 (by omega)).keeps hk4 (by omega)
  have hy5 := (HY3.out.below hb4 (by omega)).keeps hk4 (by omega)
  have hw5 := (HW3.out.below hb4 (by omega)).keeps hk4 (by omega)
  have hv5 := (HV3.out.below hb4 (by omega)).set3 (.int .i64 (N : Int)) (.slice A1 n1 c1) (.slice A2 n2 c2)
  have hu5 := hu.set3 (g := ge) (by omega) (.int .i64 (N : Int)) (.slice A1 n1 c1) (.slice A2 n2 c2)
  have hb5 := below_set3 (HB3.out.trans (hb4.mono HB3.out.size)) (show w.heap.size ≤ ge by omega) (.int .i64 (N : Int)) (.slice A1 n1 c1) (.slice A2 n2 c2)
  obtain ⟨_, _, _, k0, k1, k2⟩ := (HV3.out.below hb4 (by omega)).facts
  have hsz5 : ((((w4.setCell ⟨ge, 0, none⟩ (.int .i64 (N : Int))).setCell ⟨ge, 1, none⟩ (.slice A1 n1 c1)).setCell ⟨ge, 2, none⟩ (.slice A2 n2 c2))).heap.size = w4.heap.size := by simp [World.setCell]
  obtain ⟨w5, hw5e⟩ : ∃ w5, (((w4.setCell ⟨ge, 0, none⟩ (.int .i64 (N : Int))).setCell ⟨ge, 1, none⟩ (.slice A1 n1 c1)).setCell ⟨ge, 2, none⟩ (.slice A2 n2 c2)) = w5 := ⟨_, rfl⟩
  rw [hw5e] at hx5 hy5 hw5 hv5 hu5 hb5 hsz5
  have HW5E := Lib.hid hw5e
  have HX5 := Lib.hid hx5
  have HY5 := Lib.hid hy5
  have HW5 := Lib.hid hw5
  have HV5 := Lib.hid hv5
  have HU5 := Lib.hid hu5
  have HB5 := Lib.hid hb5
  have HBAD5 := Lib.hid (errBad_c w5 N A1 n1 c1 A2 n2 c2)
  obtain ⟨g0, g1, g2, _⟩ := HV5.out.facts
  clear hu hb4 hk4 hx5 hy5 hw5 hv5 hu5 hb5 hw5e y0 y1 y2
  obtain rfl : N = 0 := HU5.out.num
  obtain ⟨rfl, rfl, rfl, rfl, rfl, rfl⟩ : A1 = none ∧ n1 = 0 ∧ c1 = 0 ∧ A2 = none ∧ n2 = 0 ∧ c2 = 0 := by
    have e := HU5.out.none_eq
    simp at e
    obtain ⟨⟨q1, q2, q3⟩, q4, q5, q6⟩ := e
    exact ⟨q1, q2, q3, q4, q5, q6⟩
  rw [show decide ((0 : Nat) ≠ 0) = false from rfl] at HBAD5
  rw [show ((0 : Nat) : Int) = 0 from rfl] at HBAD5 HW5E g0
  rw [show ((0 : Nat) : Int) = 0 from rfl]
  go_wp2_with fail
  rw [HW5E.out]
  clear k0 k1 k2
  refine (HBAD5.out).mono ?_
  rintro e w6 ⟨rfl, hb6⟩
  have hb6s := hb6.size
  have HX6 := Lib.hid (HX5.out.below hb6 (by omega))
  have HY6 := Lib.hid (HY5.out.below hb6 (by omega))
  have HW6 := Lib.hid (HW5.out.below hb6 (by omega))
  have HB6 := Lib.hid (HB5.out.trans (hb6.mono HB5.out.size))
  obtain ⟨x0, x1, x2, _⟩ := HX6.out.facts
  obtain ⟨y0, y1, y2, _⟩ := HY6.out.facts
  clear g0 g1 g2 hb6 HX2 HY2 HW2 HV2 HB2 HU2 HX3 HY3 HW3 HB3 HV3 HX5 HY5 HW5 HV5 HU5 HB5 HX0 HY0 HW0 HB0 HWX HWY HGE HSX HBAD HBAD5 HFF HF2 HW5E
  clear x1 x2 y1 y2
  have hres := err3_res (w := w) HW6.out (M := 0) (WantB.zero w6 (w.heap.size + 3)) (by omega) (by omega) HB6.out
  obtain ⟨d0, d1, d2, f0, f1, f2⟩ := (HW6.out).facts
  have HRS := Lib.hid hres
  clear hres
  go_wp2_with fail
  obtain ⟨W, hW⟩ : ∃ W, ((((w6).setCell ⟨w.heap.size + 1 + 1, 0, none⟩ (.int .i64 0)).setCell ⟨w.heap.size + 1 + 1, 1, none⟩ (.slice none 0 0)).setCell ⟨w.heap.size + 1 + 1, 2, none⟩ (.slice none 0 0)) = W := ⟨_, rfl⟩
  have HR : WantB W w.heap.size none (.agg #[.int .i64 0, .slice none 0 0, .slice none 0 0]) ∧ Below w.heap.size w W ∧ WantAt W (w.heap.size + 1 + 1) (.int .i64 0) (.slice none 0 0) (.slice none 0 0) := by rw [← hW]; exact HRS.out
  rw [hW]
  obtain ⟨s3, s4, s5, _⟩ := HR.2.2.facts
  exact bodyPost_ret (v := .tuple #[.bool false, .agg #[.int .i64 0, .slice none 0 0, .slice none 0 0]]) (by simp [results, Tryz.results27, go_sem, s3, s4, s5]) rfl ⟨0, _, _, _, _, _, _, rfl, HR.1, HR.2.1⟩

set_option maxRecDepth 100000 in
set_option maxHeartbeats 4000000 in
theorem same5_good (w : World) (k r r2 : Nat) (A B : Option Addr) (n c m d : Nat) (t t2 : List Nat) (hr : IsRule k r t) (hT : Sl w A n ((ints t).map (Value.int .i64))) (hr2 : IsRule k r2 t2) (hT2 : Sl w B m ((ints t2).map (Value.int .i64))) (da db q : Nat) (hq1 : r + da = q) (hq2 : r2 + db = q) (hq3 : q ≤ 3) (hmax : max (r : Int) (r2 : Int) = (q : Int)) :
    Calls Tryz.prog 27 #[ruleV (k : Int) (r : Int) A n c, ruleV (k : Int) (r2 : Int) B m d] w (Bool5E w (decide (wide k r da t = wide k r2 db t2)) none) := by
  have hn : t.length = n := by simpa [ints] using hT.1
  have hn16 := hr.le
  rw [hn] at hn16
  have hm' : t2.length = m := by simpa [ints] using hT2.1
  have hm16 := hr2.le
  rw [hm'] at hm16
  have hk1 := hr.k1
  have hk4 := hr.k4
  have hr3 := hr.r3
  have hk21 := hr2.k1
  have hk24 := hr2.k4
  have hr23 := hr2.r3
  have hx0 := (((RuleAt.new w (.int .i64 (k : Int)) (.int .i64 (r : Int)) (.slice A n c)).alloc (.cells #[.int .i64 (k : Int), .int .i64 (r2 : Int), .slice B m d] 26))).alloc (.cells #[.int .i64 0, .slice none 0 0, .slice none 0 0] 45)
  have hy0 := ((RuleAt.new (w.alloc (.cells #[.int .i64 (k : Int), .int .i64 (r : Int), .slice A n c] 26)) (.int .i64 (k : Int)) (.int .i64 (r2 : Int)) (.slice B m d))).alloc (.cells #[.int .i64 0, .slice none 0 0, .slice none 0 0] 45)
  have hw0 := WantAt.new (((w.alloc (.cells #[.int .i64 (k : Int), .int .i64 (r : Int), .slice A n c] 26)).alloc (.cells #[.int .i64 (k : Int), .int .i64 (r2 : Int), .slice B m d] 26))) (.int .i64 0) (.slice none 0 0) (.slice none 0 0)
  rw [World.size_alloc] at hy0
  rw [World.size_alloc, World.size_alloc] at hw0
  have hb0 := ((((Below.refl w.heap.size w).alloc (Nat.le_refl _) (.cells #[.int .i64 (k : Int), .int .i64 (r : Int), .slice A n c] 26)).alloc (by simp) (.cells #[.int .i64 (k : Int), .int .i64 (r2 : Int), .slice B m d] 26))).alloc (by simp; omega) (.cells #[.int .i64 0, .slice none 0 0, .slice none 0 0] 45)
  obtain ⟨wx, hwx⟩ : ∃ wx, (((w.alloc (.cells #[.int .i64 (k : Int), .int .i64 (r : Int), .slice A n c] 26)).alloc (.cells #[.int .i64 (k : Int), .int .i64 (r2 : Int), .slice B m d] 26))).alloc (.cells #[.int .i64 0, .slice none 0 0, .slice none 0 0] 45) = wx := ⟨_, rfl⟩
  have hsx : wx.heap.size = w.heap.size + 3 := by rw [← hwx]; simp
  have HWX := Lib.hid hwx
  have HSX := Lib.hid hsx
  obtain ⟨q0, q1, q2, _⟩ := hx0.facts
  rw [hwx] at hx0 hy0 hw0 hb0
  have hf := fault5_c wx 0 (k : Int) (r : Int) A n c (ints t) (hT.below hb0) (by omega)
  have HF2 := Lib.hid (fun (wz : World) (hz : Below w.heap.size w wz) => fault5_c wz 1 (k : Int) (r2 : Int) B m d (ints t2) (hT2.below hz) (by omega))
  have HX0 := Lib.hid hx0
  have HY0 := Lib.hid hy0
  have HW0 := Lib.hid hw0
  have HB0 := Lib.hid hb0
  have HTT := Lib.hid (fun (wz : World) (hz : Below w.heap.size w wz) => (⟨hT.below hz, hT2.below hz⟩ : _ ∧ _))
  rw [checkF_rule 0 hr] at hf
  rw [checkF_rule 1 hr2] at HF2
  have HF := Lib.hid hf
  have HRU := Lib.hid hr
  have HRU2 := Lib.hid hr2
  clear hf hwx hx0 hy0 hw0 hb0 hT hT2 hr hr2 hn hm'
  unfold ruleV at *
  go_enter Tryz.func27, Tryz.ntmps27
  go_wp2_with fail
  rw [HWX.out]
  clear q0 q1 q2
  refine (HF.out).mono ?_
  rintro e w1 ⟨N, A1, n1, c1, A2, n2, c2, rfl, hu, hb1⟩
  have hb2 : Below w1.heap.size w1 (w1.alloc (.cells #[.int .i64 (N : Int), .slice A1 n1 c1, .slice A2 n2 c2] 45)) := (Below.refl _ _).alloc (Nat.le_refl _) _
  have hv2 := WantAt.new w1 (.int .i64 (N : Int)) (.slice A1 n1 c1) (.slice A2 n2 c2)
  obtain ⟨wy, hwy⟩ : ∃ wy, w1.alloc (.cells #[.int .i64 (N : Int), .slice A1 n1 c1, .slice A2 n2 c2] 45) = wy := ⟨_, rfl⟩
  have HWY := Lib.hid hwy
  have hlt2 : w1.heap.size < wy.heap.size := by rw [← hwy]; simp
  rw [hwy] at hb2 hv2
  have hs1 := hb1.size
  have hx2 := (HX0.out.below hb1 (by omega)).below hb2 (by omega)
  have hy2 := (HY0.out.below hb1 (by omega)).below hb2 (by omega)
  have hw2 := (HW0.out.below hb1 (by omega)).below hb2 (by omega)
  have hu2 := hu.below hb2
  have HBAD := Lib.hid (errBad_c wy N A1 n1 c1 A2 n2 c2)
  have hbx := HB0.out.trans ((hb1.trans (hb2.mono hb1.size)).mono HB0.out.size)
  obtain ⟨ge, hge'⟩ : ∃ ge, w1.heap.size = ge := ⟨_, rfl⟩
  rw [hge'] at hv2 hs1 hlt2
  have hge : w.heap.size + 3 ≤ ge := by omega
  obtain ⟨v0, v1, v2, _⟩ := hv2.facts
  have HGE := Lib.hid hge'
  have HX2 := Lib.hid hx2
  have HY2 := Lib.hid hy2
  have HW2 := Lib.hid hw2
  have HV2 := Lib.hid hv2
  have HB2 := Lib.hid hbx
  have HU2 := Lib.hid hu2
  clear hu hb1 hb2 hx2 hy2 hw2 hv2 hbx hwy hge' hs1 hsx hu2
  obtain rfl : N = 0 := HU2.out.num
  obtain ⟨rfl, rfl, rfl, rfl, rfl, rfl⟩ : A1 = none ∧ n1 = 0 ∧ c1 = 0 ∧ A2 = none ∧ n2 = 0 ∧ c2 = 0 := by
    have e := HU2.out.none_eq
    simp at e
    obtain ⟨⟨q1, q2, q3⟩, q4, q5, q6⟩ := e
    exact ⟨q1, q2, q3, q4, q5, q6⟩
  rw [show decide ((0 : Nat) ≠ 0) = false from rfl] at HBAD
  rw [show ((0 : Nat) : Int) = 0 from rfl] at HBAD HWY v0
  rw [show ((0 : Nat) : Int) = 0 from rfl]
  go_wp2_with fail
  rw [HWY.out, HGE.out]
  refine (HBAD.out).mono ?_
  rintro e w3 ⟨rfl, hb3⟩
  have hb3s := hb3.size
  have hge2 : ge < w3.heap.size := by omega
  have HX3 := Lib.hid (HX2.out.below hb3 (by omega))
  have HY3 := Lib.hid (HY2.out.below hb3 (by omega))
  have HW3 := Lib.hid (HW2.out.below hb3 (by omega))
  have HB3 := Lib.hid (HB2.out.trans (hb3.mono HB2.out.size))
  have HV3 := Lib.hid (HV2.out.below hb3 (by omega))
  have hB3w := HB3.out
  have hf2 := HF2.out w3 hB3w
  clear v0 v1 v2 hb3 hB3w
  have HFF := Lib.hid hf2
  clear hf2
  obtain ⟨y0, y1, y2, _⟩ := HY3.out.facts
  go_wp2_with fail
  refine (HFF.out).mono ?_
  rintro e w4 ⟨N, A1, n1, c1, A2, n2, c2, rfl, hu, hb4⟩
  have hb4s := hb4.size
  have hk4 := keeps_set3 w4 ge (.int .i64 (N : Int)) (.slice A1 n1 c1) (.slice A2 n2 c2)
  have hx5 := (HX3.out.below hb4 (by omega)).keeps hk4 (by omega)
  have hy5 := (HY3.out.below hb4 (by omega)).keeps hk4 (by omega)
  have hw5 := (HW3.out.below hb4 (by omega)).keeps hk4 (by omega)
  have hv5 := (HV3.out.below hb4 (by omega)).set3 (.int .i64 (N : Int)) (.slice A1 n1 c1) (.slice A2 n2 c2)
  have hu5 := hu.set3 (g := ge) (by omega) (.int .i64 (N : Int)) (.slice A1 n1 c1) (.slice A2 n2 c2)
  have hb5 := below_set3 (HB3.out.trans (hb4.mono HB3.out.size)) (show w.heap.size ≤ ge by omega) (.int .i64 (N : Int)) (.slice A1 n1 c1) (.slice A2 n2 c2)
  obtain ⟨_, _, _, k0, k1, k2⟩ := (HV3.out.below hb4 (by omega)).facts
  have hsz5 : ((((w4.setCell ⟨ge, 0, none⟩ (.int .i64 (N : Int))).setCell ⟨ge, 1, none⟩ (.slice A1 n1 c1)).setCell ⟨ge, 2, none⟩ (.slice A2 n2 c2))).heap.size = w4.heap.size := by simp [World.setCell]
  obtain ⟨w5, hw5e⟩ : ∃ w5, (((w4.setCell ⟨ge, 0, none⟩ (.int .i64 (N : Int))).setCell ⟨ge, 1, none⟩ (.slice A1 n1 c1)).setCell ⟨ge, 2, none⟩ (.slice A2 n2 c2)) = w5 := ⟨_, rfl⟩
  rw [hw5e] at hx5 hy5 hw5 hv5 hu5 hb5 hsz5
  have HW5E := Lib.hid hw5e
  have HX5 := Lib.hid hx5
  have HY5 := Lib.hid hy5
  have HW5 := Lib.hid hw5
  have HV5 := Lib.hid hv5
  have HU5 := Lib.hid hu5
  have HB5 := Lib.hid hb5
  have HBAD5 := Lib.hid (errBad_c w5 N A1 n1 c1 A2 n2 c2)
  obtain ⟨g0, g1, g2, _⟩ := HV5.out.facts
  clear hu hb4 hk4 hx5 hy5 hw5 hv5 hu5 hb5 hw5e y0 y1 y2
  obtain rfl : N = 0 := HU5.out.num
  obtain ⟨rfl, rfl, rfl, rfl, rfl, rfl⟩ : A1 = none ∧ n1 = 0 ∧ c1 = 0 ∧ A2 = none ∧ n2 = 0 ∧ c2 = 0 := by
    have e := HU5.out.none_eq
    simp at e
    obtain ⟨⟨q1, q2, q3⟩, q4, q5, q6⟩ := e
    exact ⟨q1, q2, q3, q4, q5, q6⟩
  rw [show decide ((0 : Nat) ≠ 0) = false from rfl] at HBAD5
  rw [show ((0 : Nat) : Int) = 0 from rfl] at HBAD5 HW5E g0
  rw [show ((0 : Nat) : Int) = 0 from rfl]
  go_wp2_with fail
  rw [HW5E.out]
  clear k0 k1 k2
  refine (HBAD5.out).mono ?_
  rintro e w6 ⟨rfl, hb6⟩
  have hb6s := hb6.size
  have HX6 := Lib.hid (HX5.out.below hb6 (by omega))
  have HY6 := Lib.hid (HY5.out.below hb6 (by omega))
  have HW6 := Lib.hid (HW5.out.below hb6 (by omega))
  have HB6 := Lib.hid (HB5.out.trans (hb6.mono HB5.out.size))
  obtain ⟨x0, x1, x2, _⟩ := HX6.out.facts
  obtain ⟨y0, y1, y2, _⟩ := HY6.out.facts
  clear g0 g1 g2 hb6 HX2 HY2 HW2 HV2 HB2 HU2 HX3 HY3 HW3 HB3 HV3 HX5 HY5 HW5 HV5 HU5 HB5 HX0 HY0 HW0 HB0 HWX HWY HGE HSX HBAD HBAD5 HFF HF2 HW5E
  clear x1 x2 y1 y2
  obtain ⟨x0, x1, x2, _⟩ := HX6.out.facts
  obtain ⟨y0, y1, y2, _⟩ := HY6.out.facts
  have HWA := Lib.hid (fun (wz : World) (hz : Below w6.heap.size w6 wz) => wide5_c wz k r da q hq1 A n c t HRU.out hq3 (HTT.out wz (HB6.out.trans (hz.mono HB6.out.size))).1)
  have HWB := Lib.hid (fun (wz : World) (hz : Below w6.heap.size w6 wz) => wide5_c wz k r2 db q hq2 B m d t2 HRU2.out hq3 (HTT.out wz (HB6.out.trans (hz.mono HB6.out.size))).2)
  unfold ruleV at HWA HWB
  clear hk21 hk24
  clear hk1 hk4
  go_wp2_with fail
  go_region_law (first
      | (go_simp
         go_at_call 29
         first
           | with_reducible refine (rules5 v5 _ _ _ _ _ _ _ _ _ _ _ _ (Sl.of_own (own_below hown4 hb5')) (Sl.of_own hown5) (by have := own_le hown4; simp only [maxLen] at this; omega) (by have := own_le hown5; simp only [maxLen] at this; omega)).mono ?_
           | with_reducible refine (rules5 v5.drew _ _ _ _ _ _ _ _ _ _ _ _ ((Sl.of_own (own_below hown4 hb5')).below (Below.refl _ _).drew) ((Sl.of_own hown5).below (Below.refl _ _).drew) (by have := own_le hown4; simp only [maxLen] at this; omega) (by have := own_le hown5; simp only [maxLen] at this; omega)).mono ?_
         rintro e v6 ⟨rfl, hb6'⟩
         have hb66 : Below w6.heap.size w6 v6 := by
           have h1 := hb4'.trans (hb5'.mono hb4'.size)
           first | exact h1.trans (hb6'.mono h1.size) | exact h1.trans (((Below.refl _ _).drew.trans hb6').mono h1.size)
         obtain ⟨d0, d1, d2, f0, f1, f2⟩ := (HW6.out.below hb66 HW6.out.lt).facts
         dsimp only)
      | (go_simp
         go_at_call 58
         first
           | with_reducible refine (HWB.out v4 hb4').mono ?_
           | with_reducible refine (HWB.out v4.drew hb4'.drew).mono ?_
         rintro e v5 ⟨C5, N5, c5, rfl, hown5, hb5⟩
         have hb5' : Below v4.heap.size v4 v5 := by first | exact hb5 | exact (Below.refl _ _).drew.trans hb5
         dsimp only)
      | (go_simp
         go_at_call 58
         first
           | with_reducible refine (HWA.out w6 (Below.refl _ _)).mono ?_
           | with_reducible refine (HWA.out w6.drew (Below.refl _ _).drew).mono ?_
         rintro e v4 ⟨C4, N4, c4, rfl, hown4, hb4⟩
         have hb4' : Below w6.heap.size w6 v4 := by first | exact hb4 | exact (Below.refl _ _).drew.trans hb4
         obtain ⟨u0, u1, u2, _⟩ := (HX6.out.below hb4' HX6.out.lt).facts
         obtain ⟨u3, u4, u5, _⟩ := (HY6.out.below hb4' HY6.out.lt).facts
         dsimp only)
      | fail)
  all_goals
    have hde : decide (ints (wide k r da t) = ints (wide k r2 db t2)) = decide (wide k r da t = wide k r2 db t2) := decide_eq_decide.2 ⟨fun h => ints_inj h, fun h => by rw [h]⟩
    rw [hde]
    have hres := err3_res (w := w) (HW6.out.below hb66 HW6.out.lt) (M := 0) (WantB.zero v6 (w.heap.size + 3)) (by omega) (by omega) (HB6.out.trans (hb66.mono HB6.out.size))
    obtain ⟨W, hW⟩ : ∃ W, ((v6.setCell ⟨w.heap.size + 1 + 1, 0, none⟩ (.int .i64 0)).setCell ⟨w.heap.size + 1 + 1, 1, none⟩ (.slice none 0 0)).setCell ⟨w.heap.size + 1 + 1, 2, none⟩ (.slice none 0 0) = W := ⟨_, rfl⟩
    have HR : WantB W w.heap.size none (.agg #[.int .i64 0, .slice none 0 0, .slice none 0 0]) ∧ Below w.heap.size w W ∧ WantAt W (w.heap.size + 1 + 1) (.int .i64 0) (.slice none 0 0) (.slice none 0 0) := by rw [← hW]; exact hres
    clear hde hres hown4 hown5 hb4 hb4' hb5 hb5' hb6' hb66
    rw [hW]
    have HRH := Lib.hid HR
    clear HR hW
    go_wp2_with fail
    have HR := HRH.out
    obtain ⟨s3, s4, s5, _⟩ := HR.2.2.facts
    exact bodyPost_ret (v := .tuple #[.bool (decide (wide k r da t = wide k r2 db t2)), .agg #[.int .i64 0, .slice none 0 0, .slice none 0 0]]) (by simp [results, Tryz.results27, go_sem, s3, s4, s5]) rfl ⟨0, _, _, _, _, _, _, rfl, HR.1, HR.2.1⟩

end Go.Proofs.YtpllojpgpejfmaaGreatDoor
