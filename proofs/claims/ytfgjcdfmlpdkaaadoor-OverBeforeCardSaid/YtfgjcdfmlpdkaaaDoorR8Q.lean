/- The document's overlap: edenref08.Before where rule and word are good. Condition: the rule is small, the word one over its symbols; both read from memory. -/
import Derived.Test.YtfgjcdfmlpdkaaaDoorR8GH
import Derived.Test.YtfgjcdfmlpdkaaaDoorR8O
import Derived.Test.YtfgjcdfmlpdkaaaDoorRef4A
namespace Go.Proofs.YtfgjcdfmlpdkaaaDoor
open Go.RowKit RuleP

theorem seek_all {D : DeadP} (hD : DeadOk D) : ∀ (j i : Nat), i + j = D.W.length → SeekC D i := by
  intro j
  induction j with
  | zero =>
    intro i hij
    obtain rfl : i = D.W.length := by omega
    intro w lv rows L more XA xc u x P h hX hx hu hF
    have hl := hD.len
    cases more with
    | true => exact seek_more h XA xc u _ x P _ hD.rule.r3 hx (by omega) hF
    | false =>
      by_cases hlt : L.length < D.most
      · exact seek_put h XA xc u x P hD.rule.r3 hx hl hD.most hu hF hlt hX
      · exact seek_full h XA xc u x P hD.rule.r3 hx hl hD.most hu hF hlt
  | succ j ih =>
    intro i hij w lv rows L more XA xc u x P h hX hx hu hF
    have hl := hD.len
    cases more with
    | true => exact seek_more h XA xc u _ x P _ hD.rule.r3 hx (by omega) hF
    | false =>
      cases hw : wayB D.k D.N D.t u (D.W.drop i) with
      | false => exact seek_dead h XA xc u i x P hD.rule.r3 hx (by omega) hl hu hF hw
      | true => exact seek_loop hD (by omega) (ih (i + 1) (by omega)) h XA xc u x P hx hu hF hX hw

set_option maxRecDepth 100000 in
set_option maxHeartbeats 4000000 in
theorem refBefore_neg (w : World) (k r : Nat) (A B : Option Addr) (n c m d : Nat) (t W : List Nat) (most : Int) (hmost : most < 0) (hr : IsRule k r t) (hsm : t.length ≤ 256) (hs : ∀ x ∈ W, x < k) (hT : Sl w A n ((ints t).map (Value.int .i64))) (hW : Sl w B m ((ints W).map (Value.int .i64))) (hm : m ≤ 256) :
    Calls Tryd.prog 35 #[ruleV k r A n c, .slice B m d, .int .i64 most] w fun e w' => ∃ (N : Nat) (A1 : Option Addr) (n1 c1 : Nat) (A2 : Option Addr) (n2 c2 : Nat), e = .returned (.tuple #[.slice none 0 0, .bool false, .agg #[.int .i64 (N : Int), .slice A1 n1 c1, .slice A2 n2 c2]]) ∧
      WantB w' w.heap.size (some (3, [(sOver, 2)])) (.agg #[.int .i64 (N : Int), .slice A1 n1 c1, .slice A2 n2 c2]) ∧ Below w.heap.size w w' := by
  have hnt : t.length = n := by simpa [ints] using hT.1
  have hmw : W.length = m := by simpa [ints] using hW.1
  have hn256 : n ≤ 256 := by omega
  have hk1 := hr.k1
  have hk4 := hr.k4
  have hr3 := hr.r3
  have hr0 := (RuleAt.new w (.int .i64 (k : Int)) (.int .i64 (r : Int)) (.slice A n c)).alloc (.cells #[.int .i64 0, .slice none 0 0, .slice none 0 0] 60)
  have hw0 := WantAt.new (w.alloc (.cells #[.int .i64 (k : Int), .int .i64 (r : Int), .slice A n c] 24)) (.int .i64 0) (.slice none 0 0) (.slice none 0 0)
  rw [World.size_alloc] at hw0
  have hb0 := ((Below.refl w.heap.size w).alloc (Nat.le_refl _) (.cells #[.int .i64 (k : Int), .int .i64 (r : Int), .slice A n c] 24)).alloc (by simp) (.cells #[.int .i64 0, .slice none 0 0, .slice none 0 0] 60)
  have hT0 := hT.below hb0
  have hW0 := hW.below hb0
  obtain ⟨wx, hwx⟩ : ∃ wx, (w.alloc (.cells #[.int .i64 (k : Int), .int .i64 (r : Int), .slice A n c] 24)).alloc (.cells #[.int .i64 0, .slice none 0 0, .slice none 0 0] 60) = wx := ⟨_, rfl⟩
  have hsx : wx.heap.size = w.heap.size + 2 := by rw [← hwx]; simp
  have HWX := Lib.hid hwx
  rw [hwx] at hr0 hw0 hb0 hT0 hW0
  have hc := refFault_c wx sOver k r A n c (ints t) hT0 (by omega)
  have hsn := smallO_rule hr hsm
  rw [show under sOver 0 (small k r (ints t)) = none from hsn] at hc
  have hck := checkO_good (most := 256) hr hsm hs (by omega)
  rw [checkO_word, hsn] at hck
  simp only at hck
  have HBW := Lib.hid hck
  have HC := Lib.hid hc
  have HW0 := Lib.hid hw0
  have HB0 := Lib.hid hb0
  have HR0 := Lib.hid hr0
  have HWW := Lib.hid hW0
  have HTT := Lib.hid hT0
  have HR := Lib.hid hr
  have HS := Lib.hid hs
  have HNT := Lib.hid hnt
  have HMW := Lib.hid hmw
  obtain ⟨r0, r1, r2, _⟩ := hr0.facts
  clear hw0 hb0 hT hT0 hW hW0 hr0 hwx hc hsn hck hr hs hnt hmw
  unfold ruleV at *
  go_enter Tryd.func35, Tryd.ntmps35
  go_wp2_with fail
  rw [HWX.out]
  refine (HC.out).mono ?_
  rintro e w1 ⟨N, A1, n1, c1, A2, n2, c2, rfl, hu, hb1⟩
  obtain rfl : N = 0 := hu.num
  obtain ⟨rfl, rfl, rfl, rfl, rfl, rfl⟩ : A1 = none ∧ n1 = 0 ∧ c1 = 0 ∧ A2 = none ∧ n2 = 0 ∧ c2 = 0 := by
    have e := hu.none_eq
    simp at e
    obtain ⟨⟨q1, q2, q3⟩, q4, q5, q6⟩ := e
    exact ⟨q1, q2, q3, q4, q5, q6⟩
  have hw2 := (HW0.out.below hb1 (by omega)).alloc (.cells #[.int .i64 0, .slice none 0 0, .slice none 0 0] 60)
  have hr2 := (HR0.out.below hb1 (by omega)).alloc (.cells #[.int .i64 0, .slice none 0 0, .slice none 0 0] 60)
  have hv2 := WantAt.new w1 (.int .i64 0) (.slice none 0 0) (.slice none 0 0)
  have hbe := pure_trans hb1 ((Below.refl w1.heap.size w1).alloc (Nat.le_refl _) (.cells #[.int .i64 0, .slice none 0 0, .slice none 0 0] 60))
  obtain ⟨wy, hwy⟩ : ∃ wy, w1.alloc (.cells #[.int .i64 0, .slice none 0 0, .slice none 0 0] 60) = wy := ⟨_, rfl⟩
  have HWY := Lib.hid hwy
  have hsy : w1.heap.size < wy.heap.size := by rw [← hwy]; simp
  have hs1 := hb1.size
  rw [hwy] at hw2 hr2 hv2 hbe
  obtain ⟨ge, hge⟩ : ∃ ge, w1.heap.size = ge := ⟨_, rfl⟩
  have HGE := Lib.hid hge
  rw [hge] at hv2 hs1 hsy
  have HBAD := Lib.hid (bad_zero wy)
  have HW2 := Lib.hid hw2
  have HR2 := Lib.hid hr2
  have HV2 := Lib.hid hv2
  have HB2 := Lib.hid hbe
  obtain ⟨v0, v1, v2, _⟩ := hv2.facts
  clear hw2 hr2 hv2 hbe hu hb1 hwy r0 r1 r2 hge
  rw [show ((0 : Nat) : Int) = 0 from rfl]
  go_wp2_with fail
  rw [HWY.out, HGE.out]
  refine (HBAD.out).mono ?_
  rintro e w3 ⟨rfl, hb3⟩
  obtain ⟨r0, r1, r2, _⟩ := (HR2.out.below hb3 (by omega)).facts
  have HV3 := Lib.hid (HV2.out.below hb3 (by omega))
  have HW3 := Lib.hid (HW2.out.below hb3 (by omega))
  have HR3 := Lib.hid (HR2.out.below hb3 (by omega))
  have HB3 := Lib.hid (HB2.out.trans (hb3.mono HB2.out.size))
  have hwf := wordFault_c w3 sOver k B m d (ints W) 256 (HWW.out.below (HB2.out.trans (hb3.mono HB2.out.size))) (by omega) (by decide)
  rw [HBW.out] at hwf
  have HWF := Lib.hid hwf
  have hs3 := hb3.size
  clear v0 v1 v2 hb3 hwf
  go_wp2_with fail
  refine (HWF.out).mono ?_
  rintro e w4 ⟨N, A1, n1, c1, A2, n2, c2, rfl, hu, hb4⟩
  obtain rfl : N = 0 := hu.num
  obtain ⟨rfl, rfl, rfl, rfl, rfl, rfl⟩ : A1 = none ∧ n1 = 0 ∧ c1 = 0 ∧ A2 = none ∧ n2 = 0 ∧ c2 = 0 := by
    have e := hu.none_eq
    simp at e
    obtain ⟨⟨q1, q2, q3⟩, q4, q5, q6⟩ := e
    exact ⟨q1, q2, q3, q4, q5, q6⟩
  have hs4 := hb4.size
  obtain ⟨e0, e1, e2, ef0, ef1, ef2⟩ := (HV3.out.below hb4 (by omega)).facts
  have hw4 := (HW3.out.below hb4 (by omega)).keeps (keeps_set3 w4 ge (.int .i64 0) (.slice none 0 0) (.slice none 0 0)) (by omega)
  have hr4 := (HR3.out.below hb4 (by omega)).keeps (keeps_set3 w4 ge (.int .i64 0) (.slice none 0 0) (.slice none 0 0)) (by omega)
  have hv4 := (HV3.out.below hb4 (by omega)).set3 (.int .i64 0) (.slice none 0 0) (.slice none 0 0)
  have hb44 := below_set3 (HB3.out.trans (hb4.mono HB3.out.size)) (show wx.heap.size ≤ ge by omega) (.int .i64 0) (.slice none 0 0) (.slice none 0 0)
  have hsz : (((w4.setCell ⟨ge, 0, none⟩ (.int .i64 0)).setCell ⟨ge, 1, none⟩ (.slice none 0 0)).setCell ⟨ge, 2, none⟩ (.slice none 0 0)).heap.size = w4.heap.size := by simp [World.setCell]
  obtain ⟨w5, hw5⟩ : ∃ w5, (((w4.setCell ⟨ge, 0, none⟩ (.int .i64 0)).setCell ⟨ge, 1, none⟩ (.slice none 0 0)).setCell ⟨ge, 2, none⟩ (.slice none 0 0)) = w5 := ⟨_, rfl⟩
  rw [hw5] at hw4 hr4 hv4 hb44 hsz
  have HW5 := Lib.hid hw5
  have HBAD3 := Lib.hid (bad_zero w5)
  have HW4 := Lib.hid hw4
  have HR4 := Lib.hid hr4
  have HB4 := Lib.hid hb44
  have HV4 := Lib.hid hv4
  obtain ⟨k0, k1, k2, _⟩ := hv4.facts
  clear hu hb4 hw4 hr4 hv4 hb44 hw5 r0 r1 r2
  rw [show ((0 : Nat) : Int) = 0 from rfl]
  go_wp2_with fail
  rw [HW5.out]
  refine (HBAD3.out).mono ?_
  rintro e w6 ⟨rfl, hb6⟩
  have hr6 := HR4.out.below hb6 (by omega)
  have hw6 := HW4.out.below hb6 (by omega)
  have hbx6 := HB4.out.trans (hb6.mono HB4.out.size)
  obtain ⟨r0, r1, r2, _⟩ := hr6.facts
  have HR6 := Lib.hid hr6
  have HW6 := Lib.hid hw6
  have HB6 := Lib.hid hbx6
  have HBW6 := Lib.hid (HB0.out.trans (hbx6.mono HB0.out.size))
  have HT6 := Lib.hid (HTT.out.below hbx6)
  have HX6 := Lib.hid (HWW.out.below hbx6)
  have hs6 := hb6.size
  have hl6 : w.heap.size + 2 ≤ w6.heap.size := by omega
  clear k0 k1 k2 e0 e1 e2 ef0 ef1 ef2 hb6 hr6 hw6 hbx6 HC HWF HBAD HBAD3 HV2 HV3 HV4 HW2 HW3 HR2 HR3
  go_wp2_with fail
  refine (newB_c w6 sOver 2 3).mono ?_
  rintro e w7 ⟨A3, n3, c3, A4, n4, c4, rfl, hu, hb7⟩
  obtain ⟨d0, d1, d2, f0, f1, f2⟩ := (HW6.out.below hb7 (by omega)).facts
  obtain ⟨hwb, hbb⟩ := want_boxed (g := w.heap.size + 1) (base := w.heap.size) hu (by omega) (Nat.le_succ _) (HBW6.out.trans (hb7.mono HBW6.out.size))
  have HWB := Lib.hid hwb
  have HBB := Lib.hid hbb
  clear hu hb7 hwb hbb
  go_wp2_with fail
  exact bodyPost_ret (v := .tuple #[.slice none 0 0, .bool false, .agg #[.int .i64 3, .slice A3 n3 c3, .slice A4 n4 c4]]) (by simp [results, Tryd.results35, go_sem, d0, d1, d2]) rfl ⟨3, A3, n3, c3, A4, n4, c4, rfl, HWB.out, HBB.out⟩

set_option maxRecDepth 100000 in
set_option maxHeartbeats 4000000 in
theorem refBefore_big (w : World) (k r : Nat) (A B : Option Addr) (n c m d : Nat) (t W : List Nat) (most : Int) (hmost : 256 < most) (hr : IsRule k r t) (hsm : t.length ≤ 256) (hs : ∀ x ∈ W, x < k) (hT : Sl w A n ((ints t).map (Value.int .i64))) (hW : Sl w B m ((ints W).map (Value.int .i64))) (hm : m ≤ 256) :
    Calls Tryd.prog 35 #[ruleV k r A n c, .slice B m d, .int .i64 most] w fun e w' => ∃ (N : Nat) (A1 : Option Addr) (n1 c1 : Nat) (A2 : Option Addr) (n2 c2 : Nat), e = .returned (.tuple #[.slice none 0 0, .bool false, .agg #[.int .i64 (N : Int), .slice A1 n1 c1, .slice A2 n2 c2]]) ∧
      WantB w' w.heap.size (some (4, [(sOver, 2)])) (.agg #[.int .i64 (N : Int), .slice A1 n1 c1, .slice A2 n2 c2]) ∧ Below w.heap.size w w' := by
  have hnt : t.length = n := by simpa [ints] using hT.1
  have hmw : W.length = m := by simpa [ints] using hW.1
  have hn256 : n ≤ 256 := by omega
  have hk1 := hr.k1
  have hk4 := hr.k4
  have hr3 := hr.r3
  have hr0 := (RuleAt.new w (.int .i64 (k : Int)) (.int .i64 (r : Int)) (.slice A n c)).alloc (.cells #[.int .i64 0, .slice none 0 0, .slice none 0 0] 60)
  have hw0 := WantAt.new (w.alloc (.cells #[.int .i64 (k : Int), .int .i64 (r : Int), .slice A n c] 24)) (.int .i64 0) (.slice none 0 0) (.slice none 0 0)
  rw [World.size_alloc] at hw0
  have hb0 := ((Below.refl w.heap.size w).alloc (Nat.le_refl _) (.cells #[.int .i64 (k : Int), .int .i64 (r : Int), .slice A n c] 24)).alloc (by simp) (.cells #[.int .i64 0, .slice none 0 0, .slice none 0 0] 60)
  have hT0 := hT.below hb0
  have hW0 := hW.below hb0
  obtain ⟨wx, hwx⟩ : ∃ wx, (w.alloc (.cells #[.int .i64 (k : Int), .int .i64 (r : Int), .slice A n c] 24)).alloc (.cells #[.int .i64 0, .slice none 0 0, .slice none 0 0] 60) = wx := ⟨_, rfl⟩
  have hsx : wx.heap.size = w.heap.size + 2 := by rw [← hwx]; simp
  have HWX := Lib.hid hwx
  rw [hwx] at hr0 hw0 hb0 hT0 hW0
  have hc := refFault_c wx sOver k r A n c (ints t) hT0 (by omega)
  have hsn := smallO_rule hr hsm
  rw [show under sOver 0 (small k r (ints t)) = none from hsn] at hc
  have hck := checkO_good (most := 256) hr hsm hs (by omega)
  rw [checkO_word, hsn] at hck
  simp only at hck
  have HBW := Lib.hid hck
  have HC := Lib.hid hc
  have HW0 := Lib.hid hw0
  have HB0 := Lib.hid hb0
  have HR0 := Lib.hid hr0
  have HWW := Lib.hid hW0
  have HTT := Lib.hid hT0
  have HR := Lib.hid hr
  have HS := Lib.hid hs
  have HNT := Lib.hid hnt
  have HMW := Lib.hid hmw
  obtain ⟨r0, r1, r2, _⟩ := hr0.facts
  have hm0 : ¬ most < 0 := by omega
  clear hw0 hb0 hT hT0 hW hW0 hr0 hwx hc hsn hck hr hs hnt hmw
  unfold ruleV at *
  go_enter Tryd.func35, Tryd.ntmps35
  go_wp2_with fail
  rw [HWX.out]
  refine (HC.out).mono ?_
  rintro e w1 ⟨N, A1, n1, c1, A2, n2, c2, rfl, hu, hb1⟩
  obtain rfl : N = 0 := hu.num
  obtain ⟨rfl, rfl, rfl, rfl, rfl, rfl⟩ : A1 = none ∧ n1 = 0 ∧ c1 = 0 ∧ A2 = none ∧ n2 = 0 ∧ c2 = 0 := by
    have e := hu.none_eq
    simp at e
    obtain ⟨⟨q1, q2, q3⟩, q4, q5, q6⟩ := e
    exact ⟨q1, q2, q3, q4, q5, q6⟩
  have hw2 := (HW0.out.below hb1 (by omega)).alloc (.cells #[.int .i64 0, .slice none 0 0, .slice none 0 0] 60)
  have hr2 := (HR0.out.below hb1 (by omega)).alloc (.cells #[.int .i64 0, .slice none 0 0, .slice none 0 0] 60)
  have hv2 := WantAt.new w1 (.int .i64 0) (.slice none 0 0) (.slice none 0 0)
  have hbe := pure_trans hb1 ((Below.refl w1.heap.size w1).alloc (Nat.le_refl _) (.cells #[.int .i64 0, .slice none 0 0, .slice none 0 0] 60))
  obtain ⟨wy, hwy⟩ : ∃ wy, w1.alloc (.cells #[.int .i64 0, .slice none 0 0, .slice none 0 0] 60) = wy := ⟨_, rfl⟩
  have HWY := Lib.hid hwy
  have hsy : w1.heap.size < wy.heap.size := by rw [← hwy]; simp
  have hs1 := hb1.size
  rw [hwy] at hw2 hr2 hv2 hbe
  obtain ⟨ge, hge⟩ : ∃ ge, w1.heap.size = ge := ⟨_, rfl⟩
  have HGE := Lib.hid hge
  rw [hge] at hv2 hs1 hsy
  have HBAD := Lib.hid (bad_zero wy)
  have HW2 := Lib.hid hw2
  have HR2 := Lib.hid hr2
  have HV2 := Lib.hid hv2
  have HB2 := Lib.hid hbe
  obtain ⟨v0, v1, v2, _⟩ := hv2.facts
  clear hw2 hr2 hv2 hbe hu hb1 hwy r0 r1 r2 hge
  rw [show ((0 : Nat) : Int) = 0 from rfl]
  go_wp2_with fail
  rw [HWY.out, HGE.out]
  refine (HBAD.out).mono ?_
  rintro e w3 ⟨rfl, hb3⟩
  obtain ⟨r0, r1, r2, _⟩ := (HR2.out.below hb3 (by omega)).facts
  have HV3 := Lib.hid (HV2.out.below hb3 (by omega))
  have HW3 := Lib.hid (HW2.out.below hb3 (by omega))
  have HR3 := Lib.hid (HR2.out.below hb3 (by omega))
  have HB3 := Lib.hid (HB2.out.trans (hb3.mono HB2.out.size))
  have hwf := wordFault_c w3 sOver k B m d (ints W) 256 (HWW.out.below (HB2.out.trans (hb3.mono HB2.out.size))) (by omega) (by decide)
  rw [HBW.out] at hwf
  have HWF := Lib.hid hwf
  have hs3 := hb3.size
  clear v0 v1 v2 hb3 hwf
  go_wp2_with fail
  refine (HWF.out).mono ?_
  rintro e w4 ⟨N, A1, n1, c1, A2, n2, c2, rfl, hu, hb4⟩
  obtain rfl : N = 0 := hu.num
  obtain ⟨rfl, rfl, rfl, rfl, rfl, rfl⟩ : A1 = none ∧ n1 = 0 ∧ c1 = 0 ∧ A2 = none ∧ n2 = 0 ∧ c2 = 0 := by
    have e := hu.none_eq
    simp at e
    obtain ⟨⟨q1, q2, q3⟩, q4, q5, q6⟩ := e
    exact ⟨q1, q2, q3, q4, q5, q6⟩
  have hs4 := hb4.size
  obtain ⟨e0, e1, e2, ef0, ef1, ef2⟩ := (HV3.out.below hb4 (by omega)).facts
  have hw4 := (HW3.out.below hb4 (by omega)).keeps (keeps_set3 w4 ge (.int .i64 0) (.slice none 0 0) (.slice none 0 0)) (by omega)
  have hr4 := (HR3.out.below hb4 (by omega)).keeps (keeps_set3 w4 ge (.int .i64 0) (.slice none 0 0) (.slice none 0 0)) (by omega)
  have hv4 := (HV3.out.below hb4 (by omega)).set3 (.int .i64 0) (.slice none 0 0) (.slice none 0 0)
  have hb44 := below_set3 (HB3.out.trans (hb4.mono HB3.out.size)) (show wx.heap.size ≤ ge by omega) (.int .i64 0) (.slice none 0 0) (.slice none 0 0)
  have hsz : (((w4.setCell ⟨ge, 0, none⟩ (.int .i64 0)).setCell ⟨ge, 1, none⟩ (.slice none 0 0)).setCell ⟨ge, 2, none⟩ (.slice none 0 0)).heap.size = w4.heap.size := by simp [World.setCell]
  obtain ⟨w5, hw5⟩ : ∃ w5, (((w4.setCell ⟨ge, 0, none⟩ (.int .i64 0)).setCell ⟨ge, 1, none⟩ (.slice none 0 0)).setCell ⟨ge, 2, none⟩ (.slice none 0 0)) = w5 := ⟨_, rfl⟩
  rw [hw5] at hw4 hr4 hv4 hb44 hsz
  have HW5 := Lib.hid hw5
  have HBAD3 := Lib.hid (bad_zero w5)
  have HW4 := Lib.hid hw4
  have HR4 := Lib.hid hr4
  have HB4 := Lib.hid hb44
  have HV4 := Lib.hid hv4
  obtain ⟨k0, k1, k2, _⟩ := hv4.facts
  clear hu hb4 hw4 hr4 hv4 hb44 hw5 r0 r1 r2
  rw [show ((0 : Nat) : Int) = 0 from rfl]
  go_wp2_with fail
  rw [HW5.out]
  refine (HBAD3.out).mono ?_
  rintro e w6 ⟨rfl, hb6⟩
  have hr6 := HR4.out.below hb6 (by omega)
  have hw6 := HW4.out.below hb6 (by omega)
  have hbx6 := HB4.out.trans (hb6.mono HB4.out.size)
  obtain ⟨r0, r1, r2, _⟩ := hr6.facts
  have HR6 := Lib.hid hr6
  have HW6 := Lib.hid hw6
  have HB6 := Lib.hid hbx6
  have HBW6 := Lib.hid (HB0.out.trans (hbx6.mono HB0.out.size))
  have HT6 := Lib.hid (HTT.out.below hbx6)
  have HX6 := Lib.hid (HWW.out.below hbx6)
  have hs6 := hb6.size
  have hl6 : w.heap.size + 2 ≤ w6.heap.size := by omega
  clear k0 k1 k2 e0 e1 e2 ef0 ef1 ef2 hb6 hr6 hw6 hbx6 HC HWF HBAD HBAD3 HV2 HV3 HV4 HW2 HW3 HR2 HR3
  go_wp2_with fail
  refine (newB_c w6 sOver 2 4).mono ?_
  rintro e w7 ⟨A3, n3, c3, A4, n4, c4, rfl, hu, hb7⟩
  obtain ⟨d0, d1, d2, f0, f1, f2⟩ := (HW6.out.below hb7 (by omega)).facts
  obtain ⟨hwb, hbb⟩ := want_boxed (g := w.heap.size + 1) (base := w.heap.size) hu (by omega) (Nat.le_succ _) (HBW6.out.trans (hb7.mono HBW6.out.size))
  have HWB := Lib.hid hwb
  have HBB := Lib.hid hbb
  clear hu hb7 hwb hbb
  go_wp2_with fail
  exact bodyPost_ret (v := .tuple #[.slice none 0 0, .bool false, .agg #[.int .i64 4, .slice A3 n3 c3, .slice A4 n4 c4]]) (by simp [results, Tryd.results35, go_sem, d0, d1, d2]) rfl ⟨4, A3, n3, c3, A4, n4, c4, rfl, HWB.out, HBB.out⟩

set_option maxRecDepth 100000 in
set_option maxHeartbeats 8000000 in
theorem refBefore_good (w : World) (k r : Nat) (A B : Option Addr) (n c m d : Nat) (t W : List Nat) (most : Nat) (hmost : most ≤ 256) (hr : IsRule k r t) (hsm : t.length ≤ 256) (hs : ∀ x ∈ W, x < k) (hT : Sl w A n ((ints t).map (Value.int .i64))) (hW : Sl w B m ((ints W).map (Value.int .i64))) (hm : m ≤ 256) :
    Calls Tryd.prog 35 #[ruleV k r A n c, .slice B m d, .int .i64 (most : Int)] w fun e w' => ∃ (LA : Option Addr) (lc : Nat) (rows : List Value) (L : List (List Nat)) (more : Bool), e = .returned (.tuple #[.slice LA L.length lc, .bool more, .agg #[.int .i64 0, .slice none 0 0, .slice none 0 0]]) ∧ w'.ownsRow w.heap.size 22 1 (.slice LA L.length lc) L.length rows ∧ (∀ (j : Nat) l, L[j]? = some l → ∃ v, rows[j]? = some v ∧ w'.ownsRow w.heap.size 3 1 v l.length ((ints l).map (Value.int .i64))) ∧ RuleP.Found most (before k r t W) L more ∧ Below w.heap.size w w' := by
  have hnt : t.length = n := by simpa [ints] using hT.1
  have hmw : W.length = m := by simpa [ints] using hW.1
  have hn256 : n ≤ 256 := by omega
  have hk1 := hr.k1
  have hk4 := hr.k4
  have hr3 := hr.r3
  have hr0 := (RuleAt.new w (.int .i64 (k : Int)) (.int .i64 (r : Int)) (.slice A n c)).alloc (.cells #[.int .i64 0, .slice none 0 0, .slice none 0 0] 60)
  have hw0 := WantAt.new (w.alloc (.cells #[.int .i64 (k : Int), .int .i64 (r : Int), .slice A n c] 24)) (.int .i64 0) (.slice none 0 0) (.slice none 0 0)
  rw [World.size_alloc] at hw0
  have hb0 := ((Below.refl w.heap.size w).alloc (Nat.le_refl _) (.cells #[.int .i64 (k : Int), .int .i64 (r : Int), .slice A n c] 24)).alloc (by simp) (.cells #[.int .i64 0, .slice none 0 0, .slice none 0 0] 60)
  have hT0 := hT.below hb0
  have hW0 := hW.below hb0
  obtain ⟨wx, hwx⟩ : ∃ wx, (w.alloc (.cells #[.int .i64 (k : Int), .int .i64 (r : Int), .slice A n c] 24)).alloc (.cells #[.int .i64 0, .slice none 0 0, .slice none 0 0] 60) = wx := ⟨_, rfl⟩
  have hsx : wx.heap.size = w.heap.size + 2 := by rw [← hwx]; simp
  have HWX := Lib.hid hwx
  rw [hwx] at hr0 hw0 hb0 hT0 hW0
  have hc := refFault_c wx sOver k r A n c (ints t) hT0 (by omega)
  have hsn := smallO_rule hr hsm
  rw [show under sOver 0 (small k r (ints t)) = none from hsn] at hc
  have hck := checkO_good (most := 256) hr hsm hs (by omega)
  rw [checkO_word, hsn] at hck
  simp only at hck
  have HBW := Lib.hid hck
  have HC := Lib.hid hc
  have HW0 := Lib.hid hw0
  have HB0 := Lib.hid hb0
  have HR0 := Lib.hid hr0
  have HWW := Lib.hid hW0
  have HTT := Lib.hid hT0
  have HR := Lib.hid hr
  have HS := Lib.hid hs
  have HNT := Lib.hid hnt
  have HMW := Lib.hid hmw
  obtain ⟨r0, r1, r2, _⟩ := hr0.facts
  clear hw0 hb0 hT hT0 hW hW0 hr0 hwx hc hsn hck hr hs hnt hmw
  unfold ruleV at *
  go_enter Tryd.func35, Tryd.ntmps35
  go_wp2_with fail
  rw [HWX.out]
  refine (HC.out).mono ?_
  rintro e w1 ⟨N, A1, n1, c1, A2, n2, c2, rfl, hu, hb1⟩
  obtain rfl : N = 0 := hu.num
  obtain ⟨rfl, rfl, rfl, rfl, rfl, rfl⟩ : A1 = none ∧ n1 = 0 ∧ c1 = 0 ∧ A2 = none ∧ n2 = 0 ∧ c2 = 0 := by
    have e := hu.none_eq
    simp at e
    obtain ⟨⟨q1, q2, q3⟩, q4, q5, q6⟩ := e
    exact ⟨q1, q2, q3, q4, q5, q6⟩
  have hw2 := (HW0.out.below hb1 (by omega)).alloc (.cells #[.int .i64 0, .slice none 0 0, .slice none 0 0] 60)
  have hr2 := (HR0.out.below hb1 (by omega)).alloc (.cells #[.int .i64 0, .slice none 0 0, .slice none 0 0] 60)
  have hv2 := WantAt.new w1 (.int .i64 0) (.slice none 0 0) (.slice none 0 0)
  have hbe := pure_trans hb1 ((Below.refl w1.heap.size w1).alloc (Nat.le_refl _) (.cells #[.int .i64 0, .slice none 0 0, .slice none 0 0] 60))
  obtain ⟨wy, hwy⟩ : ∃ wy, w1.alloc (.cells #[.int .i64 0, .slice none 0 0, .slice none 0 0] 60) = wy := ⟨_, rfl⟩
  have HWY := Lib.hid hwy
  have hsy : w1.heap.size < wy.heap.size := by rw [← hwy]; simp
  have hs1 := hb1.size
  rw [hwy] at hw2 hr2 hv2 hbe
  obtain ⟨ge, hge⟩ : ∃ ge, w1.heap.size = ge := ⟨_, rfl⟩
  have HGE := Lib.hid hge
  rw [hge] at hv2 hs1 hsy
  have HBAD := Lib.hid (bad_zero wy)
  have HW2 := Lib.hid hw2
  have HR2 := Lib.hid hr2
  have HV2 := Lib.hid hv2
  have HB2 := Lib.hid hbe
  obtain ⟨v0, v1, v2, _⟩ := hv2.facts
  clear hw2 hr2 hv2 hbe hu hb1 hwy r0 r1 r2 hge
  rw [show ((0 : Nat) : Int) = 0 from rfl]
  go_wp2_with fail
  rw [HWY.out, HGE.out]
  refine (HBAD.out).mono ?_
  rintro e w3 ⟨rfl, hb3⟩
  obtain ⟨r0, r1, r2, _⟩ := (HR2.out.below hb3 (by omega)).facts
  have HV3 := Lib.hid (HV2.out.below hb3 (by omega))
  have HW3 := Lib.hid (HW2.out.below hb3 (by omega))
  have HR3 := Lib.hid (HR2.out.below hb3 (by omega))
  have HB3 := Lib.hid (HB2.out.trans (hb3.mono HB2.out.size))
  have hwf := wordFault_c w3 sOver k B m d (ints W) 256 (HWW.out.below (HB2.out.trans (hb3.mono HB2.out.size))) (by omega) (by decide)
  rw [HBW.out] at hwf
  have HWF := Lib.hid hwf
  have hs3 := hb3.size
  clear v0 v1 v2 hb3 hwf
  go_wp2_with fail
  refine (HWF.out).mono ?_
  rintro e w4 ⟨N, A1, n1, c1, A2, n2, c2, rfl, hu, hb4⟩
  obtain rfl : N = 0 := hu.num
  obtain ⟨rfl, rfl, rfl, rfl, rfl, rfl⟩ : A1 = none ∧ n1 = 0 ∧ c1 = 0 ∧ A2 = none ∧ n2 = 0 ∧ c2 = 0 := by
    have e := hu.none_eq
    simp at e
    obtain ⟨⟨q1, q2, q3⟩, q4, q5, q6⟩ := e
    exact ⟨q1, q2, q3, q4, q5, q6⟩
  have hs4 := hb4.size
  obtain ⟨e0, e1, e2, ef0, ef1, ef2⟩ := (HV3.out.below hb4 (by omega)).facts
  have hw4 := (HW3.out.below hb4 (by omega)).keeps (keeps_set3 w4 ge (.int .i64 0) (.slice none 0 0) (.slice none 0 0)) (by omega)
  have hr4 := (HR3.out.below hb4 (by omega)).keeps (keeps_set3 w4 ge (.int .i64 0) (.slice none 0 0) (.slice none 0 0)) (by omega)
  have hv4 := (HV3.out.below hb4 (by omega)).set3 (.int .i64 0) (.slice none 0 0) (.slice none 0 0)
  have hb44 := below_set3 (HB3.out.trans (hb4.mono HB3.out.size)) (show wx.heap.size ≤ ge by omega) (.int .i64 0) (.slice none 0 0) (.slice none 0 0)
  have hsz : (((w4.setCell ⟨ge, 0, none⟩ (.int .i64 0)).setCell ⟨ge, 1, none⟩ (.slice none 0 0)).setCell ⟨ge, 2, none⟩ (.slice none 0 0)).heap.size = w4.heap.size := by simp [World.setCell]
  obtain ⟨w5, hw5⟩ : ∃ w5, (((w4.setCell ⟨ge, 0, none⟩ (.int .i64 0)).setCell ⟨ge, 1, none⟩ (.slice none 0 0)).setCell ⟨ge, 2, none⟩ (.slice none 0 0)) = w5 := ⟨_, rfl⟩
  rw [hw5] at hw4 hr4 hv4 hb44 hsz
  have HW5 := Lib.hid hw5
  have HBAD3 := Lib.hid (bad_zero w5)
  have HW4 := Lib.hid hw4
  have HR4 := Lib.hid hr4
  have HB4 := Lib.hid hb44
  have HV4 := Lib.hid hv4
  obtain ⟨k0, k1, k2, _⟩ := hv4.facts
  clear hu hb4 hw4 hr4 hv4 hb44 hw5 r0 r1 r2
  rw [show ((0 : Nat) : Int) = 0 from rfl]
  go_wp2_with fail
  rw [HW5.out]
  refine (HBAD3.out).mono ?_
  rintro e w6 ⟨rfl, hb6⟩
  have hr6 := HR4.out.below hb6 (by omega)
  have hw6 := HW4.out.below hb6 (by omega)
  have hbx6 := HB4.out.trans (hb6.mono HB4.out.size)
  obtain ⟨r0, r1, r2, _⟩ := hr6.facts
  have HR6 := Lib.hid hr6
  have HW6 := Lib.hid hw6
  have HB6 := Lib.hid hbx6
  have HBW6 := Lib.hid (HB0.out.trans (hbx6.mono HB0.out.size))
  have HT6 := Lib.hid (HTT.out.below hbx6)
  have HX6 := Lib.hid (HWW.out.below hbx6)
  have hs6 := hb6.size
  have hl6 : w.heap.size + 2 ≤ w6.heap.size := by omega
  clear k0 k1 k2 e0 e1 e2 ef0 ef1 ef2 hb6 hr6 hw6 hbx6 HC HWF HBAD HBAD3 HV2 HV3 HV4 HW2 HW3 HR2 HR3
  have hnt := HNT.out
  have hmw := HMW.out
  subst hnt
  subst hmw
  have HWAY := Lib.hid (fun (wz : World) (hz : Below w6.heap.size w6 wz) => (by
    have h1 := ways_c wz k r A B t.length c W.length d t W HR.out hsm (HT6.out.below hz) (HX6.out.below hz) (by omega)
    unfold ruleV at h1
    exact h1 : Calls Tryd.prog 77 #[.agg #[.int .i64 (k : Int), .int .i64 (r : Int), .slice A t.length c], .slice B W.length d] wz fun e w' => ∃ v G, e = .returned v ∧ WaysAt w' wz.heap.size k (k ^ (2 * r)) t W v G ∧ Below wz.heap.size wz w'))
  have hd0 : decide ((most : Int) < 0) = false := decide_eq_false (by omega)
  have hd1 : decide ((256 : Int) < (most : Int)) = false := decide_eq_false (by omega)
  have hd2 : ¬ 256 < most := by omega
  have hl7 : w.heap.size < w6.heap.size := by omega
  go_wp2_with fail
  go_region_held3 (fun w' => w'.cell? ⟨w.heap.size, 0, none⟩ = some (.int .i64 (k : Int)) ∧ w'.cell? ⟨w.heap.size, 1, none⟩ = some (.int .i64 (r : Int)) ∧ w'.cell? ⟨w.heap.size, 2, none⟩ = some (.slice A t.length c))
    (first | (refine ⟨?_, ?_, ?_⟩ <;> assumption) | go_keep)
    (first
      | (go_at_call 77
         refine (HWAY.out _ ((Below.refl _ _).drew)).mono ?_
         rintro e7 w7 ⟨wv, G, rfl, ⟨g0, rfl, hwa1, hwa2⟩, hb7⟩
         have x0 := cell_later hb7 r0
         have x1 := cell_later hb7 r1
         have x2 := cell_later hb7 r2)
      | fail)
  have hwv : WaysAt w7 w6.heap.size k (k ^ (2 * r)) t W (.slice (some ⟨g0, 0, none⟩) (W.length + 1) (W.length + 1)) G := ⟨g0, rfl, hwa1, hwa2⟩
  have hb7' := (Below.refl w6.heap.size w6).drew.trans hb7
  have hs7 := hb7'.size
  obtain ⟨D, hD⟩ : ∃ D : DeadP, (⟨w6, k, r, most, t, W, A, c, B, d, w7.heap.size, .slice (some ⟨g0, 0, none⟩) (W.length + 1) (W.length + 1), G⟩ : DeadP) = D := ⟨_, rfl⟩
  have hbx := (hb7'.alloc hb7'.size (.cells #[.int .i64 (k : Int), .int .i64 (r : Int), .slice A t.length c, .slice B W.length d, .slice (some ⟨g0, 0, none⟩) (W.length + 1) (W.length + 1), .int .i64 (most : Int), .slice none 0 0, .bool false] 122))
  have hS0 : SeekAt (w7.alloc (.cells #[.int .i64 (k : Int), .int .i64 (r : Int), .slice A t.length c, .slice B W.length d, .slice (some ⟨g0, 0, none⟩) (W.length + 1) (W.length + 1), .int .i64 (most : Int), .slice none 0 0, .bool false] 122)) D (.slice none 0 0) [] [] false := by
    subst hD
    exact {
      blk := heap_new w7 _
      old := hbx
      ways := hwv.pure ((Below.refl _ _).alloc (Nat.le_refl _) _)
      lst := World.ownsRow_nil _ _ _ _
      el := fun j l hj => by simp at hj
      fb := hb7'.size }
  have hok : DeadOk D := by
    subst hD
    exact ⟨HR.out, hsm, HS.out, hm, hmost, HT6.out, HX6.out⟩
  have hF0 : RuleP.Found D.most (befTo k r t W 0) [] false := RuleP.Found.start _
  obtain ⟨wb, hwb⟩ : ∃ wb, (w7.alloc (.cells #[.int .i64 (k : Int), .int .i64 (r : Int), .slice A t.length c, .slice B W.length d, .slice (some ⟨g0, 0, none⟩) (W.length + 1) (W.length + 1), .int .i64 (most : Int), .slice none 0 0, .bool false] 122)) = wb := ⟨_, rfl⟩
  rw [hwb] at hS0
  have HWBB := Lib.hid hwb
  have HS0 := Lib.hid hS0
  have HF0 := Lib.hid hF0
  have HCO := Lib.hid (fun (wz : World) => (by
    have h1 := count_c wz k r A t.length c hk1 hk4 hr3
    unfold ruleV at h1
    exact h1 : Calls Tryd.prog 78 #[.agg #[.int .i64 (k : Int), .int .i64 (r : Int), .slice A t.length c]] wz fun e w' => e = .returned (.int .i64 ((k ^ (2 * r) : Nat) : Int)) ∧ Below wz.heap.size wz w'))
  have hN256 : k ^ (2 * r) ≤ 256 := by
    have h1 := (nodes_div HR.out).2
    have : k ^ (2 * r) * 1 ≤ k ^ (2 * r) * k := Nat.mul_le_mul_left _ hk1
    omega
  have HON := Lib.hid (fun (wz : World) (u : Nat) (lv : Value) (rows : List Value) (L : List (List Nat)) (more : Bool) (g : Nat) (hs : SeekAt wz D lv rows L more) (hx : wz.ownsRow D.B 3 1 (.slice (some ⟨g, 0, none⟩) (2 * r) (2 * r)) (2 * r) ((ints (digB k (2 * r) u)).map (Value.int .i64))) (hu : u < k ^ (2 * r)) (hF : RuleP.Found D.most (befTo k r t W u) L more) =>
    (by
      have hl : (digB k (2 * r) u).length = 2 * r := digB_len k (2 * r) u
      have h1 := seek_all hok W.length 0 (by subst hD; simp) wz lv rows L more (some ⟨g, 0, none⟩) (2 * r) u (digB k (2 * r) u) _ hs (by rw [hl]; exact hx) (by subst hD; rw [hl]; rfl) (by subst hD; exact hu) hF
      rw [hl] at h1
      subst hD
      refine h1.mono ?_
      rintro e1 w2 ⟨rfl, lv2, rows2, L2, more2, q1, q2, _, _⟩
      refine ⟨rfl, lv2, rows2, L2, more2, q1, ?_⟩
      rw [befTo_succ]
      rw [List.drop_zero] at q2
      exact q2 : Calls Tryd.prog 79 #[.pointer (some ⟨w7.heap.size, 0, none⟩), .slice (some ⟨g, 0, none⟩) (2 * r) (2 * r), .int .i64 (u : Int)] wz fun e1 w2 => e1 = .returned (.tuple #[]) ∧ ∃ (lv2 : Value) (rows2 : List Value) (L2 : List (List Nat)) (more2 : Bool), SeekAt w2 D lv2 rows2 L2 more2 ∧ RuleP.Found D.most (befTo k r t W (u + 1)) L2 more2))
  have HFC := Lib.hid (fun (wz : World) (lv : Value) (rows : List Value) (L : List (List Nat)) (more : Bool) (hs : SeekAt wz D lv rows L more) => (by
    have h1 := hs.facts
    have h2 := hs.old
    subst hD
    exact ⟨h1.2.2.2.2.2.2.1, h1.2.2.2.2.2.2.2.1, h2⟩ : wz.cell? ⟨w7.heap.size, 6, none⟩ = some lv ∧ wz.cell? ⟨w7.heap.size, 7, none⟩ = some (.bool more) ∧ Below w6.heap.size w6 wz))
  have HDB := Lib.hid (show D.B = w6.heap.size by subst hD; rfl)
  have HDM := Lib.hid (show D.most = most by subst hD; rfl)
  have HEL := Lib.hid (fun (wz : World) (lv : Value) (rows : List Value) (L : List (List Nat)) (more : Bool) (hs : SeekAt wz D lv rows L more) => (⟨by have := hs.lst; rw [HDB.out] at this; exact this, by have := hs.el; rw [HDB.out] at this; exact this⟩ :
    wz.ownsRow w6.heap.size 22 1 lv L.length rows ∧ ∀ (j : Nat) l, L[j]? = some l → ∃ v, rows[j]? = some v ∧ wz.ownsRow w6.heap.size 3 1 v l.length ((ints l).map (Value.int .i64))))
  have HDG := Lib.hid (fun (wz : World) (u : Nat) (hu : u ≤ 256) => (by
    have h1 := digits_c wz k (2 * r) u hk1 (by omega) (by omega) (by omega)
    rw [show ((2 * r : Nat) : Int) = 2 * (r : Int) by simp] at h1
    exact h1 : Calls Tryd.prog 23 #[.int .i64 (k : Int), .int .i64 (2 * (r : Int)), .int .i64 (u : Int)] wz fun e w' => e = .returned (.slice (some ⟨wz.heap.size, 0, none⟩) (2 * r) (2 * r)) ∧ w'.ownsRow wz.heap.size 3 1 (.slice (some ⟨wz.heap.size, 0, none⟩) (2 * r) (2 * r)) (2 * r) ((ints (digB k (2 * r) u)).map (Value.int .i64)) ∧ Below wz.heap.size wz w'))
  have HEND := Lib.hid (show befTo k r t W (k ^ (2 * r)) = before k r t W from rfl)
  obtain ⟨N, hN⟩ : ∃ N, k ^ (2 * r) = N := ⟨_, rfl⟩
  rw [hN] at HCO hN256 HON HEND
  clear hN hok hF0 hS0 hwb hbx hwv hwa1 hwa2 hb7 hb7' x0 x1 x2 r0 r1 r2 hD HWAY
  go_wp2_with fail
  rw [HWBB.out]
  go_loopw [11] (fun uv wr => ∃ (u : Nat) (lv : Value) (rows : List Value) (L : List (List Nat)) (more : Bool), u ≤ N ∧ uv = .int .i64 (u : Int) ∧ Hid (SeekAt wr D lv rows L more) ∧ Hid (RuleP.Found D.most (befTo k r t W u) L more)) (fun uv _ => N - (intOf uv).toNat)
  case atStart => exact ⟨0, _, _, _, _, Nat.zero_le _, rfl, HS0, HF0⟩
  case round =>
    obtain ⟨u, lv, rows, L, more, hu, rfl, hS, hF⟩ := hrel
    clear HS0 HF0
    have hold := (HFC.out wr _ _ _ _ hS.out).2.2
    obtain ⟨b0, b1, b2, _⟩ := (HR6.out.below hold (by omega)).facts
    have HOLD := Lib.hid hold
    clear hold
    by_cases hlt : u < N
    · go_wp2_with fail
      refine (HCO.out _).mono ?_
      rintro e1 w8 ⟨rfl, hb8⟩
      have hS8 := hS.out.pure hb8
      have hold8 := HOLD.out.trans (hb8.mono HOLD.out.size)
      obtain ⟨y0, y1, y2, _⟩ := (HR6.out.below hold8 (by omega)).facts
      have HS8 := Lib.hid hS8
      have HO8 := Lib.hid hold8
      have hz8 := hold8.size
      clear hb8 hS8 hold8
      go_wp2_with fail
      refine (HDG.out _ u (by omega)).mono ?_
      rintro e2 w9 ⟨rfl, hown9, hb9⟩
      have hon := HON.out w9 u lv rows L more w8.heap.size (HS8.out.pure hb9) (own_base hown9 (by rw [HDB.out]; exact hz8)) hlt hF.out
      have HONN := Lib.hid hon
      clear hon hown9 hb9
      go_wp2_with fail
      refine (HONN.out).mono ?_
      rintro e3 w10 ⟨rfl, lv2, rows2, L2, more2, hS2, hF2⟩
      have HS2 := Lib.hid hS2
      have HF2 := Lib.hid hF2
      clear hS2 hF2
      go_wp2_with fail
      exact ⟨⟨u + 1, lv2, rows2, L2, more2, by omega, by go_num, HS2, HF2⟩, by simp [intOf]; omega⟩
    · obtain rfl : u = N := by omega
      have hF2 := hF.out
      rw [HEND.out, HDM.out] at hF2
      have HF2 := Lib.hid hF2
      clear hF2 hF
      go_wp2_with fail
      refine (HCO.out _).mono ?_
      rintro e1 w8 ⟨rfl, hb8⟩
      have hS8 := hS.out.pure hb8
      obtain ⟨c6, c7, hold8⟩ := HFC.out w8 _ _ _ _ hS8
      obtain ⟨hl1, hl2⟩ := HEL.out w8 _ _ _ _ hS8
      obtain ⟨LA, lc, rfl, _⟩ := own_slice hl1
      have hw8 := HW6.out.below hold8 (by omega)
      obtain ⟨d0, d1, d2, f0, f1, f2⟩ := hw8.facts
      have HB := Lib.hid (below_set3 (HBW6.out.trans (hold8.mono HBW6.out.size)) (Nat.le_succ _) (.int .i64 0) (.slice none 0 0) (.slice none 0 0))
      have HO1 := Lib.hid (own_setW (own_base hl1 (show w.heap.size ≤ w6.heap.size by omega)) hw8 (by decide) (.int .i64 0) (.slice none 0 0) (.slice none 0 0))
      have HO2 := Lib.hid (fun (j : Nat) (l : List Nat) (hj : L[j]? = some l) => (by
        obtain ⟨v, e1, e2⟩ := hl2 j l hj
        exact ⟨v, e1, own_setW (own_base e2 (show w.heap.size ≤ w6.heap.size by omega)) hw8 (by decide) (.int .i64 0) (.slice none 0 0) (.slice none 0 0)⟩ : ∃ v, rows[j]? = some v ∧ (((w8.setCell ⟨w.heap.size + 1, 0, none⟩ (.int .i64 0)).setCell ⟨w.heap.size + 1, 1, none⟩ (.slice none 0 0)).setCell ⟨w.heap.size + 1, 2, none⟩ (.slice none 0 0)).ownsRow w.heap.size 3 1 v l.length ((ints l).map (Value.int .i64))))
      clear hl1 hl2 hS8 hb8 hold8 hw8 hS
      go_wp2_with fail
      go_region
      go_wp2_with fail
      exact bodyPost_ret (v := .tuple #[.slice LA L.length lc, .bool more, .agg #[.int .i64 0, .slice none 0 0, .slice none 0 0]]) (by simp [results, Tryd.results35, go_sem, d0, d1, d2]) rfl ⟨LA, lc, rows, L, more, rfl, HO1.out, HO2.out, HF2.out, HB.out.drew⟩

end Go.Proofs.YtfgjcdfmlpdkaaaDoor
