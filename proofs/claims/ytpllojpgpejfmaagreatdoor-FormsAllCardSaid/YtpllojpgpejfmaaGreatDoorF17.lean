/- The document's widened rule, of a good rule: edenref05.Widen. Condition: the table reads from memory. The document's mirrored rule, of a good rule: edenref05.Mirror. Condition: the table reads from memory. -/
import Derived.Test.YtpllojpgpejfmaaGreatDoorF16
namespace Go.Proofs.YtpllojpgpejfmaaGreatDoor
open Go.RowKit RuleP

set_option maxRecDepth 100000 in
set_option maxHeartbeats 2000000 in
theorem widen5_arg (w : World) (k r : Nat) (A : Option Addr) (n c : Nat) (t : List Nat) (hr : IsRule k r t) (hT : Sl w A n ((ints t).map (Value.int .i64))) (x : Int) (hx : x < (r : Int) ∨ 3 < x) :
    Calls Tryz.prog 19 #[ruleV (k : Int) (r : Int) A n c, .int .i64 x] w (Rule5E w 0 0 [] (some (3, [(sForms, 0)]))) := by
  have hn : t.length = n := by simpa [ints] using hT.1
  have hn16 := hr.le
  rw [hn] at hn16
  have hk1 := hr.k1
  have hk4 := hr.k4
  have hr3 := hr.r3
  have hr0 := ((RuleAt.new w (.int .i64 (k : Int)) (.int .i64 (r : Int)) (.slice A n c)).alloc (.cells #[.int .i64 0, .int .i64 0, .slice none 0 0] 26)).alloc (.cells #[.int .i64 0, .slice none 0 0, .slice none 0 0] 45)
  have hz0 := (RuleAt.new (w.alloc (.cells #[.int .i64 (k : Int), .int .i64 (r : Int), .slice A n c] 26)) (.int .i64 0) (.int .i64 0) (.slice none 0 0)).alloc (.cells #[.int .i64 0, .slice none 0 0, .slice none 0 0] 45)
  have hw0 := WantAt.new ((w.alloc (.cells #[.int .i64 (k : Int), .int .i64 (r : Int), .slice A n c] 26)).alloc (.cells #[.int .i64 0, .int .i64 0, .slice none 0 0] 26)) (.int .i64 0) (.slice none 0 0) (.slice none 0 0)
  rw [World.size_alloc] at hz0
  rw [World.size_alloc, World.size_alloc] at hw0
  have hb0 := (((Below.refl w.heap.size w).alloc (Nat.le_refl _) (.cells #[.int .i64 (k : Int), .int .i64 (r : Int), .slice A n c] 26)).alloc (by simp) (.cells #[.int .i64 0, .int .i64 0, .slice none 0 0] 26)).alloc (by simp; omega) (.cells #[.int .i64 0, .slice none 0 0, .slice none 0 0] 45)
  obtain ⟨wx, hwx⟩ : ∃ wx, ((w.alloc (.cells #[.int .i64 (k : Int), .int .i64 (r : Int), .slice A n c] 26)).alloc (.cells #[.int .i64 0, .int .i64 0, .slice none 0 0] 26)).alloc (.cells #[.int .i64 0, .slice none 0 0, .slice none 0 0] 45) = wx := ⟨_, rfl⟩
  have hsx : wx.heap.size = w.heap.size + 3 := by rw [← hwx]; simp
  have HWX := Lib.hid hwx
  obtain ⟨q0, q1, q2, _⟩ := hr0.facts
  rw [hwx] at hr0 hz0 hw0 hb0
  have hf := fault5_c wx 0 (k : Int) (r : Int) A n c (ints t) (hT.below hb0) (by omega)
  rw [checkF_rule 0 hr] at hf
  have HF := Lib.hid hf
  have HR0 := Lib.hid hr0
  have HZ0 := Lib.hid hz0
  have HW0 := Lib.hid hw0
  have HB0 := Lib.hid hb0
  have HRU := Lib.hid hr
  have HT := Lib.hid (fun (wz : World) (hz : Below w.heap.size w wz) => hT.below hz)
  have HN := Lib.hid hn
  clear hf hwx hr0 hz0 hw0 hb0 hr hT hn
  unfold ruleV at *
  go_enter Tryz.func19, Tryz.ntmps19
  go_wp2_with fail
  rw [HWX.out]
  clear q0 q1 q2
  refine (HF.out).mono ?_
  rintro e w1 ⟨N, A1, n1, c1, A2, n2, c2, rfl, hu, hb1⟩
  obtain rfl : N = 0 := hu.num
  obtain ⟨rfl, rfl, rfl, rfl, rfl, rfl⟩ : A1 = none ∧ n1 = 0 ∧ c1 = 0 ∧ A2 = none ∧ n2 = 0 ∧ c2 = 0 := by
    have e := hu.none_eq
    simp at e
    obtain ⟨⟨q1, q2, q3⟩, q4, q5, q6⟩ := e
    exact ⟨q1, q2, q3, q4, q5, q6⟩
  have hb2 : Below w1.heap.size w1 (w1.alloc (.cells #[.int .i64 0, .slice none 0 0, .slice none 0 0] 45)) := (Below.refl _ _).alloc (Nat.le_refl _) _
  have hv2 := WantAt.new w1 (.int .i64 0) (.slice none 0 0) (.slice none 0 0)
  obtain ⟨wy, hwy⟩ : ∃ wy, w1.alloc (.cells #[.int .i64 0, .slice none 0 0, .slice none 0 0] 45) = wy := ⟨_, rfl⟩
  have HWY := Lib.hid hwy
  have hlt2 : w1.heap.size < wy.heap.size := by rw [← hwy]; simp
  rw [hwy] at hb2 hv2
  have hs1 := hb1.size
  have hr2 := (HR0.out.below hb1 (by omega)).below hb2 (by omega)
  have hz2 := (HZ0.out.below hb1 (by omega)).below hb2 (by omega)
  have hw2 := (HW0.out.below hb1 (by omega)).below hb2 (by omega)
  have hbx := HB0.out.trans ((hb1.trans (hb2.mono hb1.size)).mono HB0.out.size)
  have HBAD := Lib.hid (badZero5 wy)
  obtain ⟨ge, hge'⟩ : ∃ ge, w1.heap.size = ge := ⟨_, rfl⟩
  rw [hge'] at hv2 hs1 hlt2
  have hge : w.heap.size + 3 ≤ ge := by omega
  obtain ⟨v0, v1, v2, _⟩ := hv2.facts
  have HGE := Lib.hid hge'
  have HR2 := Lib.hid hr2
  have HZ2 := Lib.hid hz2
  have HW2 := Lib.hid hw2
  have HV2 := Lib.hid hv2
  have HB2 := Lib.hid hbx
  clear hu hb1 hb2 hr2 hz2 hw2 hv2 hbx hwy hge' hs1 hsx
  rw [show ((0 : Nat) : Int) = 0 from rfl]
  go_wp2_with fail
  rw [HWY.out, HGE.out]
  refine (HBAD.out).mono ?_
  rintro e w3 ⟨rfl, hb3⟩
  have hge2 : ge < w3.heap.size := Nat.lt_of_lt_of_le hlt2 hb3.size
  have HR3 := Lib.hid (HR2.out.below hb3 (by omega))
  have HZ3 := Lib.hid (HZ2.out.below hb3 (by omega))
  have HW3 := Lib.hid (HW2.out.below hb3 (by omega))
  have HV3 := Lib.hid (HV2.out.below hb3 (by omega))
  have HB3 := Lib.hid (HB2.out.trans (hb3.mono HB2.out.size))
  obtain ⟨r0, r1, r2, _⟩ := HR3.out.facts
  clear v0 v1 v2 hb3 hlt2 HF HR0 HZ0 HW0 HB0 HWX HWY HGE HR2 HZ2 HW2 HV2 HB2 HBAD
  have hcond : x < (r : Int) ∨ 3 < x := hx
  have HNW := Lib.hid (newB_c w3 sForms 0 3)
  by_cases h1 : x < (r : Int)
  case' pos => have h1' : decide (x < (r : Int)) = true := decide_eq_true h1
  case' neg => have h2' : (3 : Int) < x := hcond.resolve_left h1
  all_goals
    clear hcond hx
    go_wp2_with fail
    refine (HNW.out).mono ?_
    rintro e w4 ⟨A1, n1, c1, A2, n2, c2, rfl, hu, hb4⟩
    clear r0 r1 r2
    have hres := put6_res (w := w) (HZ3.out.below hb4 (by omega)) (HW3.out.below hb4 (by omega)) (by omega) (by omega) (B := w.heap.size + 3) (C := none) (N := 0) (cc := 0) (xs := []) (World.ownsRow_nil _ _ _ _) (by omega) hu (by omega) (HB3.out.trans (hb4.mono HB3.out.size)) 0 0
    have hpf := put6_facts (HZ3.out.below hb4 (by omega)) (HW3.out.below hb4 (by omega)) (by omega) (.int .i64 0) (.int .i64 0) (.slice none 0 0) (.int .i64 3) (.slice A1 n1 c1) (.slice A2 n2 c2)
    obtain ⟨d0, d1, d2, f0, f1, f2⟩ := ((HW3.out.below hb4 (by omega))).facts
    obtain ⟨z0, z1, z2, z3, z4, z5⟩ := ((HZ3.out.below hb4 (by omega))).facts
    have HRS := Lib.hid hres
    have HPF := Lib.hid hpf
    have HPW := Lib.hid (show ((((((w4).setCell ⟨(w.heap.size + 1), 0, none⟩ (.int .i64 0)).setCell ⟨(w.heap.size + 1), 1, none⟩ (.int .i64 0)).setCell ⟨(w.heap.size + 1), 2, none⟩ (.slice none 0 0)).setCell ⟨(w.heap.size + 1 + 1), 0, none⟩ (.int .i64 3)).setCell ⟨(w.heap.size + 1 + 1), 1, none⟩ (.slice A1 n1 c1)).setCell ⟨(w.heap.size + 1 + 1), 2, none⟩ (.slice A2 n2 c2) = put6 (w4) (w.heap.size + 1) (w.heap.size + 1 + 1) (.int .i64 0) (.int .i64 0) (.slice none 0 0) (.int .i64 3) (.slice A1 n1 c1) (.slice A2 n2 c2) from rfl)
    clear hres hpf hu hb4
    go_wp2_with fail
    rw [HPW.out]
    obtain ⟨⟨s0, s1, s2, _⟩, s3, s4, s5, _⟩ := (⟨HPF.out.1.facts, HPF.out.2.facts⟩ : _ ∧ _)
    have HR := HRS.out
    exact bodyPost_ret (v := .tuple #[.agg #[.int .i64 0, .int .i64 0, .slice none 0 0], .agg #[.int .i64 3, .slice A1 n1 c1, .slice A2 n2 c2]]) (by simp [results, Tryz.results19, go_sem, s0, s1, s2, s3, s4, s5]) rfl ⟨none, 0, 0, 3, _, _, _, _, _, _, rfl, HR.1, HR.2.1, HR.2.2⟩

set_option maxRecDepth 100000 in
set_option maxHeartbeats 2000000 in
theorem widen5_good (w : World) (k r : Nat) (A : Option Addr) (n c : Nat) (t : List Nat) (hr : IsRule k r t) (hT : Sl w A n ((ints t).map (Value.int .i64))) (d q : Nat) (hq : r + d = q) (h3 : q ≤ 3) :
    Calls Tryz.prog 19 #[ruleV (k : Int) (r : Int) A n c, .int .i64 (q : Int)] w (Rule5E w (k : Int) (q : Int) (wide k r d t) none) := by
  have hn : t.length = n := by simpa [ints] using hT.1
  have hn16 := hr.le
  rw [hn] at hn16
  have hk1 := hr.k1
  have hk4 := hr.k4
  have hr3 := hr.r3
  have hr0 := ((RuleAt.new w (.int .i64 (k : Int)) (.int .i64 (r : Int)) (.slice A n c)).alloc (.cells #[.int .i64 0, .int .i64 0, .slice none 0 0] 26)).alloc (.cells #[.int .i64 0, .slice none 0 0, .slice none 0 0] 45)
  have hz0 := (RuleAt.new (w.alloc (.cells #[.int .i64 (k : Int), .int .i64 (r : Int), .slice A n c] 26)) (.int .i64 0) (.int .i64 0) (.slice none 0 0)).alloc (.cells #[.int .i64 0, .slice none 0 0, .slice none 0 0] 45)
  have hw0 := WantAt.new ((w.alloc (.cells #[.int .i64 (k : Int), .int .i64 (r : Int), .slice A n c] 26)).alloc (.cells #[.int .i64 0, .int .i64 0, .slice none 0 0] 26)) (.int .i64 0) (.slice none 0 0) (.slice none 0 0)
  rw [World.size_alloc] at hz0
  rw [World.size_alloc, World.size_alloc] at hw0
  have hb0 := (((Below.refl w.heap.size w).alloc (Nat.le_refl _) (.cells #[.int .i64 (k : Int), .int .i64 (r : Int), .slice A n c] 26)).alloc (by simp) (.cells #[.int .i64 0, .int .i64 0, .slice none 0 0] 26)).alloc (by simp; omega) (.cells #[.int .i64 0, .slice none 0 0, .slice none 0 0] 45)
  obtain ⟨wx, hwx⟩ : ∃ wx, ((w.alloc (.cells #[.int .i64 (k : Int), .int .i64 (r : Int), .slice A n c] 26)).alloc (.cells #[.int .i64 0, .int .i64 0, .slice none 0 0] 26)).alloc (.cells #[.int .i64 0, .slice none 0 0, .slice none 0 0] 45) = wx := ⟨_, rfl⟩
  have hsx : wx.heap.size = w.heap.size + 3 := by rw [← hwx]; simp
  have HWX := Lib.hid hwx
  obtain ⟨q0, q1, q2, _⟩ := hr0.facts
  rw [hwx] at hr0 hz0 hw0 hb0
  have hf := fault5_c wx 0 (k : Int) (r : Int) A n c (ints t) (hT.below hb0) (by omega)
  rw [checkF_rule 0 hr] at hf
  have HF := Lib.hid hf
  have HR0 := Lib.hid hr0
  have HZ0 := Lib.hid hz0
  have HW0 := Lib.hid hw0
  have HB0 := Lib.hid hb0
  have HRU := Lib.hid hr
  have HT := Lib.hid (fun (wz : World) (hz : Below w.heap.size w wz) => hT.below hz)
  have HN := Lib.hid hn
  clear hf hwx hr0 hz0 hw0 hb0 hr hT hn
  unfold ruleV at *
  go_enter Tryz.func19, Tryz.ntmps19
  go_wp2_with fail
  rw [HWX.out]
  clear q0 q1 q2
  refine (HF.out).mono ?_
  rintro e w1 ⟨N, A1, n1, c1, A2, n2, c2, rfl, hu, hb1⟩
  obtain rfl : N = 0 := hu.num
  obtain ⟨rfl, rfl, rfl, rfl, rfl, rfl⟩ : A1 = none ∧ n1 = 0 ∧ c1 = 0 ∧ A2 = none ∧ n2 = 0 ∧ c2 = 0 := by
    have e := hu.none_eq
    simp at e
    obtain ⟨⟨q1, q2, q3⟩, q4, q5, q6⟩ := e
    exact ⟨q1, q2, q3, q4, q5, q6⟩
  have hb2 : Below w1.heap.size w1 (w1.alloc (.cells #[.int .i64 0, .slice none 0 0, .slice none 0 0] 45)) := (Below.refl _ _).alloc (Nat.le_refl _) _
  have hv2 := WantAt.new w1 (.int .i64 0) (.slice none 0 0) (.slice none 0 0)
  obtain ⟨wy, hwy⟩ : ∃ wy, w1.alloc (.cells #[.int .i64 0, .slice none 0 0, .slice none 0 0] 45) = wy := ⟨_, rfl⟩
  have HWY := Lib.hid hwy
  have hlt2 : w1.heap.size < wy.heap.size := by rw [← hwy]; simp
  rw [hwy] at hb2 hv2
  have hs1 := hb1.size
  have hr2 := (HR0.out.below hb1 (by omega)).below hb2 (by omega)
  have hz2 := (HZ0.out.below hb1 (by omega)).below hb2 (by omega)
  have hw2 := (HW0.out.below hb1 (by omega)).below hb2 (by omega)
  have hbx := HB0.out.trans ((hb1.trans (hb2.mono hb1.size)).mono HB0.out.size)
  have HBAD := Lib.hid (badZero5 wy)
  obtain ⟨ge, hge'⟩ : ∃ ge, w1.heap.size = ge := ⟨_, rfl⟩
  rw [hge'] at hv2 hs1 hlt2
  have hge : w.heap.size + 3 ≤ ge := by omega
  obtain ⟨v0, v1, v2, _⟩ := hv2.facts
  have HGE := Lib.hid hge'
  have HR2 := Lib.hid hr2
  have HZ2 := Lib.hid hz2
  have HW2 := Lib.hid hw2
  have HV2 := Lib.hid hv2
  have HB2 := Lib.hid hbx
  clear hu hb1 hb2 hr2 hz2 hw2 hv2 hbx hwy hge' hs1 hsx
  rw [show ((0 : Nat) : Int) = 0 from rfl]
  go_wp2_with fail
  rw [HWY.out, HGE.out]
  refine (HBAD.out).mono ?_
  rintro e w3 ⟨rfl, hb3⟩
  have hge2 : ge < w3.heap.size := Nat.lt_of_lt_of_le hlt2 hb3.size
  have HR3 := Lib.hid (HR2.out.below hb3 (by omega))
  have HZ3 := Lib.hid (HZ2.out.below hb3 (by omega))
  have HW3 := Lib.hid (HW2.out.below hb3 (by omega))
  have HV3 := Lib.hid (HV2.out.below hb3 (by omega))
  have HB3 := Lib.hid (HB2.out.trans (hb3.mono HB2.out.size))
  obtain ⟨r0, r1, r2, _⟩ := HR3.out.facts
  clear v0 v1 v2 hb3 hlt2 HF HR0 HZ0 HW0 HB0 HWX HWY HGE HR2 HZ2 HW2 HV2 HB2 HBAD
  have hwd := wide5_c w3 k r d q hq A n c t HRU.out h3 (HT.out w3 HB3.out)
  unfold ruleV at hwd
  have HWD := Lib.hid hwd
  have h1 : ¬ (q : Int) < (r : Int) := by omega
  have h2 : ¬ (3 : Int) < (q : Int) := by omega
  clear hwd hq
  go_wp2_with fail
  refine (HWD.out).mono ?_
  rintro e w4 ⟨C, N, cc, rfl, hown, hb4⟩
  clear r0 r1 r2
  have hres := put6_res (w := w) (HZ3.out.below hb4 (by omega)) (HW3.out.below hb4 (by omega)) (by omega) (by omega) hown (by omega) (M := 0) (WantB.zero w4 w3.heap.size) (by omega) (HB3.out.trans (hb4.mono HB3.out.size)) (k : Int) (q : Int)
  have hpf := put6_facts (HZ3.out.below hb4 (by omega)) (HW3.out.below hb4 (by omega)) (by omega) (.int .i64 (k : Int)) (.int .i64 (q : Int)) (.slice C N cc) (.int .i64 0) (.slice none 0 0) (.slice none 0 0)
  obtain ⟨d0, d1, d2, f0, f1, f2⟩ := ((HW3.out.below hb4 (by omega))).facts
  obtain ⟨z0, z1, z2, z3, z4, z5⟩ := ((HZ3.out.below hb4 (by omega))).facts
  have HRS := Lib.hid hres
  have HPF := Lib.hid hpf
  have HPW := Lib.hid (show ((((((w4).setCell ⟨(w.heap.size + 1), 0, none⟩ (.int .i64 (k : Int))).setCell ⟨(w.heap.size + 1), 1, none⟩ (.int .i64 (q : Int))).setCell ⟨(w.heap.size + 1), 2, none⟩ (.slice C N cc)).setCell ⟨(w.heap.size + 1 + 1), 0, none⟩ (.int .i64 0)).setCell ⟨(w.heap.size + 1 + 1), 1, none⟩ (.slice none 0 0)).setCell ⟨(w.heap.size + 1 + 1), 2, none⟩ (.slice none 0 0) = put6 (w4) (w.heap.size + 1) (w.heap.size + 1 + 1) (.int .i64 (k : Int)) (.int .i64 (q : Int)) (.slice C N cc) (.int .i64 0) (.slice none 0 0) (.slice none 0 0) from rfl)
  clear hres hpf hown hb4
  go_wp2_with fail
  rw [HPW.out]
  obtain ⟨⟨s0, s1, s2, _⟩, s3, s4, s5, _⟩ := (⟨HPF.out.1.facts, HPF.out.2.facts⟩ : _ ∧ _)
  have HR := HRS.out
  exact bodyPost_ret (v := .tuple #[.agg #[.int .i64 (k : Int), .int .i64 (q : Int), .slice C N cc], .agg #[.int .i64 0, .slice none 0 0, .slice none 0 0]]) (by simp [results, Tryz.results19, go_sem, s0, s1, s2, s3, s4, s5]) rfl ⟨C, N, cc, 0, _, _, _, _, _, _, rfl, HR.1, HR.2.1, HR.2.2⟩

end Go.Proofs.YtpllojpgpejfmaaGreatDoor

namespace Go.Proofs.YtpllojpgpejfmaaGreatDoor
open Go.RowKit RuleP

theorem putP {a : List Nat} {i x L : Nat} (hl : a.length = L) (hx : a[i]? = some x) (hi : i < L) : (a.take i ++ List.replicate (L - i) 0).set i x = a.take (i + 1) ++ List.replicate (L - (i + 1)) 0 := by
  have h1 : (a.take i).length = i := by rw [List.length_take]; omega
  rw [List.set_append, h1, if_neg (by omega), Nat.sub_self]
  rw [show L - i = (L - (i + 1)) + 1 by omega, List.replicate_succ, List.set_cons_zero, List.take_add_one, hx]
  simp
theorem putP0 {a : List Nat} {i L : Nat} (hl : a.length = L) (hi : i < L) : (a.take i ++ List.replicate (L - i) 0)[i]? = some 0 := by
  rw [List.getElem?_append_right (by rw [List.length_take]; omega), List.length_take, hl, Nat.min_eq_left (by omega), Nat.sub_self, List.getElem?_replicate, if_pos (by omega)]
theorem mkP (w : World) (g : Nat) (hg : w.heap.size = g) (n : Nat) (h : n ≤ maxLen) : (w.alloc (.cells (madeCells #[.int .i64 0] n) 3)).ownsRow g 3 1 (.slice (some ⟨g, 0, none⟩) n n) n ((ints (List.replicate n 0)).map (Value.int .i64)) := by
  subst hg
  exact make_ints w n h

set_option maxRecDepth 100000 in
set_option maxHeartbeats 4000000 in
theorem mirror5_good (w : World) (k r : Nat) (A : Option Addr) (n c : Nat) (t : List Nat) (hr : IsRule k r t) (hT : Sl w A n ((ints t).map (Value.int .i64))) :
    Calls Tryz.prog 15 #[ruleV (k : Int) (r : Int) A n c] w (Rule5E w (k : Int) (r : Int) (mir k r t) none) := by
  have hn : t.length = n := by simpa [ints] using hT.1
  have hn16 := hr.le
  rw [hn] at hn16
  have hk1 := hr.k1
  have hk4 := hr.k4
  have hr3 := hr.r3
  have hr0 := ((RuleAt.new w (.int .i64 (k : Int)) (.int .i64 (r : Int)) (.slice A n c)).alloc (.cells #[.int .i64 0, .int .i64 0, .slice none 0 0] 26)).alloc (.cells #[.int .i64 0, .slice none 0 0, .slice none 0 0] 45)
  have hz0 := (RuleAt.new (w.alloc (.cells #[.int .i64 (k : Int), .int .i64 (r : Int), .slice A n c] 26)) (.int .i64 0) (.int .i64 0) (.slice none 0 0)).alloc (.cells #[.int .i64 0, .slice none 0 0, .slice none 0 0] 45)
  have hw0 := WantAt.new ((w.alloc (.cells #[.int .i64 (k : Int), .int .i64 (r : Int), .slice A n c] 26)).alloc (.cells #[.int .i64 0, .int .i64 0, .slice none 0 0] 26)) (.int .i64 0) (.slice none 0 0) (.slice none 0 0)
  rw [World.size_alloc] at hz0
  rw [World.size_alloc, World.size_alloc] at hw0
  have hb0 := (((Below.refl w.heap.size w).alloc (Nat.le_refl _) (.cells #[.int .i64 (k : Int), .int .i64 (r : Int), .slice A n c] 26)).alloc (by simp) (.cells #[.int .i64 0, .int .i64 0, .slice none 0 0] 26)).alloc (by simp; omega) (.cells #[.int .i64 0, .slice none 0 0, .slice none 0 0] 45)
  obtain ⟨wx, hwx⟩ : ∃ wx, ((w.alloc (.cells #[.int .i64 (k : Int), .int .i64 (r : Int), .slice A n c] 26)).alloc (.cells #[.int .i64 0, .int .i64 0, .slice none 0 0] 26)).alloc (.cells #[.int .i64 0, .slice none 0 0, .slice none 0 0] 45) = wx := ⟨_, rfl⟩
  have hsx : wx.heap.size = w.heap.size + 3 := by rw [← hwx]; simp
  have HWX := Lib.hid hwx
  obtain ⟨q0, q1, q2, _⟩ := hr0.facts
  rw [hwx] at hr0 hz0 hw0 hb0
  have hf := fault5_c wx 0 (k : Int) (r : Int) A n c (ints t) (hT.below hb0) (by omega)
  rw [checkF_rule 0 hr] at hf
  have HF := Lib.hid hf
  have HR0 := Lib.hid hr0
  have HZ0 := Lib.hid hz0
  have HW0 := Lib.hid hw0
  have HB0 := Lib.hid hb0
  have HRU := Lib.hid hr
  have HT := Lib.hid (fun (wz : World) (hz : Below w.heap.size w wz) => hT.below hz)
  have HN := Lib.hid hn
  clear hf hwx hr0 hz0 hw0 hb0 hr hT hn
  unfold ruleV at *
  go_enter Tryz.func15, Tryz.ntmps15
  go_wp2_with fail
  rw [HWX.out]
  clear q0 q1 q2
  refine (HF.out).mono ?_
  rintro e w1 ⟨N, A1, n1, c1, A2, n2, c2, rfl, hu, hb1⟩
  obtain rfl : N = 0 := hu.num
  obtain ⟨rfl, rfl, rfl, rfl, rfl, rfl⟩ : A1 = none ∧ n1 = 0 ∧ c1 = 0 ∧ A2 = none ∧ n2 = 0 ∧ c2 = 0 := by
    have e := hu.none_eq
    simp at e
    obtain ⟨⟨q1, q2, q3⟩, q4, q5, q6⟩ := e
    exact ⟨q1, q2, q3, q4, q5, q6⟩
  have hb2 : Below w1.heap.size w1 (w1.alloc (.cells #[.int .i64 0, .slice none 0 0, .slice none 0 0] 45)) := (Below.refl _ _).alloc (Nat.le_refl _) _
  have hv2 := WantAt.new w1 (.int .i64 0) (.slice none 0 0) (.slice none 0 0)
  obtain ⟨wy, hwy⟩ : ∃ wy, w1.alloc (.cells #[.int .i64 0, .slice none 0 0, .slice none 0 0] 45) = wy := ⟨_, rfl⟩
  have HWY := Lib.hid hwy
  have hlt2 : w1.heap.size < wy.heap.size := by rw [← hwy]; simp
  rw [hwy] at hb2 hv2
  have hs1 := hb1.size
  have hr2 := (HR0.out.below hb1 (by omega)).below hb2 (by omega)
  have hz2 := (HZ0.out.below hb1 (by omega)).below hb2 (by omega)
  have hw2 := (HW0.out.below hb1 (by omega)).below hb2 (by omega)
  have hbx := HB0.out.trans ((hb1.trans (hb2.mono hb1.size)).mono HB0.out.size)
  have HBAD := Lib.hid (badZero5 wy)
  obtain ⟨ge, hge'⟩ : ∃ ge, w1.heap.size = ge := ⟨_, rfl⟩
  rw [hge'] at hv2 hs1 hlt2
  have hge : w.heap.size + 3 ≤ ge := by omega
  obtain ⟨v0, v1, v2, _⟩ := hv2.facts
  have HGE := Lib.hid hge'
  have HR2 := Lib.hid hr2
  have HZ2 := Lib.hid hz2
  have HW2 := Lib.hid hw2
  have HV2 := Lib.hid hv2
  have HB2 := Lib.hid hbx
  clear hu hb1 hb2 hr2 hz2 hw2 hv2 hbx hwy hge' hs1 hsx
  rw [show ((0 : Nat) : Int) = 0 from rfl]
  go_wp2_with fail
  rw [HWY.out, HGE.out]
  refine (HBAD.out).mono ?_
  rintro e w3 ⟨rfl, hb3⟩
  have hge2 : ge < w3.heap.size := Nat.lt_of_lt_of_le hlt2 hb3.size
  have HR3 := Lib.hid (HR2.out.below hb3 (by omega))
  have HZ3 := Lib.hid (HZ2.out.below hb3 (by omega))
  have HW3 := Lib.hid (HW2.out.below hb3 (by omega))
  have HV3 := Lib.hid (HV2.out.below hb3 (by omega))
  have HB3 := Lib.hid (HB2.out.trans (hb3.mono HB2.out.size))
  obtain ⟨r0, r1, r2, _⟩ := HR3.out.facts
  clear v0 v1 v2 hb3 hlt2 HF HR0 HZ0 HW0 HB0 HWX HWY HGE HR2 HZ2 HW2 HV2 HB2 HBAD
  have hb4 := (Below.refl w3.heap.size w3).alloc (Nat.le_refl _) (.cells #[.int .i64 (k : Int), .int .i64 (r : Int), .slice none 0 0] 26)
  have hO4 := RuleAt.new w3 (.int .i64 (k : Int)) (.int .i64 (r : Int)) (.slice none 0 0)
  obtain ⟨w4, hw4⟩ : ∃ w4, w3.alloc (.cells #[.int .i64 (k : Int), .int .i64 (r : Int), .slice none 0 0] 26) = w4 := ⟨_, rfl⟩
  have hs4 : w4.heap.size = w3.heap.size + 1 := by rw [← hw4]; simp
  rw [hw4] at hb4 hO4
  obtain ⟨gO, hgO⟩ : ∃ gO, w3.heap.size = gO := ⟨_, rfl⟩
  rw [hgO] at hO4 hs4
  have hgO1 : ge < gO := by omega
  have HOUT := Lib.hid (OutAt.start (B := gO + 1) hO4 (by omega) (by omega))
  have HR4 := Lib.hid (HR3.out.below hb4 HR3.out.lt)
  have HZ4 := Lib.hid (HZ3.out.below hb4 HZ3.out.lt)
  have HW4' := Lib.hid (HW3.out.below hb4 HW3.out.lt)
  have HB4 := Lib.hid (HB3.out.trans (hb4.mono HB3.out.size))
  have HQ4 := Lib.hid hw4
  have HGO := Lib.hid hgO
  obtain ⟨L, hL⟩ : ∃ L, 2 * r + 1 = L := ⟨_, rfl⟩
  have HL := Lib.hid hL
  have HNL := Lib.hid (show n = k ^ L by rw [← HN.out, HRU.out.len, hL])
  have e1 : IntKind.i64.wrap (2 * (r : Int)) = 2 * (r : Int) := IntWalk.i64_in _ (by omega)
  have e2 : IntKind.i64.wrap (2 * (r : Int) + 1) = (L : Int) := by rw [show 2 * (r : Int) + 1 = (L : Int) from by omega]; exact IntWalk.i64_in _ (by omega)
  have hLb : L ≤ 7 := by omega
  have hL1 : 1 ≤ L := by omega
  have HDG := Lib.hid (fun (wz : World) (i : Nat) (hi : i ≤ 16384) => digits_c wz k L i hk1 (by omega) (by omega) (by omega))
  clear hb4 hO4 hw4 hgO hs4 hL HR3 HZ3 HW3
  have hlt0 : w.heap.size < w3.heap.size := by have h1 := hge2; omega
  go_wp2_with fail
  rw [HQ4.out, HGO.out]
  clear r0 r1 r2 hlt0
  go_loopw [7] (fun iv wl => ∃ (i cc : Nat) (C : Option Addr), iv = .int .i64 (i : Int) ∧ i ≤ n ∧ Hid (OutAt wl gO (gO + 1) (.int .i64 (k : Int)) (.int .i64 (r : Int)) C i cc (tabI k L (fun v => sy k t v.reverse) i)) ∧
    Hid (RuleAt wl w.heap.size (.int .i64 (k : Int)) (.int .i64 (r : Int)) (.slice A n c)) ∧ Hid (RuleAt wl (w.heap.size + 1) (.int .i64 0) (.int .i64 0) (.slice none 0 0)) ∧ Hid (WantAt wl (w.heap.size + 1 + 1) (.int .i64 0) (.slice none 0 0) (.slice none 0 0)) ∧ Hid (Below w.heap.size w wl)) (fun iv _ => n - (intOf iv).toNat)
  case atStart => exact ⟨0, 0, none, rfl, Nat.zero_le _, HOUT, HR4, HZ4, HW4', HB4⟩
  case round =>
    clear HOUT HR4 HZ4 HW4' HB4
    obtain ⟨i, cc, C, rfl, hi, HO, HR, HZ, HW, HB⟩ := hrel
    obtain ⟨v0, rfl⟩ : ∃ v0, v0 = wr := ⟨_, rfl⟩
    obtain ⟨r0, r1, r2, _⟩ := HR.out.facts
    by_cases hiM : i < n
    · have hiM' : (i : Int) < (n : Int) := by omega
      have HDv := Lib.hid (HDG.out v0 i (by omega))
      go_wp2_with fail
      refine (HDv.out).mono ?_
      rintro e v2 ⟨rfl, hown2, hb2⟩
      obtain ⟨gw, hgw⟩ : ∃ gw, v0.heap.size = gw := ⟨_, rfl⟩
      rw [hgw] at hown2 ⊢
      -- back
      obtain ⟨gb, hgb⟩ : ∃ gb, v2.heap.size = gb := ⟨_, rfl⟩
      have hmk := run_make_row' (P := Tryz.prog) 24 3 (.int .i64 0) 8 tInts.und tInts.info rfl .i64 .i64 L (by omega) (by omega) v2
      rw [hgb] at hmk
      have hob := mkP v2 gb hgb L (by simp only [maxLen]; omega)
      have ba := (Below.refl v2.heap.size v2).alloc (Nat.le_refl _) (.cells (madeCells #[.int .i64 0] L) 3)
      obtain ⟨v3, hv3⟩ : ∃ v3, v2.alloc (.cells (madeCells #[.int .i64 0] L) 3) = v3 := ⟨_, rfl⟩
      rw [hv3] at hob ba hmk
      have hb3 := hb2.trans (ba.mono hb2.size)
      have HOB := Lib.hid hob
      have HV3 := Lib.hid hv3
      have HGB := Lib.hid hgb
      have HGBW := Lib.hid (show gb ≤ v3.heap.size by rw [← hgb]; exact ba.size)
      have HOW := Lib.hid (own_below hown2 ba)
      have HB2 := Lib.hid hb2
      have hgwb : gw < gb := by have := (hown2.lt gw rfl).2; omega
      have hDS := digB_sym (show 0 < k by omega) L i
      have hDL := digB_len k L i
      obtain ⟨D, hD⟩ : ∃ D, digB k L i = D := ⟨_, rfl⟩
      rw [hD] at HOW hDS hDL
      have HD := Lib.hid (And.intro hD (And.intro hDS hDL))
      clear hown2 hb2 hob ba hv3 hgw hgb hb3 hD hDS hDL r0 r1 r2
      go_wp2_with fail
      clear hmk
      go_loopw [10] (fun jv wl => ∃ j : Nat, j ≤ L ∧ jv = .int .i64 (j : Int) ∧ wl.ownsRow gb 3 1 (.slice (some ⟨gb, 0, none⟩) L L) L ((ints (D.reverse.take j ++ List.replicate (L - j) 0)).map (Value.int .i64)) ∧ Hid (Keeps (fun b => b = gb) v3 wl)) (fun jv _ => L - (intOf jv).toNat)
      case atStart => exact ⟨0, Nat.zero_le _, rfl, by have h := HOB.out; simpa using h, Lib.hid (Keeps.refl _ _)⟩
      case round =>
        obtain ⟨j, hj, rfl, hown, hK⟩ := hrel
        have hbj : Below gb v2 wr := by
          have h1 := (Below.refl gb v2).alloc (Nat.le_of_eq HGB.out.symm) (.cells (madeCells #[.int .i64 0] L) 3)
          rw [HV3.out] at h1
          exact h1.trans (hK.out.below HGBW.out (fun b hb => by rw [show b = gb from hb]; exact Nat.le_refl _))
        rw [← HGB.out] at hbj
        have hDw := own_keeps HOW.out hK.out (fun b hb e => by simp [Value.ownBlock] at hb; have : b = gb := e; omega)
        by_cases hlt : j < L
        · have hlt' : (j : Int) < (L : Int) := by omega
          have hj0 : (0 : Int) ≤ (j : Int) := by omega
          obtain ⟨p, hp⟩ : ∃ p, L - 1 - j = p := ⟨_, rfl⟩
          have hpL : p < L := by omega
          have hpL' : (p : Int) < (L : Int) := by omega
          have hp0 : (0 : Int) ≤ (p : Int) := by omega
          have t1 : IntKind.i64.wrap ((L : Int) - 1) = (L : Int) - 1 := IntWalk.i64_in _ (by omega)
          have t2 : IntKind.i64.wrap ((L : Int) - 1 - (j : Int)) = (p : Int) := by rw [show (L : Int) - 1 - (j : Int) = (p : Int) from by omega]; exact IntWalk.i64_in _ (by omega)
          obtain ⟨x, hx⟩ : ∃ x, D[p]? = some x := ⟨_, List.getElem?_eq_getElem (by rw [HD.out.2.2]; exact hpL)⟩
          have hcx : wr.cell? ⟨gw, p, none⟩ = some (.int .i64 (x : Int)) := by rw [hDw.cellAt p (by omega), ints_map, List.getElem?_map, hx]; rfl
          have hrx : D.reverse[j]? = some x := by
            rw [List.getElem?_reverse (by rw [HD.out.2.2]; exact hlt), HD.out.2.2, hp, hx]
          have hst := putP (L := L) (by rw [List.length_reverse]; exact HD.out.2.2) hrx hlt
          have fa := hown.frozenAt j
          have ca : wr.cell? ⟨gb, j, none⟩ = some (.int .i64 0) := by
            rw [hown.cellAt j (by omega), ints_map, List.getElem?_map, putP0 (by rw [List.length_reverse]; exact HD.out.2.2) hlt]
            rfl
          have o1 := (hown.stored j (.int .i64 (x : Int))).1
          have e3 : ((ints (D.reverse.take j ++ List.replicate (L - j) 0)).map (Value.int .i64)).set j (.int .i64 (x : Int)) = (ints (D.reverse.take (j + 1) ++ List.replicate (L - (j + 1)) 0)).map (Value.int .i64) := by
            rw [← hst, ints_map, ints_map, List.map_set]
          rw [e3] at o1
          have HOO := Lib.hid o1
          have HKK := Lib.hid (hK.out.trans (Keeps.of_setCell wr ⟨gb, j, none⟩ (.int .i64 (x : Int))) (fun _ _ h => h))
          clear hst e3 o1 hx hrx hown hK hbj hDw hp
          go_wp2_with fail
          exact ⟨⟨j + 1, by omega, by go_num, HOO.out, HKK⟩, by simp [intOf]; omega⟩
        · have hlt' : ¬ (j : Int) < (L : Int) := by omega
          obtain rfl : j = L := by omega
          obtain ⟨v5, rfl⟩ : ∃ v5, v5 = wr := ⟨_, rfl⟩
          have hle : (D.reverse.take j ++ List.replicate (j - j) 0) = D.reverse := by
            rw [Nat.sub_self, List.replicate_zero, List.append_nil, List.take_of_length_le (by rw [List.length_reverse, HD.out.2.2]; exact Nat.le_refl _)]
          rw [hle] at hown
          have hb := HB2.out.trans (hbj.mono HB2.out.size)
          have hb5 := HB.out.trans (hb.mono HB.out.size)
          have hO5 := HO.out.pure hb
          have hR5 := HR.out.below hb HR.out.lt
          have hZ5 := HZ.out.below hb HZ.out.lt
          have hW5 := HW.out.below hb HW.out.lt
          have hsym := rev_sym HD.out.2.1
          have hwl : D.reverse.length = j := by rw [List.length_reverse]; exact HD.out.2.2
          have hsl := Sl.of_own hown
          have hVAL := fun (wz : World) (hz : Below v5.heap.size v5 wz) => value_c wz k (some ⟨gb, 0, none⟩) j j D.reverse hk1 hk4 hsym (hsl.below hz) hLb
          have hvn := wval_lt hsym
          rw [hwl, ← HNL.out] at hvn
          obtain ⟨ad, y, rfl, hy, hcy⟩ := wordM5 (HT.out v5 hb5) hvn
          have hsy : sy k t (digB k j i).reverse = y := by
            unfold sy
            rw [HD.out.1, List.getD_eq_getElem?_getD, hy]
            rfl
          obtain ⟨V, hV⟩ : ∃ V, wval k D.reverse = V := ⟨_, rfl⟩
          rw [hV] at hvn hcy
          simp only [hV] at hVAL
          have hvn' : (V : Int) < (n : Int) := by omega
          have hv0 : (0 : Int) ≤ (V : Int) := by omega
          obtain ⟨r0', r1', r2', _⟩ := hR5.facts
          obtain ⟨p0, p1, p2, p3, p4, p5⟩ := hO5.at_.facts
          obtain ⟨_, _, t2, _⟩ := (hO5.at_.alloc (.cells #[.int .i64 (y : Int)] 3)).facts
          have t2' : ((v5.alloc (.cells #[.int .i64 (y : Int)] 3)).drew).cell? ⟨gO, 2, none⟩ = some (.slice C i cc) := t2
          have HVAL := Lib.hid hVAL
          have HSY := Lib.hid hsy
          have HO5 := Lib.hid hO5
          have HX5 := Lib.hid (And.intro hR5 (And.intro hZ5 hW5))
          have HB5 := Lib.hid hb5
          have hi16 : i + 1 ≤ maxLen := by simp only [maxLen]; omega
          clear hown hK hbj hDw hle hb hb5 hO5 hR5 hZ5 hW5 hsym hwl hsl hVAL hy hsy hV hlt' hlt hj
          go_wp2_with fail
          go_region_law (first
            | (go_simp
               go_at_call 52
               first
                 | with_reducible refine (HVAL.out v5 (Below.refl _ _)).mono ?_
                 | with_reducible refine (HVAL.out v5.drew (Below.refl _ _).drew).mono ?_
               rintro e w1' ⟨rfl, rfl⟩
               dsimp only)
            | (refine step_push3 ?_ (.tmp 56) (.tmp 65) 24 rfl tInts (base := gO + 1) (v := .slice C i cc) (n := i) (xs := (ints (tabI k j (fun v => sy k t v.reverse) i)).map (Value.int .i64)) ?_ rfl ⟨v5.heap.size, 0, none⟩ 1 rfl (.int .i64 (y : Int)) ?_ rfl ?_ ?_ ?_ ?_
               · rfl
               · first
                   | exact own_below HO5.out.own (((Below.refl _ _).alloc (Nat.le_refl _) _).drew)
                   | exact own_below HO5.out.own (((Below.refl _ _).drew).alloc (Nat.le_refl _) _)
               · simp
               · exact hi16
               · omega
               · (have := HO5.out.size; simp; omega)
               intro g3 cap3 w3' hown3 hor3 hlt3
               first
                 | have hkk := pushT (w := v5) (((Below.refl _ _).alloc (Nat.le_refl _) _).drew) hor3
                 | have hkk := pushT (w := v5) (((Below.refl _ _).drew).alloc (Nat.le_refl _) _) hor3
               obtain ⟨hk3, hg3⟩ := hkk
               obtain ⟨z0, z1, z2, z3, z4, z5⟩ := (HO5.out.at_.keeps hk3 (HO5.out.ne HO5.out.lt)).facts
               clear hor3)
            | fail)
          all_goals
            obtain ⟨hOx, hKx⟩ := HO5.out.push hk3 hown3
            have hRx := HX5.out.1.keeps hKx (by intro h; omega)
            have hZx := HX5.out.2.1.keeps hKx (by intro h; omega)
            have hWx := HX5.out.2.2.keeps hKx (by intro h; omega)
            have hBBx := HB5.out.trans (hKx.below HB5.out.size (fun b hb => by omega))
            have htx : tabI k j (fun v => sy k t v.reverse) (i + 1) = tabI k j (fun v => sy k t v.reverse) i ++ [y] := by rw [tabI_succ, HSY.out]
            rw [← htx] at hOx
            have HX := Lib.hid (And.intro hOx (And.intro hRx (And.intro hZx (And.intro hWx hBBx))))
            clear hOx hKx hRx hZx hWx hBBx htx hown3 hlt3 hk3 hg3 z0 z1 z2 z3 z4 z5 p0 p1 p2 p3 p4 p5 t2 t2' r0' r1' r2'
            go_wp2_with fail
            exact ⟨⟨i + 1, cap3, _, by go_num, by omega, Lib.hid HX.out.1, Lib.hid HX.out.2.1, Lib.hid HX.out.2.2.1, Lib.hid HX.out.2.2.2.1, Lib.hid HX.out.2.2.2.2⟩, by simp [intOf]; omega⟩
    · obtain rfl : i = n := by omega
      have hiM' : ¬ (i : Int) < (i : Int) := by omega
      have hO := HO.out
      obtain ⟨p0, p1, p2, _⟩ := hO.at_.facts
      have hown5 := hO.own
      have htab : tabI k L (fun v => sy k t v.reverse) i = mir k r t := by
        rw [HNL.out, tabI_all, ← HL.out]
        rfl
      rw [htab] at hown5
      clear htab
      have hres := put6_res (w := w) HZ.out HW.out (by omega) (by omega) hown5 (by omega) (M := 0) (B2 := gO + 1) (WantB.zero v0 _) (by omega) HB.out (k : Int) (r : Int)
      have hpf := put6_facts HZ.out HW.out (by omega) (.int .i64 (k : Int)) (.int .i64 (r : Int)) (.slice C i cc) (.int .i64 0) (.slice none 0 0) (.slice none 0 0)
      obtain ⟨d0, d1, d2, f0, f1, f2⟩ := (HW.out).facts
      obtain ⟨z0, z1, z2, z3, z4, z5⟩ := (HZ.out).facts
      have HRS := Lib.hid hres
      have HPF := Lib.hid hpf
      have HPW := Lib.hid (show ((((((v0).setCell ⟨(w.heap.size + 1), 0, none⟩ (.int .i64 (k : Int))).setCell ⟨(w.heap.size + 1), 1, none⟩ (.int .i64 (r : Int))).setCell ⟨(w.heap.size + 1), 2, none⟩ (.slice C i cc)).setCell ⟨(w.heap.size + 1 + 1), 0, none⟩ (.int .i64 0)).setCell ⟨(w.heap.size + 1 + 1), 1, none⟩ (.slice none 0 0)).setCell ⟨(w.heap.size + 1 + 1), 2, none⟩ (.slice none 0 0) = put6 (v0) (w.heap.size + 1) (w.heap.size + 1 + 1) (.int .i64 (k : Int)) (.int .i64 (r : Int)) (.slice C i cc) (.int .i64 0) (.slice none 0 0) (.slice none 0 0) from rfl)
      clear hres hpf hown5 hO
      go_wp2_with fail
      rw [HPW.out]
      obtain ⟨⟨s0, s1, s2, _⟩, s3, s4, s5, _⟩ := (⟨HPF.out.1.facts, HPF.out.2.facts⟩ : _ ∧ _)
      have HR := HRS.out
      exact bodyPost_ret (v := .tuple #[.agg #[.int .i64 (k : Int), .int .i64 (r : Int), .slice C i cc], .agg #[.int .i64 0, .slice none 0 0, .slice none 0 0]]) (by simp [results, Tryz.results15, go_sem, s0, s1, s2, s3, s4, s5]) rfl ⟨C, i, cc, 0, _, _, _, _, _, _, rfl, HR.1, HR.2.1, HR.2.2⟩

end Go.Proofs.YtpllojpgpejfmaaGreatDoor
