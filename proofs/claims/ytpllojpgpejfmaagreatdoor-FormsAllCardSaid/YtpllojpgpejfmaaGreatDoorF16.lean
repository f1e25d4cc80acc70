/- The document's rules out of rules, where the rule is at fault: edenref05.Mirror, Rename, Widen, Narrow, Power. Condition: the table reads from memory. -/
import Derived.Test.YtpllojpgpejfmaaGreatDoorF12
import Derived.Test.YtpllojpgpejfmaaGreatDoorF15
namespace Go.Proofs.YtpllojpgpejfmaaGreatDoor
open Go.RowKit RuleP

/-- A rule whose table is new memory, and what is asked of an error. -/
def Rule5E (w : World) (K R : Int) (xs : List Nat) (tl : Option Tale) (e : Ending) (w' : World) : Prop :=
  ∃ (C : Option Addr) (N cc M : Nat) (A1 : Option Addr) (n1 c1 : Nat) (A2 : Option Addr) (n2 c2 : Nat), e = .returned (.tuple #[.agg #[.int .i64 K, .int .i64 R, .slice C N cc], .agg #[.int .i64 (M : Int), .slice A1 n1 c1, .slice A2 n2 c2]]) ∧
    w'.ownsRow w.heap.size 3 1 (.slice C N cc) N ((ints xs).map (Value.int .i64)) ∧ WantB w' w.heap.size tl (.agg #[.int .i64 (M : Int), .slice A1 n1 c1, .slice A2 n2 c2]) ∧ Below w.heap.size w w'
theorem badZero5 (w : World) : Calls Tryz.prog 51 #[.agg #[.int .i64 0, .slice none 0 0, .slice none 0 0]] w fun e w' => e = .returned (.bool false) ∧ Below w.heap.size w w' := errBad_c w 0 none 0 0 none 0 0
/-- A rule and a value that asks for an error are stored, one behind the other. -/
def put6 (w : World) (g h : Nat) (u0 u1 u2 x0 x1 x2 : Value) : World :=
  (((((w.setCell ⟨g, 0, none⟩ u0).setCell ⟨g, 1, none⟩ u1).setCell ⟨g, 2, none⟩ u2).setCell ⟨h, 0, none⟩ x0).setCell ⟨h, 1, none⟩ x1).setCell ⟨h, 2, none⟩ x2
theorem put6_keeps (w : World) (g h : Nat) (u0 u1 u2 x0 x1 x2 : Value) : Keeps (fun b => b = g ∨ b = h) w (put6 w g h u0 u1 u2 x0 x1 x2) := keeps_set33 w g h u0 u1 u2 x0 x1 x2
theorem put6_facts {w : World} {g h : Nat} {a0 a1 a2 b0 b1 b2 : Value} (hr : RuleAt w g a0 a1 a2) (hw : WantAt w h b0 b1 b2) (hne : g ≠ h) (u0 u1 u2 x0 x1 x2 : Value) :
    RuleAt (put6 w g h u0 u1 u2 x0 x1 x2) g u0 u1 u2 ∧ WantAt (put6 w g h u0 u1 u2 x0 x1 x2) h x0 x1 x2 :=
  ⟨(hr.set3 u0 u1 u2).keeps (keeps_set3 _ h x0 x1 x2) hne, (hw.keeps (keeps_set3 w g u0 u1 u2) (fun e => hne e.symm)).set3 x0 x1 x2⟩
/-- The answer behind the two stores. -/
theorem put6_res {w w5 : World} {g h B B2 : Nat} {a0 a1 a2 b0 b1 b2 : Value} (hr : RuleAt w5 g a0 a1 a2) (hw : WantAt w5 h b0 b1 b2) (hne : g < h) (hg : w.heap.size ≤ g) {C : Option Addr} {N cc M : Nat} {xs : List Nat} (hown : w5.ownsRow B 3 1 (.slice C N cc) N ((ints xs).map (Value.int .i64))) (hB : h < B)
    {tl : Option Tale} {A1 : Option Addr} {n1 c1 : Nat} {A2 : Option Addr} {n2 c2 : Nat} (hu : WantB w5 B2 tl (.agg #[.int .i64 (M : Int), .slice A1 n1 c1, .slice A2 n2 c2])) (hB2 : h < B2) (hb : Below w.heap.size w w5) (K R : Int) :
    (put6 w5 g h (.int .i64 K) (.int .i64 R) (.slice C N cc) (.int .i64 (M : Int)) (.slice A1 n1 c1) (.slice A2 n2 c2)).ownsRow w.heap.size 3 1 (.slice C N cc) N ((ints xs).map (Value.int .i64)) ∧
    WantB (put6 w5 g h (.int .i64 K) (.int .i64 R) (.slice C N cc) (.int .i64 (M : Int)) (.slice A1 n1 c1) (.slice A2 n2 c2)) w.heap.size tl (.agg #[.int .i64 (M : Int), .slice A1 n1 c1, .slice A2 n2 c2]) ∧
    Below w.heap.size w (put6 w5 g h (.int .i64 K) (.int .i64 R) (.slice C N cc) (.int .i64 (M : Int)) (.slice A1 n1 c1) (.slice A2 n2 c2)) := by
  have hk := put6_keeps w5 g h (.int .i64 K) (.int .i64 R) (.slice C N cc) (.int .i64 (M : Int)) (.slice A1 n1 c1) (.slice A2 n2 c2)
  refine ⟨own_base (own_keeps hown hk (fun b hb' e => ?_)) (by omega), (hu.keeps hk (fun b hb' => by omega)).base (by omega), hb.trans (hk.below hb.size (fun b hb' => by omega))⟩
  have h1 := (hown.lt b hb').1
  omega

set_option maxRecDepth 100000 in
set_option maxHeartbeats 2000000 in
theorem mirror5_bad (w : World) (K R : Int) (A : Option Addr) (n c : Nat) (T : List Int) (hT : Sl w A n (T.map (Value.int .i64))) (hm : n ≤ 9223372036854775807) (tl : Tale) (h : checkF 0 K R T = some tl) :
    Calls Tryz.prog 15 #[ruleV K R A n c] w (Rule5E w 0 0 [] (some tl)) := by
  have hr0 := ((RuleAt.new w (.int .i64 K) (.int .i64 R) (.slice A n c)).alloc (.cells #[.int .i64 0, .int .i64 0, .slice none 0 0] 26)).alloc (.cells #[.int .i64 0, .slice none 0 0, .slice none 0 0] 45)
  have hz0 := (RuleAt.new (w.alloc (.cells #[.int .i64 K, .int .i64 R, .slice A n c] 26)) (.int .i64 0) (.int .i64 0) (.slice none 0 0)).alloc (.cells #[.int .i64 0, .slice none 0 0, .slice none 0 0] 45)
  have hw0 := WantAt.new ((w.alloc (.cells #[.int .i64 K, .int .i64 R, .slice A n c] 26)).alloc (.cells #[.int .i64 0, .int .i64 0, .slice none 0 0] 26)) (.int .i64 0) (.slice none 0 0) (.slice none 0 0)
  rw [World.size_alloc] at hz0
  rw [World.size_alloc, World.size_alloc] at hw0
  have hb0 := (((Below.refl w.heap.size w).alloc (Nat.le_refl _) (.cells #[.int .i64 K, .int .i64 R, .slice A n c] 26)).alloc (by simp) (.cells #[.int .i64 0, .int .i64 0, .slice none 0 0] 26)).alloc (by simp; omega) (.cells #[.int .i64 0, .slice none 0 0, .slice none 0 0] 45)
  obtain ⟨wx, hwx⟩ : ∃ wx, ((w.alloc (.cells #[.int .i64 K, .int .i64 R, .slice A n c] 26)).alloc (.cells #[.int .i64 0, .int .i64 0, .slice none 0 0] 26)).alloc (.cells #[.int .i64 0, .slice none 0 0, .slice none 0 0] 45) = wx := ⟨_, rfl⟩
  have hsx : wx.heap.size = w.heap.size + 3 := by rw [← hwx]; simp
  have HWX := Lib.hid hwx
  obtain ⟨q0, q1, q2, _⟩ := hr0.facts
  rw [hwx] at hr0 hz0 hw0 hb0
  have hf := fault5_c wx 0 K R A n c T (hT.below hb0) hm
  rw [h] at hf
  have hto := checkF_ok 0 K R T tl h
  have HF := Lib.hid hf
  have HTO := Lib.hid hto
  have HZ0 := Lib.hid hz0
  have HW0 := Lib.hid hw0
  have HB0 := Lib.hid hb0
  clear hf hto hwx h hz0 hw0 hb0 hr0 hT
  unfold ruleV at *
  go_enter Tryz.func15, Tryz.ntmps15
  go_wp2_with fail
  rw [HWX.out]
  clear q0 q1 q2
  refine (HF.out).mono ?_
  rintro e w1 ⟨N, A1, n1, c1, A2, n2, c2, rfl, hu, hb1⟩
  have hN : N ≠ 0 := by have h1 := hu.num; have h2 := HTO.out.1; simp only [tnum] at h1; omega
  have hb2 : Below w1.heap.size w1 (w1.alloc (.cells #[.int .i64 (N : Int), .slice A1 n1 c1, .slice A2 n2 c2] 45)) := (Below.refl _ _).alloc (Nat.le_refl _) _
  have hv2 := WantAt.new w1 (.int .i64 (N : Int)) (.slice A1 n1 c1) (.slice A2 n2 c2)
  obtain ⟨wy, hwy⟩ : ∃ wy, w1.alloc (.cells #[.int .i64 (N : Int), .slice A1 n1 c1, .slice A2 n2 c2] 45) = wy := ⟨_, rfl⟩
  have HWY := Lib.hid hwy
  rw [hwy] at hb2 hv2
  have hz2 := (HZ0.out.below hb1 (by omega)).below hb2 (by have := hb1.size; omega)
  have hw2 := (HW0.out.below hb1 (by omega)).below hb2 (by have := hb1.size; omega)
  have hu2 := hu.below hb2
  have hbad := errBad_c wy N A1 n1 c1 A2 n2 c2
  rw [decide_eq_true hN] at hbad
  have HBAD := Lib.hid hbad
  have HZ2 := Lib.hid hz2
  have HW2 := Lib.hid hw2
  have HU2 := Lib.hid hu2
  have HBW := Lib.hid (HB0.out.trans ((hb1.trans (hb2.mono hb1.size)).mono HB0.out.size))
  have hsz1 := hb1.size
  have hsz2 := hb2.size
  obtain ⟨ge, hge⟩ : ∃ ge, w1.heap.size = ge := ⟨_, rfl⟩
  rw [hge] at hv2 hsz1 hsz2
  obtain ⟨v0, v1, v2, _⟩ := hv2.facts
  have HGE := Lib.hid hge
  clear hbad hN hu hb1 hb2 hz2 hw2 hv2 hu2 hwy hge
  go_wp2_with fail
  rw [HWY.out, HGE.out]
  refine (HBAD.out).mono ?_
  rintro e w3 ⟨rfl, hb3⟩
  have g0 := cell_later hb3 v0
  have g1 := cell_later hb3 v1
  have g2 := cell_later hb3 v2
  have hz3 := HZ2.out.below hb3 (by omega)
  have hw3 := HW2.out.below hb3 (by omega)
  obtain ⟨d0, d1, d2, f0, f1, f2⟩ := hw3.facts
  obtain ⟨r0, r1, r2, q0, q1, q2⟩ := hz3.facts
  have hres := put6_res (w := w) (B := wx.heap.size) hz3 hw3 (by omega) (by omega) (C := none) (N := 0) (cc := 0) (xs := []) (World.ownsRow_nil _ _ _ _) (by omega) (HU2.out.below hb3) (by omega) (HBW.out.trans (hb3.mono HBW.out.size)) 0 0
  have hpf := put6_facts hz3 hw3 (by omega) (.int .i64 0) (.int .i64 0) (.slice none 0 0) (.int .i64 (N : Int)) (.slice A1 n1 c1) (.slice A2 n2 c2)
  have HRS := Lib.hid hres
  have HPF := Lib.hid hpf
  have HPW := Lib.hid (show (((((w3.setCell ⟨w.heap.size + 1, 0, none⟩ (.int .i64 0)).setCell ⟨w.heap.size + 1, 1, none⟩ (.int .i64 0)).setCell ⟨w.heap.size + 1, 2, none⟩ (.slice none 0 0)).setCell ⟨w.heap.size + 1 + 1, 0, none⟩ (.int .i64 (N : Int))).setCell ⟨w.heap.size + 1 + 1, 1, none⟩ (.slice A1 n1 c1)).setCell ⟨w.heap.size + 1 + 1, 2, none⟩ (.slice A2 n2 c2) = put6 w3 (w.heap.size + 1) (w.heap.size + 1 + 1) (.int .i64 0) (.int .i64 0) (.slice none 0 0) (.int .i64 (N : Int)) (.slice A1 n1 c1) (.slice A2 n2 c2) from rfl)
  clear v0 v1 v2 hb3 hz3 hw3 hres hpf
  go_wp2_with fail
  go_region
  all_goals
    first | go_wp2_with fail | skip
    rw [HPW.out]
    obtain ⟨⟨s0, s1, s2, _⟩, s3, s4, s5, _⟩ := (⟨HPF.out.1.facts, HPF.out.2.facts⟩ : _ ∧ _)
    obtain ⟨W, hW⟩ : ∃ W, put6 w3 (w.heap.size + 1) (w.heap.size + 1 + 1) (.int .i64 0) (.int .i64 0) (.slice none 0 0) (.int .i64 (N : Int)) (.slice A1 n1 c1) (.slice A2 n2 c2) = W := ⟨_, rfl⟩
    have HR := HRS.out
    rw [hW] at s0 s1 s2 s3 s4 s5 HR
    rw [hW]
    have hdr := (Below.refl W.heap.size W).drew
    exact bodyPost_ret (v := .tuple #[.agg #[.int .i64 0, .int .i64 0, .slice none 0 0], .agg #[.int .i64 (N : Int), .slice A1 n1 c1, .slice A2 n2 c2]]) (by simp [results, Tryz.results15, go_sem, s0, s1, s2, s3, s4, s5]) rfl ⟨none, 0, 0, N, A1, n1, c1, A2, n2, c2, rfl, World.ownsRow_nil _ _ _ _, HR.2.1.below hdr, HR.2.2.trans (hdr.mono HR.2.2.size)⟩

set_option maxRecDepth 100000 in
set_option maxHeartbeats 2000000 in
theorem rename5_bad (w : World) (K R : Int) (A : Option Addr) (n c : Nat) (T : List Int) (hT : Sl w A n (T.map (Value.int .i64))) (hm : n ≤ 9223372036854775807) (B : Option Addr) (m d : Nat) (tl : Tale) (h : checkF 0 K R T = some tl) :
    Calls Tryz.prog 17 #[ruleV K R A n c, .slice B m d] w (Rule5E w 0 0 [] (some tl)) := by
  have hr0 := ((RuleAt.new w (.int .i64 K) (.int .i64 R) (.slice A n c)).alloc (.cells #[.int .i64 0, .int .i64 0, .slice none 0 0] 26)).alloc (.cells #[.int .i64 0, .slice none 0 0, .slice none 0 0] 45)
  have hz0 := (RuleAt.new (w.alloc (.cells #[.int .i64 K, .int .i64 R, .slice A n c] 26)) (.int .i64 0) (.int .i64 0) (.slice none 0 0)).alloc (.cells #[.int .i64 0, .slice none 0 0, .slice none 0 0] 45)
  have hw0 := WantAt.new ((w.alloc (.cells #[.int .i64 K, .int .i64 R, .slice A n c] 26)).alloc (.cells #[.int .i64 0, .int .i64 0, .slice none 0 0] 26)) (.int .i64 0) (.slice none 0 0) (.slice none 0 0)
  rw [World.size_alloc] at hz0
  rw [World.size_alloc, World.size_alloc] at hw0
  have hb0 := (((Below.refl w.heap.size w).alloc (Nat.le_refl _) (.cells #[.int .i64 K, .int .i64 R, .slice A n c] 26)).alloc (by simp) (.cells #[.int .i64 0, .int .i64 0, .slice none 0 0] 26)).alloc (by simp; omega) (.cells #[.int .i64 0, .slice none 0 0, .slice none 0 0] 45)
  obtain ⟨wx, hwx⟩ : ∃ wx, ((w.alloc (.cells #[.int .i64 K, .int .i64 R, .slice A n c] 26)).alloc (.cells #[.int .i64 0, .int .i64 0, .slice none 0 0] 26)).alloc (.cells #[.int .i64 0, .slice none 0 0, .slice none 0 0] 45) = wx := ⟨_, rfl⟩
  have hsx : wx.heap.size = w.heap.size + 3 := by rw [← hwx]; simp
  have HWX := Lib.hid hwx
  obtain ⟨q0, q1, q2, _⟩ := hr0.facts
  rw [hwx] at hr0 hz0 hw0 hb0
  have hf := fault5_c wx 0 K R A n c T (hT.below hb0) hm
  rw [h] at hf
  have hto := checkF_ok 0 K R T tl h
  have HF := Lib.hid hf
  have HTO := Lib.hid hto
  have HZ0 := Lib.hid hz0
  have HW0 := Lib.hid hw0
  have HB0 := Lib.hid hb0
  clear hf hto hwx h hz0 hw0 hb0 hr0 hT
  unfold ruleV at *
  go_enter Tryz.func17, Tryz.ntmps17
  go_wp2_with fail
  rw [HWX.out]
  clear q0 q1 q2
  refine (HF.out).mono ?_
  rintro e w1 ⟨N, A1, n1, c1, A2, n2, c2, rfl, hu, hb1⟩
  have hN : N ≠ 0 := by have h1 := hu.num; have h2 := HTO.out.1; simp only [tnum] at h1; omega
  have hb2 : Below w1.heap.size w1 (w1.alloc (.cells #[.int .i64 (N : Int), .slice A1 n1 c1, .slice A2 n2 c2] 45)) := (Below.refl _ _).alloc (Nat.le_refl _) _
  have hv2 := WantAt.new w1 (.int .i64 (N : Int)) (.slice A1 n1 c1) (.slice A2 n2 c2)
  obtain ⟨wy, hwy⟩ : ∃ wy, w1.alloc (.cells #[.int .i64 (N : Int), .slice A1 n1 c1, .slice A2 n2 c2] 45) = wy := ⟨_, rfl⟩
  have HWY := Lib.hid hwy
  rw [hwy] at hb2 hv2
  have hz2 := (HZ0.out.below hb1 (by omega)).below hb2 (by have := hb1.size; omega)
  have hw2 := (HW0.out.below hb1 (by omega)).below hb2 (by have := hb1.size; omega)
  have hu2 := hu.below hb2
  have hbad := errBad_c wy N A1 n1 c1 A2 n2 c2
  rw [decide_eq_true hN] at hbad
  have HBAD := Lib.hid hbad
  have HZ2 := Lib.hid hz2
  have HW2 := Lib.hid hw2
  have HU2 := Lib.hid hu2
  have HBW := Lib.hid (HB0.out.trans ((hb1.trans (hb2.mono hb1.size)).mono HB0.out.size))
  have hsz1 := hb1.size
  have hsz2 := hb2.size
  obtain ⟨ge, hge⟩ : ∃ ge, w1.heap.size = ge := ⟨_, rfl⟩
  rw [hge] at hv2 hsz1 hsz2
  obtain ⟨v0, v1, v2, _⟩ := hv2.facts
  have HGE := Lib.hid hge
  clear hbad hN hu hb1 hb2 hz2 hw2 hv2 hu2 hwy hge
  go_wp2_with fail
  rw [HWY.out, HGE.out]
  refine (HBAD.out).mono ?_
  rintro e w3 ⟨rfl, hb3⟩
  have g0 := cell_later hb3 v0
  have g1 := cell_later hb3 v1
  have g2 := cell_later hb3 v2
  have hz3 := HZ2.out.below hb3 (by omega)
  have hw3 := HW2.out.below hb3 (by omega)
  obtain ⟨d0, d1, d2, f0, f1, f2⟩ := hw3.facts
  obtain ⟨r0, r1, r2, q0, q1, q2⟩ := hz3.facts
  have hres := put6_res (w := w) (B := wx.heap.size) hz3 hw3 (by omega) (by omega) (C := none) (N := 0) (cc := 0) (xs := []) (World.ownsRow_nil _ _ _ _) (by omega) (HU2.out.below hb3) (by omega) (HBW.out.trans (hb3.mono HBW.out.size)) 0 0
  have hpf := put6_facts hz3 hw3 (by omega) (.int .i64 0) (.int .i64 0) (.slice none 0 0) (.int .i64 (N : Int)) (.slice A1 n1 c1) (.slice A2 n2 c2)
  have HRS := Lib.hid hres
  have HPF := Lib.hid hpf
  have HPW := Lib.hid (show (((((w3.setCell ⟨w.heap.size + 1, 0, none⟩ (.int .i64 0)).setCell ⟨w.heap.size + 1, 1, none⟩ (.int .i64 0)).setCell ⟨w.heap.size + 1, 2, none⟩ (.slice none 0 0)).setCell ⟨w.heap.size + 1 + 1, 0, none⟩ (.int .i64 (N : Int))).setCell ⟨w.heap.size + 1 + 1, 1, none⟩ (.slice A1 n1 c1)).setCell ⟨w.heap.size + 1 + 1, 2, none⟩ (.slice A2 n2 c2) = put6 w3 (w.heap.size + 1) (w.heap.size + 1 + 1) (.int .i64 0) (.int .i64 0) (.slice none 0 0) (.int .i64 (N : Int)) (.slice A1 n1 c1) (.slice A2 n2 c2) from rfl)
  clear v0 v1 v2 hb3 hz3 hw3 hres hpf
  go_wp2_with fail
  go_region
  all_goals
    first | go_wp2_with fail | skip
    rw [HPW.out]
    obtain ⟨⟨s0, s1, s2, _⟩, s3, s4, s5, _⟩ := (⟨HPF.out.1.facts, HPF.out.2.facts⟩ : _ ∧ _)
    obtain ⟨W, hW⟩ : ∃ W, put6 w3 (w.heap.size + 1) (w.heap.size + 1 + 1) (.int .i64 0) (.int .i64 0) (.slice none 0 0) (.int .i64 (N : Int)) (.slice A1 n1 c1) (.slice A2 n2 c2) = W := ⟨_, rfl⟩
    have HR := HRS.out
    rw [hW] at s0 s1 s2 s3 s4 s5 HR
    rw [hW]
    have hdr := (Below.refl W.heap.size W).drew
    exact bodyPost_ret (v := .tuple #[.agg #[.int .i64 0, .int .i64 0, .slice none 0 0], .agg #[.int .i64 (N : Int), .slice A1 n1 c1, .slice A2 n2 c2]]) (by simp [results, Tryz.results17, go_sem, s0, s1, s2, s3, s4, s5]) rfl ⟨none, 0, 0, N, A1, n1, c1, A2, n2, c2, rfl, World.ownsRow_nil _ _ _ _, HR.2.1.below hdr, HR.2.2.trans (hdr.mono HR.2.2.size)⟩

set_option maxRecDepth 100000 in
set_option maxHeartbeats 2000000 in
theorem widen5_bad (w : World) (K R : Int) (A : Option Addr) (n c : Nat) (T : List Int) (hT : Sl w A n (T.map (Value.int .i64))) (hm : n ≤ 9223372036854775807) (x : Int) (tl : Tale) (h : checkF 0 K R T = some tl) :
    Calls Tryz.prog 19 #[ruleV K R A n c, .int .i64 x] w (Rule5E w 0 0 [] (some tl)) := by
  have hr0 := ((RuleAt.new w (.int .i64 K) (.int .i64 R) (.slice A n c)).alloc (.cells #[.int .i64 0, .int .i64 0, .slice none 0 0] 26)).alloc (.cells #[.int .i64 0, .slice none 0 0, .slice none 0 0] 45)
  have hz0 := (RuleAt.new (w.alloc (.cells #[.int .i64 K, .int .i64 R, .slice A n c] 26)) (.int .i64 0) (.int .i64 0) (.slice none 0 0)).alloc (.cells #[.int .i64 0, .slice none 0 0, .slice none 0 0] 45)
  have hw0 := WantAt.new ((w.alloc (.cells #[.int .i64 K, .int .i64 R, .slice A n c] 26)).alloc (.cells #[.int .i64 0, .int .i64 0, .slice none 0 0] 26)) (.int .i64 0) (.slice none 0 0) (.slice none 0 0)
  rw [World.size_alloc] at hz0
  rw [World.size_alloc, World.size_alloc] at hw0
  have hb0 := (((Below.refl w.heap.size w).alloc (Nat.le_refl _) (.cells #[.int .i64 K, .int .i64 R, .slice A n c] 26)).alloc (by simp) (.cells #[.int .i64 0, .int .i64 0, .slice none 0 0] 26)).alloc (by simp; omega) (.cells #[.int .i64 0, .slice none 0 0, .slice none 0 0] 45)
  obtain ⟨wx, hwx⟩ : ∃ wx, ((w.alloc (.cells #[.int .i64 K, .int .i64 R, .slice A n c] 26)).alloc (.cells #[.int .i64 0, .int .i64 0, .slice none 0 0] 26)).alloc (.cells #[.int .i64 0, .slice none 0 0, .slice none 0 0] 45) = wx := ⟨_, rfl⟩
  have hsx : wx.heap.size = w.heap.size + 3 := by rw [← hwx]; simp
  have HWX := Lib.hid hwx
  obtain ⟨q0, q1, q2, _⟩ := hr0.facts
  rw [hwx] at hr0 hz0 hw0 hb0
  have hf := fault5_c wx 0 K R A n c T (hT.below hb0) hm
  rw [h] at hf
  have hto := checkF_ok 0 K R T tl h
  have HF := Lib.hid hf
  have HTO := Lib.hid hto
  have HZ0 := Lib.hid hz0
  have HW0 := Lib.hid hw0
  have HB0 := Lib.hid hb0
  clear hf hto hwx h hz0 hw0 hb0 hr0 hT
  unfold ruleV at *
  go_enter Tryz.func19, Tryz.ntmps19
  go_wp2_with fail
  rw [HWX.out]
  clear q0 q1 q2
  refine (HF.out).mono ?_
  rintro e w1 ⟨N, A1, n1, c1, A2, n2, c2, rfl, hu, hb1⟩
  have hN : N ≠ 0 := by have h1 := hu.num; have h2 := HTO.out.1; simp only [tnum] at h1; omega
  have hb2 : Below w1.heap.size w1 (w1.alloc (.cells #[.int .i64 (N : Int), .slice A1 n1 c1, .slice A2 n2 c2] 45)) := (Below.refl _ _).alloc (Nat.le_refl _) _
  have hv2 := WantAt.new w1 (.int .i64 (N : Int)) (.slice A1 n1 c1) (.slice A2 n2 c2)
  obtain ⟨wy, hwy⟩ : ∃ wy, w1.alloc (.cells #[.int .i64 (N : Int), .slice A1 n1 c1, .slice A2 n2 c2] 45) = wy := ⟨_, rfl⟩
  have HWY := Lib.hid hwy
  rw [hwy] at hb2 hv2
  have hz2 := (HZ0.out.below hb1 (by omega)).below hb2 (by have := hb1.size; omega)
  have hw2 := (HW0.out.below hb1 (by omega)).below hb2 (by have := hb1.size; omega)
  have hu2 := hu.below hb2
  have hbad := errBad_c wy N A1 n1 c1 A2 n2 c2
  rw [decide_eq_true hN] at hbad
  have HBAD := Lib.hid hbad
  have HZ2 := Lib.hid hz2
  have HW2 := Lib.hid hw2
  have HU2 := Lib.hid hu2
  have HBW := Lib.hid (HB0.out.trans ((hb1.trans (hb2.mono hb1.size)).mono HB0.out.size))
  have hsz1 := hb1.size
  have hsz2 := hb2.size
  obtain ⟨ge, hge⟩ : ∃ ge, w1.heap.size = ge := ⟨_, rfl⟩
  rw [hge] at hv2 hsz1 hsz2
  obtain ⟨v0, v1, v2, _⟩ := hv2.facts
  have HGE := Lib.hid hge
  clear hbad hN hu hb1 hb2 hz2 hw2 hv2 hu2 hwy hge
  go_wp2_with fail
  rw [HWY.out, HGE.out]
  refine (HBAD.out).mono ?_
  rintro e w3 ⟨rfl, hb3⟩
  have g0 := cell_later hb3 v0
  have g1 := cell_later hb3 v1
  have g2 := cell_later hb3 v2
  have hz3 := HZ2.out.below hb3 (by omega)
  have hw3 := HW2.out.below hb3 (by omega)
  obtain ⟨d0, d1, d2, f0, f1, f2⟩ := hw3.facts
  obtain ⟨r0, r1, r2, q0, q1, q2⟩ := hz3.facts
  have hres := put6_res (w := w) (B := wx.heap.size) hz3 hw3 (by omega) (by omega) (C := none) (N := 0) (cc := 0) (xs := []) (World.ownsRow_nil _ _ _ _) (by omega) (HU2.out.below hb3) (by omega) (HBW.out.trans (hb3.mono HBW.out.size)) 0 0
  have hpf := put6_facts hz3 hw3 (by omega) (.int .i64 0) (.int .i64 0) (.slice none 0 0) (.int .i64 (N : Int)) (.slice A1 n1 c1) (.slice A2 n2 c2)
  have HRS := Lib.hid hres
  have HPF := Lib.hid hpf
  have HPW := Lib.hid (show (((((w3.setCell ⟨w.heap.size + 1, 0, none⟩ (.int .i64 0)).setCell ⟨w.heap.size + 1, 1, none⟩ (.int .i64 0)).setCell ⟨w.heap.size + 1, 2, none⟩ (.slice none 0 0)).setCell ⟨w.heap.size + 1 + 1, 0, none⟩ (.int .i64 (N : Int))).setCell ⟨w.heap.size + 1 + 1, 1, none⟩ (.slice A1 n1 c1)).setCell ⟨w.heap.size + 1 + 1, 2, none⟩ (.slice A2 n2 c2) = put6 w3 (w.heap.size + 1) (w.heap.size + 1 + 1) (.int .i64 0) (.int .i64 0) (.slice none 0 0) (.int .i64 (N : Int)) (.slice A1 n1 c1) (.slice A2 n2 c2) from rfl)
  clear v0 v1 v2 hb3 hz3 hw3 hres hpf
  go_wp2_with fail
  go_region
  all_goals
    first | go_wp2_with fail | skip
    rw [HPW.out]
    obtain ⟨⟨s0, s1, s2, _⟩, s3, s4, s5, _⟩ := (⟨HPF.out.1.facts, HPF.out.2.facts⟩ : _ ∧ _)
    obtain ⟨W, hW⟩ : ∃ W, put6 w3 (w.heap.size + 1) (w.heap.size + 1 + 1) (.int .i64 0) (.int .i64 0) (.slice none 0 0) (.int .i64 (N : Int)) (.slice A1 n1 c1) (.slice A2 n2 c2) = W := ⟨_, rfl⟩
    have HR := HRS.out
    rw [hW] at s0 s1 s2 s3 s4 s5 HR
    rw [hW]
    have hdr := (Below.refl W.heap.size W).drew
    exact bodyPost_ret (v := .tuple #[.agg #[.int .i64 0, .int .i64 0, .slice none 0 0], .agg #[.int .i64 (N : Int), .slice A1 n1 c1, .slice A2 n2 c2]]) (by simp [results, Tryz.results19, go_sem, s0, s1, s2, s3, s4, s5]) rfl ⟨none, 0, 0, N, A1, n1, c1, A2, n2, c2, rfl, World.ownsRow_nil _ _ _ _, HR.2.1.below hdr, HR.2.2.trans (hdr.mono HR.2.2.size)⟩

set_option maxRecDepth 100000 in
set_option maxHeartbeats 2000000 in
theorem narrow5_bad (w : World) (K R : Int) (A : Option Addr) (n c : Nat) (T : List Int) (hT : Sl w A n (T.map (Value.int .i64))) (hm : n ≤ 9223372036854775807) (tl : Tale) (h : checkF 0 K R T = some tl) :
    Calls Tryz.prog 21 #[ruleV K R A n c] w (Rule5E w 0 0 [] (some tl)) := by
  have hr0 := ((RuleAt.new w (.int .i64 K) (.int .i64 R) (.slice A n c)).alloc (.cells #[.int .i64 0, .int .i64 0, .slice none 0 0] 26)).alloc (.cells #[.int .i64 0, .slice none 0 0, .slice none 0 0] 45)
  have hz0 := (RuleAt.new (w.alloc (.cells #[.int .i64 K, .int .i64 R, .slice A n c] 26)) (.int .i64 0) (.int .i64 0) (.slice none 0 0)).alloc (.cells #[.int .i64 0, .slice none 0 0, .slice none 0 0] 45)
  have hw0 := WantAt.new ((w.alloc (.cells #[.int .i64 K, .int .i64 R, .slice A n c] 26)).alloc (.cells #[.int .i64 0, .int .i64 0, .slice none 0 0] 26)) (.int .i64 0) (.slice none 0 0) (.slice none 0 0)
  rw [World.size_alloc] at hz0
  rw [World.size_alloc, World.size_alloc] at hw0
  have hb0 := (((Below.refl w.heap.size w).alloc (Nat.le_refl _) (.cells #[.int .i64 K, .int .i64 R, .slice A n c] 26)).alloc (by simp) (.cells #[.int .i64 0, .int .i64 0, .slice none 0 0] 26)).alloc (by simp; omega) (.cells #[.int .i64 0, .slice none 0 0, .slice none 0 0] 45)
  obtain ⟨wx, hwx⟩ : ∃ wx, ((w.alloc (.cells #[.int .i64 K, .int .i64 R, .slice A n c] 26)).alloc (.cells #[.int .i64 0, .int .i64 0, .slice none 0 0] 26)).alloc (.cells #[.int .i64 0, .slice none 0 0, .slice none 0 0] 45) = wx := ⟨_, rfl⟩
  have hsx : wx.heap.size = w.heap.size + 3 := by rw [← hwx]; simp
  have HWX := Lib.hid hwx
  obtain ⟨q0, q1, q2, _⟩ := hr0.facts
  rw [hwx] at hr0 hz0 hw0 hb0
  have hf := fault5_c wx 0 K R A n c T (hT.below hb0) hm
  rw [h] at hf
  have hto := checkF_ok 0 K R T tl h
  have HF := Lib.hid hf
  have HTO := Lib.hid hto
  have HZ0 := Lib.hid hz0
  have HW0 := Lib.hid hw0
  have HB0 := Lib.hid hb0
  clear hf hto hwx h hz0 hw0 hb0 hr0 hT
  unfold ruleV at *
  go_enter Tryz.func21, Tryz.ntmps21
  go_wp2_with fail
  rw [HWX.out]
  clear q0 q1 q2
  refine (HF.out).mono ?_
  rintro e w1 ⟨N, A1, n1, c1, A2, n2, c2, rfl, hu, hb1⟩
  have hN : N ≠ 0 := by have h1 := hu.num; have h2 := HTO.out.1; simp only [tnum] at h1; omega
  have hb2 : Below w1.heap.size w1 (w1.alloc (.cells #[.int .i64 (N : Int), .slice A1 n1 c1, .slice A2 n2 c2] 45)) := (Below.refl _ _).alloc (Nat.le_refl _) _
  have hv2 := WantAt.new w1 (.int .i64 (N : Int)) (.slice A1 n1 c1) (.slice A2 n2 c2)
  obtain ⟨wy, hwy⟩ : ∃ wy, w1.alloc (.cells #[.int .i64 (N : Int), .slice A1 n1 c1, .slice A2 n2 c2] 45) = wy := ⟨_, rfl⟩
  have HWY := Lib.hid hwy
  rw [hwy] at hb2 hv2
  have hz2 := (HZ0.out.below hb1 (by omega)).below hb2 (by have := hb1.size; omega)
  have hw2 := (HW0.out.below hb1 (by omega)).below hb2 (by have := hb1.size; omega)
  have hu2 := hu.below hb2
  have hbad := errBad_c wy N A1 n1 c1 A2 n2 c2
  rw [decide_eq_true hN] at hbad
  have HBAD := Lib.hid hbad
  have HZ2 := Lib.hid hz2
  have HW2 := Lib.hid hw2
  have HU2 := Lib.hid hu2
  have HBW := Lib.hid (HB0.out.trans ((hb1.trans (hb2.mono hb1.size)).mono HB0.out.size))
  have hsz1 := hb1.size
  have hsz2 := hb2.size
  obtain ⟨ge, hge⟩ : ∃ ge, w1.heap.size = ge := ⟨_, rfl⟩
  rw [hge] at hv2 hsz1 hsz2
  obtain ⟨v0, v1, v2, _⟩ := hv2.facts
  have HGE := Lib.hid hge
  clear hbad hN hu hb1 hb2 hz2 hw2 hv2 hu2 hwy hge
  go_wp2_with fail
  rw [HWY.out, HGE.out]
  refine (HBAD.out).mono ?_
  rintro e w3 ⟨rfl, hb3⟩
  have g0 := cell_later hb3 v0
  have g1 := cell_later hb3 v1
  have g2 := cell_later hb3 v2
  have hz3 := HZ2.out.below hb3 (by omega)
  have hw3 := HW2.out.below hb3 (by omega)
  obtain ⟨d0, d1, d2, f0, f1, f2⟩ := hw3.facts
  obtain ⟨r0, r1, r2, q0, q1, q2⟩ := hz3.facts
  have hres := put6_res (w := w) (B := wx.heap.size) hz3 hw3 (by omega) (by omega) (C := none) (N := 0) (cc := 0) (xs := []) (World.ownsRow_nil _ _ _ _) (by omega) (HU2.out.below hb3) (by omega) (HBW.out.trans (hb3.mono HBW.out.size)) 0 0
  have hpf := put6_facts hz3 hw3 (by omega) (.int .i64 0) (.int .i64 0) (.slice none 0 0) (.int .i64 (N : Int)) (.slice A1 n1 c1) (.slice A2 n2 c2)
  have HRS := Lib.hid hres
  have HPF := Lib.hid hpf
  have HPW := Lib.hid (show (((((w3.setCell ⟨w.heap.size + 1, 0, none⟩ (.int .i64 0)).setCell ⟨w.heap.size + 1, 1, none⟩ (.int .i64 0)).setCell ⟨w.heap.size + 1, 2, none⟩ (.slice none 0 0)).setCell ⟨w.heap.size + 1 + 1, 0, none⟩ (.int .i64 (N : Int))).setCell ⟨w.heap.size + 1 + 1, 1, none⟩ (.slice A1 n1 c1)).setCell ⟨w.heap.size + 1 + 1, 2, none⟩ (.slice A2 n2 c2) = put6 w3 (w.heap.size + 1) (w.heap.size + 1 + 1) (.int .i64 0) (.int .i64 0) (.slice none 0 0) (.int .i64 (N : Int)) (.slice A1 n1 c1) (.slice A2 n2 c2) from rfl)
  clear v0 v1 v2 hb3 hz3 hw3 hres hpf
  go_wp2_with fail
  go_region
  all_goals
    first | go_wp2_with fail | skip
    rw [HPW.out]
    obtain ⟨⟨s0, s1, s2, _⟩, s3, s4, s5, _⟩ := (⟨HPF.out.1.facts, HPF.out.2.facts⟩ : _ ∧ _)
    obtain ⟨W, hW⟩ : ∃ W, put6 w3 (w.heap.size + 1) (w.heap.size + 1 + 1) (.int .i64 0) (.int .i64 0) (.slice none 0 0) (.int .i64 (N : Int)) (.slice A1 n1 c1) (.slice A2 n2 c2) = W := ⟨_, rfl⟩
    have HR := HRS.out
    rw [hW] at s0 s1 s2 s3 s4 s5 HR
    rw [hW]
    have hdr := (Below.refl W.heap.size W).drew
    exact bodyPost_ret (v := .tuple #[.agg #[.int .i64 0, .int .i64 0, .slice none 0 0], .agg #[.int .i64 (N : Int), .slice A1 n1 c1, .slice A2 n2 c2]]) (by simp [results, Tryz.results21, go_sem, s0, s1, s2, s3, s4, s5]) rfl ⟨none, 0, 0, N, A1, n1, c1, A2, n2, c2, rfl, World.ownsRow_nil _ _ _ _, HR.2.1.below hdr, HR.2.2.trans (hdr.mono HR.2.2.size)⟩

set_option maxRecDepth 100000 in
set_option maxHeartbeats 2000000 in
theorem power5_bad (w : World) (K R : Int) (A : Option Addr) (n c : Nat) (T : List Int) (hT : Sl w A n (T.map (Value.int .i64))) (hm : n ≤ 9223372036854775807) (x : Int) (tl : Tale) (h : checkF 0 K R T = some tl) :
    Calls Tryz.prog 25 #[ruleV K R A n c, .int .i64 x] w (Rule5E w 0 0 [] (some tl)) := by
  have hr0 := ((RuleAt.new w (.int .i64 K) (.int .i64 R) (.slice A n c)).alloc (.cells #[.int .i64 0, .int .i64 0, .slice none 0 0] 26)).alloc (.cells #[.int .i64 0, .slice none 0 0, .slice none 0 0] 45)
  have hz0 := (RuleAt.new (w.alloc (.cells #[.int .i64 K, .int .i64 R, .slice A n c] 26)) (.int .i64 0) (.int .i64 0) (.slice none 0 0)).alloc (.cells #[.int .i64 0, .slice none 0 0, .slice none 0 0] 45)
  have hw0 := WantAt.new ((w.alloc (.cells #[.int .i64 K, .int .i64 R, .slice A n c] 26)).alloc (.cells #[.int .i64 0, .int .i64 0, .slice none 0 0] 26)) (.int .i64 0) (.slice none 0 0) (.slice none 0 0)
  rw [World.size_alloc] at hz0
  rw [World.size_alloc, World.size_alloc] at hw0
  have hb0 := (((Below.refl w.heap.size w).alloc (Nat.le_refl _) (.cells #[.int .i64 K, .int .i64 R, .slice A n c] 26)).alloc (by simp) (.cells #[.int .i64 0, .int .i64 0, .slice none 0 0] 26)).alloc (by simp; omega) (.cells #[.int .i64 0, .slice none 0 0, .slice none 0 0] 45)
  obtain ⟨wx, hwx⟩ : ∃ wx, ((w.alloc (.cells #[.int .i64 K, .int .i64 R, .slice A n c] 26)).alloc (.cells #[.int .i64 0, .int .i64 0, .slice none 0 0] 26)).alloc (.cells #[.int .i64 0, .slice none 0 0, .slice none 0 0] 45) = wx := ⟨_, rfl⟩
  have hsx : wx.heap.size = w.heap.size + 3 := by rw [← hwx]; simp
  have HWX := Lib.hid hwx
  obtain ⟨q0, q1, q2, _⟩ := hr0.facts
  rw [hwx] at hr0 hz0 hw0 hb0
  have hf := fault5_c wx 0 K R A n c T (hT.below hb0) hm
  rw [h] at hf
  have hto := checkF_ok 0 K R T tl h
  have HF := Lib.hid hf
  have HTO := Lib.hid hto
  have HZ0 := Lib.hid hz0
  have HW0 := Lib.hid hw0
  have HB0 := Lib.hid hb0
  clear hf hto hwx h hz0 hw0 hb0 hr0 hT
  unfold ruleV at *
  go_enter Tryz.func25, Tryz.ntmps25
  go_wp2_with fail
  rw [HWX.out]
  clear q0 q1 q2
  refine (HF.out).mono ?_
  rintro e w1 ⟨N, A1, n1, c1, A2, n2, c2, rfl, hu, hb1⟩
  have hN : N ≠ 0 := by have h1 := hu.num; have h2 := HTO.out.1; simp only [tnum] at h1; omega
  have hb2 : Below w1.heap.size w1 (w1.alloc (.cells #[.int .i64 (N : Int), .slice A1 n1 c1, .slice A2 n2 c2] 45)) := (Below.refl _ _).alloc (Nat.le_refl _) _
  have hv2 := WantAt.new w1 (.int .i64 (N : Int)) (.slice A1 n1 c1) (.slice A2 n2 c2)
  obtain ⟨wy, hwy⟩ : ∃ wy, w1.alloc (.cells #[.int .i64 (N : Int), .slice A1 n1 c1, .slice A2 n2 c2] 45) = wy := ⟨_, rfl⟩
  have HWY := Lib.hid hwy
  rw [hwy] at hb2 hv2
  have hz2 := (HZ0.out.below hb1 (by omega)).below hb2 (by have := hb1.size; omega)
  have hw2 := (HW0.out.below hb1 (by omega)).below hb2 (by have := hb1.size; omega)
  have hu2 := hu.below hb2
  have hbad := errBad_c wy N A1 n1 c1 A2 n2 c2
  rw [decide_eq_true hN] at hbad
  have HBAD := Lib.hid hbad
  have HZ2 := Lib.hid hz2
  have HW2 := Lib.hid hw2
  have HU2 := Lib.hid hu2
  have HBW := Lib.hid (HB0.out.trans ((hb1.trans (hb2.mono hb1.size)).mono HB0.out.size))
  have hsz1 := hb1.size
  have hsz2 := hb2.size
  obtain ⟨ge, hge⟩ : ∃ ge, w1.heap.size = ge := ⟨_, rfl⟩
  rw [hge] at hv2 hsz1 hsz2
  obtain ⟨v0, v1, v2, _⟩ := hv2.facts
  have HGE := Lib.hid hge
  clear hbad hN hu hb1 hb2 hz2 hw2 hv2 hu2 hwy hge
  go_wp2_with fail
  rw [HWY.out, HGE.out]
  refine (HBAD.out).mono ?_
  rintro e w3 ⟨rfl, hb3⟩
  have g0 := cell_later hb3 v0
  have g1 := cell_later hb3 v1
  have g2 := cell_later hb3 v2
  have hz3 := HZ2.out.below hb3 (by omega)
  have hw3 := HW2.out.below hb3 (by omega)
  obtain ⟨d0, d1, d2, f0, f1, f2⟩ := hw3.facts
  obtain ⟨r0, r1, r2, q0, q1, q2⟩ := hz3.facts
  have hres := put6_res (w := w) (B := wx.heap.size) hz3 hw3 (by omega) (by omega) (C := none) (N := 0) (cc := 0) (xs := []) (World.ownsRow_nil _ _ _ _) (by omega) (HU2.out.below hb3) (by omega) (HBW.out.trans (hb3.mono HBW.out.size)) 0 0
  have hpf := put6_facts hz3 hw3 (by omega) (.int .i64 0) (.int .i64 0) (.slice none 0 0) (.int .i64 (N : Int)) (.slice A1 n1 c1) (.slice A2 n2 c2)
  have HRS := Lib.hid hres
  have HPF := Lib.hid hpf
  have HPW := Lib.hid (show (((((w3.setCell ⟨w.heap.size + 1, 0, none⟩ (.int .i64 0)).setCell ⟨w.heap.size + 1, 1, none⟩ (.int .i64 0)).setCell ⟨w.heap.size + 1, 2, none⟩ (.slice none 0 0)).setCell ⟨w.heap.size + 1 + 1, 0, none⟩ (.int .i64 (N : Int))).setCell ⟨w.heap.size + 1 + 1, 1, none⟩ (.slice A1 n1 c1)).setCell ⟨w.heap.size + 1 + 1, 2, none⟩ (.slice A2 n2 c2) = put6 w3 (w.heap.size + 1) (w.heap.size + 1 + 1) (.int .i64 0) (.int .i64 0) (.slice none 0 0) (.int .i64 (N : Int)) (.slice A1 n1 c1) (.slice A2 n2 c2) from rfl)
  clear v0 v1 v2 hb3 hz3 hw3 hres hpf
  go_wp2_with fail
  go_region
  all_goals
    first | go_wp2_with fail | skip
    rw [HPW.out]
    obtain ⟨⟨s0, s1, s2, _⟩, s3, s4, s5, _⟩ := (⟨HPF.out.1.facts, HPF.out.2.facts⟩ : _ ∧ _)
    obtain ⟨W, hW⟩ : ∃ W, put6 w3 (w.heap.size + 1) (w.heap.size + 1 + 1) (.int .i64 0) (.int .i64 0) (.slice none 0 0) (.int .i64 (N : Int)) (.slice A1 n1 c1) (.slice A2 n2 c2) = W := ⟨_, rfl⟩
    have HR := HRS.out
    rw [hW] at s0 s1 s2 s3 s4 s5 HR
    rw [hW]
    have hdr := (Below.refl W.heap.size W).drew
    exact bodyPost_ret (v := .tuple #[.agg #[.int .i64 0, .int .i64 0, .slice none 0 0], .agg #[.int .i64 (N : Int), .slice A1 n1 c1, .slice A2 n2 c2]]) (by simp [results, Tryz.results25, go_sem, s0, s1, s2, s3, s4, s5]) rfl ⟨none, 0, 0, N, A1, n1, c1, A2, n2, c2, rfl, World.ownsRow_nil _ _ _ _, HR.2.1.below hdr, HR.2.2.trans (hdr.mono HR.2.2.size)⟩

end Go.Proofs.YtpllojpgpejfmaaGreatDoor
