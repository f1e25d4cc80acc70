/- Rules out of rules: forms.Narrow of a rule. Condition: the table reads from memory; the error variables hold what E says. Rules held against each other: forms.Same. Condition: the tables read from memory; the error variables hold what E says. Rules out of rules: forms.Power. Condition: the table reads from memory; the error variables hold what E says. Rules out of rules: forms.Shift. Condition: the error variables hold what E says. slices.Backward of ints: each round gets a place and its number, the last first. Condition: the slice reads from memory. Digits to the base 65536 and limbs to the base 2^32: plain lists, no program. No condition. Schoolbook rules on digits to any base: plain lists, no program. No condition. Powers in memory: what nat.Pow returns. Condition: the error variables hold what E says. Differences in memory: what nat.Sub returns. Condition: the limbs read from memory; the error variables hold what E says. Numbers by their value: differences, quotients, powers, texts, and the errors told. Condition: the numbers read from memory; the error variables hold what E says. A small rule's number: rule.Code. Condition: the table reads from memory; the error variables hold what E says. A rule's number where there is none; a number's digits again. Condition: the table reads from memory; the error variables hold what E says. -/
import Derived.RangeFuncNested
import Derived.RangeFuncBound
import Derived.RangeFuncCalls
import Derived.RangeFuncLeaves
import Derived.RangeFuncBox
import Derived.Shelf.Abstract
import Derived.WalkKit
import Derived.OwnWalkIn
import Derived.TacticsInMore
import Derived.LoopNIn
import Derived.LoopIn
import Derived.RangeFuncWrites
import Derived.Shelf.RegionOpen
import Derived.Laws.BitsAllLaws
import Derived.Lib.Strings
import Derived.Lib.Slices
import Derived.Lib.Small
import Derived.Lib.Walk
import Derived.Lib.BitFns
import Derived.Test.YthilnpfpllplaaaGreatDoorS1
import Derived.Test.YthilnpfpllplaaaGreatDoorS4
import Derived.Test.YthilnpfpllplaaaGreatDoorS5
import Derived.Test.YthilnpfpllplaaaGreatDoorS6
import Derived.Test.YthilnpfpllplaaaGreatDoorS7
import Derived.Test.YthilnpfpllplaaaGreatDoorS25
import Derived.Test.YthilnpfpllplaaaGreatDoorS26
import Derived.Test.YthilnpfpllplaaaGreatDoorS35
import Derived.Test.YthilnpfpllplaaaGreatDoorS37
namespace Go.Proofs.YthilnpfpllplaaaGreatDoor
open Go.RowKit RuleP

theorem own_blk {w : World} {base e n g : Nat} {v : Value} {xs : List Value} (h : w.ownsRow base e 1 v n xs) (hg : v.ownBlock = some g) : ∃ cs, w.heap[g]? = some (.cells cs e (0, 0)) := by
  rcases h.2 with ⟨rfl, _⟩ | ⟨g', cap, cur, rfl, _, hh, _⟩
  · cases hg
  · have e' : g' = g := by simpa [Value.ownBlock] using hg
    subst e'
    exact ⟨_, hh⟩
/-- What inner answers of a rule. -/
def InnerIs (B : Nat) (w' : World) (k r : Nat) (t : List Nat) (K R : Int) (C : Option Addr) (M cc : Nat) (b : Bool) : Prop :=
  (b = true → ∃ q g, r = q + 1 ∧ K = (k : Int) ∧ R = (q : Int) ∧ C = some ⟨g, 0, none⟩ ∧ cc = M ∧ wide k q 1 (inn k q t) = t ∧ w'.ownsRow B 3 1 (.slice (some ⟨g, 0, none⟩) M M) M ((ints (inn k q t)).map (Value.int .i64))) ∧ (b = false → narrow k r t = (r, t))
theorem InnerIs.keeps {B : Nat} {w w' : World} {k r : Nat} {t : List Nat} {K R : Int} {C : Option Addr} {M cc : Nat} {b : Bool} {O : Nat → Prop} (h : InnerIs B w k r t K R C M cc b) (hk : Keeps O w w') (ho : ∀ g cs, O g → w.heap[g]? ≠ some (.cells cs 3 (0, 0))) : InnerIs B w' k r t K R C M cc b :=
  ⟨fun e => by
    obtain ⟨q, g, a1, a2, a3, a4, a5, a6, a7⟩ := h.1 e
    refine ⟨q, g, a1, a2, a3, a4, a5, a6, own_keeps a7 hk (fun g' hg hO => ?_)⟩
    obtain ⟨cs, hc⟩ := own_blk a7 hg
    exact ho g' cs hO hc, h.2⟩

theorem inner_u (w : World) (k r : Nat) (A : Option Addr) (n c : Nat) (t : List Nat) (hr : IsRule k r t) (hT : Sl w A n ((ints t).map (Value.int .i64))) :
    Calls Tryz.prog 57 #[ruleV k r A n c] w fun e w' => ∃ K R C M cc b, e = .returned (.tuple #[ruleV K R C M cc, .bool b]) ∧ InnerIs w.heap.size w' k r t K R C M cc b ∧ Below w.heap.size w w' := by
  cases r with
  | zero =>
    refine (inner_zero w k A n c).mono ?_
    rintro e w' ⟨rfl, hb⟩
    exact ⟨(k : Int), 0, A, n, c, false, rfl, ⟨fun h => (by cases h), fun _ => rfl⟩, hb⟩
  | succ q =>
    refine (inner_c w k q (q + 1) rfl A n c t hr hT).mono ?_
    rintro e w' ⟨g, N, rfl, hown, hb⟩
    refine ⟨(k : Int), (q : Int), some ⟨g, 0, none⟩, N, N, _, rfl, ⟨fun h => ⟨q, g, rfl, rfl, rfl, rfl, rfl, of_decide_eq_true h, hown⟩, fun h => ?_⟩, hb⟩
    rw [narrow, if_neg (of_decide_eq_false h)]

/-- The state ahead of a round. -/
structure NarAt (w0 w : World) (k : Nat) (P : Nat × List Nat) (r : Nat) (t : List Nat) (g N gi : Nat) (K R : Int) (C : Option Addr) (M cc : Nat) (b : Bool) : Prop where
  rule : IsRule k r t
  same : narrow k r t = P
  box : RuleAt w w0.heap.size (.int .i64 (k : Int)) (.int .i64 (r : Int)) (.slice (some ⟨g, 0, none⟩) N N)
  own : w.ownsRow w0.heap.size 3 1 (.slice (some ⟨g, 0, none⟩) N N) N ((ints t).map (Value.int .i64))
  res : RuleAt w (w0.heap.size + 1) (.int .i64 0) (.int .i64 0) (.slice none 0 0)
  old : Below w0.heap.size w0 w
  gi1 : w0.heap.size + 1 < gi
  at_ : RuleAt w gi (.int .i64 K) (.int .i64 R) (.slice C M cc)
  is : InnerIs w0.heap.size w k r t K R C M cc b
theorem InnerIs.base {B B' : Nat} {w : World} {k r : Nat} {t : List Nat} {K R : Int} {C : Option Addr} {M cc : Nat} {b : Bool} (h : InnerIs B w k r t K R C M cc b) (hB : B' ≤ B) : InnerIs B' w k r t K R C M cc b :=
  ⟨fun e => by
    obtain ⟨q, g, a1, a2, a3, a4, a5, a6, a7⟩ := h.1 e
    exact ⟨q, g, a1, a2, a3, a4, a5, a6, own_base a7 hB⟩, h.2⟩
theorem InnerIs.set3 {B g : Nat} {w : World} {k r : Nat} {t : List Nat} {K R : Int} {C : Option Addr} {M cc : Nat} {b : Bool} {x0 x1 x2 : Value} (h : InnerIs B w k r t K R C M cc b) (hr : RuleAt w g x0 x1 x2) (u0 u1 u2 : Value) :
    InnerIs B (((w.setCell ⟨g, 0, none⟩ u0).setCell ⟨g, 1, none⟩ u1).setCell ⟨g, 2, none⟩ u2) k r t K R C M cc b :=
  h.keeps (keeps_set3 w g u0 u1 u2) (fun g' cs hg e => by
    rw [show g' = g from hg, show w.heap[g]? = _ from hr] at e
    injection e with e
    injection e with _ e
    exact absurd e (by decide))
theorem RuleAt.set3_far {w : World} {g g' : Nat} {x0 x1 x2 : Value} (h : RuleAt w g' x0 x1 x2) (hne : g' ≠ g) (u0 u1 u2 : Value) : RuleAt (((w.setCell ⟨g, 0, none⟩ u0).setCell ⟨g, 1, none⟩ u1).setCell ⟨g, 2, none⟩ u2) g' x0 x1 x2 :=
  h.keeps (keeps_set3 w g u0 u1 u2) hne
/-- The first state. -/
theorem NarAt.start {w0 w2 w4 : World} {k r : Nat} {t : List Nat} {g N : Nat} {K R : Int} {C : Option Addr} {M cc : Nat} {b : Bool} (hr : IsRule k r t) (h0 : RuleAt w4 w0.heap.size (.int .i64 (k : Int)) (.int .i64 (r : Int)) (.slice (some ⟨g, 0, none⟩) N N))
    (hown : w4.ownsRow w0.heap.size 3 1 (.slice (some ⟨g, 0, none⟩) N N) N ((ints t).map (Value.int .i64))) (h1 : RuleAt w4 (w0.heap.size + 1) (.int .i64 0) (.int .i64 0) (.slice none 0 0)) (hb : Below w0.heap.size w0 w4) (hi : InnerIs w2.heap.size w4 k r t K R C M cc b) (hB : w0.heap.size ≤ w2.heap.size) :
    NarAt w0 (w4.alloc (.cells #[.int .i64 K, .int .i64 R, .slice C M cc] 24)) k (narrow k r t) r t g N w4.heap.size K R C M cc b where
  rule := hr
  same := rfl
  box := h0.alloc _
  own := hown.alloc _
  res := h1.alloc _
  old := hb.alloc hb.size _
  gi1 := h1.lt
  at_ := RuleAt.new _ _ _ _
  is := (hi.base hB).keeps (Keeps.of_pure ((Below.refl _ _).alloc (Nat.le_refl _) _) (fun _ => False)) (fun _ _ h => h.elim)
/-- A round: the rule is the inner one. -/
theorem NarAt.next {w0 w w8 : World} {k q r : Nat} {t : List Nat} {P : Nat × List Nat} {g N gi g2 M : Nat} {K2 R2 : Int} {C2 : Option Addr} {M2 cc2 : Nat} {b2 : Bool} (h : NarAt w0 w k P r t g N gi (k : Int) (q : Int) (some ⟨g2, 0, none⟩) M M true) (hq : r = q + 1)
    (hw : wide k q 1 (inn k q t) = t) (hown : w.ownsRow w0.heap.size 3 1 (.slice (some ⟨g2, 0, none⟩) M M) M ((ints (inn k q t)).map (Value.int .i64)))
    (hb8 : Below ((((w.setCell ⟨w0.heap.size, 0, none⟩ (.int .i64 (k : Int))).setCell ⟨w0.heap.size, 1, none⟩ (.int .i64 (q : Int))).setCell ⟨w0.heap.size, 2, none⟩ (.slice (some ⟨g2, 0, none⟩) M M)).alloc (.cells #[.int .i64 (k : Int), .int .i64 (q : Int), .slice (some ⟨g2, 0, none⟩) M M] 24)).heap.size
      ((((w.setCell ⟨w0.heap.size, 0, none⟩ (.int .i64 (k : Int))).setCell ⟨w0.heap.size, 1, none⟩ (.int .i64 (q : Int))).setCell ⟨w0.heap.size, 2, none⟩ (.slice (some ⟨g2, 0, none⟩) M M)).alloc (.cells #[.int .i64 (k : Int), .int .i64 (q : Int), .slice (some ⟨g2, 0, none⟩) M M] 24)) w8)
    (hi : InnerIs (w.heap.size + 1) w8 k q (inn k q t) K2 R2 C2 M2 cc2 b2) :
    NarAt w0 (((w8.setCell ⟨w.heap.size, 0, none⟩ (.int .i64 K2)).setCell ⟨w.heap.size, 1, none⟩ (.int .i64 R2)).setCell ⟨w.heap.size, 2, none⟩ (.slice C2 M2 cc2)) k P q (inn k q t) g2 M w.heap.size K2 R2 C2 M2 cc2 b2 ∧
    RuleAt w8 w.heap.size (.int .i64 (k : Int)) (.int .i64 (q : Int)) (.slice (some ⟨g2, 0, none⟩) M M) := by
  subst hq
  have hs : ((((w.setCell ⟨w0.heap.size, 0, none⟩ (.int .i64 (k : Int))).setCell ⟨w0.heap.size, 1, none⟩ (.int .i64 (q : Int))).setCell ⟨w0.heap.size, 2, none⟩ (.slice (some ⟨g2, 0, none⟩) M M)).alloc (.cells #[.int .i64 (k : Int), .int .i64 (q : Int), .slice (some ⟨g2, 0, none⟩) M M] 24)).heap.size = w.heap.size + 1 := by simp
  have hlt0 := h.box.lt
  have hlt1 := h.res.lt
  have hz : w0.heap.size ≤ w.heap.size := h.old.size
  have k1 := keeps_set3 w w0.heap.size (.int .i64 (k : Int)) (.int .i64 (q : Int)) (.slice (some ⟨g2, 0, none⟩) M M)
  have b6 := below_set3 h.old (Nat.le_refl w0.heap.size) (.int .i64 (k : Int)) (.int .i64 (q : Int)) (.slice (some ⟨g2, 0, none⟩) M M)
  have o6 := own_set3 hown h.box (by decide) (.int .i64 (k : Int)) (.int .i64 (q : Int)) (.slice (some ⟨g2, 0, none⟩) M M)
  have x6 := h.box.set3 (.int .i64 (k : Int)) (.int .i64 (q : Int)) (.slice (some ⟨g2, 0, none⟩) M M)
  have r6 := h.res.set3_far (show w0.heap.size + 1 ≠ w0.heap.size by omega) (.int .i64 (k : Int)) (.int .i64 (q : Int)) (.slice (some ⟨g2, 0, none⟩) M M)
  obtain ⟨w6, h6⟩ : ∃ w6, ((w.setCell ⟨w0.heap.size, 0, none⟩ (.int .i64 (k : Int))).setCell ⟨w0.heap.size, 1, none⟩ (.int .i64 (q : Int))).setCell ⟨w0.heap.size, 2, none⟩ (.slice (some ⟨g2, 0, none⟩) M M) = w6 := ⟨_, rfl⟩
  have hs6 : w6.heap.size = w.heap.size := by rw [← h6]; simp
  rw [h6] at hb8 b6 o6 x6 r6 hs
  have b7 := b6.alloc b6.size (.cells #[.int .i64 (k : Int), .int .i64 (q : Int), .slice (some ⟨g2, 0, none⟩) M M] 24)
  have o7 := o6.alloc (.cells #[.int .i64 (k : Int), .int .i64 (q : Int), .slice (some ⟨g2, 0, none⟩) M M] 24)
  have x7 := x6.alloc (.cells #[.int .i64 (k : Int), .int .i64 (q : Int), .slice (some ⟨g2, 0, none⟩) M M] 24)
  have r7 := r6.alloc (.cells #[.int .i64 (k : Int), .int .i64 (q : Int), .slice (some ⟨g2, 0, none⟩) M M] 24)
  have n7 := RuleAt.new w6 (.int .i64 (k : Int)) (.int .i64 (q : Int)) (.slice (some ⟨g2, 0, none⟩) M M)
  rw [hs6] at n7
  have b8 := b7.trans (hb8.mono b7.size)
  have o8 := own_below o7 hb8
  have x8 := x7.below hb8 x7.lt
  have r8 := r7.below hb8 r7.lt
  have n8 := n7.below hb8 n7.lt
  refine ⟨⟨inn_rule h.rule, ?_, x8.set3_far (by omega) _ _ _, own_set3 o8 n8 (by decide) _ _ _, r8.set3_far (by omega) _ _ _, below_set3 b8 (by omega) _ _ _, by omega, n8.set3 _ _ _, (hi.base (by omega)).set3 n8 _ _ _⟩, n8⟩
  rw [← h.same, narrow, if_pos hw]

set_option maxRecDepth 100000 in
set_option maxHeartbeats 2000000 in
theorem narrow_good (w : World) (E : Nat → Addr) (hE : Errs w E) (k r : Nat) (A : Option Addr) (n c : Nat) (t : List Nat) (hr : IsRule k r t) (hT : Sl w A n ((ints t).map (Value.int .i64))) :
    Calls Tryz.prog 29 #[ruleV k r A n c] w (RuleRes w E k (narrow k r t).1 (ints (narrow k r t).2) none) := by
  have hn : t.length = n := by simpa [ints] using hT.1
  have hn16 := hr.le
  rw [hn] at hn16
  have hbW := (((Below.refl w.heap.size w).alloc (Nat.le_refl _) (.cells #[.int .i64 (k : Int), .int .i64 (r : Int), .slice A n c] 24)).alloc (by simp) (.cells #[.int .i64 0, .int .i64 0, .slice none 0 0] 24))
  have hr0 := ((RuleAt.new (w) (.int .i64 (k : Int)) (.int .i64 (r : Int)) (.slice A n c)).alloc (.cells #[.int .i64 0, .int .i64 0, .slice none 0 0] 24))
  have hr1 := (RuleAt.new (w.alloc (.cells #[.int .i64 (k : Int), .int .i64 (r : Int), .slice A n c] 24)) (.int .i64 0) (.int .i64 0) (.slice none 0 0))
  simp only [World.size_alloc] at hr1
  obtain ⟨W, hW⟩ : ∃ W, (w.alloc (.cells #[.int .i64 (k : Int), .int .i64 (r : Int), .slice A n c] 24)).alloc (.cells #[.int .i64 0, .int .i64 0, .slice none 0 0] 24) = W := ⟨_, rfl⟩
  have hWs : W.heap.size = w.heap.size + 2 := by rw [← hW]; simp
  rw [hW] at hbW hr0 hr1
  have HR0 := Lib.hid hr0
  obtain ⟨a0, b0, c0, _⟩ := hr0.facts
  have HR1 := Lib.hid hr1
  obtain ⟨a1, b1, c1, _⟩ := hr1.facts
  have HW := Lib.hid hW
  have HWS := Lib.hid hWs
  have HBW := Lib.hid hbW
  have hck := formsCheck_c W E (hE.below HBW.out) 0 (k : Int) (r : Int) A n c (ints t) (hT.below HBW.out) (by omega)
  rw [checkF_rule 0 hr] at hck
  have HC1 := Lib.hid hck
  have HTT := Lib.hid (fun (wz : World) (hz : Below W.heap.size W wz) => hT.below (HBW.out.trans (hz.mono HBW.out.size)))
  have HRU := Lib.hid hr
  have hr3 := hr.r3
  obtain ⟨PP, hPP⟩ : ∃ PP, narrow k r t = PP := ⟨_, rfl⟩
  have HPP := Lib.hid hPP
  rw [hPP]
  clear hr0 hr1 hW hWs hbW hT hE hck hn hr hPP
  unfold ruleV at *
  go_enter Tryz.func29, Tryz.ntmps29
  go_wp2_with fail
  rw [HW.out]
  refine (HC1.out).mono ?_
  rintro e w1 ⟨v1, rfl, he1, hb1⟩
  have he1' : v1 = .nilIface := he1
  clear he1
  subst he1'
  obtain ⟨a0, b0, c0, _⟩ := (HR0.out.below hb1 HR0.out.lt).facts
  have hwd := widened_c w1 k r 0 r rfl A n c t HRU.out hr3 (HTT.out w1 hb1)
  rw [wide_zero HRU.out] at hwd
  unfold ruleV at hwd
  have HWD := Lib.hid hwd
  clear hwd
  go_wp2_with fail
  refine (HWD.out).mono ?_
  rintro e w2 ⟨g, N, rfl, hT2, hb2'⟩
  have hb2 := pure_trans hb1 hb2'
  have hx2 := HR0.out.below hb2 HR0.out.lt
  have hy2 := HR1.out.below hb2 HR1.out.lt
  have hs2 : w.heap.size + 1 < w2.heap.size := hy2.lt
  obtain ⟨a0, b0, c0, fa0, fb0, fc0⟩ := hx2.facts
  have hbw2 := HBW.out.trans (hb2.mono HBW.out.size)
  have x3 := hx2.set3 (.int .i64 (k : Int)) (.int .i64 (r : Int)) (.slice (some ⟨g, 0, none⟩) N N)
  have y3 := hy2.set3_far (show w.heap.size + 1 ≠ w.heap.size by omega) (.int .i64 (k : Int)) (.int .i64 (r : Int)) (.slice (some ⟨g, 0, none⟩) N N)
  have o3 := own_set3 (own_base hT2 (Nat.le_trans HBW.out.size hb1.size)) hx2 (by decide) (.int .i64 (k : Int)) (.int .i64 (r : Int)) (.slice (some ⟨g, 0, none⟩) N N)
  have b3 := below_set3 hbw2 (Nat.le_refl w.heap.size) (.int .i64 (k : Int)) (.int .i64 (r : Int)) (.slice (some ⟨g, 0, none⟩) N N)
  obtain ⟨w3, hw3⟩ : ∃ w3, ((w2.setCell ⟨w.heap.size, 0, none⟩ (.int .i64 (k : Int))).setCell ⟨w.heap.size, 1, none⟩ (.int .i64 (r : Int))).setCell ⟨w.heap.size, 2, none⟩ (.slice (some ⟨g, 0, none⟩) N N) = w3 := ⟨_, rfl⟩
  obtain ⟨p0, p1, p2, _⟩ := x3.facts
  rw [hw3] at x3 y3 o3 b3
  have HIN := Lib.hid (inner_u w3 k r (some ⟨g, 0, none⟩) N N t HRU.out (Sl.of_own o3))
  have HW3 := Lib.hid hw3
  unfold ruleV at *
  clear hw3 hT2 hb2' hb2 hx2 hy2 hbw2
  go_wp2_with fail
  rw [HW3.out]
  refine (HIN.out).mono ?_
  rintro e w4 ⟨K, R, C, M, cc, b, rfl, hi4, hb4⟩
  have hst := NarAt.start (w0 := w) (w2 := w3) HRU.out (x3.below hb4 x3.lt) (own_below o3 hb4) (y3.below hb4 y3.lt) (b3.trans (hb4.mono b3.size)) hi4 b3.size
  rw [HPP.out] at hst
  have HST := Lib.hid hst
  have HG := Lib.hid (show w.heap.size < w4.heap.size from (x3.below hb4 x3.lt).lt)
  clear hst x3 y3 o3 b3 hi4 hb4 p0 p1 p2
  unfold ruleV at *
  go_wp2_with fail
  go_loopw [5, 6] (fun iv bv wl => ∃ (ri : Nat) (ti : List Nat) (g N gi : Nat) (K R : Int) (C : Option Addr) (M cc : Nat) (b : Bool), iv = .pointer (some ⟨gi, 0, none⟩) ∧ bv = .bool b ∧ Hid (NarAt w wl k PP ri ti g N gi K R C M cc b)) (fun _ _ wl => (intOf ((wl.cell? ⟨w.heap.size, 1, none⟩).getD (.int .i64 0))).toNat)
  case atStart => exact ⟨r, t, g, N, w4.heap.size, K, R, C, M, cc, b, rfl, rfl, HST⟩
  case round =>
    clear HST
    obtain ⟨ri, ti, g', N', gi, K', R', C', M', cc', b', rfl, rfl, hN⟩ := hrel
    have hbx := hN.out.box.facts
    cases b' with
    | true =>
      obtain ⟨q, g2, hq, hK, hR, hC, hcc, hwd, hown⟩ := hN.out.is.1 rfl
      subst hK hR hC hcc
      obtain ⟨i0, i1, i2, _⟩ := hN.out.at_.facts
      obtain ⟨a0, b0, c0, fa0, fb0, fc0⟩ := hbx
      have hgi := hN.out.gi1
      have hgl := hN.out.at_.lt
      have hwl := hN.out.box.lt
      have hi6 := hN.out.at_.set3_far (show gi ≠ w.heap.size by omega) (.int .i64 (k : Int)) (.int .i64 (q : Int)) (.slice (some ⟨g2, 0, none⟩) cc' cc')
      have hx6 := hN.out.box.set3 (.int .i64 (k : Int)) (.int .i64 (q : Int)) (.slice (some ⟨g2, 0, none⟩) cc' cc')
      obtain ⟨j0, j1, j2, _⟩ := hi6.facts
      obtain ⟨l0, l1, l2, _⟩ := hx6.facts
      have o6 := (own_set3 hown hN.out.box (by decide) (.int .i64 (k : Int)) (.int .i64 (q : Int)) (.slice (some ⟨g2, 0, none⟩) cc' cc')).alloc (.cells #[.int .i64 (k : Int), .int .i64 (q : Int), .slice (some ⟨g2, 0, none⟩) cc' cc'] 24)
      have hru : IsRule k (q + 1) ti := by rw [← hq]; exact hN.out.rule
      have HIN2 := Lib.hid (inner_u _ k q (some ⟨g2, 0, none⟩) cc' cc' (inn k q ti) (inn_rule hru) (Sl.of_own o6))
      have HNX := Lib.hid (fun (w8 : World) (K2 R2 : Int) (C2 : Option Addr) (M2 cc2 : Nat) (b2 : Bool) => NarAt.next (w8 := w8) (K2 := K2) (R2 := R2) (C2 := C2) (M2 := M2) (cc2 := cc2) (b2 := b2) hN.out hq hwd hown)
      have HMS := Lib.hid (show (intOf ((wr.cell? ⟨w.heap.size, 1, none⟩).getD (.int .i64 0))).toNat = q + 1 by rw [b0, hq]; simp [intOf])
      unfold ruleV at *
      clear hi6 hx6 o6 hown hwd hru hq
      go_wp2_with fail
      refine (HIN2.out).mono ?_
      rintro e w8 ⟨K2, R2, C2, M2, cc2, b2, rfl, hi8, hb8⟩
      obtain ⟨hn9, n8⟩ := HNX.out w8 K2 R2 C2 M2 cc2 b2 hb8 (hi8.base (by simp))
      have HN9 := Lib.hid hn9
      obtain ⟨e0, e1, e2, y0, y1, y2⟩ := n8.facts
      have HM9 := Lib.hid hn9.box.facts.2.1
      clear hn9 n8 hi8 hb8 j0 j1 j2 l0 l1 l2 i0 i1 i2 a0 b0 c0 fa0 fb0 fc0
      unfold ruleV at *
      go_wp2_with fail
      exact ⟨⟨q, _, g2, cc', wr.heap.size, K2, R2, C2, M2, cc2, b2, rfl, rfl, HN9⟩, by rw [HMS.out, HM9.out]; simp [intOf]⟩
    | false =>
      obtain ⟨a0, b0, c0, fa0, fb0, fc0⟩ := hbx
      have hpp : PP = (ri, ti) := hN.out.same.symm.trans (hN.out.is.2 rfl)
      obtain ⟨d0, d1, d2, f0, f1, f2⟩ := hN.out.res.facts
      obtain ⟨hRA, hRS⟩ := res_new (E := E) (K := (k : Int)) (R := (ri : Int)) hN.out.res hN.out.own hN.out.old (show w.heap.size ≤ w.heap.size + 1 by omega) (Nat.le_refl _)
      subst hpp
      have HRA := Lib.hid hRA
      have HRS := Lib.hid hRS
      clear hRA hRS hN
      go_wp2_with fail
      obtain ⟨d0, d1, d2, _⟩ := HRA.out.facts
      exact bodyPost_ret (v := .tuple #[.agg #[.int .i64 (k : Int), .int .i64 (ri : Int), .slice (some ⟨g', 0, none⟩) N' N'], .nilIface]) (by simp [results, Tryz.results29, go_sem, d0, d1, d2]) rfl HRS.out
end Go.Proofs.YthilnpfpllplaaaGreatDoor

namespace Go.Proofs.YthilnpfpllplaaaGreatDoor
open Go.RowKit RuleP

end Go.Proofs.YthilnpfpllplaaaGreatDoor

namespace Go.Proofs.YthilnpfpllplaaaGreatDoor
open Go.RowKit RuleP

/-- The table reads from memory, and lies in no block that holds a rule. -/
def TabAt (w0 w : World) (A : Option Addr) (n : Nat) (xs : List Nat) : Prop := Sl w A n ((ints xs).map (Value.int .i64)) ∧ ∀ ad, A = some ad → ad.block < w0.heap.size ∨ ∃ cs, w.heap[ad.block]? = some (.cells cs 3 (0, 0))
theorem TabAt.keeps {w0 w w' : World} {A : Option Addr} {n : Nat} {xs : List Nat} {O : Nat → Prop} (h : TabAt w0 w A n xs) (hk : Keeps O w w') (h1 : ∀ b, O b → w0.heap.size ≤ b) (h2 : ∀ b cs, O b → w.heap[b]? ≠ some (.cells cs 3 (0, 0))) (hs : w0.heap.size ≤ w.heap.size) : TabAt w0 w' A n xs := by
  have hno : ∀ ad, A = some ad → ¬ O ad.block := fun ad e hO => by
    rcases h.2 ad e with h3 | ⟨cs, h3⟩
    · have := h1 _ hO; omega
    · exact h2 _ cs hO h3
  refine ⟨h.1.keeps hk hno, fun ad e => ?_⟩
  rcases h.2 ad e with h3 | ⟨cs, h3⟩
  · exact .inl h3
  · exact .inr ⟨cs, (hk.block _ (Array.getElem?_eq_some_iff.1 h3).1 (hno ad e)).trans h3⟩
theorem TabAt.pure {w0 w w' : World} {A : Option Addr} {n : Nat} {xs : List Nat} (h : TabAt w0 w A n xs) (hb : Below w.heap.size w w') (hs : w0.heap.size ≤ w.heap.size) : TabAt w0 w' A n xs :=
  h.keeps (Keeps.of_pure hb (fun _ => False)) (fun _ hf => hf.elim) (fun _ _ hf => hf.elim) hs
theorem TabAt.set3 {w0 w : World} {A : Option Addr} {n g : Nat} {xs : List Nat} {x0 x1 x2 : Value} (h : TabAt w0 w A n xs) (hr : RuleAt w g x0 x1 x2) (hg : w0.heap.size ≤ g) (hs : w0.heap.size ≤ w.heap.size) (u0 u1 u2 : Value) :
    TabAt w0 (((w.setCell ⟨g, 0, none⟩ u0).setCell ⟨g, 1, none⟩ u1).setCell ⟨g, 2, none⟩ u2) A n xs :=
  h.keeps (keeps_set3 w g u0 u1 u2) (fun b hb => by rw [show b = g from hb]; exact hg) (fun b cs hb e => by
    rw [show b = g from hb, show w.heap[g]? = _ from hr] at e
    injection e with e
    injection e with _ e
    exact absurd e (by decide)) hs
theorem TabAt.of_own {w0 w : World} {B g n c : Nat} {xs : List Nat} (h : w.ownsRow B 3 1 (.slice (some ⟨g, 0, none⟩) n c) n ((ints xs).map (Value.int .i64))) : TabAt w0 w (some ⟨g, 0, none⟩) n xs :=
  ⟨Sl.of_own h, fun ad e => by
    cases e
    rcases h.2 with ⟨h1, _⟩ | ⟨g1, cap, cur, h1, _, hh, _⟩
    · cases h1
    · injection h1 with h1 _ _
      injection h1 with h1
      injection h1 with h1
      exact .inr ⟨_, by rw [h1]; exact hh⟩⟩

end Go.Proofs.YthilnpfpllplaaaGreatDoor

namespace Go.Proofs.YthilnpfpllplaaaGreatDoor
open Go.RowKit RuleP


set_option maxRecDepth 100000 in
set_option maxHeartbeats 1000000 in
theorem shift_pos (w : World) (E : Nat → Addr) (k ρ : Nat) (h1 : 1 ≤ k) (h2 : k ≤ 4) (hρ : ρ ≤ 3) :
    Calls Tryz.prog 30 #[.int .i64 (k : Int), .int .i64 (ρ : Int)] w (RuleRes w E k ρ (ints (shT k ρ (2 * ρ))) none) := by
  obtain ⟨d, hdd⟩ : ∃ d : Int, (ρ : Int) = d := ⟨_, rfl⟩
  have hd1 : -3 ≤ d := by omega
  have hd2 : d ≤ 3 := by omega
  rw [hdd]
  have hbW := ((Below.refl w.heap.size w).alloc (Nat.le_refl _) (.cells #[.int .i64 d] 3)).alloc (by simp) (.cells #[.int .i64 0, .int .i64 0, .slice none 0 0] 24) |>.alloc (by simp; omega) (.cells #[.int .i64 (ρ : Int)] 3)
  have hd0 : (((w.alloc (.cells #[.int .i64 d] 3)).alloc (.cells #[.int .i64 0, .int .i64 0, .slice none 0 0] 24)).alloc (.cells #[.int .i64 (ρ : Int)] 3)).heap[w.heap.size]? = some (.cells #[.int .i64 d] 3 (0, 0)) :=
    (Below.heap_alloc _ _ _ (by simp; omega)).trans ((Below.heap_alloc _ _ _ (by simp)).trans (heap_new w _))
  have hr1 := (RuleAt.new (w.alloc (.cells #[.int .i64 d] 3)) (.int .i64 0) (.int .i64 0) (.slice none 0 0)).alloc (.cells #[.int .i64 (ρ : Int)] 3)
  have hd2' := heap_new ((w.alloc (.cells #[.int .i64 d] 3)).alloc (.cells #[.int .i64 0, .int .i64 0, .slice none 0 0] 24)) (.cells #[.int .i64 (ρ : Int)] 3)
  simp only [World.size_alloc] at hr1 hd2'
  obtain ⟨W, hW⟩ : ∃ W, ((w.alloc (.cells #[.int .i64 d] 3)).alloc (.cells #[.int .i64 0, .int .i64 0, .slice none 0 0] 24)).alloc (.cells #[.int .i64 (ρ : Int)] 3) = W := ⟨_, rfl⟩
  have hWs : W.heap.size = w.heap.size + 3 := by rw [← hW]; simp
  rw [hW] at hbW hd0 hr1
  have hd3 : W.heap[w.heap.size + 1 + 1]? = some (.cells #[.int .i64 (ρ : Int)] 3 (0, 0)) := by rw [← hW]; exact hd2'
  have hmd := made2_c W k ρ 61 (.pointer (some ⟨w.heap.size + 1 + 1, 0, none⟩)) (.pointer (some ⟨w.heap.size, 0, none⟩)) (fun v => v.getD (2 * ρ) 0) h1 h2 hρ
    (fun v wz => run_enter Tryz.func61 (by kernel_rfl) (by kernel_rfl) _ _)
    (fun wz hz g v hl hs hV => shift1_c wz g (2 * ρ + 1) (w.heap.size + 1 + 1) w.heap.size v (ρ : Int) d (2 * ρ) (by omega) ⟨by omega, by omega⟩ ⟨hd1, hd2⟩ (by omega) (by
      have := (hz.block (w.heap.size + 1 + 1) (by omega)).trans hd3
      rw [cell_of_row wz _ _ _ _ _ this]; rfl) (by
      have := (hz.block w.heap.size (by omega)).trans hd0
      rw [cell_of_row wz _ _ _ _ _ this]; rfl) hV)
  have HMD := Lib.hid hmd
  have HSZ := Lib.hid (size_ok W k ρ h1 h2 hρ)
  have HBW := Lib.hid hbW
  have HR1 := Lib.hid hr1
  have HDD := Lib.hid hdd
  have HWS := Lib.hid hWs
  have c2 : W.cell? ⟨w.heap.size + 1 + 1, 0, none⟩ = some (.int .i64 (ρ : Int)) := by rw [cell_of_row W _ _ _ _ _ hd3]; rfl
  rw [← hdd] at hW
  have HW := Lib.hid hW
  clear hmd hbW hr1 hW hWs hd0 hd2' hd3 hd1 hd2
  rw [← hdd]
  clear hdd
  have q1 : ¬ (ρ : Int) < -(ρ : Int) := by omega
  have q2 : -(ρ : Int) ≤ (ρ : Int) := by omega
  have q3 : max (ρ : Int) (-(ρ : Int)) = (ρ : Int) := by omega
  go_enter Tryz.func30, Tryz.ntmps30
  go_wp2_with fail
  rw [HW.out]
  refine (HSZ.out).mono ?_
  rintro e w' ⟨rfl, rfl⟩
  go_wp2_with fail
  refine (HMD.out).mono ?_
  rintro e w4 ⟨g, rfl, hT4, hb4⟩
  obtain ⟨N, hN⟩ : ∃ N, k ^ (2 * ρ + 1) = N := ⟨_, rfl⟩
  rw [hN] at hT4
  rw [hN]
  rw [show tab k (2 * ρ + 1) (fun v => v.getD (2 * ρ) 0) = shT k ρ (2 * ρ) from rfl] at hT4
  have hrx := HR1.out.below hb4 HR1.out.lt
  obtain ⟨hRA, hRS⟩ := res_new (E := E) (K := (k : Int)) (R := (ρ : Int)) hrx hT4 (HBW.out.trans (hb4.mono HBW.out.size)) (show w.heap.size ≤ w.heap.size + 1 by omega) (by rw [HWS.out]; omega)
  have HRA := Lib.hid hRA
  have HRS := Lib.hid hRS
  obtain ⟨d0, d1, d2, f0, f1, f2⟩ := hrx.facts
  clear hRA hRS hrx hT4 hb4 hN
  unfold ruleV
  go_wp2_with fail
  obtain ⟨d0, d1, d2, _⟩ := HRA.out.facts
  exact bodyPost_ret (v := .tuple #[.agg #[.int .i64 (k : Int), .int .i64 (ρ : Int), .slice (some ⟨g, 0, none⟩) N N], .nilIface]) (by simp [results, Tryz.results30, go_sem, d0, d1, d2]) rfl HRS.out


end Go.Proofs.YthilnpfpllplaaaGreatDoor

namespace Go.Proofs.YthilnpfpllplaaaGreatDoor
open Go.RowKit Go.Shelf

attribute [local go_sem] Oper.semAt_some

/-- What a round keeps: what lay below, and the slice's own variable. -/
def KpB (n₀ Bs : Nat) (W W' : World) : Prop := Below n₀ W W' ∧ W'.heap[Bs]? = W.heap[Bs]?
theorem KpB.t {n₀ Bs : Nat} {A B C : World} (h : KpB n₀ Bs A B) (k : KpB n₀ Bs B C) : KpB n₀ Bs A C := ⟨h.1.trans k.1, k.2.trans h.2⟩
theorem KpB.b {n₀ Bs : Nat} {w : World} (hn : n₀ ≤ w.heap.size) (hB : Bs < w.heap.size) (W : World) (l : Nat) (o o' : Obj) (hl : w.heap.size ≤ l) (h : W.heap[l]? = some o) (h1 : o.isCells = false) (h2 : o.isWalk = false) : KpB n₀ Bs W (W.putObj l o') :=
  ⟨belowK_b hn W l o o' hl h h1 h2, (grownBy_putObj' W l o').block Bs (by have := (Array.getElem?_eq_some_iff.1 h).1; omega) (by intro e; cases e; omega)⟩

end Go.Proofs.YthilnpfpllplaaaGreatDoor

namespace Go.Proofs.YthilnpfpllplaaaGreatDoor
namespace NatP

end NatP
end Go.Proofs.YthilnpfpllplaaaGreatDoor

namespace Go.Proofs.YthilnpfpllplaaaGreatDoor
namespace NatP

/-- A sum, digit by digit. -/
structure AddG (b : Nat) (X Y D : List Nat) (i cr v : Nat) : Prop where
  len : D.length = i
  ok : OkB b D
  cr1 : cr ≤ 1
  eq : valB b D + b ^ i * (cr + valB b (X.drop i) + valB b (Y.drop i)) = v
theorem drop_val {b : Nat} (l : List Nat) (i : Nat) : valB b (l.drop i) = l.getD i 0 + b * valB b (l.drop (i + 1)) := by
  rcases Nat.lt_or_ge i l.length with h | h
  · rw [List.drop_eq_getElem_cons h, List.getD_eq_getElem?_getD, List.getElem?_eq_getElem h]; rfl
  · rw [List.drop_of_length_le h, List.drop_of_length_le (by omega), List.getD_eq_getElem?_getD, List.getElem?_eq_none h]; rfl
theorem AddG.step {b : Nat} (hb : 2 ≤ b) {X Y D : List Nat} {i cr v : Nat} (h : AddG b X Y D i cr v) (hx : OkB b X) (hy : OkB b Y) :
    AddG b X Y (D ++ [(cr + X.getD i 0 + Y.getD i 0) % b]) (i + 1) ((cr + X.getD i 0 + Y.getD i 0) / b) v := by
  have h1 := ok_getD (by omega) hx i
  have h2 := ok_getD (by omega) hy i
  refine ⟨by simp [h.len], fun z hz => ?_, ?_, ?_⟩
  · rcases List.mem_append.1 hz with hz | hz
    · exact h.ok z hz
    · simp at hz; subst hz; exact Nat.mod_lt _ (by omega)
  · have : (cr + X.getD i 0 + Y.getD i 0) / b < 2 := Nat.div_lt_of_lt_mul (by have := h.cr1; omega)
    omega
  · have e := h.eq
    rw [drop_val X i, drop_val Y i] at e
    rw [val_snoc, h.len, Nat.pow_succ]
    have e5 := Nat.mod_add_div (cr + X.getD i 0 + Y.getD i 0) b
    generalize (cr + X.getD i 0 + Y.getD i 0) / b = q at *
    generalize (cr + X.getD i 0 + Y.getD i 0) % b = r at *
    generalize valB b (X.drop (i + 1)) = P at *
    generalize valB b (Y.drop (i + 1)) = Q at *
    have e6 : b ^ i * (r + b * q + b * P + b * Q) = b ^ i * (cr + (X.getD i 0 + b * P) + (Y.getD i 0 + b * Q)) := by rw [e5]; congr 1; omega
    rw [← e, ← e6]
    rw [Nat.mul_assoc]
    simp only [Nat.mul_add]
    omega
theorem AddG.done {b : Nat} {X Y D : List Nat} {i v : Nat} (h : AddG b X Y D i 0 v) (hx : X.length ≤ i) (hy : Y.length ≤ i) : valB b D = v := by
  have e := h.eq
  rw [List.drop_of_length_le hx, List.drop_of_length_le hy] at e
  simpa [valB] using e

/-- A product, digit by digit: behind i digits of the first factor. -/
structure MulG (b : Nat) (X Y out : List Nat) (i : Nat) : Prop where
  ok : OkB b out
  eq : valB b out = valB b (X.take i) * valB b Y
/-- And behind j digits of the second. -/
structure MulH (b : Nat) (X Y out : List Nat) (i x j cr : Nat) : Prop where
  ok : OkB b out
  cr1 : cr < b
  eq : valB b out + b ^ (i + j) * cr = valB b (X.take i) * valB b Y + b ^ i * (x * valB b (Y.take j))
/-- And where the rest is carried on to place k. -/
structure MulC (b : Nat) (X Y out : List Nat) (i k cr : Nat) : Prop where
  ok : OkB b out
  cr1 : cr < b
  eq : valB b out + b ^ k * cr = valB b (X.take (i + 1)) * valB b Y
theorem MulG.start {b : Nat} (hb : 2 ≤ b) {X Y out : List Nat} {i x : Nat} (h : MulG b X Y out i) : MulH b X Y out i x 0 0 :=
  ⟨h.ok, by omega, by rw [h.eq]; simp [valB]⟩
theorem mul_lt2 {b x y o c : Nat} (hx : x < b) (hy : y < b) (ho : o < b) (hc : c < b) : x * y + o + c < b * b := by
  have h1 : x * y ≤ (b - 1) * (b - 1) := Nat.mul_le_mul (by omega) (by omega)
  obtain ⟨a, rfl⟩ : ∃ a, b = a + 1 := ⟨b - 1, by omega⟩
  simp only [Nat.add_sub_cancel] at h1
  have : (a + 1) * (a + 1) = a * a + a + a + 1 := by rw [Nat.add_mul, Nat.mul_add]; omega
  omega
theorem MulH.step {b : Nat} (hb : 2 ≤ b) {X Y out : List Nat} {i x j cr y o : Nat} (h : MulH b X Y out i x j cr) (hx : x < b) (hy : OkB b Y) (hyj : Y[j]? = some y) (hoj : out[i + j]? = some o) :
    MulH b X Y (out.set (i + j) ((x * y + o + cr) % b)) i x (j + 1) ((x * y + o + cr) / b) := by
  have hyl : y < b := hy y (List.mem_of_getElem? hyj)
  have hol : o < b := h.ok o (List.mem_of_getElem? hoj)
  refine ⟨ok_set h.ok (Nat.mod_lt _ (by omega)), Nat.div_lt_of_lt_mul (mul_lt2 hx hyl hol h.cr1), ?_⟩
  have e1 := val_set (b := b) (v := (x * y + o + cr) % b) hoj
  have e3 := val_take_succ b Y j
  have e4 : Y.getD j 0 = y := by rw [List.getD_eq_getElem?_getD, hyj]; rfl
  have e5 := h.eq
  have e6 := Nat.mod_add_div (x * y + o + cr) b
  rw [e4] at e3
  rw [e3, Nat.mul_add x, Nat.mul_add (b ^ i), ← Nat.add_assoc i, ← Nat.add_assoc (valB b (List.take i X) * valB b Y), ← e5, Nat.pow_succ]
  generalize (x * y + o + cr) % b = r at *
  generalize (x * y + o + cr) / b = d at *
  have e7 : b ^ (i + j) * (r + b * d) = b ^ (i + j) * (x * y + o + cr) := by rw [e6]
  have e8 : b ^ i * (x * (b ^ j * y)) = b ^ (i + j) * (x * y) := by
    rw [Nat.pow_add, Nat.mul_assoc, Nat.mul_left_comm x]
  rw [e8]
  rw [Nat.mul_add, Nat.mul_add, Nat.mul_add, ← Nat.mul_assoc] at e7
  omega
theorem MulC.step {b : Nat} (hb : 2 ≤ b) {X Y out : List Nat} {i k cr o : Nat} (h : MulC b X Y out i k cr) (ho : out[k]? = some o) :
    MulC b X Y (out.set k ((o + cr) % b)) i (k + 1) ((o + cr) / b) := by
  have hol : o < b := h.ok o (List.mem_of_getElem? ho)
  have hcr := h.cr1
  refine ⟨ok_set h.ok (Nat.mod_lt _ (by omega)), ?_, ?_⟩
  · have : (o + cr) / b < 2 := Nat.div_lt_of_lt_mul (by omega)
    omega
  · have e1 := val_set (b := b) (v := (o + cr) % b) ho
    have e6 := Nat.mod_add_div (o + cr) b
    rw [← h.eq, Nat.pow_succ]
    generalize (o + cr) % b = r at *
    generalize (o + cr) / b = d at *
    have e7 : b ^ k * (r + b * d) = b ^ k * (o + cr) := by rw [e6]
    rw [Nat.mul_add, Nat.mul_add, ← Nat.mul_assoc] at e7
    omega
/-- The rest dies before the row's end. -/
theorem MulC.lt {b : Nat} (hb : 2 ≤ b) {X Y out : List Nat} {i k cr : Nat} (h : MulC b X Y out i k cr) (hx : OkB b X) (hy : OkB b Y) (hi : i < X.length) (hc : 0 < cr) : k < X.length + Y.length := by
  have h1 := val_lt hb (ok_take hx (i + 1))
  have h2 := val_lt hb hy
  rw [List.length_take, Nat.min_eq_left (by omega)] at h1
  have h3 : b ^ k ≤ valB b (X.take (i + 1)) * valB b Y := by
    rw [← h.eq]
    have : b ^ k * 1 ≤ b ^ k * cr := Nat.mul_le_mul_left _ hc
    omega
  have h4 : valB b (X.take (i + 1)) * valB b Y < b ^ (i + 1) * b ^ Y.length := by
    rcases Nat.eq_zero_or_pos (valB b Y) with h0 | h0
    · rw [h0, Nat.mul_zero]; exact Nat.mul_pos (Nat.pow_pos (by omega)) (Nat.pow_pos (by omega))
    · exact Nat.mul_lt_mul'' h1 h2
  rw [← Nat.pow_add] at h4
  have h5 : b ^ k < b ^ (i + 1 + Y.length) := Nat.lt_of_le_of_lt h3 h4
  have := (Nat.pow_lt_pow_iff_right (by omega : 1 < b)).1 h5
  omega
theorem MulC.done {b : Nat} {X Y out : List Nat} {i k : Nat} (h : MulC b X Y out i k 0) : MulG b X Y out (i + 1) := ⟨h.ok, by simpa using h.eq⟩

/-- A number's rest at one digit after the other, the highest first. -/
structure OverG (b : Nat) (X out : List Nat) (d m rest : Nat) : Prop where
  len : out.length = X.length
  ok : OkB b out
  rlt : rest < d
  zero : ∀ j x, j < m → out[j]? = some x → x = 0
  eq : valB b X = valB b out * d + b ^ m * rest + valB b (X.take m)
theorem OverG.start {b : Nat} (hb : 2 ≤ b) {X : List Nat} {d : Nat} (hd : 0 < d) : OverG b X (List.replicate X.length 0) d X.length 0 :=
  ⟨by simp, ok_zeros (by omega) _, hd, fun j x _ hx => List.eq_of_mem_replicate (List.mem_of_getElem? hx), by simp [val_zeros]⟩
theorem OverG.step {b : Nat} {X out : List Nat} {d k rest x : Nat} (h : OverG b X out d (k + 1) rest) (hx : X[k]? = some x) (hxl : x < b) :
    OverG b X (out.set k ((rest * b + x) / d)) d k ((rest * b + x) % d) := by
  have hk : k < out.length := by rw [h.len]; exact (List.getElem?_eq_some_iff.1 hx).1
  obtain ⟨z, hz⟩ : ∃ z, out[k]? = some z := ⟨_, List.getElem?_eq_getElem hk⟩
  have hz0 := h.zero k z (Nat.lt_succ_self k) hz
  subst hz0
  have hd : 0 < d := by have := h.rlt; omega
  have hq : (rest * b + x) / d < b := Nat.div_lt_of_lt_mul (by
    have : (rest + 1) * b ≤ d * b := Nat.mul_le_mul_right _ h.rlt
    rw [Nat.add_mul, Nat.one_mul] at this
    omega)
  refine ⟨by simp [h.len], ok_set h.ok hq, Nat.mod_lt _ hd, fun j y hj hy => ?_, ?_⟩
  · rw [List.getElem?_set_ne (by omega)] at hy
    exact h.zero j y (by omega) hy
  · have e1 := val_set (b := b) (v := (rest * b + x) / d) hz
    have e2 := val_take_succ b X k
    have e3 : X.getD k 0 = x := by rw [List.getD_eq_getElem?_getD, hx]; rfl
    have e4 := h.eq
    have e5 := Nat.mod_add_div (rest * b + x) d
    rw [e3] at e2
    rw [e2] at e4
    generalize (rest * b + x) / d = q at *
    generalize (rest * b + x) % d = r at *
    rw [Nat.mul_zero, Nat.add_zero] at e1
    rw [e1, e4, Nat.pow_succ]
    have e6 : b ^ k * (r + d * q) = b ^ k * (rest * b + x) := by rw [e5]
    rw [Nat.mul_add, Nat.mul_add] at e6
    have e7 : b ^ k * (d * q) = b ^ k * q * d := by rw [Nat.mul_comm d q, Nat.mul_assoc]
    have e8 : b ^ k * (rest * b) = b ^ k * b * rest := by rw [Nat.mul_comm rest, Nat.mul_assoc]
    rw [Nat.add_mul]
    omega
theorem OverG.done {b : Nat} {X out : List Nat} {d rest : Nat} (h : OverG b X out d 0 rest) : valB b out = valB b X / d ∧ rest = valB b X % d := by
  have e := h.eq
  have hr := h.rlt
  simp only [Nat.pow_zero, Nat.one_mul, List.take_zero, valB, Nat.add_zero] at e
  rw [e]
  constructor
  · rw [Nat.mul_comm, Nat.mul_add_div (by omega), Nat.div_eq_of_lt hr]; rfl
  · rw [Nat.mul_comm, Nat.mul_add_mod, Nat.mod_eq_of_lt hr]

end NatP
end Go.Proofs.YthilnpfpllplaaaGreatDoor

namespace Go.Proofs.YthilnpfpllplaaaGreatDoor
open Go.RowKit NatP

/-- Behind j halvings of the exponent. -/
structure PowTo (k n j m O B : Nat) : Prop where
  m_eq : m = n / 2 ^ j
  O_eq : O = k ^ (n % 2 ^ j)
  B_eq : B = k ^ (2 ^ j)
theorem PowTo.odd {k n j m O B : Nat} (h : PowTo k n j m O B) (hm : m % 2 = 1) : PowTo k n (j + 1) (m / 2) (O * B) (B * B) := by
  refine ⟨?_, ?_, ?_⟩
  · rw [h.m_eq, Nat.pow_succ, Nat.div_div_eq_div_mul]
  · rw [h.O_eq, h.B_eq, Nat.mod_pow_succ, ← h.m_eq, hm, ← Nat.pow_add, Nat.mul_one]
  · rw [h.B_eq, ← Nat.pow_add, Nat.pow_succ, Nat.mul_two]
theorem PowTo.le {k n j m O B : Nat} (h : PowTo k n j m O B) (hm : 0 < m) : 2 ^ j ≤ n := by
  rcases Nat.lt_or_ge n (2 ^ j) with h1 | h1
  · rw [h.m_eq, Nat.div_eq_of_lt h1] at hm; omega
  · exact h1
end Go.Proofs.YthilnpfpllplaaaGreatDoor

namespace Go.Proofs.YthilnpfpllplaaaGreatDoor
open Go.RowKit NatP

/-- Behind k limbs of a difference. -/
structure SubTo (xs ys out : List Nat) (k br : Nat) : Prop where
  ok : OkB W32 out
  len : out.length = xs.length
  zero : ∀ j x, k ≤ j → out[j]? = some x → x = 0
  br1 : br ≤ 1
  eq : val out + val (ys.take k) = val (xs.take k) + W32 ^ k * br
theorem SubTo.step {xs ys out : List Nat} {k br x : Nat} (h : SubTo xs ys out k br) (hx : OkB W32 xs) (hy : OkB W32 ys) (hxk : xs[k]? = some x) :
    SubTo xs ys (out.set k ((x + W32 - ys.getD k 0 - br) % W32)) (k + 1) (1 - (x + W32 - ys.getD k 0 - br) / W32) := by
  have hk : k < out.length := by rw [h.len]; exact (List.getElem?_eq_some_iff.1 hxk).1
  obtain ⟨z, hz⟩ : ∃ z, out[k]? = some z := ⟨_, List.getElem?_eq_getElem hk⟩
  have hz0 := h.zero k z (Nat.le_refl _) hz
  subst hz0
  have hxl : x < W32 := hx x (List.mem_of_getElem? hxk)
  have hyl : ys.getD k 0 < W32 := ok_getD (by decide) hy k
  have hb := h.br1
  refine ⟨ok_set h.ok (Nat.mod_lt _ (by decide)), by simp [h.len], fun j y hj hy' => ?_, Nat.sub_le _ _, ?_⟩
  · rw [List.getElem?_set_ne (by omega)] at hy'
    exact h.zero j y (by omega) hy'
  · have e1 := val_set (b := W32) (v := (x + W32 - ys.getD k 0 - br) % W32) hz
    have e2 := val_take_succ W32 xs k
    have e3 := val_take_succ W32 ys k
    have e4 : xs.getD k 0 = x := by rw [List.getD_eq_getElem?_getD, hxk]; rfl
    have e5 := h.eq
    have e6 : x + W32 * (1 - (x + W32 - ys.getD k 0 - br) / W32) = (x + W32 - ys.getD k 0 - br) % W32 + ys.getD k 0 + br := by
      unfold W32 at *
      omega
    unfold val at *
    rw [e4] at e2
    rw [e2, e3]
    generalize ys.getD k 0 = y at *
    generalize (x + W32 - y - br) % W32 = r at *
    generalize 1 - (x + W32 - y - br) / W32 = d at *
    generalize valB W32 (out.set k r) = V at *
    rw [Nat.mul_zero, Nat.add_zero] at e1
    rw [Nat.pow_succ]
    have e7 : W32 ^ k * (x + W32 * d) = W32 ^ k * (r + y + br) := by rw [e6]
    rw [Nat.mul_add, Nat.mul_add, Nat.mul_add, ← Nat.mul_assoc] at e7
    omega
theorem SubTo.stop {xs ys out : List Nat} {n br : Nat} (h : SubTo xs ys out n br) (hx : xs.length = n) (hy : ys.length ≤ n) (hle : val ys ≤ val xs) : val out = val xs - val ys := by
  have e := h.eq
  rw [List.take_of_length_le (by omega), List.take_of_length_le (by omega)] at e
  have h1 := val_lt w32 h.ok
  rw [h.len, hx] at h1
  change val out < W32 ^ n at h1
  have h2 := h.br1
  rcases Nat.lt_or_ge br 1 with h3 | h3
  · have : br = 0 := by omega
    subst this
    omega
  · have : br = 1 := by omega
    subst this
    omega

end Go.Proofs.YthilnpfpllplaaaGreatDoor

namespace Go.Proofs.YthilnpfpllplaaaGreatDoor
open Go.RowKit NatP

/-- The answer is a new number and no error. -/
def New2 (w : World) (v : Nat) (e : Ending) (w' : World) : Prop :=
  ∃ A c, e = .returned (.tuple #[.slice A (limbs v).length c, .nilIface]) ∧ Num w' A (limbs v).length c v ∧ w'.ownsRow w.heap.size 75 1 (.slice A (limbs v).length c) (limbs v).length ((limbs v).map wv) ∧ Below w.heap.size w w'
theorem New2.of {w : World} {v : Nat} {e : Ending} {w' : World} (h : NatOk w v e w') : New2 w v e w' := by
  obtain ⟨A, c, rfl, ho, hb⟩ := h
  exact ⟨A, c, rfl, num_own ho, ho, hb⟩
/-- The answer is nothing and the error of a tale. -/
def Bad2 (w : World) (E : Nat → Addr) (t : Tale) (e : Ending) (w' : World) : Prop :=
  ∃ b, e = .returned (.tuple #[.slice none 0 0, errV b]) ∧ ErrIs w' E t.1 t.2 (errV b) ∧ Below w.heap.size w w'
theorem FaultAt.is {w : World} {E : Nat → Addr} {b n : Nat} {op : ByteArray} {i : Int} (h : FaultAt w b op i (E n)) : ErrIs w E n [(op, i)] (errV b) := ⟨b, _, rfl, h, rfl⟩
theorem Bad2.of {w : World} {E : Nat → Addr} {op : ByteArray} {i : Int} {n : Nat} {e : Ending} {w' : World} (h : NilErr w op i (E n) e w') : Bad2 w E (n, [(op, i)]) e w' := by
  obtain ⟨b, rfl, hf, _, _, hb⟩ := h
  exact ⟨b, rfl, hf.is, hb⟩

end Go.Proofs.YthilnpfpllplaaaGreatDoor

namespace Go.Proofs.YthilnpfpllplaaaGreatDoor
open Go.RowKit Go.Shelf RuleP NatP

attribute [local go_sem] Oper.semAt_some

end Go.Proofs.YthilnpfpllplaaaGreatDoor

namespace Go.Proofs.YthilnpfpllplaaaGreatDoor
open Go.RowKit RuleP NatP

namespace RuleP
end RuleP

end Go.Proofs.YthilnpfpllplaaaGreatDoor
