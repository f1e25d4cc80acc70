/- Rules out of rules: forms.Narrow of a rule. Condition: the table reads from memory; the error variables hold what E says. Rules held against each other: forms.Same. Condition: the tables read from memory; the error variables hold what E says. Rules out of rules: forms.Power. Condition: the table reads from memory; the error variables hold what E says. -/
import Derived.Test.YtpllojpgpejfmaaGreatDoorF7
namespace Go.Proofs.YtpllojpgpejfmaaGreatDoor
open Go.RowKit RuleP

theorem own_blk {w : World} {base e n g : Nat} {v : Value} {xs : List Value} (h : w.ownsRow base e 1 v n xs) (hg : v.ownBlock = some g) : ∃ cs, w.heap[g]? = some (.cells cs e (0, 0)) := by
  rcases h.2 with ⟨rfl, _⟩ | ⟨g', cap, cur, rfl, _, hh, _⟩
  · cases hg
  · have e' : g' = g := by simpa [Value.ownBlock] using hg
    subst e'
    exact ⟨_, hh⟩
/-- What inner answers of a rule. -/
def InnerIs (B : Nat) (w' : World) (k r : Nat) (t : List Nat) (K R : Int) (C : Option Addr) (M cc : Nat) (b : Bool) : Prop :=
  (b = true → ∃ q g, r = q + 1 ∧ K = (k : Int) ∧ R = (q : Int) ∧ C = some ⟨g, 0, none⟩ ∧ cc = M ∧ wide k q 1 (inn k q t) = t ∧ w'.ownsRow B 3 1 (.slice (some ⟨g, 0, none⟩) M M) M ((ints (inn k q t)).map (Value.int .i64))) ∧ (b = false → narrow k r t = (r, t))
theorem InnerIs.keeps {B : Nat} {w w' : World} {k r : Nat} {t : List Nat} {K R : Int} {C : Option Addr} {M cc : Nat} {b : Bool} {O : Nat → Prop} (h : InnerIs B w k r t K R C M cc b) (hk : Keeps O w w') (ho : ∀ g cs, O g → w.heap[g]? ≠ some (.cells cs 3 (0, 0))) : InnerIs B w' k r t K R C M cc b :=
  ⟨fun e => by
    obtain ⟨q, g, a1, a2, a3, a4, a5, a6, a7⟩ := h.1 e
    refine ⟨q, g, a1, a2, a3, a4, a5, a6, own_keeps a7 hk (fun g' hg hO => ?_)⟩
    obtain ⟨cs, hc⟩ := own_blk a7 hg
    exact ho g' cs hO hc, h.2⟩

theorem inner_u (w : World) (k r : Nat) (A : Option Addr) (n c : Nat) (t : List Nat) (hr : IsRule k r t) (hT : Sl w A n ((ints t).map (Value.int .i64))) :
    Calls Tryz.prog 59 #[ruleV k r A n c] w fun e w' => ∃ K R C M cc b, e = .returned (.tuple #[ruleV K R C M cc, .bool b]) ∧ InnerIs w.heap.size w' k r t K R C M cc b ∧ Below w.heap.size w w' := by
  cases r with
  | zero =>
    refine (inner_zero w k A n c).mono ?_
    rintro e w' ⟨rfl, hb⟩
    exact ⟨(k : Int), 0, A, n, c, false, rfl, ⟨fun h => (by cases h), fun _ => rfl⟩, hb⟩
  | succ q =>
    refine (inner_c w k q (q + 1) rfl A n c t hr hT).mono ?_
    rintro e w' ⟨g, N, rfl, hown, hb⟩
    refine ⟨(k : Int), (q : Int), some ⟨g, 0, none⟩, N, N, _, rfl, ⟨fun h => ⟨q, g, rfl, rfl, rfl, rfl, rfl, of_decide_eq_true h, hown⟩, fun h => ?_⟩, hb⟩
    rw [narrow, if_neg (of_decide_eq_false h)]

/-- The state ahead of a round. -/
structure NarAt (w0 w : World) (k : Nat) (P : Nat × List Nat) (r : Nat) (t : List Nat) (g N gi : Nat) (K R : Int) (C : Option Addr) (M cc : Nat) (b : Bool) : Prop where
  rule : IsRule k r t
  same : narrow k r t = P
  box : RuleAt w w0.heap.size (.int .i64 (k : Int)) (.int .i64 (r : Int)) (.slice (some ⟨g, 0, none⟩) N N)
  own : w.ownsRow w0.heap.size 3 1 (.slice (some ⟨g, 0, none⟩) N N) N ((ints t).map (Value.int .i64))
  res : RuleAt w (w0.heap.size + 1) (.int .i64 0) (.int .i64 0) (.slice none 0 0)
  old : Below w0.heap.size w0 w
  gi1 : w0.heap.size + 1 < gi
  at_ : RuleAt w gi (.int .i64 K) (.int .i64 R) (.slice C M cc)
  is : InnerIs w0.heap.size w k r t K R C M cc b
theorem InnerIs.base {B B' : Nat} {w : World} {k r : Nat} {t : List Nat} {K R : Int} {C : Option Addr} {M cc : Nat} {b : Bool} (h : InnerIs B w k r t K R C M cc b) (hB : B' ≤ B) : InnerIs B' w k r t K R C M cc b :=
  ⟨fun e => by
    obtain ⟨q, g, a1, a2, a3, a4, a5, a6, a7⟩ := h.1 e
    exact ⟨q, g, a1, a2, a3, a4, a5, a6, own_base a7 hB⟩, h.2⟩
theorem InnerIs.set3 {B g : Nat} {w : World} {k r : Nat} {t : List Nat} {K R : Int} {C : Option Addr} {M cc : Nat} {b : Bool} {x0 x1 x2 : Value} (h : InnerIs B w k r t K R C M cc b) (hr : RuleAt w g x0 x1 x2) (u0 u1 u2 : Value) :
    InnerIs B (((w.setCell ⟨g, 0, none⟩ u0).setCell ⟨g, 1, none⟩ u1).setCell ⟨g, 2, none⟩ u2) k r t K R C M cc b :=
  h.keeps (keeps_set3 w g u0 u1 u2) (fun g' cs hg e => by
    rw [show g' = g from hg, show w.heap[g]? = _ from hr] at e
    injection e with e
    injection e with _ e
    exact absurd e (by decide))
theorem RuleAt.set3_far {w : World} {g g' : Nat} {x0 x1 x2 : Value} (h : RuleAt w g' x0 x1 x2) (hne : g' ≠ g) (u0 u1 u2 : Value) : RuleAt (((w.setCell ⟨g, 0, none⟩ u0).setCell ⟨g, 1, none⟩ u1).setCell ⟨g, 2, none⟩ u2) g' x0 x1 x2 :=
  h.keeps (keeps_set3 w g u0 u1 u2) hne
/-- The first state. -/
theorem NarAt.start {w0 w2 w4 : World} {k r : Nat} {t : List Nat} {g N : Nat} {K R : Int} {C : Option Addr} {M cc : Nat} {b : Bool} (hr : IsRule k r t) (h0 : RuleAt w4 w0.heap.size (.int .i64 (k : Int)) (.int .i64 (r : Int)) (.slice (some ⟨g, 0, none⟩) N N))
    (hown : w4.ownsRow w0.heap.size 3 1 (.slice (some ⟨g, 0, none⟩) N N) N ((ints t).map (Value.int .i64))) (h1 : RuleAt w4 (w0.heap.size + 1) (.int .i64 0) (.int .i64 0) (.slice none 0 0)) (hb : Below w0.heap.size w0 w4) (hi : InnerIs w2.heap.size w4 k r t K R C M cc b) (hB : w0.heap.size ≤ w2.heap.size) :
    NarAt w0 (w4.alloc (.cells #[.int .i64 K, .int .i64 R, .slice C M cc] 26)) k (narrow k r t) r t g N w4.heap.size K R C M cc b where
  rule := hr
  same := rfl
  box := h0.alloc _
  own := hown.alloc _
  res := h1.alloc _
  old := hb.alloc hb.size _
  gi1 := h1.lt
  at_ := RuleAt.new _ _ _ _
  is := (hi.base hB).keeps (Keeps.of_pure ((Below.refl _ _).alloc (Nat.le_refl _) _) (fun _ => False)) (fun _ _ h => h.elim)
/-- A round: the rule is the inner one. -/
theorem NarAt.next {w0 w w8 : World} {k q r : Nat} {t : List Nat} {P : Nat × List Nat} {g N gi g2 M : Nat} {K2 R2 : Int} {C2 : Option Addr} {M2 cc2 : Nat} {b2 : Bool} (h : NarAt w0 w k P r t g N gi (k : Int) (q : Int) (some ⟨g2, 0, none⟩) M M true) (hq : r = q + 1)
    (hw : wide k q 1 (inn k q t) = t) (hown : w.ownsRow w0.heap.size 3 1 (.slice (some ⟨g2, 0, none⟩) M M) M ((ints (inn k q t)).map (Value.int .i64)))
    (hb8 : Below ((((w.setCell ⟨w0.heap.size, 0, none⟩ (.int .i64 (k : Int))).setCell ⟨w0.heap.size, 1, none⟩ (.int .i64 (q : Int))).setCell ⟨w0.heap.size, 2, none⟩ (.slice (some ⟨g2, 0, none⟩) M M)).alloc (.cells #[.int .i64 (k : Int), .int .i64 (q : Int), .slice (some ⟨g2, 0, none⟩) M M] 26)).heap.size
      ((((w.setCell ⟨w0.heap.size, 0, none⟩ (.int .i64 (k : Int))).setCell ⟨w0.heap.size, 1, none⟩ (.int .i64 (q : Int))).setCell ⟨w0.heap.size, 2, none⟩ (.slice (some ⟨g2, 0, none⟩) M M)).alloc (.cells #[.int .i64 (k : Int), .int .i64 (q : Int), .slice (some ⟨g2, 0, none⟩) M M] 26)) w8)
    (hi : InnerIs (w.heap.size + 1) w8 k q (inn k q t) K2 R2 C2 M2 cc2 b2) :
    NarAt w0 (((w8.setCell ⟨w.heap.size, 0, none⟩ (.int .i64 K2)).setCell ⟨w.heap.size, 1, none⟩ (.int .i64 R2)).setCell ⟨w.heap.size, 2, none⟩ (.slice C2 M2 cc2)) k P q (inn k q t) g2 M w.heap.size K2 R2 C2 M2 cc2 b2 ∧
    RuleAt w8 w.heap.size (.int .i64 (k : Int)) (.int .i64 (q : Int)) (.slice (some ⟨g2, 0, none⟩) M M) := by
  subst hq
  have hs : ((((w.setCell ⟨w0.heap.size, 0, none⟩ (.int .i64 (k : Int))).setCell ⟨w0.heap.size, 1, none⟩ (.int .i64 (q : Int))).setCell ⟨w0.heap.size, 2, none⟩ (.slice (some ⟨g2, 0, none⟩) M M)).alloc (.cells #[.int .i64 (k : Int), .int .i64 (q : Int), .slice (some ⟨g2, 0, none⟩) M M] 26)).heap.size = w.heap.size + 1 := by simp
  have hlt0 := h.box.lt
  have hlt1 := h.res.lt
  have hz : w0.heap.size ≤ w.heap.size := h.old.size
  have k1 := keeps_set3 w w0.heap.size (.int .i64 (k : Int)) (.int .i64 (q : Int)) (.slice (some ⟨g2, 0, none⟩) M M)
  have b6 := below_set3 h.old (Nat.le_refl w0.heap.size) (.int .i64 (k : Int)) (.int .i64 (q : Int)) (.slice (some ⟨g2, 0, none⟩) M M)
  have o6 := own_set3 hown h.box (by decide) (.int .i64 (k : Int)) (.int .i64 (q : Int)) (.slice (some ⟨g2, 0, none⟩) M M)
  have x6 := h.box.set3 (.int .i64 (k : Int)) (.int .i64 (q : Int)) (.slice (some ⟨g2, 0, none⟩) M M)
  have r6 := h.res.set3_far (show w0.heap.size + 1 ≠ w0.heap.size by omega) (.int .i64 (k : Int)) (.int .i64 (q : Int)) (.slice (some ⟨g2, 0, none⟩) M M)
  obtain ⟨w6, h6⟩ : ∃ w6, ((w.setCell ⟨w0.heap.size, 0, none⟩ (.int .i64 (k : Int))).setCell ⟨w0.heap.size, 1, none⟩ (.int .i64 (q : Int))).setCell ⟨w0.heap.size, 2, none⟩ (.slice (some ⟨g2, 0, none⟩) M M) = w6 := ⟨_, rfl⟩
  have hs6 : w6.heap.size = w.heap.size := by rw [← h6]; simp
  rw [h6] at hb8 b6 o6 x6 r6 hs
  have b7 := b6.alloc b6.size (.cells #[.int .i64 (k : Int), .int .i64 (q : Int), .slice (some ⟨g2, 0, none⟩) M M] 26)
  have o7 := o6.alloc (.cells #[.int .i64 (k : Int), .int .i64 (q : Int), .slice (some ⟨g2, 0, none⟩) M M] 26)
  have x7 := x6.alloc (.cells #[.int .i64 (k : Int), .int .i64 (q : Int), .slice (some ⟨g2, 0, none⟩) M M] 26)
  have r7 := r6.alloc (.cells #[.int .i64 (k : Int), .int .i64 (q : Int), .slice (some ⟨g2, 0, none⟩) M M] 26)
  have n7 := RuleAt.new w6 (.int .i64 (k : Int)) (.int .i64 (q : Int)) (.slice (some ⟨g2, 0, none⟩) M M)
  rw [hs6] at n7
  have b8 := b7.trans (hb8.mono b7.size)
  have o8 := own_below o7 hb8
  have x8 := x7.below hb8 x7.lt
  have r8 := r7.below hb8 r7.lt
  have n8 := n7.below hb8 n7.lt
  refine ⟨⟨inn_rule h.rule, ?_, x8.set3_far (by omega) _ _ _, own_set3 o8 n8 (by decide) _ _ _, r8.set3_far (by omega) _ _ _, below_set3 b8 (by omega) _ _ _, by omega, n8.set3 _ _ _, (hi.base (by omega)).set3 n8 _ _ _⟩, n8⟩
  rw [← h.same, narrow, if_pos hw]

set_option maxRecDepth 100000 in
set_option maxHeartbeats 2000000 in
theorem narrow_good (w : World) (E : Nat → Addr) (hE : Errs w E) (k r : Nat) (A : Option Addr) (n c : Nat) (t : List Nat) (hr : IsRule k r t) (hT : Sl w A n ((ints t).map (Value.int .i64))) :
    Calls Tryz.prog 20 #[ruleV k r A n c] w (RuleRes w E k (narrow k r t).1 (ints (narrow k r t).2) none) := by
  have hn : t.length = n := by simpa [ints] using hT.1
  have hn16 := hr.le
  rw [hn] at hn16
  have hbW := (((Below.refl w.heap.size w).alloc (Nat.le_refl _) (.cells #[.int .i64 (k : Int), .int .i64 (r : Int), .slice A n c] 26)).alloc (by simp) (.cells #[.int .i64 0, .int .i64 0, .slice none 0 0] 26))
  have hr0 := ((RuleAt.new (w) (.int .i64 (k : Int)) (.int .i64 (r : Int)) (.slice A n c)).alloc (.cells #[.int .i64 0, .int .i64 0, .slice none 0 0] 26))
  have hr1 := (RuleAt.new (w.alloc (.cells #[.int .i64 (k : Int), .int .i64 (r : Int), .slice A n c] 26)) (.int .i64 0) (.int .i64 0) (.slice none 0 0))
  simp only [World.size_alloc] at hr1
  obtain ⟨W, hW⟩ : ∃ W, (w.alloc (.cells #[.int .i64 (k : Int), .int .i64 (r : Int), .slice A n c] 26)).alloc (.cells #[.int .i64 0, .int .i64 0, .slice none 0 0] 26) = W := ⟨_, rfl⟩
  have hWs : W.heap.size = w.heap.size + 2 := by rw [← hW]; simp
  rw [hW] at hbW hr0 hr1
  have HR0 := Lib.hid hr0
  obtain ⟨a0, b0, c0, _⟩ := hr0.facts
  have HR1 := Lib.hid hr1
  obtain ⟨a1, b1, c1, _⟩ := hr1.facts
  have HW := Lib.hid hW
  have HWS := Lib.hid hWs
  have HBW := Lib.hid hbW
  have hck := formsCheck_c W E (hE.below HBW.out) 0 (k : Int) (r : Int) A n c (ints t) (hT.below HBW.out) (by omega)
  rw [checkF_rule 0 hr] at hck
  have HC1 := Lib.hid hck
  have HTT := Lib.hid (fun (wz : World) (hz : Below W.heap.size W wz) => hT.below (HBW.out.trans (hz.mono HBW.out.size)))
  have HRU := Lib.hid hr
  have hr3 := hr.r3
  obtain ⟨PP, hPP⟩ : ∃ PP, narrow k r t = PP := ⟨_, rfl⟩
  have HPP := Lib.hid hPP
  rw [hPP]
  clear hr0 hr1 hW hWs hbW hT hE hck hn hr hPP
  unfold ruleV at *
  go_enter Tryz.func20, Tryz.ntmps20
  go_wp2_with fail
  rw [HW.out]
  refine (HC1.out).mono ?_
  rintro e w1 ⟨v1, rfl, he1, hb1⟩
  have he1' : v1 = .nilIface := he1
  clear he1
  subst he1'
  obtain ⟨a0, b0, c0, _⟩ := (HR0.out.below hb1 HR0.out.lt).facts
  have hwd := widened_c w1 k r 0 r rfl A n c t HRU.out hr3 (HTT.out w1 hb1)
  rw [wide_zero HRU.out] at hwd
  unfold ruleV at hwd
  have HWD := Lib.hid hwd
  clear hwd
  go_wp2_with fail
  refine (HWD.out).mono ?_
  rintro e w2 ⟨g, N, rfl, hT2, hb2'⟩
  have hb2 := pure_trans hb1 hb2'
  have hx2 := HR0.out.below hb2 HR0.out.lt
  have hy2 := HR1.out.below hb2 HR1.out.lt
  have hs2 : w.heap.size + 1 < w2.heap.size := hy2.lt
  obtain ⟨a0, b0, c0, fa0, fb0, fc0⟩ := hx2.facts
  have hbw2 := HBW.out.trans (hb2.mono HBW.out.size)
  have x3 := hx2.set3 (.int .i64 (k : Int)) (.int .i64 (r : Int)) (.slice (some ⟨g, 0, none⟩) N N)
  have y3 := hy2.set3_far (show w.heap.size + 1 ≠ w.heap.size by omega) (.int .i64 (k : Int)) (.int .i64 (r : Int)) (.slice (some ⟨g, 0, none⟩) N N)
  have o3 := own_set3 (own_base hT2 (Nat.le_trans HBW.out.size hb1.size)) hx2 (by decide) (.int .i64 (k : Int)) (.int .i64 (r : Int)) (.slice (some ⟨g, 0, none⟩) N N)
  have b3 := below_set3 hbw2 (Nat.le_refl w.heap.size) (.int .i64 (k : Int)) (.int .i64 (r : Int)) (.slice (some ⟨g, 0, none⟩) N N)
  obtain ⟨w3, hw3⟩ : ∃ w3, ((w2.setCell ⟨w.heap.size, 0, none⟩ (.int .i64 (k : Int))).setCell ⟨w.heap.size, 1, none⟩ (.int .i64 (r : Int))).setCell ⟨w.heap.size, 2, none⟩ (.slice (some ⟨g, 0, none⟩) N N) = w3 := ⟨_, rfl⟩
  obtain ⟨p0, p1, p2, _⟩ := x3.facts
  rw [hw3] at x3 y3 o3 b3
  have HIN := Lib.hid (inner_u w3 k r (some ⟨g, 0, none⟩) N N t HRU.out (Sl.of_own o3))
  have HW3 := Lib.hid hw3
  unfold ruleV at *
  clear hw3 hT2 hb2' hb2 hx2 hy2 hbw2
  go_wp2_with fail
  rw [HW3.out]
  refine (HIN.out).mono ?_
  rintro e w4 ⟨K, R, C, M, cc, b, rfl, hi4, hb4⟩
  have hst := NarAt.start (w0 := w) (w2 := w3) HRU.out (x3.below hb4 x3.lt) (own_below o3 hb4) (y3.below hb4 y3.lt) (b3.trans (hb4.mono b3.size)) hi4 b3.size
  rw [HPP.out] at hst
  have HST := Lib.hid hst
  have HG := Lib.hid (show w.heap.size < w4.heap.size from (x3.below hb4 x3.lt).lt)
  clear hst x3 y3 o3 b3 hi4 hb4 p0 p1 p2
  unfold ruleV at *
  go_wp2_with fail
  go_loopw [5, 6] (fun iv bv wl => ∃ (ri : Nat) (ti : List Nat) (g N gi : Nat) (K R : Int) (C : Option Addr) (M cc : Nat) (b : Bool), iv = .pointer (some ⟨gi, 0, none⟩) ∧ bv = .bool b ∧ Hid (NarAt w wl k PP ri ti g N gi K R C M cc b)) (fun _ _ wl => (intOf ((wl.cell? ⟨w.heap.size, 1, none⟩).getD (.int .i64 0))).toNat)
  case atStart => exact ⟨r, t, g, N, w4.heap.size, K, R, C, M, cc, b, rfl, rfl, HST⟩
  case round =>
    clear HST
    obtain ⟨ri, ti, g', N', gi, K', R', C', M', cc', b', rfl, rfl, hN⟩ := hrel
    have hbx := hN.out.box.facts
    cases b' with
    | true =>
      obtain ⟨q, g2, hq, hK, hR, hC, hcc, hwd, hown⟩ := hN.out.is.1 rfl
      subst hK hR hC hcc
      obtain ⟨i0, i1, i2, _⟩ := hN.out.at_.facts
      obtain ⟨a0, b0, c0, fa0, fb0, fc0⟩ := hbx
      have hgi := hN.out.gi1
      have hgl := hN.out.at_.lt
      have hwl := hN.out.box.lt
      have hi6 := hN.out.at_.set3_far (show gi ≠ w.heap.size by omega) (.int .i64 (k : Int)) (.int .i64 (q : Int)) (.slice (some ⟨g2, 0, none⟩) cc' cc')
      have hx6 := hN.out.box.set3 (.int .i64 (k : Int)) (.int .i64 (q : Int)) (.slice (some ⟨g2, 0, none⟩) cc' cc')
      obtain ⟨j0, j1, j2, _⟩ := hi6.facts
      obtain ⟨l0, l1, l2, _⟩ := hx6.facts
      have o6 := (own_set3 hown hN.out.box (by decide) (.int .i64 (k : Int)) (.int .i64 (q : Int)) (.slice (some ⟨g2, 0, none⟩) cc' cc')).alloc (.cells #[.int .i64 (k : Int), .int .i64 (q : Int), .slice (some ⟨g2, 0, none⟩) cc' cc'] 26)
      have hru : IsRule k (q + 1) ti := by rw [← hq]; exact hN.out.rule
      have HIN2 := Lib.hid (inner_u _ k q (some ⟨g2, 0, none⟩) cc' cc' (inn k q ti) (inn_rule hru) (Sl.of_own o6))
      have HNX := Lib.hid (fun (w8 : World) (K2 R2 : Int) (C2 : Option Addr) (M2 cc2 : Nat) (b2 : Bool) => NarAt.next (w8 := w8) (K2 := K2) (R2 := R2) (C2 := C2) (M2 := M2) (cc2 := cc2) (b2 := b2) hN.out hq hwd hown)
      have HMS := Lib.hid (show (intOf ((wr.cell? ⟨w.heap.size, 1, none⟩).getD (.int .i64 0))).toNat = q + 1 by rw [b0, hq]; simp [intOf])
      unfold ruleV at *
      clear hi6 hx6 o6 hown hwd hru hq
      go_wp2_with fail
      refine (HIN2.out).mono ?_
      rintro e w8 ⟨K2, R2, C2, M2, cc2, b2, rfl, hi8, hb8⟩
      obtain ⟨hn9, n8⟩ := HNX.out w8 K2 R2 C2 M2 cc2 b2 hb8 (hi8.base (by simp))
      have HN9 := Lib.hid hn9
      obtain ⟨e0, e1, e2, y0, y1, y2⟩ := n8.facts
      have HM9 := Lib.hid hn9.box.facts.2.1
      clear hn9 n8 hi8 hb8 j0 j1 j2 l0 l1 l2 i0 i1 i2 a0 b0 c0 fa0 fb0 fc0
      unfold ruleV at *
      go_wp2_with fail
      exact ⟨⟨q, _, g2, cc', wr.heap.size, K2, R2, C2, M2, cc2, b2, rfl, rfl, HN9⟩, by rw [HMS.out, HM9.out]; simp [intOf]⟩
    | false =>
      obtain ⟨a0, b0, c0, fa0, fb0, fc0⟩ := hbx
      have hpp : PP = (ri, ti) := hN.out.same.symm.trans (hN.out.is.2 rfl)
      obtain ⟨d0, d1, d2, f0, f1, f2⟩ := hN.out.res.facts
      obtain ⟨hRA, hRS⟩ := res_new (E := E) (K := (k : Int)) (R := (ri : Int)) hN.out.res hN.out.own hN.out.old (show w.heap.size ≤ w.heap.size + 1 by omega) (Nat.le_refl _)
      subst hpp
      have HRA := Lib.hid hRA
      have HRS := Lib.hid hRS
      clear hRA hRS hN
      go_wp2_with fail
      obtain ⟨d0, d1, d2, _⟩ := HRA.out.facts
      exact bodyPost_ret (v := .tuple #[.agg #[.int .i64 (k : Int), .int .i64 (ri : Int), .slice (some ⟨g', 0, none⟩) N' N'], .nilIface]) (by simp [results, Tryz.results20, go_sem, d0, d1, d2]) rfl HRS.out
end Go.Proofs.YtpllojpgpejfmaaGreatDoor

namespace Go.Proofs.YtpllojpgpejfmaaGreatDoor
open Go.RowKit RuleP

/-- The answer is yes or no, and an error or none. -/
def BoolRes (w : World) (E : Nat → Addr) (b : Bool) (tl : Option Tale) (e : Ending) (w' : World) : Prop := ∃ v, e = .returned (.tuple #[.bool b, v]) ∧ ErrV w' E tl v ∧ Below w.heap.size w w'

set_option maxRecDepth 100000 in
set_option maxHeartbeats 2000000 in
theorem same_bad1 (w : World) (E : Nat → Addr) (hE : Errs w E) (K R K2 R2 : Int) (A B : Option Addr) (n c m d : Nat) (T : List Int) (hT : Sl w A n (T.map (Value.int .i64))) (hm : n ≤ 9223372036854775807) (tl : Tale) (h : checkF 0 K R T = some tl) :
    Calls Tryz.prog 26 #[ruleV K R A n c, ruleV K2 R2 B m d] w (BoolRes w E false (some tl)) := by
  have hbW := (((Below.refl w.heap.size w).alloc (Nat.le_refl _) (.cells #[.int .i64 K, .int .i64 R, .slice A n c] 26)).alloc (by simp) (.cells #[.int .i64 K2, .int .i64 R2, .slice B m d] 26))
  have hr0 := ((RuleAt.new (w) (.int .i64 K) (.int .i64 R) (.slice A n c)).alloc (.cells #[.int .i64 K2, .int .i64 R2, .slice B m d] 26))
  have hr1 := (RuleAt.new (w.alloc (.cells #[.int .i64 K, .int .i64 R, .slice A n c] 26)) (.int .i64 K2) (.int .i64 R2) (.slice B m d))
  simp only [World.size_alloc] at hr1
  obtain ⟨W, hW⟩ : ∃ W, (w.alloc (.cells #[.int .i64 K, .int .i64 R, .slice A n c] 26)).alloc (.cells #[.int .i64 K2, .int .i64 R2, .slice B m d] 26) = W := ⟨_, rfl⟩
  have hWs : W.heap.size = w.heap.size + 2 := by rw [← hW]; simp
  rw [hW] at hbW hr0 hr1
  have HR0 := Lib.hid hr0
  obtain ⟨a0, b0, c0, _⟩ := hr0.facts
  have HR1 := Lib.hid hr1
  obtain ⟨a1, b1, c1, _⟩ := hr1.facts
  have HW := Lib.hid hW
  have HWS := Lib.hid hWs
  have HBW := Lib.hid hbW
  have HC1 := Lib.hid (narrow_bad W E (hE.below HBW.out) K R A n c T (hT.below HBW.out) hm tl h)
  clear hr0 hr1 hW hWs hbW hT hE h
  unfold ruleV at *
  go_enter Tryz.func26, Tryz.ntmps26
  go_wp2_with fail
  rw [HW.out]
  refine (HC1.out).mono ?_
  rintro e w1 ⟨C1, N1, cc1, v1, rfl, _, he1, hb1⟩
  have he1' : ErrIs w1 E tl.1 tl.2 v1 := he1
  obtain ⟨u, p, rfl⟩ := he1'.iface
  have HRS := Lib.hid (show BoolRes w E false (some tl) (.returned (.tuple #[.bool false, .iface u p])) (w1.alloc (.cells #[.int .i64 0, .int .i64 0, .slice C1 N1 cc1] 26)) from
    ⟨_, rfl, ErrV.below he1 ((Below.refl _ _).alloc (Nat.le_refl _) _), (HBW.out.trans (hb1.mono HBW.out.size)).alloc (Nat.le_trans HBW.out.size hb1.size) _⟩)
  clear he1 he1' hb1
  unfold ruleV at *
  go_wp2_with fail
  go_ret2
  exact HRS.out
set_option maxRecDepth 100000 in
set_option maxHeartbeats 2000000 in
theorem same_bad2 (w : World) (E : Nat → Addr) (hE : Errs w E) (k r : Nat) (A B : Option Addr) (n c m d : Nat) (t : List Nat) (hr : IsRule k r t) (hT : Sl w A n ((ints t).map (Value.int .i64))) (K2 R2 : Int) (T2 : List Int) (hT2 : Sl w B m (T2.map (Value.int .i64))) (hm2 : m ≤ 9223372036854775807) (tl : Tale) (h2 : checkF 1 K2 R2 T2 = some tl) :
    Calls Tryz.prog 26 #[ruleV k r A n c, ruleV K2 R2 B m d] w (BoolRes w E false (some tl)) := by
  have hbW := (((Below.refl w.heap.size w).alloc (Nat.le_refl _) (.cells #[.int .i64 (k : Int), .int .i64 (r : Int), .slice A n c] 26)).alloc (by simp) (.cells #[.int .i64 K2, .int .i64 R2, .slice B m d] 26))
  have hr0 := ((RuleAt.new (w) (.int .i64 (k : Int)) (.int .i64 (r : Int)) (.slice A n c)).alloc (.cells #[.int .i64 K2, .int .i64 R2, .slice B m d] 26))
  have hr1 := (RuleAt.new (w.alloc (.cells #[.int .i64 (k : Int), .int .i64 (r : Int), .slice A n c] 26)) (.int .i64 K2) (.int .i64 R2) (.slice B m d))
  simp only [World.size_alloc] at hr1
  obtain ⟨W, hW⟩ : ∃ W, (w.alloc (.cells #[.int .i64 (k : Int), .int .i64 (r : Int), .slice A n c] 26)).alloc (.cells #[.int .i64 K2, .int .i64 R2, .slice B m d] 26) = W := ⟨_, rfl⟩
  have hWs : W.heap.size = w.heap.size + 2 := by rw [← hW]; simp
  rw [hW] at hbW hr0 hr1
  have HR0 := Lib.hid hr0
  obtain ⟨a0, b0, c0, _⟩ := hr0.facts
  have HR1 := Lib.hid hr1
  obtain ⟨a1, b1, c1, _⟩ := hr1.facts
  have HW := Lib.hid hW
  have HWS := Lib.hid hWs
  have HBW := Lib.hid hbW
  have HC1 := Lib.hid (narrow_good W E (hE.below HBW.out) k r A n c t hr (hT.below HBW.out))
  have hck2 := fun (wz : World) (hz : Below W.heap.size W wz) => formsCheck_c wz E (hE.below (HBW.out.trans (hz.mono HBW.out.size))) 1 K2 R2 B m d T2 (hT2.below (HBW.out.trans (hz.mono HBW.out.size))) hm2
  rw [h2] at hck2
  have HC2 := Lib.hid hck2
  have HNR := Lib.hid (narrow_rule hr)
  have hnl : (narrow k r t).1 ≤ r := narrow_le
  have hr3 := hr.r3
  obtain ⟨P1, hP1⟩ : ∃ P1, narrow k r t = P1 := ⟨_, rfl⟩
  obtain ⟨ρ1, τ1⟩ := P1
  rw [hP1] at HC1 HNR hnl
  have HP1 := Lib.hid hP1
  clear hP1 hr0 hr1 hW hWs hbW hT hE hck2 hr hT2 h2
  unfold ruleV at *
  go_enter Tryz.func26, Tryz.ntmps26
  go_wp2_with fail
  rw [HW.out]
  refine (HC1.out).mono ?_
  rintro e w1 ⟨C1, N1, cc1, v1, rfl, ho1, he1, hb1⟩
  have he1' : v1 = .nilIface := he1
  clear he1
  subst he1'
  have hx2 := RuleAt.new w1 (.int .i64 (k : Int)) (.int .i64 (ρ1 : Int)) (.slice C1 N1 cc1)
  have b2 := (Below.refl w1.heap.size w1).alloc (Nat.le_refl _) (.cells #[.int .i64 (k : Int), .int .i64 (ρ1 : Int), .slice C1 N1 cc1] 26)
  obtain ⟨a1, b1, c1, _⟩ := (HR1.out.below hb1 HR1.out.lt).facts
  have l1 : w.heap.size + 1 < w1.heap.size := Nat.lt_of_lt_of_le HR1.out.lt hb1.size
  obtain ⟨w2, hw2⟩ : ∃ w2, w1.alloc (.cells #[.int .i64 (k : Int), .int .i64 (ρ1 : Int), .slice C1 N1 cc1] 26) = w2 := ⟨_, rfl⟩
  rw [hw2] at hx2 b2
  have HW2 := Lib.hid hw2
  have hb2 := pure_trans hb1 b2
  have ho2 := own_below ho1 b2
  unfold ruleV at *
  clear hw2
  go_wp2_with fail
  rw [HW2.out]
  refine (HC2.out w2 hb2).mono ?_
  rintro e w3 ⟨v3, rfl, he3, hb3'⟩
  have hb3 := pure_trans hb2 hb3'

  have he3' : ErrIs w3 E tl.1 tl.2 v3 := he3
  obtain ⟨u, p, rfl⟩ := he3'.iface
  have HRS := Lib.hid (show BoolRes w E false (some tl) (.returned (.tuple #[.bool false, .iface u p])) w3 from ⟨_, rfl, he3, HBW.out.trans (hb3.mono HBW.out.size)⟩)
  clear he3 he3'
  go_wp2_with fail
  go_ret2
  exact HRS.out
set_option maxRecDepth 100000 in
set_option maxHeartbeats 2000000 in
theorem same_good (w : World) (E : Nat → Addr) (hE : Errs w E) (k r : Nat) (A B : Option Addr) (n c m d : Nat) (t : List Nat) (hr : IsRule k r t) (hT : Sl w A n ((ints t).map (Value.int .i64))) (k2 r2 : Nat) (t2 : List Nat) (hr2 : IsRule k2 r2 t2) (hT2 : Sl w B m ((ints t2).map (Value.int .i64))) :
    Calls Tryz.prog 26 #[ruleV k r A n c, ruleV (k2 : Int) (r2 : Int) B m d] w (BoolRes w E (decide (k = k2 ∧ narrow k r t = narrow k2 r2 t2)) none) := by
  have hn2 : t2.length = m := by simpa [ints] using hT2.1
  have hm16 := hr2.le
  rw [hn2] at hm16
  have HRU2 := Lib.hid hr2
  clear hr2
  have hbW := (((Below.refl w.heap.size w).alloc (Nat.le_refl _) (.cells #[.int .i64 (k : Int), .int .i64 (r : Int), .slice A n c] 26)).alloc (by simp) (.cells #[.int .i64 (k2 : Int), .int .i64 (r2 : Int), .slice B m d] 26))
  have hr0 := ((RuleAt.new (w) (.int .i64 (k : Int)) (.int .i64 (r : Int)) (.slice A n c)).alloc (.cells #[.int .i64 (k2 : Int), .int .i64 (r2 : Int), .slice B m d] 26))
  have hr1 := (RuleAt.new (w.alloc (.cells #[.int .i64 (k : Int), .int .i64 (r : Int), .slice A n c] 26)) (.int .i64 (k2 : Int)) (.int .i64 (r2 : Int)) (.slice B m d))
  simp only [World.size_alloc] at hr1
  obtain ⟨W, hW⟩ : ∃ W, (w.alloc (.cells #[.int .i64 (k : Int), .int .i64 (r : Int), .slice A n c] 26)).alloc (.cells #[.int .i64 (k2 : Int), .int .i64 (r2 : Int), .slice B m d] 26) = W := ⟨_, rfl⟩
  have hWs : W.heap.size = w.heap.size + 2 := by rw [← hW]; simp
  rw [hW] at hbW hr0 hr1
  have HR0 := Lib.hid hr0
  obtain ⟨a0, b0, c0, _⟩ := hr0.facts
  have HR1 := Lib.hid hr1
  obtain ⟨a1, b1, c1, _⟩ := hr1.facts
  have HW := Lib.hid hW
  have HWS := Lib.hid hWs
  have HBW := Lib.hid hbW
  have HC1 := Lib.hid (narrow_good W E (hE.below HBW.out) k r A n c t hr (hT.below HBW.out))
  have hck2 := fun (wz : World) (hz : Below W.heap.size W wz) => formsCheck_c wz E (hE.below (HBW.out.trans (hz.mono HBW.out.size))) 1 (k2 : Int) (r2 : Int) B m d (ints t2) (hT2.below (HBW.out.trans (hz.mono HBW.out.size))) (by omega)
  rw [checkF_rule 1 HRU2.out] at hck2
  have HC3 := Lib.hid (fun (wz : World) (hz : Below W.heap.size W wz) => narrow_good wz E (hE.below (HBW.out.trans (hz.mono HBW.out.size))) k2 r2 B m d t2 HRU2.out (hT2.below (HBW.out.trans (hz.mono HBW.out.size))))
  have HC2 := Lib.hid hck2
  have HNR := Lib.hid (narrow_rule hr)
  have hnl : (narrow k r t).1 ≤ r := narrow_le
  have hr3 := hr.r3
  obtain ⟨P1, hP1⟩ : ∃ P1, narrow k r t = P1 := ⟨_, rfl⟩
  obtain ⟨ρ1, τ1⟩ := P1
  rw [hP1] at HC1 HNR hnl
  rw [hP1]
  have hnr2 := narrow_rule HRU2.out
  have hnl2 : (narrow k2 r2 t2).1 ≤ r2 := narrow_le
  have hrr3 := HRU2.out.r3
  obtain ⟨P2, hP2⟩ : ∃ P2, narrow k2 r2 t2 = P2 := ⟨_, rfl⟩
  obtain ⟨ρ2, τ2⟩ := P2
  rw [hP2] at HC3 hnr2 hnl2
  rw [hP2]
  have HNR2 := Lib.hid hnr2
  obtain ⟨X, hX⟩ : ∃ X, decide (k = k2 ∧ (ρ1, τ1) = (ρ2, τ2)) = X := ⟨_, rfl⟩
  rw [hX]
  have HX := Lib.hid hX
  clear hP2 hnr2 hX
  have HP1 := Lib.hid hP1
  clear hP1 hr0 hr1 hW hWs hbW hT hE hck2 hr hT2 hn2
  unfold ruleV at *
  go_enter Tryz.func26, Tryz.ntmps26
  go_wp2_with fail
  rw [HW.out]
  refine (HC1.out).mono ?_
  rintro e w1 ⟨C1, N1, cc1, v1, rfl, ho1, he1, hb1⟩
  have he1' : v1 = .nilIface := he1
  clear he1
  subst he1'
  have hx2 := RuleAt.new w1 (.int .i64 (k : Int)) (.int .i64 (ρ1 : Int)) (.slice C1 N1 cc1)
  have b2 := (Below.refl w1.heap.size w1).alloc (Nat.le_refl _) (.cells #[.int .i64 (k : Int), .int .i64 (ρ1 : Int), .slice C1 N1 cc1] 26)
  obtain ⟨a1, b1, c1, _⟩ := (HR1.out.below hb1 HR1.out.lt).facts
  have l1 : w.heap.size + 1 < w1.heap.size := Nat.lt_of_lt_of_le HR1.out.lt hb1.size
  obtain ⟨w2, hw2⟩ : ∃ w2, w1.alloc (.cells #[.int .i64 (k : Int), .int .i64 (ρ1 : Int), .slice C1 N1 cc1] 26) = w2 := ⟨_, rfl⟩
  rw [hw2] at hx2 b2
  have HW2 := Lib.hid hw2
  have hb2 := pure_trans hb1 b2
  have ho2 := own_below ho1 b2
  unfold ruleV at *
  clear hw2
  go_wp2_with fail
  rw [HW2.out]
  refine (HC2.out w2 hb2).mono ?_
  rintro e w3 ⟨v3, rfl, he3, hb3'⟩
  have hb3 := pure_trans hb2 hb3'

  have he3' : v3 = .nilIface := he3
  clear he3
  subst he3'
  have hc3 := HC3.out w3 hb3
  unfold ruleV at hc3
  have HC4 := Lib.hid hc3
  obtain ⟨a1, b1, c1, _⟩ := (HR1.out.below hb3 HR1.out.lt).facts
  clear hc3
  go_wp2_with fail
  refine (HC4.out).mono ?_
  rintro e w4 ⟨C4, N4, cc4, v4, rfl, ho4, he4, hb4'⟩
  have he4' : v4 = .nilIface := he4
  clear he4
  subst he4'
  have b5 := (Below.refl w4.heap.size w4).alloc (Nat.le_refl _) (.cells #[.int .i64 (k2 : Int), .int .i64 (ρ2 : Int), .slice C4 N4 cc4] 26)
  have hz24 := pure_trans hb3' hb4'
  have hx4 := hx2.below hz24 hx2.lt
  obtain ⟨x0, x1, x2, _⟩ := hx4.facts
  have x3 := hx4.lt
  have ho4' := own_below ho2 hz24
  have hN1 : N1 ≤ 9223372036854775807 := Nat.le_trans (own_le ho1).1 (own_le ho1).2
  have hN4 : N4 ≤ 9223372036854775807 := Nat.le_trans (own_le ho4).1 (own_le ho4).2
  have HEQ := Lib.hid (equal_c (w4.alloc (.cells #[.int .i64 (k2 : Int), .int .i64 (ρ2 : Int), .slice C4 N4 cc4] 26)) C1 C4 N1 N4 cc1 cc4 (ints τ1) (ints τ2) ((Sl.of_own ho4').alloc _) ((Sl.of_own ho4).alloc _) hN1 hN4)
  have HB5 := Lib.hid (HBW.out.trans ((pure_trans (pure_trans hb3 hb4') b5).mono HBW.out.size))
  unfold ruleV at *
  clear ho1 ho2 ho4 ho4' hx2 hx4 hz24 hb1 hb2 hb3 hb3' hb4' b2 b5
  by_cases hk : k = k2
  · subst hk
    have k1 : ((k : Int) == (k : Int)) = true := by simp
    by_cases hρ : ρ1 = ρ2
    · subst hρ
      have k2 : ((ρ1 : Int) == (ρ1 : Int)) = true := by simp
      have hdd : decide (ints τ1 = ints τ2) = decide (k = k ∧ (ρ1, τ1) = (ρ1, τ2)) := by
        rw [decide_eq_decide]
        exact ⟨fun e => ⟨rfl, by rw [ints_inj e]⟩, fun e => by have := e.2; injection this with _ e2; rw [e2]⟩
      have HDD := Lib.hid (HX.out.symm.trans hdd.symm)
      clear hdd
      go_wp2_with fail
      refine (HEQ.out).mono ?_
      rintro e w6 ⟨rfl, hb6⟩
      have HB6 := Lib.hid (HB5.out.trans (hb6.mono HB5.out.size))
      clear hb6
      go_wp2_with fail
      go_ret2
      exact ⟨.nilIface, by rw [HDD.out]; rfl, rfl, HB6.out⟩
    · have k2 : ((ρ1 : Int) == (ρ2 : Int)) = false := by simp; omega
      have hdd : decide (k = k ∧ (ρ1, τ1) = (ρ2, τ2)) = false := decide_eq_false (fun e => by have := e.2; injection this with e1 _; exact hρ e1)
      have HDD := Lib.hid (HX.out.symm.trans hdd)
      clear hdd hρ
      go_wp2_with fail
      go_ret2
      exact ⟨.nilIface, by rw [HDD.out]; rfl, rfl, HB5.out⟩
  · have k1 : ((k : Int) == (k2 : Int)) = false := by simp; omega
    have hdd : decide (k = k2 ∧ (ρ1, τ1) = (ρ2, τ2)) = false := decide_eq_false (fun e => hk e.1)
    have HDD := Lib.hid (HX.out.symm.trans hdd)
    clear hdd hk
    go_wp2_with fail
    go_ret2
    exact ⟨.nilIface, by rw [HDD.out]; rfl, rfl, HB5.out⟩
end Go.Proofs.YtpllojpgpejfmaaGreatDoor

namespace Go.Proofs.YtpllojpgpejfmaaGreatDoor
open Go.RowKit RuleP

theorem RuleAt.set3_at {w : World} {g g' : Nat} {x0 x1 x2 : Value} (h : RuleAt w g' x0 x1 x2) (hne : g' ≠ g) (u0 u1 u2 : Value) : RuleAt (((w.setCell ⟨g, 0, none⟩ u0).setCell ⟨g, 1, none⟩ u1).setCell ⟨g, 2, none⟩ u2) g' x0 x1 x2 :=
  h.keeps (keeps_set3 w g u0 u1 u2) hne

set_option maxRecDepth 100000 in
set_option maxHeartbeats 2000000 in
theorem power_neg (w : World) (E : Nat → Addr) (hE : Errs w E) (k r : Nat) (A : Option Addr) (n c : Nat) (t : List Nat) (hr : IsRule k r t) (hT : Sl w A n ((ints t).map (Value.int .i64))) (q : Int) (hq : q < 0) :
    Calls Tryz.prog 24 #[ruleV k r A n c, .int .i64 q] w (RuleRes w E 0 0 [] (some (3, [(sForms, 0)]))) := by
  have hn : t.length = n := by simpa [ints] using hT.1
  have hn16 := hr.le
  rw [hn] at hn16
  have hbW := (((Below.refl w.heap.size w).alloc (Nat.le_refl _) (.cells #[.int .i64 (k : Int), .int .i64 (r : Int), .slice A n c] 26)).alloc (by simp) (.cells #[.int .i64 0, .int .i64 0, .slice none 0 0] 26))
  have hr0 := ((RuleAt.new (w) (.int .i64 (k : Int)) (.int .i64 (r : Int)) (.slice A n c)).alloc (.cells #[.int .i64 0, .int .i64 0, .slice none 0 0] 26))
  have hr1 := (RuleAt.new (w.alloc (.cells #[.int .i64 (k : Int), .int .i64 (r : Int), .slice A n c] 26)) (.int .i64 0) (.int .i64 0) (.slice none 0 0))
  simp only [World.size_alloc] at hr1
  obtain ⟨W, hW⟩ : ∃ W, (w.alloc (.cells #[.int .i64 (k : Int), .int .i64 (r : Int), .slice A n c] 26)).alloc (.cells #[.int .i64 0, .int .i64 0, .slice none 0 0] 26) = W := ⟨_, rfl⟩
  have hWs : W.heap.size = w.heap.size + 2 := by rw [← hW]; simp
  rw [hW] at hbW hr0 hr1
  have HR0 := Lib.hid hr0
  obtain ⟨a0, b0, c0, _⟩ := hr0.facts
  have HR1 := Lib.hid hr1
  obtain ⟨a1, b1, c1, _⟩ := hr1.facts
  have HW := Lib.hid hW
  have HWS := Lib.hid hWs
  have HBW := Lib.hid hbW
  have hck := formsCheck_c W E (hE.below HBW.out) 0 (k : Int) (r : Int) A n c (ints t) (hT.below HBW.out) (by omega)
  rw [checkF_rule 0 hr] at hck
  have HC1 := Lib.hid hck
  have HTT := Lib.hid (fun (wz : World) (hz : Below W.heap.size W wz) => hT.below (HBW.out.trans (hz.mono HBW.out.size)))
  have HEE := Lib.hid (fun (wz : World) (hz : Below W.heap.size W wz) => hE.below (HBW.out.trans (hz.mono HBW.out.size)))
  have HRU := Lib.hid hr
  have hr3 := hr.r3
  have HAL := Lib.hid (show ∀ ad, A = some ad → ad.block < w.heap.size from fun ad e => by
    obtain ⟨ad', u, e', _, hc⟩ := hT.at_ (show 0 < n by rw [← hn]; exact hr.pos)
    have h1 := World.block_lt_of_cell? _ _ hc
    rw [block_of_add] at h1
    rw [e] at e'
    cases e'
    exact h1)
  clear hr0 hr1 hW hWs hbW hT hck hn hr
  unfold ruleV at *
  go_enter Tryz.func24, Tryz.ntmps24
  go_wp2_with fail
  rw [HW.out]
  refine (HC1.out).mono ?_
  rintro e w1 ⟨v1, rfl, he1, hb1⟩
  have he1' : v1 = .nilIface := he1
  clear he1
  subst he1'
  obtain ⟨a0, b0, c0, _⟩ := (HR0.out.below hb1 HR0.out.lt).facts
  have HWR := Lib.hid (formsWrong_c w1 E (HEE.out w1 hb1) 0 3 (by decide) (by decide))
  go_wp2_with fail
  refine (HWR.out).mono ?_
  rintro e w2 ⟨rfl, he2, hb2'⟩
  have hb2 := pure_trans hb1 hb2'
  unfold errV at *
  clear hb2'
  have hrx := HR1.out.below hb2 HR1.out.lt
  obtain ⟨hRA, hRS⟩ := res_err (tl := (3, [(sForms, 0)])) hrx he2 (HBW.out.trans (hb2.mono HBW.out.size)) (show w.heap.size ≤ w.heap.size + 1 by omega)
  have HRA := Lib.hid hRA
  have HRS := Lib.hid hRS
  obtain ⟨d0, d1, d2, f0, f1, f2⟩ := hrx.facts
  clear hRA hRS hrx he2
  go_wp2_with fail
  obtain ⟨d0, d1, d2, _⟩ := HRA.out.facts
  exact bodyPost_ret (v := .tuple #[.agg #[.int .i64 0, .int .i64 0, .slice none 0 0], .iface 95 (.pointer (some ⟨w1.heap.size, 0, none⟩))]) (by simp [results, Tryz.results24, go_sem, d0, d1, d2]) rfl HRS.out
set_option maxRecDepth 100000 in
set_option maxHeartbeats 2000000 in
theorem power_big (w : World) (E : Nat → Addr) (hE : Errs w E) (k r : Nat) (A : Option Addr) (n c : Nat) (t : List Nat) (hr : IsRule k r t) (hT : Sl w A n ((ints t).map (Value.int .i64))) (q m : Nat) (hr1 : 0 < r) (hm : 3 / r = m) (hq : m < q) :
    Calls Tryz.prog 24 #[ruleV k r A n c, .int .i64 (q : Int)] w (RuleRes w E 0 0 [] (some (4, [(sForms, 0)]))) := by
  have hn : t.length = n := by simpa [ints] using hT.1
  have hn16 := hr.le
  rw [hn] at hn16
  have hbW := (((Below.refl w.heap.size w).alloc (Nat.le_refl _) (.cells #[.int .i64 (k : Int), .int .i64 (r : Int), .slice A n c] 26)).alloc (by simp) (.cells #[.int .i64 0, .int .i64 0, .slice none 0 0] 26))
  have hr0 := ((RuleAt.new (w) (.int .i64 (k : Int)) (.int .i64 (r : Int)) (.slice A n c)).alloc (.cells #[.int .i64 0, .int .i64 0, .slice none 0 0] 26))
  have hr1 := (RuleAt.new (w.alloc (.cells #[.int .i64 (k : Int), .int .i64 (r : Int), .slice A n c] 26)) (.int .i64 0) (.int .i64 0) (.slice none 0 0))
  simp only [World.size_alloc] at hr1
  obtain ⟨W, hW⟩ : ∃ W, (w.alloc (.cells #[.int .i64 (k : Int), .int .i64 (r : Int), .slice A n c] 26)).alloc (.cells #[.int .i64 0, .int .i64 0, .slice none 0 0] 26) = W := ⟨_, rfl⟩
  have hWs : W.heap.size = w.heap.size + 2 := by rw [← hW]; simp
  rw [hW] at hbW hr0 hr1
  have HR0 := Lib.hid hr0
  obtain ⟨a0, b0, c0, _⟩ := hr0.facts
  have HR1 := Lib.hid hr1
  obtain ⟨a1, b1, c1, _⟩ := hr1.facts
  have HW := Lib.hid hW
  have HWS := Lib.hid hWs
  have HBW := Lib.hid hbW
  have hck := formsCheck_c W E (hE.below HBW.out) 0 (k : Int) (r : Int) A n c (ints t) (hT.below HBW.out) (by omega)
  rw [checkF_rule 0 hr] at hck
  have HC1 := Lib.hid hck
  have HTT := Lib.hid (fun (wz : World) (hz : Below W.heap.size W wz) => hT.below (HBW.out.trans (hz.mono HBW.out.size)))
  have HEE := Lib.hid (fun (wz : World) (hz : Below W.heap.size W wz) => hE.below (HBW.out.trans (hz.mono HBW.out.size)))
  have HRU := Lib.hid hr
  have hr3 := hr.r3
  have HAL := Lib.hid (show ∀ ad, A = some ad → ad.block < w.heap.size from fun ad e => by
    obtain ⟨ad', u, e', _, hc⟩ := hT.at_ (show 0 < n by rw [← hn]; exact hr.pos)
    have h1 := World.block_lt_of_cell? _ _ hc
    rw [block_of_add] at h1
    rw [e] at e'
    cases e'
    exact h1)
  have hm3 : m ≤ 3 := by rw [← hm]; exact Nat.div_le_self _ _
  have hdv : (3 : Int) / (r : Int) = (m : Int) := by rw [← hm]; simp
  have hrp : (0 : Int) < (r : Int) := by omega
  have hr0' : ¬ ((r : Int) = 0) := by omega
  have hqm : (m : Int) < (q : Int) := by omega
  clear hm hq
  clear hr0 hr1 hW hWs hbW hT hck hn hr
  unfold ruleV at *
  go_enter Tryz.func24, Tryz.ntmps24
  go_wp2_with fail
  rw [HW.out]
  refine (HC1.out).mono ?_
  rintro e w1 ⟨v1, rfl, he1, hb1⟩
  have he1' : v1 = .nilIface := he1
  clear he1
  subst he1'
  obtain ⟨a0, b0, c0, _⟩ := (HR0.out.below hb1 HR0.out.lt).facts
  have HWR := Lib.hid (formsWrong_c w1 E (HEE.out w1 hb1) 0 4 (by decide) (by decide))
  go_wp2_with fail
  refine (HWR.out).mono ?_
  rintro e w2 ⟨rfl, he2, hb2'⟩
  have hb2 := pure_trans hb1 hb2'
  unfold errV at *
  clear hb2'
  have hrx := HR1.out.below hb2 HR1.out.lt
  obtain ⟨hRA, hRS⟩ := res_err (tl := (4, [(sForms, 0)])) hrx he2 (HBW.out.trans (hb2.mono HBW.out.size)) (show w.heap.size ≤ w.heap.size + 1 by omega)
  have HRA := Lib.hid hRA
  have HRS := Lib.hid hRS
  obtain ⟨d0, d1, d2, f0, f1, f2⟩ := hrx.facts
  clear hRA hRS hrx he2
  go_wp2_with fail
  obtain ⟨d0, d1, d2, _⟩ := HRA.out.facts
  exact bodyPost_ret (v := .tuple #[.agg #[.int .i64 0, .int .i64 0, .slice none 0 0], .iface 95 (.pointer (some ⟨w1.heap.size, 0, none⟩))]) (by simp [results, Tryz.results24, go_sem, d0, d1, d2]) rfl HRS.out
set_option maxRecDepth 100000 in
set_option maxHeartbeats 2000000 in
theorem power_pos (w : World) (E : Nat → Addr) (hE : Errs w E) (k r : Nat) (A : Option Addr) (n c : Nat) (t : List Nat) (hr : IsRule k r t) (hT : Sl w A n ((ints t).map (Value.int .i64))) (q m : Nat) (hr1 : 0 < r) (hm : 3 / r = m) (hq : q ≤ m) :
    Calls Tryz.prog 24 #[ruleV k r A n c, .int .i64 (q : Int)] w (RuleRes w E k ((q * r : Nat) : Int) (ints (pw k r t q)) none) := by
  have hn : t.length = n := by simpa [ints] using hT.1
  have hn16 := hr.le
  rw [hn] at hn16
  have hbW := (((Below.refl w.heap.size w).alloc (Nat.le_refl _) (.cells #[.int .i64 (k : Int), .int .i64 (r : Int), .slice A n c] 26)).alloc (by simp) (.cells #[.int .i64 0, .int .i64 0, .slice none 0 0] 26))
  have hr0 := ((RuleAt.new (w) (.int .i64 (k : Int)) (.int .i64 (r : Int)) (.slice A n c)).alloc (.cells #[.int .i64 0, .int .i64 0, .slice none 0 0] 26))
  have hr1 := (RuleAt.new (w.alloc (.cells #[.int .i64 (k : Int), .int .i64 (r : Int), .slice A n c] 26)) (.int .i64 0) (.int .i64 0) (.slice none 0 0))
  simp only [World.size_alloc] at hr1
  obtain ⟨W, hW⟩ : ∃ W, (w.alloc (.cells #[.int .i64 (k : Int), .int .i64 (r : Int), .slice A n c] 26)).alloc (.cells #[.int .i64 0, .int .i64 0, .slice none 0 0] 26) = W := ⟨_, rfl⟩
  have hWs : W.heap.size = w.heap.size + 2 := by rw [← hW]; simp
  rw [hW] at hbW hr0 hr1
  have HR0 := Lib.hid hr0
  obtain ⟨a0, b0, c0, _⟩ := hr0.facts
  have HR1 := Lib.hid hr1
  obtain ⟨a1, b1, c1, _⟩ := hr1.facts
  have HW := Lib.hid hW
  have HWS := Lib.hid hWs
  have HBW := Lib.hid hbW
  have hck := formsCheck_c W E (hE.below HBW.out) 0 (k : Int) (r : Int) A n c (ints t) (hT.below HBW.out) (by omega)
  rw [checkF_rule 0 hr] at hck
  have HC1 := Lib.hid hck
  have HTT := Lib.hid (fun (wz : World) (hz : Below W.heap.size W wz) => hT.below (HBW.out.trans (hz.mono HBW.out.size)))
  have HEE := Lib.hid (fun (wz : World) (hz : Below W.heap.size W wz) => hE.below (HBW.out.trans (hz.mono HBW.out.size)))
  have HRU := Lib.hid hr
  have hr3 := hr.r3
  have HAL := Lib.hid (show ∀ ad, A = some ad → ad.block < w.heap.size from fun ad e => by
    obtain ⟨ad', u, e', _, hc⟩ := hT.at_ (show 0 < n by rw [← hn]; exact hr.pos)
    have h1 := World.block_lt_of_cell? _ _ hc
    rw [block_of_add] at h1
    rw [e] at e'
    cases e'
    exact h1)
  have hm3 : m ≤ 3 := by rw [← hm]; exact Nat.div_le_self _ _
  have hdv : (3 : Int) / (r : Int) = (m : Int) := by rw [← hm]; simp
  have hrp : (0 : Int) < (r : Int) := by omega
  have hr0' : ¬ ((r : Int) = 0) := by omega
  have hqm : ¬ (m : Int) < (q : Int) := by omega
  have hqr : q * r ≤ 3 := Nat.le_trans (Nat.mul_le_mul_right r hq) (by rw [← hm]; exact Nat.div_mul_le_self 3 r)
  have HQR := Lib.hid hqr
  obtain ⟨Z, hZ⟩ : ∃ Z, q * r = Z := ⟨_, rfl⟩
  have HZ := Lib.hid hZ
  rw [hZ]
  clear hm hq hqr hZ
  clear hr0 hr1 hW hWs hbW hT hck hn hr
  unfold ruleV at *
  go_enter Tryz.func24, Tryz.ntmps24
  go_wp2_with fail
  rw [HW.out]
  refine (HC1.out).mono ?_
  rintro e w1 ⟨v1, rfl, he1, hb1⟩
  have he1' : v1 = .nilIface := he1
  clear he1
  subst he1'
  obtain ⟨a0, b0, c0, _⟩ := (HR0.out.below hb1 HR0.out.lt).facts
  have hmd := made0_c w1 k 0 63 (fun v => v.getD 0 0) HRU.out.k1 HRU.out.k4 (by decide)
    (fun v wz => run_enter Tryz.func63 (by kernel_rfl) (by kernel_rfl) _ _)
    (fun wz hz g v hl hs hV => power1_c wz g (2 * 0 + 1) v (by decide) hV)
  rw [show (tab k (2 * 0 + 1) fun v => v.getD 0 0) = idT k from rfl] at hmd
  simp only [Nat.mul_zero, Nat.zero_add, Nat.pow_one] at hmd
  unfold ruleV at hmd
  have HMD := Lib.hid hmd
  clear hmd
  go_wp2_with fail
  refine (HMD.out).mono ?_
  rintro e w2 ⟨g, rfl, hT2, hb2'⟩
  have hb2 := pure_trans hb1 hb2'
  have hx2 := HR0.out.below hb2 HR0.out.lt
  have hy2 := HR1.out.below hb2 HR1.out.lt
  have hl2 : w.heap.size + 1 < w2.heap.size := hy2.lt
  have l0 : w.heap.size < w2.heap.size := hx2.lt
  obtain ⟨a0, b0, c0, _⟩ := hx2.facts
  have b3 := (Below.refl w2.heap.size w2).alloc (Nat.le_refl _) (.cells #[.int .i64 (k : Int), .int .i64 0, .slice (some ⟨g, 0, none⟩) k k] 26)
  have ho3 := RuleAt.new w2 (.int .i64 (k : Int)) (.int .i64 0) (.slice (some ⟨g, 0, none⟩) k k)
  have hx3 := hx2.alloc (.cells #[.int .i64 (k : Int), .int .i64 0, .slice (some ⟨g, 0, none⟩) k k] 26)
  have hy3 := hy2.alloc (.cells #[.int .i64 (k : Int), .int .i64 0, .slice (some ⟨g, 0, none⟩) k k] 26)
  have ht3 := (own_base hT2 (Nat.le_trans HBW.out.size hb1.size)).alloc (.cells #[.int .i64 (k : Int), .int .i64 0, .slice (some ⟨g, 0, none⟩) k k] 26)
  have hb3 := pure_trans hb2 b3

  obtain ⟨w3, hw3⟩ : ∃ w3, w2.alloc (.cells #[.int .i64 (k : Int), .int .i64 0, .slice (some ⟨g, 0, none⟩) k k] 26) = w3 := ⟨_, rfl⟩
  rw [hw3] at ho3 hx3 hy3 ht3 hb3
  have HW3 := Lib.hid hw3
  obtain ⟨go, hgo⟩ : ∃ go, w2.heap.size = go := ⟨_, rfl⟩
  rw [hgo] at ho3 hl2
  have HGO := Lib.hid hgo
  have HT3 := Lib.hid ht3
  have HO3 := Lib.hid ho3
  have HX3 := Lib.hid hx3
  have HY3 := Lib.hid hy3
  have HB3 := Lib.hid (HBW.out.trans (hb3.mono HBW.out.size))
  have HS3 := Lib.hid ((HTT.out _ hb3))
  have HEW := Lib.hid (fun (wz : World) (hz : Below w.heap.size w wz) => hE.below hz)
  have HFAR := Lib.hid (show ∀ ad, A = some ad → ¬ (fun b => b = go) ad.block from fun ad e h => by
    have h1 := HAL.out ad e
    have h2 : ad.block = go := h
    omega)
  clear hw3 hgo ht3 ho3 hx3 hy3 hb3 b3 hT2 hE hb2 hb2' hx2 hy2
  go_wp2_with fail
  rw [HW3.out, HGO.out]
  clear l0 a0 b0 c0
  go_loopw [40] (fun iv wl => ∃ (j ρ g N : Nat), j ≤ q ∧ iv = .int .i64 (j : Int) ∧ Hid (j * r = ρ) ∧ ρ ≤ 3 ∧ Hid (RuleAt wl go (.int .i64 (k : Int)) (.int .i64 (ρ : Int)) (.slice (some ⟨g, 0, none⟩) N N)) ∧ Hid (wl.ownsRow w.heap.size 3 1 (.slice (some ⟨g, 0, none⟩) N N) N ((ints (pw k r t j)).map (Value.int .i64))) ∧
    Hid (RuleAt wl w.heap.size (.int .i64 (k : Int)) (.int .i64 (r : Int)) (.slice A n c)) ∧ Hid (RuleAt wl (w.heap.size + 1) (.int .i64 0) (.int .i64 0) (.slice none 0 0)) ∧ Hid (Below w.heap.size w wl) ∧ Hid (Sl wl A n ((ints t).map (Value.int .i64)))) (fun iv _ => q - (intOf iv).toNat)
  case atStart => exact ⟨0, 0, g, k, Nat.zero_le _, rfl, Lib.hid (by simp), by decide, HO3, HT3, HX3, HY3, HB3, HS3⟩
  case round =>
    clear HO3 HT3 HX3 HY3 HB3 HS3
    obtain ⟨j, ρ, g', N', hj, rfl, hρ, hρ3, hO, hT, hX, hY, hB, hS⟩ := hrel
    obtain ⟨o0, o1, o2, p0, p1, p2⟩ := hO.out.facts
    by_cases hlt : j < q
    · have hj' : (j : Int) < (q : Int) := by omega
      obtain ⟨x0, x1, x2, _⟩ := hX.out.facts
      have hq1 : r + ρ ≤ 3 := by
        have h1 : (j + 1) * r ≤ q * r := Nat.mul_le_mul_right r hlt
        rw [Nat.add_mul, Nat.one_mul] at h1
        have := HQR.out
        have := hρ.out
        omega
      have hpr : IsRule k ρ (pw k r t j) := by
        have := pw_rule (n := j) HRU.out (by rw [hρ.out]; exact hρ3)
        rwa [hρ.out] at this
      have hbh := behindF_c wr E (HEW.out wr hB.out) k r ρ (r + ρ) rfl A (some ⟨g', 0, none⟩) n c N' N' t (pw k r t j) HRU.out hpr hq1 hS.out (Sl.of_own hT.out)
      have hcp : comp k r t ρ (pw k r t j) = pw k r t (j + 1) := by rw [pw, hρ.out]
      rw [hcp] at hbh
      obtain ⟨σ, hσ⟩ : ∃ σ, r + ρ = σ := ⟨_, rfl⟩
      rw [hσ] at hbh hq1
      have hσ2 : Hid ((j + 1) * r = σ) := Lib.hid (by rw [Nat.add_mul, Nat.one_mul, hρ.out]; omega)
      unfold ruleV at hbh
      have HBH := Lib.hid hbh
      have hgol := hO.out.lt
      clear hbh hcp hσ hpr hρ
      go_wp2_with fail
      refine (HBH.out).mono ?_
      rintro e w5 ⟨g5, N5, rfl, hT5, hb5⟩
      have ho5 := hO.out.below hb5 hO.out.lt
      obtain ⟨o0, o1, o2, p0, p1, p2⟩ := ho5.facts
      have HO6 := Lib.hid (ho5.set3 (.int .i64 (k : Int)) (.int .i64 (σ : Int)) (.slice (some ⟨g5, 0, none⟩) N5 N5))
      have HT6 := Lib.hid (own_set3 (own_base hT5 hB.out.size) ho5 (by decide) (.int .i64 (k : Int)) (.int .i64 (σ : Int)) (.slice (some ⟨g5, 0, none⟩) N5 N5))
      have HX6 := Lib.hid ((hX.out.below hb5 hX.out.lt).set3_at (show w.heap.size ≠ go by omega) (.int .i64 (k : Int)) (.int .i64 (σ : Int)) (.slice (some ⟨g5, 0, none⟩) N5 N5))
      have HY6 := Lib.hid ((hY.out.below hb5 hY.out.lt).set3_at (show w.heap.size + 1 ≠ go by omega) (.int .i64 (k : Int)) (.int .i64 (σ : Int)) (.slice (some ⟨g5, 0, none⟩) N5 N5))
      have HB6 := Lib.hid (below_set3 (hB.out.trans (hb5.mono hB.out.size)) (show w.heap.size ≤ go by omega) (.int .i64 (k : Int)) (.int .i64 (σ : Int)) (.slice (some ⟨g5, 0, none⟩) N5 N5))
      have HS6 := Lib.hid ((hS.out.below hb5).keeps (keeps_set3 w5 go (.int .i64 (k : Int)) (.int .i64 (σ : Int)) (.slice (some ⟨g5, 0, none⟩) N5 N5)) (fun ad e h => HFAR.out ad e h))
      unfold ruleV at *
      clear ho5 hT5 hb5 hO hT hX hY hB hS x0 x1 x2
      go_wp2_with fail
      exact ⟨⟨j + 1, σ, g5, N5, by omega, by go_num, hσ2, by omega, HO6, HT6, HX6, HY6, HB6, HS6⟩, by simp [intOf]; omega⟩
    · have hj' : ¬ (j : Int) < (q : Int) := by omega
      have hjq : j = q := by omega
      have hρZ : ρ = Z := by rw [← hρ.out, ← HZ.out, hjq]
      obtain ⟨hRA, hRS⟩ := res_new (E := E) (K := (k : Int)) (R := (ρ : Int)) hY.out hT.out hB.out (show w.heap.size ≤ w.heap.size + 1 by omega) (Nat.le_refl _)
      obtain ⟨d0, d1, d2, f0, f1, f2⟩ := hY.out.facts
      rw [hjq, hρZ] at hRS
      rw [hρZ] at hRA o1
      have HRA := Lib.hid hRA
      have HRS := Lib.hid hRS
      clear hRA hRS hjq hρZ hρ hO hT hX hY hB hS
      go_wp2_with fail
      obtain ⟨d0, d1, d2, _⟩ := HRA.out.facts
      exact bodyPost_ret (v := .tuple #[.agg #[.int .i64 (k : Int), .int .i64 (Z : Int), .slice (some ⟨g', 0, none⟩) N' N'], .nilIface]) (by simp [results, Tryz.results24, go_sem, d0, d1, d2]) rfl HRS.out

theorem pow_odd {e s m τ q : Nat} (h : e + s * τ = q) (ht : τ = 2 * m + 1) : (s + e) + (s + s) * m = q := by
  rw [ht, Nat.mul_add, Nat.mul_one] at h
  have h2 : s * (2 * m) = s * m + s * m := by rw [Nat.two_mul, Nat.mul_add]
  rw [Nat.add_mul]
  omega
theorem pow_even {e s m τ q : Nat} (h : e + s * τ = q) (ht : τ = 2 * m) : e + (s + s) * m = q := by
  rw [ht] at h
  have h2 : s * (2 * m) = s * m + s * m := by rw [Nat.two_mul, Nat.mul_add]
  rw [Nat.add_mul]
  omega
/-- The table reads from memory, and lies in no block that holds a rule. -/
def TabAt (w0 w : World) (A : Option Addr) (n : Nat) (xs : List Nat) : Prop := Sl w A n ((ints xs).map (Value.int .i64)) ∧ ∀ ad, A = some ad → ad.block < w0.heap.size ∨ ∃ cs, w.heap[ad.block]? = some (.cells cs 3 (0, 0))
theorem TabAt.keeps {w0 w w' : World} {A : Option Addr} {n : Nat} {xs : List Nat} {O : Nat → Prop} (h : TabAt w0 w A n xs) (hk : Keeps O w w') (h1 : ∀ b, O b → w0.heap.size ≤ b) (h2 : ∀ b cs, O b → w.heap[b]? ≠ some (.cells cs 3 (0, 0))) (hs : w0.heap.size ≤ w.heap.size) : TabAt w0 w' A n xs := by
  have hno : ∀ ad, A = some ad → ¬ O ad.block := fun ad e hO => by
    rcases h.2 ad e with h3 | ⟨cs, h3⟩
    · have := h1 _ hO; omega
    · exact h2 _ cs hO h3
  refine ⟨h.1.keeps hk hno, fun ad e => ?_⟩
  rcases h.2 ad e with h3 | ⟨cs, h3⟩
  · exact .inl h3
  · exact .inr ⟨cs, (hk.block _ (Array.getElem?_eq_some_iff.1 h3).1 (hno ad e)).trans h3⟩
theorem TabAt.pure {w0 w w' : World} {A : Option Addr} {n : Nat} {xs : List Nat} (h : TabAt w0 w A n xs) (hb : Below w.heap.size w w') (hs : w0.heap.size ≤ w.heap.size) : TabAt w0 w' A n xs :=
  h.keeps (Keeps.of_pure hb (fun _ => False)) (fun _ hf => hf.elim) (fun _ _ hf => hf.elim) hs
theorem TabAt.set3 {w0 w : World} {A : Option Addr} {n g : Nat} {xs : List Nat} {x0 x1 x2 : Value} (h : TabAt w0 w A n xs) (hr : RuleAt w g x0 x1 x2) (hg : w0.heap.size ≤ g) (hs : w0.heap.size ≤ w.heap.size) (u0 u1 u2 : Value) :
    TabAt w0 (((w.setCell ⟨g, 0, none⟩ u0).setCell ⟨g, 1, none⟩ u1).setCell ⟨g, 2, none⟩ u2) A n xs :=
  h.keeps (keeps_set3 w g u0 u1 u2) (fun b hb => by rw [show b = g from hb]; exact hg) (fun b cs hb e => by
    rw [show b = g from hb, show w.heap[g]? = _ from hr] at e
    injection e with e
    injection e with _ e
    exact absurd e (by decide)) hs
theorem TabAt.of_own {w0 w : World} {B g n c : Nat} {xs : List Nat} (h : w.ownsRow B 3 1 (.slice (some ⟨g, 0, none⟩) n c) n ((ints xs).map (Value.int .i64))) : TabAt w0 w (some ⟨g, 0, none⟩) n xs :=
  ⟨Sl.of_own h, fun ad e => by
    cases e
    rcases h.2 with ⟨h1, _⟩ | ⟨g1, cap, cur, h1, _, hh, _⟩
    · cases h1
    · injection h1 with h1 _ _
      injection h1 with h1
      injection h1 with h1
      exact .inr ⟨_, by rw [h1]; exact hh⟩⟩

set_option maxRecDepth 100000 in
set_option maxHeartbeats 2000000 in
theorem power_zero (w : World) (E : Nat → Addr) (hE : Errs w E) (k r : Nat) (A : Option Addr) (n c : Nat) (t : List Nat) (hr : IsRule k r t) (hT : Sl w A n ((ints t).map (Value.int .i64))) (hz : r = 0) (q : Nat) (hq : q ≤ 9223372036854775807) :
    Calls Tryz.prog 24 #[ruleV k r A n c, .int .i64 (q : Int)] w (RuleRes w E k 0 (ints (pw k 0 t q)) none) := by
  have hn : t.length = n := by simpa [ints] using hT.1
  have hn16 := hr.le
  rw [hn] at hn16
  have hbW := (((Below.refl w.heap.size w).alloc (Nat.le_refl _) (.cells #[.int .i64 (k : Int), .int .i64 (r : Int), .slice A n c] 26)).alloc (by simp) (.cells #[.int .i64 0, .int .i64 0, .slice none 0 0] 26))
  have hr0 := ((RuleAt.new (w) (.int .i64 (k : Int)) (.int .i64 (r : Int)) (.slice A n c)).alloc (.cells #[.int .i64 0, .int .i64 0, .slice none 0 0] 26))
  have hr1 := (RuleAt.new (w.alloc (.cells #[.int .i64 (k : Int), .int .i64 (r : Int), .slice A n c] 26)) (.int .i64 0) (.int .i64 0) (.slice none 0 0))
  simp only [World.size_alloc] at hr1
  obtain ⟨W, hW⟩ : ∃ W, (w.alloc (.cells #[.int .i64 (k : Int), .int .i64 (r : Int), .slice A n c] 26)).alloc (.cells #[.int .i64 0, .int .i64 0, .slice none 0 0] 26) = W := ⟨_, rfl⟩
  have hWs : W.heap.size = w.heap.size + 2 := by rw [← hW]; simp
  rw [hW] at hbW hr0 hr1
  have HR0 := Lib.hid hr0
  obtain ⟨a0, b0, c0, _⟩ := hr0.facts
  have HR1 := Lib.hid hr1
  obtain ⟨a1, b1, c1, _⟩ := hr1.facts
  have HW := Lib.hid hW
  have HWS := Lib.hid hWs
  have HBW := Lib.hid hbW
  have hck := formsCheck_c W E (hE.below HBW.out) 0 (k : Int) (r : Int) A n c (ints t) (hT.below HBW.out) (by omega)
  rw [checkF_rule 0 hr] at hck
  have HC1 := Lib.hid hck
  have HTT := Lib.hid (fun (wz : World) (hz : Below W.heap.size W wz) => hT.below (HBW.out.trans (hz.mono HBW.out.size)))
  have HEE := Lib.hid (fun (wz : World) (hz : Below W.heap.size W wz) => hE.below (HBW.out.trans (hz.mono HBW.out.size)))
  have HRU := Lib.hid hr
  have hr3 := hr.r3
  have HAL := Lib.hid (show ∀ ad, A = some ad → ad.block < w.heap.size from fun ad e => by
    obtain ⟨ad', u, e', _, hc⟩ := hT.at_ (show 0 < n by rw [← hn]; exact hr.pos)
    have h1 := World.block_lt_of_cell? _ _ hc
    rw [block_of_add] at h1
    rw [e] at e'
    cases e'
    exact h1)
  have hn0 : ¬ (0 : Int) < (r : Int) := by omega
  have HRZ := Lib.hid hz
  have HR0' := Lib.hid (show IsRule k 0 t by rw [← hz]; exact hr)
  clear hz
  clear hr0 hr1 hW hWs hbW hT hck hn hr
  unfold ruleV at *
  go_enter Tryz.func24, Tryz.ntmps24
  go_wp2_with fail
  rw [HW.out]
  refine (HC1.out).mono ?_
  rintro e w1 ⟨v1, rfl, he1, hb1⟩
  have he1' : v1 = .nilIface := he1
  clear he1
  subst he1'
  obtain ⟨a0, b0, c0, _⟩ := (HR0.out.below hb1 HR0.out.lt).facts
  have hmd := made0_c w1 k 0 63 (fun v => v.getD 0 0) HRU.out.k1 HRU.out.k4 (by decide)
    (fun v wz => run_enter Tryz.func63 (by kernel_rfl) (by kernel_rfl) _ _)
    (fun wz hz g v hl hs hV => power1_c wz g (2 * 0 + 1) v (by decide) hV)
  rw [show (tab k (2 * 0 + 1) fun v => v.getD 0 0) = idT k from rfl] at hmd
  simp only [Nat.mul_zero, Nat.zero_add, Nat.pow_one] at hmd
  unfold ruleV at hmd
  have HMD := Lib.hid hmd
  clear hmd
  go_wp2_with fail
  refine (HMD.out).mono ?_
  rintro e w2 ⟨g, rfl, hT2, hb2'⟩
  have hb2 := pure_trans hb1 hb2'
  have hx2 := HR0.out.below hb2 HR0.out.lt
  have hy2 := HR1.out.below hb2 HR1.out.lt
  have hl2 : w.heap.size + 1 < w2.heap.size := hy2.lt
  have l0 : w.heap.size < w2.heap.size := hx2.lt
  obtain ⟨a0, b0, c0, _⟩ := hx2.facts
  have b3 := (Below.refl w2.heap.size w2).alloc (Nat.le_refl _) (.cells #[.int .i64 (k : Int), .int .i64 0, .slice (some ⟨g, 0, none⟩) k k] 26)
  have ho3 := RuleAt.new w2 (.int .i64 (k : Int)) (.int .i64 0) (.slice (some ⟨g, 0, none⟩) k k)
  have hx3 := hx2.alloc (.cells #[.int .i64 (k : Int), .int .i64 0, .slice (some ⟨g, 0, none⟩) k k] 26)
  have hy3 := hy2.alloc (.cells #[.int .i64 (k : Int), .int .i64 0, .slice (some ⟨g, 0, none⟩) k k] 26)
  have ht3 := (own_base hT2 (Nat.le_trans HBW.out.size hb1.size)).alloc (.cells #[.int .i64 (k : Int), .int .i64 0, .slice (some ⟨g, 0, none⟩) k k] 26)
  have hb3 := pure_trans hb2 b3

  obtain ⟨w3, hw3⟩ : ∃ w3, w2.alloc (.cells #[.int .i64 (k : Int), .int .i64 0, .slice (some ⟨g, 0, none⟩) k k] 26) = w3 := ⟨_, rfl⟩
  rw [hw3] at ho3 hx3 hy3 ht3 hb3
  have ht3r := HTT.out _ hb3
  have htab : TabAt w w3 A n t := ⟨ht3r, fun ad e => .inl (HAL.out ad e)⟩
  have hb3w := HBW.out.trans (hb3.mono HBW.out.size)
  have htab4 := htab.pure ((Below.refl w3.heap.size w3).alloc (Nat.le_refl _) (.cells #[.int .i64 (k : Int), .int .i64 (r : Int), .slice A n c] 26)) hb3w.size
  have hq4 := RuleAt.new w3 (.int .i64 (k : Int)) (.int .i64 (r : Int)) (.slice A n c)
  have ho4 := ho3.alloc (.cells #[.int .i64 (k : Int), .int .i64 (r : Int), .slice A n c] 26)
  have hy4 := hy3.alloc (.cells #[.int .i64 (k : Int), .int .i64 (r : Int), .slice A n c] 26)
  have ht4 := ht3.alloc (.cells #[.int .i64 (k : Int), .int .i64 (r : Int), .slice A n c] 26)
  have hb4 := hb3w.alloc hb3w.size (.cells #[.int .i64 (k : Int), .int .i64 (r : Int), .slice A n c] 26)
  have hz3 : w3.heap.size = w2.heap.size + 1 := by rw [← hw3]; simp
  obtain ⟨w4, hw4⟩ : ∃ w4, w3.alloc (.cells #[.int .i64 (k : Int), .int .i64 (r : Int), .slice A n c] 26) = w4 := ⟨_, rfl⟩
  rw [hw4] at htab4 hq4 ho4 hy4 ht4 hb4
  rw [← hw3] at hw4
  rw [hz3] at hq4
  have HW4 := Lib.hid hw4
  obtain ⟨gq, hgq⟩ : ∃ gq, w2.heap.size + 1 = gq := ⟨_, rfl⟩
  obtain ⟨go, hgo⟩ : ∃ go, w2.heap.size = go := ⟨_, rfl⟩
  rw [hgq] at hq4
  rw [hgo] at ho4 hl2
  have hgqo : go < gq := by omega
  have HGO := Lib.hid hgo
  have HGQ := Lib.hid hgq
  have HT3 := Lib.hid ht4
  have HO3 := Lib.hid ho4
  have HQ3 := Lib.hid hq4
  have HY3 := Lib.hid hy4
  have HB3 := Lib.hid hb4
  have HTB3 := Lib.hid htab4
  have HPR := Lib.hid (show ∀ n, IsRule k 0 (pw k 0 t n) from fun n => by have h := pw_rule (n := n) HR0'.out (by omega); rwa [Nat.mul_zero] at h)
  have HPW1 := Lib.hid (show pw k 0 t 1 = t by rw [pw, Nat.mul_zero]; exact comp_id HR0'.out)
  have HEW := Lib.hid (fun (wz : World) (hz : Below w.heap.size w wz) => hE.below hz)
  clear hw3 hw4 hgo hgq ht3 ho3 hx3 hy3 hb3 b3 hT2 hE ht3r htab hb3w htab4 hq4 ho4 hy4 ht4 hb4 hz3 hb2 hb2' hx2 hy2
  go_wp2_with fail
  rw [HW4.out, HGQ.out, HGO.out]
  clear l0 a0 b0 c0
  go_loopw [1, 8] (fun tv sv wl => ∃ (τ e s ρo ρs g N Ns cs gq : Nat) (As : Option Addr), τ ≤ q ∧ tv = .int .i64 (τ : Int) ∧ sv = .pointer (some ⟨gq, 0, none⟩) ∧ go < gq ∧ Hid (ρo = 0 ∧ ρs = 0 ∧ e + s * τ = q) ∧ Hid (RuleAt wl go (.int .i64 (k : Int)) (.int .i64 (ρo : Int)) (.slice (some ⟨g, 0, none⟩) N N)) ∧
    Hid (wl.ownsRow w.heap.size 3 1 (.slice (some ⟨g, 0, none⟩) N N) N ((ints (pw k 0 t e)).map (Value.int .i64))) ∧ Hid (RuleAt wl gq (.int .i64 (k : Int)) (.int .i64 (ρs : Int)) (.slice As Ns cs)) ∧ Hid (TabAt w wl As Ns (pw k 0 t s)) ∧
    Hid (RuleAt wl (w.heap.size + 1) (.int .i64 0) (.int .i64 0) (.slice none 0 0)) ∧ Hid (Below w.heap.size w wl)) (fun tv _ _ => (intOf tv).toNat)
  case atStart => exact ⟨q, 0, 1, 0, r, g, k, n, c, gq, A, Nat.le_refl _, rfl, rfl, hgqo, Lib.hid ⟨rfl, HRZ.out, by omega⟩, HO3, HT3, HQ3, Lib.hid (by rw [HPW1.out]; exact HTB3.out), HY3, HB3⟩
  case round =>
    clear HO3 HT3 HQ3 HY3 HB3 HTB3 hgqo
    obtain ⟨τ, e, s, ρo, ρs, g', N', Ns, cs, gq', As, hτ, rfl, rfl, hgg, hE3, hO, hT, hQ, hTS, hY, hB⟩ := hrel
    by_cases hpos : 0 < τ
    · obtain ⟨m, hmm⟩ : ∃ m, τ / 2 = m := ⟨_, rfl⟩
      have hps : IsRule k ρs (pw k 0 t s) := by rw [hE3.out.2.1]; exact HPR.out s
      have hpe : IsRule k ρo (pw k 0 t e) := by rw [hE3.out.1]; exact HPR.out e
      have hp' : (0 : Int) < (τ : Int) := by omega
      have hdv : (τ : Int) / 2 = (m : Int) := by omega
      have hyl0 := hY.out.lt
      have hol0 := hO.out.lt
      have hql0 := hQ.out.lt
      by_cases hodd : τ % 2 = 1
      · have hmd : (τ : Int) % 2 = 1 := by omega
        have hτm : τ = 2 * m + 1 := by omega
        have hbh := behindF_c wr E (HEW.out wr hB.out) k ρs ρo (ρs + ρo) rfl As (some ⟨g', 0, none⟩) Ns cs N' N' (pw k 0 t s) (pw k 0 t e) hps hpe (by have := hE3.out.2.1; have := hE3.out.1; omega) hTS.out.1 (Sl.of_own hT.out)
        have hcp : comp k ρs (pw k 0 t s) ρo (pw k 0 t e) = pw k 0 t (s + e) := by rw [hE3.out.2.1, hE3.out.1]; exact (pw_add HR0'.out e s).symm
        rw [hcp] at hbh
        obtain ⟨σo, hσo⟩ : ∃ σ, ρs + ρo = σ := ⟨_, rfl⟩
        rw [hσo] at hbh
        have HSO := Lib.hid (show σo = 0 by have := hE3.out.2.1; have := hE3.out.1; omega)
        unfold ruleV at hbh
        have HBH := Lib.hid hbh
        obtain ⟨y0, y1, y2, _⟩ := hQ.out.facts
        obtain ⟨o0, o1, o2, p0, p1, p2⟩ := hO.out.facts
        have HTM := Lib.hid hτm
        clear hbh hcp hσo hodd hτm hmm
        go_wp2_with fail
        refine (HBH.out).mono ?_
        rintro e1 w5 ⟨g5, N5, rfl, hT5, hb5⟩
        have o5 := hO.out.below hb5 hol0
        have hQ5 := hQ.out.below hb5 hql0
        obtain ⟨o0, o1, o2, p0, p1, p2⟩ := o5.facts
        have hO6 := o5.set3 (.int .i64 (k : Int)) (.int .i64 (σo : Int)) (.slice (some ⟨g5, 0, none⟩) N5 N5)
        have hT6 := own_set3 (own_base hT5 hB.out.size) o5 (by decide) (.int .i64 (k : Int)) (.int .i64 (σo : Int)) (.slice (some ⟨g5, 0, none⟩) N5 N5)
        have hQ6 := hQ5.set3_at (show gq' ≠ go by omega) (.int .i64 (k : Int)) (.int .i64 (σo : Int)) (.slice (some ⟨g5, 0, none⟩) N5 N5)
        have hY6 := (hY.out.below hb5 hyl0).set3_at (show w.heap.size + 1 ≠ go by omega) (.int .i64 (k : Int)) (.int .i64 (σo : Int)) (.slice (some ⟨g5, 0, none⟩) N5 N5)
        have hb5w := hB.out.trans (hb5.mono hB.out.size)
        have hTS6 := (hTS.out.pure hb5 hB.out.size).set3 o5 (show w.heap.size ≤ go by omega) hb5w.size (.int .i64 (k : Int)) (.int .i64 (σo : Int)) (.slice (some ⟨g5, 0, none⟩) N5 N5)
        have hb6 := below_set3 hb5w (show w.heap.size ≤ go by omega) (.int .i64 (k : Int)) (.int .i64 (σo : Int)) (.slice (some ⟨g5, 0, none⟩) N5 N5)
        clear o5 hQ5 hT5 hb5 hb5w y0 y1 y2
        have hτm := HTM.out
        have hb6s := hb6.size
        have hq7 := RuleAt.new (((w5.setCell ⟨go, 0, none⟩ (.int .i64 (k : Int))).setCell ⟨go, 1, none⟩ (.int .i64 (σo : Int))).setCell ⟨go, 2, none⟩ (.slice (some ⟨g5, 0, none⟩) N5 N5)) (.int .i64 (k : Int)) (.int .i64 (ρs : Int)) (.slice As Ns cs)
        have hs6 : (((w5.setCell ⟨go, 0, none⟩ (.int .i64 (k : Int))).setCell ⟨go, 1, none⟩ (.int .i64 (σo : Int))).setCell ⟨go, 2, none⟩ (.slice (some ⟨g5, 0, none⟩) N5 N5)).heap.size = w5.heap.size := by simp
        rw [hs6] at hq7
        have hTS7 := hTS6.pure ((Below.refl _ _).alloc (Nat.le_refl _) (.cells #[.int .i64 (k : Int), .int .i64 (ρs : Int), .slice As Ns cs] 26)) hb6s
        have hO7 := hO6.alloc (.cells #[.int .i64 (k : Int), .int .i64 (ρs : Int), .slice As Ns cs] 26)
        have hY7 := hY6.alloc (.cells #[.int .i64 (k : Int), .int .i64 (ρs : Int), .slice As Ns cs] 26)
        have hT7 := hT6.alloc (.cells #[.int .i64 (k : Int), .int .i64 (ρs : Int), .slice As Ns cs] 26)
        have hb7 := hb6.alloc hb6s (.cells #[.int .i64 (k : Int), .int .i64 (ρs : Int), .slice As Ns cs] 26)
        have hbh2 := behindF_c _ E (HEW.out _ hb7) k ρs ρs (ρs + ρs) rfl As As Ns cs Ns cs (pw k 0 t s) (pw k 0 t s) hps hps (by have := hE3.out.2.1; omega) hTS7.1 hTS7.1
        have hcp2 : comp k ρs (pw k 0 t s) ρs (pw k 0 t s) = pw k 0 t (s + s) := by rw [hE3.out.2.1]; exact (pw_add HR0'.out s s).symm
        rw [hcp2] at hbh2
        obtain ⟨σs, hσs⟩ : ∃ σ, ρs + ρs = σ := ⟨_, rfl⟩
        rw [hσs] at hbh2
        have HS0 := Lib.hid (show σs = 0 by have := hE3.out.2.1; omega)
        unfold ruleV at hbh2
        have HBH2 := Lib.hid hbh2
        obtain ⟨z0, z1, z2, _⟩ := hQ6.facts
        have hgl := hO6.lt
        have hyl := hY6.lt
        rw [hs6] at hgl hyl
        have HQ7 := Lib.hid hq7
        have HO7 := Lib.hid hO7
        have HY7 := Lib.hid hY7
        have HT7 := Lib.hid hT7
        have HB7 := Lib.hid hb7
        clear hbh2 hcp2 hσs hq7 hTS7 hO7 hY7 hT7 hb7 hs6 hb6s
        have HTM2 := Lib.hid hτm
        clear hτm
        unfold ruleV
        go_wp2_with fail
        refine (HBH2.out).mono ?_
        rintro e' w8 ⟨g8, N8, rfl, hT8, hb8⟩
        have q8 := HQ7.out.below hb8 HQ7.out.lt
        obtain ⟨k0, k1, k2, k3, k4, k5⟩ := q8.facts
        have HQ9 := Lib.hid (q8.set3 (.int .i64 (k : Int)) (.int .i64 (σs : Int)) (.slice (some ⟨g8, 0, none⟩) N8 N8))
        have HO9 := Lib.hid ((HO7.out.below hb8 HO7.out.lt).set3_at (show go ≠ w5.heap.size by omega) (.int .i64 (k : Int)) (.int .i64 (σs : Int)) (.slice (some ⟨g8, 0, none⟩) N8 N8))
        have HY9 := Lib.hid ((HY7.out.below hb8 HY7.out.lt).set3_at (show w.heap.size + 1 ≠ w5.heap.size by omega) (.int .i64 (k : Int)) (.int .i64 (σs : Int)) (.slice (some ⟨g8, 0, none⟩) N8 N8))
        have HT9 := Lib.hid (own_set3 (own_below HT7.out hb8) q8 (by decide) (.int .i64 (k : Int)) (.int .i64 (σs : Int)) (.slice (some ⟨g8, 0, none⟩) N8 N8))
        have hb8w := HB7.out.trans (hb8.mono HB7.out.size)
        have HB9 := Lib.hid (below_set3 hb8w (show w.heap.size ≤ w5.heap.size by omega) (.int .i64 (k : Int)) (.int .i64 (σs : Int)) (.slice (some ⟨g8, 0, none⟩) N8 N8))
        have HTS9 := Lib.hid ((TabAt.of_own (w0 := w) hT8).set3 q8 (show w.heap.size ≤ w5.heap.size by omega) hb8w.size (.int .i64 (k : Int)) (.int .i64 (σs : Int)) (.slice (some ⟨g8, 0, none⟩) N8 N8))
        have HAR := Lib.hid (show σo = 0 ∧ σs = 0 ∧ (s + e) + (s + s) * m = q from ⟨HSO.out, HS0.out, pow_odd hE3.out.2.2 HTM2.out⟩)
        have HGL := Lib.hid (show go < w5.heap.size from hgl)
        unfold ruleV at *
        clear q8 hT8 hb8 hb8w hE3 hO hT hQ hTS hY hB hO6 hT6 hQ6 hTS6 hY6 hb6 z0 z1 z2
        go_wp2_with fail
        exact ⟨⟨m, s + e, s + s, σo, σs, g5, N5, N8, N8, w5.heap.size, some ⟨g8, 0, none⟩, (by have := HTM2.out; omega), rfl, rfl, HGL.out, HAR, HO9, HT9, HQ9, HTS9, HY9, HB9⟩, by have := HTM2.out; simp [intOf]; omega⟩
      · have hmd : (τ : Int) % 2 = 0 := by omega
        have hτm : τ = 2 * m := by omega
        have hO6 := hO.out
        have hT6 := hT.out
        have hQ6 := hQ.out
        have hY6 := hY.out
        have hTS6 := hTS.out
        have hb6 := hB.out
        have hb6s := hb6.size
        have hq7 := RuleAt.new (wr) (.int .i64 (k : Int)) (.int .i64 (ρs : Int)) (.slice As Ns cs)
        have hs6 : (wr).heap.size = wr.heap.size := by simp
        rw [hs6] at hq7
        have hTS7 := hTS6.pure ((Below.refl _ _).alloc (Nat.le_refl _) (.cells #[.int .i64 (k : Int), .int .i64 (ρs : Int), .slice As Ns cs] 26)) hb6s
        have hO7 := hO6.alloc (.cells #[.int .i64 (k : Int), .int .i64 (ρs : Int), .slice As Ns cs] 26)
        have hY7 := hY6.alloc (.cells #[.int .i64 (k : Int), .int .i64 (ρs : Int), .slice As Ns cs] 26)
        have hT7 := hT6.alloc (.cells #[.int .i64 (k : Int), .int .i64 (ρs : Int), .slice As Ns cs] 26)
        have hb7 := hb6.alloc hb6s (.cells #[.int .i64 (k : Int), .int .i64 (ρs : Int), .slice As Ns cs] 26)
        have hbh2 := behindF_c _ E (HEW.out _ hb7) k ρs ρs (ρs + ρs) rfl As As Ns cs Ns cs (pw k 0 t s) (pw k 0 t s) hps hps (by have := hE3.out.2.1; omega) hTS7.1 hTS7.1
        have hcp2 : comp k ρs (pw k 0 t s) ρs (pw k 0 t s) = pw k 0 t (s + s) := by rw [hE3.out.2.1]; exact (pw_add HR0'.out s s).symm
        rw [hcp2] at hbh2
        obtain ⟨σs, hσs⟩ : ∃ σ, ρs + ρs = σ := ⟨_, rfl⟩
        rw [hσs] at hbh2
        have HS0 := Lib.hid (show σs = 0 by have := hE3.out.2.1; omega)
        unfold ruleV at hbh2
        have HBH2 := Lib.hid hbh2
        obtain ⟨z0, z1, z2, _⟩ := hQ6.facts
        have hgl := hO6.lt
        have hyl := hY6.lt
        rw [hs6] at hgl hyl
        have HQ7 := Lib.hid hq7
        have HO7 := Lib.hid hO7
        have HY7 := Lib.hid hY7
        have HT7 := Lib.hid hT7
        have HB7 := Lib.hid hb7
        clear hbh2 hcp2 hσs hq7 hTS7 hO7 hY7 hT7 hb7 hs6 hb6s
        have HTM2 := Lib.hid hτm
        clear hτm hodd hmm
        go_wp2_with fail
        refine (HBH2.out).mono ?_
        rintro e' w8 ⟨g8, N8, rfl, hT8, hb8⟩
        have q8 := HQ7.out.below hb8 HQ7.out.lt
        obtain ⟨k0, k1, k2, k3, k4, k5⟩ := q8.facts
        have HQ9 := Lib.hid (q8.set3 (.int .i64 (k : Int)) (.int .i64 (σs : Int)) (.slice (some ⟨g8, 0, none⟩) N8 N8))
        have HO9 := Lib.hid ((HO7.out.below hb8 HO7.out.lt).set3_at (show go ≠ wr.heap.size by omega) (.int .i64 (k : Int)) (.int .i64 (σs : Int)) (.slice (some ⟨g8, 0, none⟩) N8 N8))
        have HY9 := Lib.hid ((HY7.out.below hb8 HY7.out.lt).set3_at (show w.heap.size + 1 ≠ wr.heap.size by omega) (.int .i64 (k : Int)) (.int .i64 (σs : Int)) (.slice (some ⟨g8, 0, none⟩) N8 N8))
        have HT9 := Lib.hid (own_set3 (own_below HT7.out hb8) q8 (by decide) (.int .i64 (k : Int)) (.int .i64 (σs : Int)) (.slice (some ⟨g8, 0, none⟩) N8 N8))
        have hb8w := HB7.out.trans (hb8.mono HB7.out.size)
        have HB9 := Lib.hid (below_set3 hb8w (show w.heap.size ≤ wr.heap.size by omega) (.int .i64 (k : Int)) (.int .i64 (σs : Int)) (.slice (some ⟨g8, 0, none⟩) N8 N8))
        have HTS9 := Lib.hid ((TabAt.of_own (w0 := w) hT8).set3 q8 (show w.heap.size ≤ wr.heap.size by omega) hb8w.size (.int .i64 (k : Int)) (.int .i64 (σs : Int)) (.slice (some ⟨g8, 0, none⟩) N8 N8))
        have HAR := Lib.hid (show ρo = 0 ∧ σs = 0 ∧ (e) + (s + s) * m = q from ⟨hE3.out.1, HS0.out, pow_even hE3.out.2.2 HTM2.out⟩)
        have HGL := Lib.hid (show go < wr.heap.size from hgl)
        unfold ruleV at *
        clear q8 hT8 hb8 hb8w hE3 hO hT hQ hTS hY hB hO6 hT6 hQ6 hTS6 hY6 hb6 z0 z1 z2
        go_wp2_with fail
        exact ⟨⟨m, e, s + s, ρo, σs, g', N', N8, N8, wr.heap.size, some ⟨g8, 0, none⟩, (by have := HTM2.out; omega), rfl, rfl, HGL.out, HAR, HO9, HT9, HQ9, HTS9, HY9, HB9⟩, by have := HTM2.out; simp [intOf]; omega⟩
    · have hp' : ¬ (0 : Int) < (τ : Int) := by omega
      have he : e = q := by
        have h1 := hE3.out.2.2
        have h2 : τ = 0 := by omega
        rw [h2, Nat.mul_zero] at h1
        omega
      obtain ⟨o0, o1, o2, p0, p1, p2⟩ := hO.out.facts
      obtain ⟨hRA, hRS⟩ := res_new (E := E) (K := (k : Int)) (R := (ρo : Int)) hY.out hT.out hB.out (show w.heap.size ≤ w.heap.size + 1 by omega) (Nat.le_refl _)
      obtain ⟨d0, d1, d2, f0, f1, f2⟩ := hY.out.facts
      rw [he] at hRS
      have HRA := Lib.hid hRA
      have HRS := Lib.hid hRS
      have HRO := Lib.hid hE3.out.1
      clear hRA hRS he hE3 hO hT hQ hTS hY hB
      go_wp2_with fail
      obtain ⟨d0, d1, d2, _⟩ := HRA.out.facts
      have hrs := HRS.out
      refine bodyPost_ret (v := .tuple #[.agg #[.int .i64 (k : Int), .int .i64 (ρo : Int), .slice (some ⟨g', 0, none⟩) N' N'], .nilIface]) (by simp [results, Tryz.results24, go_sem, d0, d1, d2]) rfl ?_
      rw [HRO.out] at hrs ⊢
      exact hrs
end Go.Proofs.YtpllojpgpejfmaaGreatDoor
