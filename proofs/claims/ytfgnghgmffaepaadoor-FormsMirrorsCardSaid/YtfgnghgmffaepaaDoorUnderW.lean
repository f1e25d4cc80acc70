/- Errors told further: fault.Under, edenraw.Under, Err.Bad. Condition: the error reads from memory. What is asked of an error, kept beside other writes: edenraw.New, Err.Bad. Condition: the value reads from memory. -/
import Derived.Test.YtfgnghgmffaepaaDoorRawErr
namespace Go.Proofs.YtfgnghgmffaepaaDoor
open Go.RowKit

/-- An error told further by another package. -/
def under (op : ByteArray) (i : Int) : Option Tale → Option Tale
  | none => none
  | some t => some (t.1, (op, i) :: t.2)
theorem under_ok {op : ByteArray} {i : Int} {t : Option Tale} (h : TaleOk t) : TaleOk (under op i t) := by
  intro x hx
  cases t with
  | none => cases hx
  | some t => cases hx; exact h t rfl

theorem under_c (w : World) (E : Nat → Addr) (op : ByteArray) (i : Int) (t : Option Tale) (v : Value) (h : ErrV w E t v) :
    Calls Tryd.prog 48 #[.string op, .int .i64 i, v] w fun e w' => ∃ v', e = .returned v' ∧ ErrV w' E (under op i t) v' ∧ Below w.heap.size w w' := by
  cases t with
  | none =>
    obtain rfl : v = .nilIface := h
    go_enter Tryd.func48, Tryd.ntmps48
    go_wp2_with fail
    go_ret
    exact ⟨_, rfl, rfl, Below.refl _ _⟩
  | some t =>
    have h' : ErrIs w E t.1 t.2 v := h
    obtain ⟨u, p, rfl⟩ := h'.iface
    have HP := Lib.hid h'
    clear h h'
    go_enter Tryd.func48, Tryd.ntmps48
    go_wp2_with fail
    go_ret
    have hb := (Below.refl w.heap.size w).alloc (Nat.le_refl _) (.cells #[.string op, .int .i64 i, .iface u p] 71)
    exact ⟨_, rfl, ⟨w.heap.size, _, rfl, heap_new _ _, ErrIs.below hb HP.out⟩, hb⟩
end Go.Proofs.YtfgnghgmffaepaaDoor

namespace Go.Proofs.YtfgnghgmffaepaaDoor
open Go.RowKit

/-- The number of an error; nought for none. -/
def tnum : Option Tale → Nat
  | none => 0
  | some t => t.1
/-- The value asks for no error, or for the error of the tale; its lists lie from block base on. -/
def WantB (w : World) (base : Nat) (t : Option Tale) (u : Value) : Prop :=
  ∃ (N : Nat) (A1 : Option Addr) (n1 c1 : Nat) (A2 : Option Addr) (n2 c2 : Nat), u = .agg #[.int .i64 (N : Int), .slice A1 n1 c1, .slice A2 n2 c2] ∧ WantV w t u ∧ (∀ ad, A1 = some ad → base ≤ ad.block) ∧ (∀ ad, A2 = some ad → base ≤ ad.block) ∧
    N = tnum t
theorem WantB.want {w : World} {base : Nat} {t : Option Tale} {u : Value} (h : WantB w base t u) : WantV w t u := by obtain ⟨_, _, _, _, _, _, _, _, h, _⟩ := h; exact h
theorem WantB.keeps {w w' : World} {O : Nat → Prop} {base : Nat} {t : Option Tale} {u : Value} (h : WantB w base t u) (hk : Keeps O w w') (ho : ∀ b, O b → b < base) : WantB w' base t u := by
  obtain ⟨N, A1, n1, c1, A2, n2, c2, rfl, hw, b1, b2, hN⟩ := h
  refine ⟨N, A1, n1, c1, A2, n2, c2, rfl, ?_, b1, b2, hN⟩
  cases t with
  | none => exact hw
  | some t =>
    obtain ⟨A1', c1', A2', c2', e, p1, p2, p3, p4, s1, s2⟩ := hw
    injection e with e
    injection e with e
    injection e with e0 e
    injection e with e1 e
    injection e with e2 e
    injection e1 with f1 f2 f3
    injection e2 with g1 g2 g3
    subst f1 f3 g1 g3
    refine ⟨A1, c1, A2, c2, by rw [e0, f2, g2], p1, p2, p3, p4, s1.keeps hk (fun ad e' hO => ?_), s2.keeps hk (fun ad e' hO => ?_)⟩
    · have := b1 ad e'; have := ho _ hO; omega
    · have := b2 ad e'; have := ho _ hO; omega
theorem WantB.below {w w' : World} {base : Nat} {t : Option Tale} {u : Value} (h : WantB w base t u) (hb : Below w.heap.size w w') : WantB w' base t u := by
  obtain ⟨N, A1, n1, c1, A2, n2, c2, rfl, hw, b1, b2, hN⟩ := h
  exact ⟨N, A1, n1, c1, A2, n2, c2, rfl, hw.below hb, b1, b2, hN⟩
theorem WantB.base {w : World} {base base' : Nat} {t : Option Tale} {u : Value} (h : WantB w base t u) (hb : base' ≤ base) : WantB w base' t u := by
  obtain ⟨N, A1, n1, c1, A2, n2, c2, rfl, hw, b1, b2, hN⟩ := h
  exact ⟨N, A1, n1, c1, A2, n2, c2, rfl, hw, fun ad e => Nat.le_trans hb (b1 ad e), fun ad e => Nat.le_trans hb (b2 ad e), hN⟩
/-- No error asked for. -/
theorem WantB.zero (w : World) (base : Nat) : WantB w base none (.agg #[.int .i64 0, .slice none 0 0, .slice none 0 0]) :=
  ⟨0, none, 0, 0, none, 0, 0, rfl, rfl, fun _ e => (by cases e), fun _ e => (by cases e), rfl⟩
theorem WantB.set3 {w : World} {base g : Nat} {t : Option Tale} {u : Value} (h : WantB w base t u) (hg : g < base) (u0 u1 u2 : Value) : WantB (((w.setCell ⟨g, 0, none⟩ u0).setCell ⟨g, 1, none⟩ u1).setCell ⟨g, 2, none⟩ u2) base t u :=
  h.keeps (keeps_set3 w g u0 u1 u2) (fun b e => by omega)

theorem WantB.num {w : World} {base : Nat} {t : Option Tale} {N : Nat} {A1 A2 : Option Addr} {n1 c1 n2 c2 : Nat} (h : WantB w base t (.agg #[.int .i64 (N : Int), .slice A1 n1 c1, .slice A2 n2 c2])) : N = tnum t := by
  obtain ⟨_, _, _, _, _, _, _, he, _, _, _, hN⟩ := h
  injection he with he
  injection he with he
  injection he with he1 _
  injection he1 with _ he1
  have e := Int.ofNat.inj he1
  rw [e]
  exact hN
/-- No error asked for: the value is nought. -/
theorem WantB.none_eq {w : World} {base : Nat} {u : Value} (h : WantB w base none u) : u = .agg #[.int .i64 0, .slice none 0 0, .slice none 0 0] := h.want

/-- The block holds what is asked of an error. -/
def WantAt (w : World) (g : Nat) (x0 x1 x2 : Value) : Prop := w.heap[g]? = some (.cells #[x0, x1, x2] 43 (0, 0))
namespace WantAt
variable {w w' : World} {g : Nat} {x0 x1 x2 : Value}
theorem facts (h : WantAt w g x0 x1 x2) : w.cell? ⟨g, 0, none⟩ = some x0 ∧ w.cell? ⟨g, 1, none⟩ = some x1 ∧ w.cell? ⟨g, 2, none⟩ = some x2 ∧ w.frozen? ⟨g, 0, none⟩ = false ∧ w.frozen? ⟨g, 1, none⟩ = false ∧ w.frozen? ⟨g, 2, none⟩ = false := by
  obtain ⟨a, b, c, _⟩ := blk_cells h
  exact ⟨a, b, c, frozen_of_row _ _ 0 _ _ h, frozen_of_row _ _ 1 _ _ h, frozen_of_row _ _ 2 _ _ h⟩
theorem below {B : Nat} (h : WantAt w g x0 x1 x2) (hb : Below B w w') (hg : g < B) : WantAt w' g x0 x1 x2 := (hb.block g hg).trans h
theorem keeps {O : Nat → Prop} (h : WantAt w g x0 x1 x2) (hk : Keeps O w w') (ho : ¬ O g) : WantAt w' g x0 x1 x2 := (hk.block g (Array.getElem?_eq_some_iff.1 h).1 ho).trans h
theorem new (w : World) (x0 x1 x2 : Value) : WantAt (w.alloc (.cells #[x0, x1, x2] 43)) w.heap.size x0 x1 x2 := heap_new _ _
theorem alloc (h : WantAt w g x0 x1 x2) (o : Obj) : WantAt (w.alloc o) g x0 x1 x2 := (Below.heap_alloc w o g (Array.getElem?_eq_some_iff.1 h).1).trans h
theorem lt (h : WantAt w g x0 x1 x2) : g < w.heap.size := (Array.getElem?_eq_some_iff.1 h).1
theorem set3 (h : WantAt w g x0 x1 x2) (u0 u1 u2 : Value) : WantAt (((w.setCell ⟨g, 0, none⟩ u0).setCell ⟨g, 1, none⟩ u1).setCell ⟨g, 2, none⟩ u2) g u0 u1 u2 := by
  unfold WantAt at *
  have h0 := (Array.getElem?_eq_some_iff.1 h).1
  simp only [World.setCell]
  simp [Array.getElem?_modify, h]
end WantAt

theorem own_setW {w : World} {base e n g : Nat} {v : Value} {xs : List Value} {x0 x1 x2 : Value} (h : w.ownsRow base e 1 v n xs) (hr : WantAt w g x0 x1 x2) (hne : e ≠ 43) (u0 u1 u2 : Value) :
    (((w.setCell ⟨g, 0, none⟩ u0).setCell ⟨g, 1, none⟩ u1).setCell ⟨g, 2, none⟩ u2).ownsRow base e 1 v n xs :=
  own_keeps h (keeps_set3 w g u0 u1 u2) (fun g' hg' e' => by subst e'; exact own_ne_blk h hr hne hg')

/-- edenraw.New: what an error must be that one package tells. -/
theorem newB_c (w : World) (op : ByteArray) (at' : Int) (n : Nat) :
    Calls Tryd.prog 17 #[.string op, .int .i64 at', .int .i64 (n : Int)] w fun e w' => ∃ (A1 : Option Addr) (n1 c1 : Nat) (A2 : Option Addr) (n2 c2 : Nat), e = .returned (.agg #[.int .i64 (n : Int), .slice A1 n1 c1, .slice A2 n2 c2]) ∧
      WantB w' w.heap.size (some (n, [(op, at')])) (.agg #[.int .i64 (n : Int), .slice A1 n1 c1, .slice A2 n2 c2]) ∧ Below w.heap.size w w' :=
  (rawNew_x w op at' n).mono fun _ _ ⟨h1, h2, h3, h4⟩ => ⟨_, _, _, _, _, _, h1, ⟨n, _, _, _, _, _, _, rfl, want_of h2 h3, fun ad e => by cases e; simp, fun ad e => by cases e; simp; omega, rfl⟩, h4⟩
end Go.Proofs.YtfgnghgmffaepaaDoor
