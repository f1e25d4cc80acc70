/- A struct of three cells in a block of the call's own: read, written, and the errors beside it. No condition. -/
import Derived.Test.YtfgnghgmffaepaaDoorRuleB
namespace Go.Proofs.YtfgnghgmffaepaaDoor
open Go.RowKit

/-- The block holds a rule. -/
def RuleAt (w : World) (g : Nat) (x0 x1 x2 : Value) : Prop := w.heap[g]? = some (.cells #[x0, x1, x2] 24 (0, 0))
theorem RuleAt.facts {w : World} {g : Nat} {x0 x1 x2 : Value} (h : RuleAt w g x0 x1 x2) :
    w.cell? ⟨g, 0, none⟩ = some x0 ∧ w.cell? ⟨g, 1, none⟩ = some x1 ∧ w.cell? ⟨g, 2, none⟩ = some x2 ∧ w.frozen? ⟨g, 0, none⟩ = false ∧ w.frozen? ⟨g, 1, none⟩ = false ∧ w.frozen? ⟨g, 2, none⟩ = false := by
  obtain ⟨a, b, c, _⟩ := blk_cells h
  exact ⟨a, b, c, frozen_of_row _ _ 0 _ _ h, frozen_of_row _ _ 1 _ _ h, frozen_of_row _ _ 2 _ _ h⟩
theorem RuleAt.below {w w' : World} {g B : Nat} {x0 x1 x2 : Value} (h : RuleAt w g x0 x1 x2) (hb : Below B w w') (hg : g < B) : RuleAt w' g x0 x1 x2 := (hb.block g hg).trans h
theorem RuleAt.keeps {w w' : World} {g : Nat} {O : Nat → Prop} {x0 x1 x2 : Value} (h : RuleAt w g x0 x1 x2) (hk : Keeps O w w') (ho : ¬ O g) : RuleAt w' g x0 x1 x2 := (hk.block g (Array.getElem?_eq_some_iff.1 h).1 ho).trans h
theorem RuleAt.new (w : World) (x0 x1 x2 : Value) : RuleAt (w.alloc (.cells #[x0, x1, x2] 24)) w.heap.size x0 x1 x2 := heap_new _ _
theorem RuleAt.alloc {w : World} {g : Nat} {x0 x1 x2 : Value} (h : RuleAt w g x0 x1 x2) (o : Obj) : RuleAt (w.alloc o) g x0 x1 x2 := (Below.heap_alloc w o g (Array.getElem?_eq_some_iff.1 h).1).trans h
theorem RuleAt.lt {w : World} {g : Nat} {x0 x1 x2 : Value} (h : RuleAt w g x0 x1 x2) : g < w.heap.size := (Array.getElem?_eq_some_iff.1 h).1

theorem ErrIs.keeps {w w' : World} {E : Nat → Addr} {n : Nat} {O : Nat → Prop} (hk : Keeps O w w') (ho : ∀ k cs, O k → w.heap[k]? ≠ some (.cells cs 71 (0, 0))) : ∀ {l : List (ByteArray × Int)} {v : Value}, ErrIs w E n l v → ErrIs w' E n l v
  | [], _, h => h
  | (_, _) :: _, _, ⟨b, v', h1, h2, h3⟩ => ⟨b, v', h1, (hk.block b (Array.getElem?_eq_some_iff.1 h2).1 (fun hO => ho b _ hO h2)).trans h2, ErrIs.keeps hk ho h3⟩
theorem ErrIs.set3 {w : World} {E : Nat → Addr} {n g : Nat} {x0 x1 x2 : Value} {l : List (ByteArray × Int)} {v : Value} (h : ErrIs w E n l v) (hr : RuleAt w g x0 x1 x2) (u0 u1 u2 : Value) :
    ErrIs (((w.setCell ⟨g, 0, none⟩ u0).setCell ⟨g, 1, none⟩ u1).setCell ⟨g, 2, none⟩ u2) E n l v :=
  ErrIs.keeps (keeps_set3 w g u0 u1 u2) (fun k cs hk e => by subst hk; rw [show w.heap[k]? = _ from hr] at e; injection e with e; injection e with _ e; exact absurd e (by decide)) h
theorem own_set3 {w : World} {base e n g : Nat} {v : Value} {xs : List Value} {x0 x1 x2 : Value} (h : w.ownsRow base e 1 v n xs) (hr : RuleAt w g x0 x1 x2) (hne : e ≠ 24) (u0 u1 u2 : Value) :
    (((w.setCell ⟨g, 0, none⟩ u0).setCell ⟨g, 1, none⟩ u1).setCell ⟨g, 2, none⟩ u2).ownsRow base e 1 v n xs :=
  own_keeps h (keeps_set3 w g u0 u1 u2) (fun g' hg' e' => by subst e'; exact own_ne_blk h hr hne hg')
theorem RuleAt.set3 {w : World} {g : Nat} {x0 x1 x2 : Value} (h : RuleAt w g x0 x1 x2) (u0 u1 u2 : Value) : RuleAt (((w.setCell ⟨g, 0, none⟩ u0).setCell ⟨g, 1, none⟩ u1).setCell ⟨g, 2, none⟩ u2) g u0 u1 u2 := by
  unfold RuleAt at *
  have h0 := (Array.getElem?_eq_some_iff.1 h).1
  simp only [World.setCell]
  simp [Array.getElem?_modify, h]
end Go.Proofs.YtfgnghgmffaepaaDoor
