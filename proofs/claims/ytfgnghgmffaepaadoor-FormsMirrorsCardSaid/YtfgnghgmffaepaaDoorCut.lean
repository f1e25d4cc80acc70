/- A part of a slice in memory. Plain lemmas, no program. No condition. -/
import Derived.Test.YtfgnghgmffaepaaDoorBase
namespace Go.Proofs.YtfgnghgmffaepaaDoor
open Go.RowKit

theorem sl_part {w : World} {A : Option Addr} {n : Nat} {xs : List Value} (h : Sl w A n xs) {i m : Nat} (_ : i + m ≤ n) : ∀ ad, A = some ad → ∀ (j : Nat) u, ((xs.drop i).take m)[j]? = some u → w.cell? ((ad.add i).add j) = some u := by
  intro ad e j u hu
  rw [List.getElem?_take] at hu
  split at hu
  · rw [List.getElem?_drop] at hu
    obtain ⟨ad', e', hc⟩ := h.2 _ _ hu
    rw [e] at e'
    cases e'
    rw [add_of_add]
    exact hc
  · cases hu


theorem sl_take' {w : World} {A : Option Addr} {n m : Nat} {xs ys : List Value} (h : Sl w A m (xs ++ ys)) (hn : xs.length = n) : Sl w A n xs :=
  ⟨hn, fun k v hv => h.2 k v (by rw [List.getElem?_append_left (List.getElem?_eq_some_iff.1 hv).1]; exact hv)⟩

theorem own_le {w : World} {base e n c : Nat} {A : Option Addr} {xs : List Value} (h : w.ownsRow base e 1 (.slice A n c) n xs) : n ≤ c ∧ c ≤ maxLen := by
  obtain ⟨A', c', e, h1, h2⟩ := own_slice h
  cases e
  exact ⟨h1, h2⟩
theorem grown_keeps {w w1 : World} {o : Obj} {row : Option Nat} (h : ((w.alloc o).drew).grownBy w1 row) : Keeps (fun b => row = some b) w w1 :=
  (Keeps.of_pure (((Below.refl _ _).alloc (Nat.le_refl _) o).drew) (fun b => row = some b)).trans (Keeps.of_grown h) (fun _ _ h => h)

theorem push_keeps {w0 w' : World} {g : Nat} {v : Value} (hor : (v.ownBlock = some g ∧ w0.grownBy w' (some g)) ∨ (w0.heap.size < g ∧ w0.grownBy w' none)) : Keeps (fun b => v.ownBlock = some b) w0 w' := by
  rcases hor with ⟨h1, h2⟩ | ⟨_, h2⟩
  · exact (Keeps.of_grown h2).mono (fun b _ e => by cases e; exact h1)
  · exact keeps_new (Keeps.refl _ _) h2
theorem push_below {wx w0 w' : World} {base e n g : Nat} {v : Value} {xs : List Value} (hb : Below base wx w0) (hown : w0.ownsRow base e 1 v n xs) (hor : (v.ownBlock = some g ∧ w0.grownBy w' (some g)) ∨ (w0.heap.size < g ∧ w0.grownBy w' none)) (hs : base ≤ w0.heap.size) : Below base wx w' :=
  hb.trans ((push_keeps hor).below hs (fun _ hb' => (hown.lt _ hb').1))

end Go.Proofs.YtfgnghgmffaepaaDoor
