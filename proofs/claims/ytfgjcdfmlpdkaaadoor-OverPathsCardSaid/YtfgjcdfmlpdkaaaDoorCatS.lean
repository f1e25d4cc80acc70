/- append(s, x...) in a region that draws its order. Plain laws, no program. No condition. -/
import Derived.Test.YtfgjcdfmlpdkaaaDoorCut
namespace Go.Proofs.YtfgjcdfmlpdkaaaDoor
open Go.RowKit

theorem run_cat {P : Program} (w : World) (t ty : TypeId) {e : TypeId} {z : Value} {bytes : Nat} (hT : ElemT P t e z bytes) {base : Nat} {v : Value} {n : Nat} {xs : List Value} (hown : w.ownsRow base e 1 v n xs)
    {A : Option Addr} {m c : Nat} {ys : List Value} (hsl : Sl w A m ys) (hu : ∀ u ∈ ys, u.oneCell' = true) (h63 : n + m ≤ maxLen) (hbytes : (n + m) * bytes ≤ 140737488355328) (hbase : base ≤ w.heap.size) :
    ∃ v' w', (Builtin.append_ #[t, t] ty #[v, .slice A m c]).run P w = .ok v' w' ∧ w'.ownsRow base e 1 v' (n + m) (xs ++ ys) ∧ w.grownBy w' v.ownBlock ∧ (v'.ownBlock = v.ownBlock ∨ v'.ownBlock = some w.heap.size) := by
  obtain ⟨i, hi, hz, hz1, hz2⟩ := info_parts hT.info
  cases A with
  | none =>
    have hys : ys = [] := by
      cases ys with
      | nil => rfl
      | cons y ys => obtain ⟨ad, e', _⟩ := hsl.2 0 y (by simp); cases e'
    subst hys
    have hm : m = 0 := by have := hsl.1; simpa using this.symm
    subst hm
    exact ⟨v, w, run_append_of_nil (P := P) (w := w) (t := t) (ty := ty) hT.und hi hown c, by simpa using hown, World.grownBy.refl _ _, .inl rfl⟩
  | some ad =>
    obtain ⟨v', w', h1, h2, h3, _, h5⟩ := run_append_own_at (P := P) w base t ty e i z 1 bytes hT.und hi hz hz1 hz2 (by rw [hT.one]; rfl) (by decide) v n xs hown ad m c ys (by rw [hsl.1]; simp) (fun j u hj => by
      obtain ⟨ad', e', hc⟩ := hsl.2 j u hj
      cases e'
      exact hc) hu h63 hbytes hbase
    exact ⟨v', w', h1, h2, h3, h5⟩

/-- At a step of a region that draws its order. -/
theorem step_cat {P : Program} {w : World} {ops : Array Oper} {o : Oper} {a : Act} {K : Act → World → Prop} {Q : Exit → Act → World → Prop} {F : Prop} (hw : Region.wanted o (yielded ops a.tmps) = true) (s x : Operand) (t : TypeId)
    (ho : o.op = .call { callee := .builtin .append, args := #[s, x], argTypes := #[t, t] }) {e : TypeId} {z : Value} {bytes : Nat} (hT : ElemT P t e z bytes)
    {base : Nat} {v : Value} {n : Nat} {xs : List Value} (hown : w.ownsRow base e 1 v n xs) (hs : a.eval s = v) {A : Option Addr} {m c : Nat} {ys : List Value} (hsl : Sl w A m ys) (hx : a.eval x = .slice A m c) (hu : ∀ u ∈ ys, u.oneCell' = true)
    (h63 : n + m ≤ maxLen) (hbytes : (n + m) * bytes ≤ 140737488355328) (hbase : base ≤ w.heap.size)
    (h : ∀ C cc w', w'.ownsRow base e 1 (.slice C (n + m) cc) (n + m) (xs ++ ys) → w.grownBy w' v.ownBlock → ((Value.slice C (n + m) cc).ownBlock = v.ownBlock ∨ (Value.slice C (n + m) cc).ownBlock = some w.heap.size) → K (a.put o.dst (.slice C (n + m) cc)) w') :
    if Region.wanted o (yielded ops a.tmps) = true then Oper.wp P o a w K Q else F := by
  rw [if_pos hw]
  obtain ⟨v', w', hr, h2, h3, h4⟩ := run_cat (P := P) w t o.type hT hown hsl (c := c) hu h63 hbytes hbase
  obtain ⟨C, cc, rfl, _, _⟩ := own_slice h2
  unfold Oper.wp execOp
  simp only [ho, resolve, invoke, builtin, Sem.run_bind, Sem.run_pure, Result.andThen_ok, List.map_toArray, List.map_cons, List.map_nil, hs, hx, hr]
  exact h C cc w' h2 h3 h4
end Go.Proofs.YtfgjcdfmlpdkaaaDoor
