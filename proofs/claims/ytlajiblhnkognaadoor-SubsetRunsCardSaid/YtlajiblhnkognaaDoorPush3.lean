/- append(s, x) of one element in a region that draws its order: what is told of the row, the old one kept. Plain laws, no program. No condition. -/
import Derived.Test.YtlajiblhnkognaaDoorCut
namespace Go.Proofs.YtlajiblhnkognaaDoor
open Go.RowKit

theorem run_push3 {P : Program} (w : World) (t ty : TypeId) {e : TypeId} {z : Value} {bytes : Nat} (hT : ElemT P t e z bytes) {base : Nat} {v : Value} {n : Nat} {xs : List Value} (hown : w.ownsRow base e 1 v n xs)
    (ad : Addr) (c : Nat) (u : Value) (hc : w.cell? ad = some u) (hu : u.oneCell' = true) (h63 : n + 1 ≤ maxLen) (hbytes : (n + 1) * bytes ≤ 140737488355328) (hbase : base ≤ w.heap.size) :
    ∃ g cap w', (Builtin.append_ #[t, t] ty #[v, .slice (some ad) 1 c]).run P w = .ok (.slice (some ⟨g, 0, none⟩) (n + 1) cap) w' ∧ w'.ownsRow base e 1 (.slice (some ⟨g, 0, none⟩) (n + 1) cap) (n + 1) (xs ++ [u]) ∧
      ((v = .slice (some ⟨g, 0, none⟩) n cap ∧ w.grownBy w' (some g)) ∨ (w.heap.size ≤ g ∧ w.grownBy w' none)) ∧ g < w'.heap.size := by
  obtain ⟨i, hi, hz, hz1, hz2⟩ := info_parts hT.info
  have hcell : ∀ j u', [u][j]? = some u' → w.cell? (ad.add j) = some u' := by
    intro j u' hj
    match j, hj with
    | 0, hj => simp at hj; subst hj; simpa [Addr.add] using hc
  have hone : ∀ u' ∈ [u], u'.oneCell' = true := by intro u' hu'; simp at hu'; subst hu'; exact hu
  have h1z : z.cells.size = 1 := by rw [hT.one]; rfl
  rcases hown.2 with ⟨rfl, rfl⟩ | ⟨g, cap, cur, rfl, hbg, hg, hnc, hcm, hsz, htake⟩
  · obtain rfl : xs = [] := List.eq_nil_of_length_eq_zero (by simpa using hown.1)
    obtain ⟨v', w', hrun, r1, r2, _⟩ := run_append_own (P := P) w w.heap.size t ty e i z 1 bytes hT.und hi hz hz1 hz2 h1z (by decide) (.slice none 0 0) 0 [] (World.ownsRow_nil w _ e 1) ad 1 c [u] rfl hcell hone h63 hbytes (Nat.le_refl _)
    obtain ⟨g, cap, rfl, hb, hlt⟩ := r1.form (by omega)
    exact ⟨g, cap, w', hrun, own_base r1 hbase, .inr ⟨hb, r2⟩, hlt⟩
  · by_cases hroom : n + 1 ≤ cap
    · obtain ⟨w', hrun, r1, r2⟩ := run_append_fits (P := P) w base t ty e i 1 hT.und hi hz1 g n cap xs hown ad 1 c [u] rfl hcell hone hroom
      exact ⟨g, cap, w', hrun, r1, .inl ⟨rfl, r2⟩, (r1.lt g rfl).2⟩
    · obtain ⟨v', w', hrun, r1, r2⟩ := run_append_arg_grows (P := P) w t ty e i z 1 bytes hT.und hi hz hz1 hz2 h1z (by decide) ⟨g, 0, none⟩ n cap xs (by simpa using hown.1) (fun j u' hj => hown.cells (g := g) rfl j u' hj) ad 1 c [u] rfl hcell (by omega) h63 hbytes
      obtain ⟨g', cap', rfl, hb, hlt⟩ := r1.form (by omega)
      exact ⟨g', cap', w', hrun, own_base r1 hbase, .inr ⟨hb, r2⟩, hlt⟩

/-- At a step of a region that draws its order. -/
theorem step_push3 {P : Program} {w : World} {ops : Array Oper} {o : Oper} {a : Act} {K : Act → World → Prop} {Q : Exit → Act → World → Prop} {F : Prop} (hw : Region.wanted o (yielded ops a.tmps) = true) (s x : Operand) (t : TypeId)
    (ho : o.op = .call { callee := .builtin .append, args := #[s, x], argTypes := #[t, t] }) {e : TypeId} {z : Value} {bytes : Nat} (hT : ElemT P t e z bytes)
    {base : Nat} {v : Value} {n : Nat} {xs : List Value} (hown : w.ownsRow base e 1 v n xs) (hs : a.eval s = v) (ad : Addr) (c : Nat) (hx : a.eval x = .slice (some ad) 1 c) (u : Value) (hc : w.cell? ad = some u) (hu : u.oneCell' = true)
    (h63 : n + 1 ≤ maxLen) (hbytes : (n + 1) * bytes ≤ 140737488355328) (hbase : base ≤ w.heap.size)
    (h : ∀ g cap w', w'.ownsRow base e 1 (.slice (some ⟨g, 0, none⟩) (n + 1) cap) (n + 1) (xs ++ [u]) → ((v = .slice (some ⟨g, 0, none⟩) n cap ∧ w.grownBy w' (some g)) ∨ (w.heap.size ≤ g ∧ w.grownBy w' none)) → g < w'.heap.size →
      K (a.put o.dst (.slice (some ⟨g, 0, none⟩) (n + 1) cap)) w') :
    if Region.wanted o (yielded ops a.tmps) = true then Oper.wp P o a w K Q else F := by
  rw [if_pos hw]
  obtain ⟨g, cap, w', hr, h2, h3, h4⟩ := run_push3 (P := P) w t o.type hT hown ad c u hc hu h63 hbytes hbase
  unfold Oper.wp execOp
  simp only [ho, resolve, invoke, builtin, Sem.run_bind, Sem.run_pure, Result.andThen_ok, List.map_toArray, List.map_cons, List.map_nil, hs, hx, hr]
  exact h g cap w' h2 h3 h4

/-- What an append behind a box has written. -/
theorem push3_keeps {w w' : World} {o : Obj} {v : Value} {g n cap : Nat} (hor : (v = .slice (some ⟨g, 0, none⟩) n cap ∧ (w.alloc o).grownBy w' (some g)) ∨ ((w.alloc o).heap.size ≤ g ∧ (w.alloc o).grownBy w' none)) :
    Keeps (fun b => v.ownBlock = some b) w w' ∧ (v.ownBlock = some g ∨ w.heap.size ≤ g) := by
  have h0 : Keeps (fun b => v.ownBlock = some b) w (w.alloc o) := Keeps.of_pure ((Below.refl _ _).alloc (Nat.le_refl _) _) _
  rcases hor with ⟨rfl, h⟩ | ⟨h1, h⟩
  · exact ⟨h0.trans ((Keeps.of_grown h).mono (fun b _ e => e)) (fun _ _ h => h), .inl rfl⟩
  · exact ⟨h0.trans (Keeps.of_grown h) (fun b _ e => by cases e), .inr (by simp at h1; omega)⟩
/-- The front of a row. -/
theorem own_front {w : World} {base e g n m cap : Nat} {xs ys : List Value} (h : w.ownsRow base e 1 (.slice (some ⟨g, 0, none⟩) m cap) m (xs ++ ys)) (hn : xs.length = n) : w.ownsRow base e 1 (.slice (some ⟨g, 0, none⟩) n cap) n xs := by
  have hm : (xs ++ ys).length = m := by simpa using h.1
  rcases h.2 with ⟨hv, _⟩ | ⟨g', cap', cur, hv, hb, hg, hnc, hcm, hsz, htake⟩
  · cases hv
  · injection hv with hA _ hcap
    injection hA with hA
    injection hA with hgg
    subst hgg hcap
    refine ⟨by simpa using hn, .inr ⟨g, cap, cur, rfl, hb, hg, by simp at hm; omega, hcm, hsz, ?_⟩⟩
    have : (xs ++ ys).take n = xs := by rw [← hn]; exact List.take_left
    rw [← htake, List.take_take] at this
    rw [Nat.mul_one] at *
    rw [show min n m = n from by simp at hm; omega] at this
    exact this
/-- The row as a block of its type. -/
theorem own_block {w : World} {base e n g : Nat} {v : Value} {xs : List Value} (h : w.ownsRow base e 1 v n xs) (hg : v.ownBlock = some g) : ∃ cs, w.heap[g]? = some (.cells cs e (0, 0)) := by
  rcases h.2 with ⟨rfl, _⟩ | ⟨g', cap, cur, rfl, _, hh, _⟩
  · cases hg
  · have e' : g' = g := by simpa [Value.ownBlock] using hg
    subst e'
    exact ⟨_, hh⟩
end Go.Proofs.YtlajiblhnkognaaDoor
