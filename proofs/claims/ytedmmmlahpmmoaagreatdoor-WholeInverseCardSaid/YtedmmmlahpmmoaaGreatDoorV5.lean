/- What memory holds: slices that are read, slices that the call owns, worlds that differ in a few blocks alone. Plain lemmas, no program. No condition. The preimages of a word in the order of words: plain lists, no program. No condition. What a search among preimages has found, step by step: plain lists, no program. No condition. From which nodes on labels can be written, step by step: plain lists, no program. No condition. What the walk over the subsets has found: each state's set, word and row; runs along words; the first orphan comes ahead of all. Plain lists, no program. No condition. -/
import Derived.Test.YtedmmmlahpmmoaaGreatDoorProg
import Derived.WalkKit
import Derived.WalkSpells
import Derived.WalkLawsBesides
import Derived.Below
import Derived.Laws.OwnMore
import Derived.ArgAppend
import Derived.Deep.AppendLies
import Derived.Deep.Draws
import Derived.Deep.OwnRows
import Derived.Deep.QuietTactic
import Derived.BigQuiet
import Derived.Lib.Hide
import Derived.Test.YtedmmmlahpmmoaaGreatDoorV3
import Derived.Test.YtedmmmlahpmmoaaGreatDoorV4
namespace Go.Proofs.YtedmmmlahpmmoaaGreatDoor
open Go.RowKit

/-- Only blocks of O, and new ones, have changed. -/
structure Keeps (O : Nat → Prop) (w w' : World) : Prop where
  os : w'.os = w.os
  tape : w'.tape = w.tape
  output : w'.output = w.output
  size : w.heap.size ≤ w'.heap.size
  block : ∀ k, k < w.heap.size → ¬ O k → w'.heap[k]? = w.heap[k]?

namespace Keeps
variable {O O' : Nat → Prop} {w w' w'' : World}
theorem refl (O : Nat → Prop) (w : World) : Keeps O w w := ⟨rfl, rfl, rfl, Nat.le_refl _, fun _ _ _ => rfl⟩
theorem mono (h : Keeps O w w') (ho : ∀ k, k < w.heap.size → O k → O' k) : Keeps O' w w' :=
  ⟨h.os, h.tape, h.output, h.size, fun k hk hn => h.block k hk (fun hO => hn (ho k hk hO))⟩
theorem trans (h : Keeps O w w') (h' : Keeps O' w' w'') (ho : ∀ k, k < w.heap.size → O' k → O k) : Keeps O w w'' :=
  ⟨h'.os.trans h.os, h'.tape.trans h.tape, h'.output.trans h.output, Nat.le_trans h.size h'.size,
    fun k hk hn => (h'.block k (Nat.lt_of_lt_of_le hk h.size) (fun x => hn (ho k hk x))).trans (h.block k hk hn)⟩
theorem of_pure (h : Below w.heap.size w w') (O : Nat → Prop) : Keeps O w w' :=
  ⟨h.os, h.tape, h.output, h.size, fun k hk _ => h.block k hk⟩
theorem of_grown {row : Option Nat} (h : w.grownBy w' row) : Keeps (fun k => row = some k) w w' :=
  ⟨h.os, h.tape, h.output, h.size, fun k hk hn => h.block k hk (fun e => hn e.symm)⟩
theorem of_setCell (w : World) (a : Addr) (u : Value) : Keeps (fun k => k = a.block) w (w.setCell a u) :=
  ⟨rfl, rfl, rfl, by simp [World.setCell], fun k _ hn => Below.heap_setCell _ _ _ _ hn⟩
theorem below (h : Keeps O w w') {B : Nat} (hB : B ≤ w.heap.size) (ho : ∀ k, O k → B ≤ k) : Below B w w' :=
  ⟨h.os, h.tape, h.output, h.size, fun k hk => h.block k (by omega) (fun x => by have := ho k x; omega)⟩
theorem cell (h : Keeps O w w') {a : Addr} {v : Value} (hv : w.cell? a = some v) (ho : ¬ O a.block) : w'.cell? a = some v :=
  (World.cell?_of_block (w := w) (h.block a.block (World.block_lt_of_cell? _ _ hv) ho)).trans hv
end Keeps

theorem keeps_new {O : Nat → Prop} {wx w w' : World} (hk : Keeps O wx w) (hg : w.grownBy w' none) : Keeps O wx w' :=
  ⟨hg.os.trans hk.os, hg.tape.trans hk.tape, hg.output.trans hk.output, Nat.le_trans hk.size hg.size, fun k h1 h2 => by
    rw [hg.block k (Nat.lt_of_lt_of_le h1 hk.size) (fun e => by cases e)]
    exact hk.block k h1 h2⟩
theorem below_drewN {B : Nat} {w w' : World} (h : Below B w w') (n : Nat) : Below B w (w'.drewN n) := ⟨h.os, h.tape, h.output, h.size, h.block⟩
theorem pure_drewN (w : World) (n : Nat) : Below w.heap.size w (w.drewN n) := below_drewN (Below.refl _ _) n
theorem pure_trans {w w1 w2 : World} (h : Below w.heap.size w w1) (h' : Below w1.heap.size w1 w2) : Below w.heap.size w w2 := h.trans (h'.mono h.size)

/-- The slice of address A and length n reads as xs. -/
def Sl (w : World) (A : Option Addr) (n : Nat) (xs : List Value) : Prop :=
  xs.length = n ∧ ∀ k v, xs[k]? = some v → ∃ ad, A = some ad ∧ w.cell? (ad.add k) = some v

theorem block_of_add (a : Addr) (n : Nat) : (a.add n).block = a.block := by unfold Addr.add; split <;> rfl
theorem add_of_add (a : Addr) (i j : Nat) : (a.add i).add j = a.add (i + j) := by
  unfold Addr.add
  by_cases hi : i = 0 <;> by_cases hj : j = 0 <;> simp [hi, hj, Nat.add_assoc]

namespace Sl
variable {w w' : World} {A : Option Addr} {n : Nat} {xs : List Value}
theorem nil (w : World) (A : Option Addr) : Sl w A 0 [] := ⟨rfl, fun k v h => by simp at h⟩
theorem len (h : Sl w A n xs) : xs.length = n := h.1
theorem at_ {k : Nat} (h : Sl w A n xs) (hk : k < n) : ∃ ad u, A = some ad ∧ xs[k]? = some u ∧ w.cell? (ad.add k) = some u := by
  have hl : k < xs.length := by have := h.1; omega
  obtain ⟨ad, e, hc⟩ := h.2 k xs[k] (List.getElem?_eq_getElem hl)
  exact ⟨ad, xs[k], e, List.getElem?_eq_getElem hl, hc⟩
theorem int_ {k : Nat} {q : IntKind} {l : List Int} (h : Sl w A n (l.map (Value.int q))) (hk : k < n) : ∃ ad x, A = some ad ∧ l[k]? = some x ∧ w.cell? (ad.add k) = some (.int q x) := by
  obtain ⟨ad, u, h1, h3, h4⟩ := h.at_ hk
  rw [List.getElem?_map] at h3
  cases hl : l[k]? with
  | none => rw [hl] at h3; cases h3
  | some x => rw [hl] at h3; cases h3; exact ⟨ad, x, h1, rfl, h4⟩
theorem word_ {k : Nat} {q : IntKind} {l : List Nat} (h : Sl w A n (l.map (fun (x : Nat) => Value.int q (x : Int)))) (hk : k < n) : ∃ ad x, A = some ad ∧ l[k]? = some x ∧ w.cell? (ad.add k) = some (.int q (x : Int)) := by
  obtain ⟨ad, u, h1, h3, h4⟩ := h.at_ hk
  rw [List.getElem?_map] at h3
  cases hl : l[k]? with
  | none => rw [hl] at h3; cases h3
  | some x => rw [hl] at h3; cases h3; exact ⟨ad, x, h1, rfl, h4⟩
theorem keep (h : Sl w A n xs) (hk : ∀ (p : Addr) v, w.cell? p = some v → (∀ ad, A = some ad → p.block = ad.block) → w'.cell? p = some v) : Sl w' A n xs :=
  ⟨h.1, fun k v hv => by
    obtain ⟨ad, e, hc⟩ := h.2 k v hv
    exact ⟨ad, e, hk _ _ hc (fun ad' e' => by rw [e] at e'; cases e'; exact block_of_add _ _)⟩⟩
theorem below (h : Sl w A n xs) (hb : Below w.heap.size w w') : Sl w' A n xs := h.keep fun _ _ hc _ => cell_later hb hc
theorem keeps {O : Nat → Prop} (h : Sl w A n xs) (hk : Keeps O w w') (ho : ∀ ad, A = some ad → ¬ O ad.block) : Sl w' A n xs :=
  ⟨h.1, fun k v hv => by
    obtain ⟨ad, e, hc⟩ := h.2 k v hv
    exact ⟨ad, e, hk.cell hc (by rw [block_of_add]; exact ho ad e)⟩⟩
theorem drewN (h : Sl w A n xs) (q : Nat) : Sl (w.drewN q) A n xs := h
theorem alloc (h : Sl w A n xs) (o : Obj) : Sl (w.alloc o) A n xs := h.keep fun p _ hc _ => by
  rw [World.cell?_alloc_lt w o p (World.block_lt_of_cell? _ _ hc)]; exact hc
theorem of_own {base e c : Nat} (h : w.ownsRow base e 1 (.slice A n c) n xs) : Sl w A n xs := by
  refine ⟨by simpa using h.1, fun k v hv => ?_⟩
  have hn : 0 < n := by
    rcases Nat.eq_zero_or_pos n with h0 | h0
    · subst h0; have := h.1; simp at this; subst this; simp at hv
    · exact h0
  obtain ⟨g, cap, hv', _, _⟩ := h.form hn
  injection hv' with hA
  subst hA
  exact ⟨_, rfl, h.cells (g := g) rfl k v hv⟩
end Sl

/-- The slice's type and its elements' row of the program's table. -/
structure ElemT (P : Program) (t e : TypeId) (z : Value) (bytes : Nat) : Prop where
  und : P.underlying t = some (.slice e)
  info : (P.info? e).map (fun i => (i.zero, i.size, i.bytes)) = some (some z, 1, bytes)
  one : z.cells = #[z]

/-- Of an owned slice: how its value looks. -/
theorem own_slice {w : World} {base e : Nat} {v : Value} {n : Nat} {xs : List Value} (h : w.ownsRow base e 1 v n xs) : ∃ A c, v = .slice A n c ∧ n ≤ c ∧ c ≤ maxLen := by
  rcases h.2 with ⟨rfl, rfl⟩ | ⟨g, cap, cur, rfl, _, _, h1, h2, _⟩
  · exact ⟨none, 0, rfl, Nat.le_refl _, Nat.zero_le _⟩
  · exact ⟨_, _, rfl, h1, h2⟩

theorem own_keeps {w w' : World} {O : Nat → Prop} {base e : Nat} {v : Value} {n : Nat} {xs : List Value} (h : w.ownsRow base e 1 v n xs) (hk : Keeps O w w') (ho : ∀ g, v.ownBlock = some g → ¬ O g) : w'.ownsRow base e 1 v n xs := by
  refine ⟨h.1, ?_⟩
  rcases h.2 with hn | ⟨g, cap, cur, rfl, hb, hgg, rest⟩
  · exact .inl hn
  · refine .inr ⟨g, cap, cur, rfl, hb, ?_, rest⟩
    rw [hk.block g (Array.getElem?_eq_some_iff.1 hgg).1 (ho g rfl)]
    exact hgg

theorem own_below {w w' : World} {base e : Nat} {v : Value} {n : Nat} {xs : List Value} (h : w.ownsRow base e 1 v n xs) (hk : Below w.heap.size w w') : w'.ownsRow base e 1 v n xs :=
  own_keeps h (Keeps.of_pure hk (fun _ => False)) (fun _ _ h => h)

theorem own_base {w : World} {base base' e : Nat} {v : Value} {n : Nat} {xs : List Value} (h : w.ownsRow base e 1 v n xs) (hb : base' ≤ base) : w.ownsRow base' e 1 v n xs := by
  refine ⟨h.1, ?_⟩
  rcases h.2 with hn | ⟨g, cap, cur, hv, hg, rest⟩
  · exact .inl hn
  · exact .inr ⟨g, cap, cur, hv, Nat.le_trans hb hg, rest⟩

/-- append(s, x) of one element, the old row kept where a new one is made. -/
theorem wpList_push2 {P : Program} {w w0 : World} {ops : Array Oper} {rest : List Oper} {o : Oper} {a : Act} {Q : Exit → Act → World → Prop} (hgd : o.guard = none) (s x : Operand) (t : TypeId)
    (ho : o.op = .call { callee := .builtin .append, args := #[s, x], argTypes := #[t, t] }) {e : TypeId} {z : Value} {bytes : Nat} (hT : ElemT P t e z bytes)
    {base : Nat} {v : Value} {n : Nat} {xs : List Value} (hown : w0.ownsRow base e 1 v n xs) (hs : a.eval s = v) (u : Value) (q : Nat) (hw : w = (w0.alloc (.cells #[u] e)).drewN q)
    (hx : a.eval x = .slice (some ⟨w0.heap.size, 0, none⟩) 1 1) (hu : u.oneCell' = true) (h63 : n + 1 ≤ maxLen) (hbytes : (n + 1) * bytes ≤ 140737488355328) (hbase : base ≤ w0.heap.size)
    (h : ∀ g cap w', w'.ownsRow base e 1 (.slice (some ⟨g, 0, none⟩) (n + 1) cap) (n + 1) (xs ++ [u]) → ((v.ownBlock = some g ∧ w0.grownBy w' (some g)) ∨ (w0.heap.size < g ∧ w0.grownBy w' none)) → g < w'.heap.size →
      wpList P ops Q rest (a.put o.dst (.slice (some ⟨g, 0, none⟩) (n + 1) cap)) w') : wpList P ops Q (o :: rest) a w := by
  subst hw
  obtain ⟨i, hi, hz, hz1, hz2⟩ := info_parts hT.info
  have hown1 : ((w0.alloc (.cells #[u] e)).drewN q).ownsRow base e 1 v n xs := hown.alloc _
  have hg0 : ∀ {w' : World} {row : Option Nat}, ((w0.alloc (.cells #[u] e)).drewN q).grownBy w' row → w0.grownBy w' row := by
    intro w' row h2
    refine ⟨h2.os, h2.tape, h2.output, Nat.le_trans (by simp) h2.size, fun k hk hn => ?_⟩
    rw [h2.block k (by simp; omega) hn]
    exact Below.heap_alloc _ _ _ hk
  have hcell : ∀ j u', [u][j]? = some u' → ((w0.alloc (.cells #[u] e)).drewN q).cell? ((⟨w0.heap.size, 0, none⟩ : Addr).add j) = some u' := by
    intro j u' hj
    match j, hj with
    | 0, hj => simp at hj; subst hj; simp [Addr.add]
  have hone : ∀ u' ∈ [u], u'.oneCell' = true := by intro u' hu'; simp at hu'; subst hu'; exact hu
  rcases hown.2 with ⟨rfl, rfl⟩ | ⟨g, cap, cur, rfl, hbg, hg, hnc, hcm, hsz, htake⟩
  · refine wpList_append_grows _ hgd s x t ho e i z 1 bytes hT.und hi hz hz1 hz2 (by rw [hT.one]; rfl) (by decide) none 0 0 xs hs (fun _ => ⟨rfl, rfl⟩) (by simpa using hown.1) (fun b hb => by cases hb) ⟨w0.heap.size, 0, none⟩ 1 1 [u] hx rfl hcell hone (by omega) h63 hbytes ?_
    intro v' w' h1 h2
    obtain ⟨g, cap, rfl, hb, hlt⟩ := h1.form (by omega)
    have hb' : w0.heap.size < g := by simp at hb; omega
    exact h g cap w' (own_base h1 (by simp; omega)) (.inr ⟨hb', hg0 h2⟩) hlt
  · by_cases hroom : n + 1 ≤ cap
    · refine wpList_append_fits _ hgd s x t ho base e i 1 hT.und hi hz1 g n cap xs hs hown1 ⟨w0.heap.size, 0, none⟩ 1 1 [u] hx rfl hcell hone hroom ?_
      intro w' h1 h2
      exact h g cap w' h1 (.inl ⟨rfl, hg0 h2⟩) (h1.lt g rfl).2
    · refine wpList_append_grows _ hgd s x t ho e i z 1 bytes hT.und hi hz hz1 hz2 (by rw [hT.one]; rfl) (by decide) (some ⟨g, 0, none⟩) n cap xs hs (fun hb => by cases hb) (by simpa using hown.1) (fun b hb j u' hj => by cases hb; exact hown1.cells (g := g) rfl j u' hj) ⟨w0.heap.size, 0, none⟩ 1 1 [u] hx rfl hcell hone (by omega) h63 hbytes ?_
      intro v' w' h1 h2
      obtain ⟨g', cap', rfl, hb, hlt⟩ := h1.form (by omega)
      have hb' : w0.heap.size < g' := by simp at hb; omega
      exact h g' cap' w' (own_base h1 (by simp; omega)) (.inr ⟨hb', hg0 h2⟩) hlt

theorem run_append_of_nil {P : Program} {w : World} {base t ty e n : Nat} {i : TypeInfo} {v : Value} {xs : List Value} (ht : P.underlying t = some (.slice e)) (hi : P.info? e = some i)
    (hown : w.ownsRow base e 1 v n xs) (c : Nat) : (Builtin.append_ #[t, t] ty #[v, .slice none 0 c]).run P w = .ok v w := by
  rcases hown.2 with ⟨rfl, rfl⟩ | ⟨g, cap, cur, rfl, _, _, hnc, _⟩
  · simp [Builtin.append_, run_underlying ht, sizeOf, typeInfo, hi, Builtin.lenOf, Builtin.firstCells]
  · simp [Builtin.append_, run_underlying ht, sizeOf, typeInfo, hi, Builtin.lenOf, Builtin.firstCells, hnc, storeCells]

/-- append(s, x...): x is read from memory. -/
theorem wpList_cat {P : Program} {w : World} {ops : Array Oper} {rest : List Oper} {o : Oper} {a : Act} {Q : Exit → Act → World → Prop} (hgd : o.guard = none) (s x : Operand) (t : TypeId)
    (ho : o.op = .call { callee := .builtin .append, args := #[s, x], argTypes := #[t, t] }) {e : TypeId} {z : Value} {bytes : Nat} (hT : ElemT P t e z bytes)
    {base : Nat} {v : Value} {n : Nat} {xs : List Value} (hown : w.ownsRow base e 1 v n xs) (hs : a.eval s = v) {A : Option Addr} {m c : Nat} {ys : List Value} (hsl : Sl w A m ys)
    (hx : a.eval x = .slice A m c) (hu : ∀ u ∈ ys, u.oneCell' = true) (h63 : n + m ≤ maxLen) (hbytes : (n + m) * bytes ≤ 140737488355328) (hbase : base ≤ w.heap.size)
    (h : ∀ v' w', w'.ownsRow base e 1 v' (n + m) (xs ++ ys) → w.grownBy w' v.ownBlock → (v'.ownBlock = v.ownBlock ∨ v'.ownBlock = some w.heap.size) → (v ≠ .slice none 0 0 → v' ≠ .slice none 0 0) → wpList P ops Q rest (a.put o.dst v') w') :
    wpList P ops Q (o :: rest) a w := by
  obtain ⟨i, hi, hz, hz1, hz2⟩ := info_parts hT.info
  cases A with
  | none =>
    have hys : ys = [] := by
      cases ys with
      | nil => rfl
      | cons y ys => obtain ⟨ad, e', _⟩ := hsl.2 0 y (by simp); cases e'
    subst hys
    have hm : m = 0 := by have := hsl.1; simpa using this.symm
    subst hm
    refine wpList_plain hgd fun K hK => ?_
    have hrun := run_append_of_nil (P := P) (w := w) (t := t) (ty := o.type) hT.und hi hown c
    unfold Oper.wp
    simp [execOp, ho, resolve, invoke, builtin, hs, hx, hrun, Result.andThen]
    exact hK _ _ (h v w (by simpa using hown) (World.grownBy.refl _ _) (.inl rfl) (fun h => h))
  | some ad =>
    refine wpList_append_own_at w hgd s x t ho base e i z 1 bytes hT.und hi hz hz1 hz2 (by rw [hT.one]; rfl) (by decide) v n xs hs hown ad m c ys hx (by rw [hsl.1]; simp) (fun j u hj => ?_) hu h63 hbytes hbase ?_
    · obtain ⟨ad', e', hc⟩ := hsl.2 j u hj
      cases e'
      exact hc
    · intro v' w' h1 h2 h3 h4
      exact h v' w' h1 h2 h4 (fun hv e' => hv (h3.1 e').1)

theorem words_one {q : IntKind} (l : List Nat) : ∀ u ∈ l.map (fun (x : Nat) => Value.int q (x : Int)), u.oneCell' = true := by
  intro u hu
  obtain ⟨x, _, rfl⟩ := List.mem_map.1 hu
  rfl
theorem blk_cells {w : World} {bb t : Nat} {x0 x1 x2 : Value} (h : w.heap[bb]? = some (.cells #[x0, x1, x2] t (0, 0))) :
    w.cell? ⟨bb, 0, none⟩ = some x0 ∧ w.cell? ⟨bb, 1, none⟩ = some x1 ∧ w.cell? ⟨bb, 2, none⟩ = some x2 ∧ w.frozen? ⟨bb, 1, none⟩ = false := by
  refine ⟨?_, ?_, ?_, frozen_of_row w bb 1 _ t h⟩ <;> rw [cell_of_row w bb _ _ t _ h] <;> rfl

theorem own_ne_blk {w : World} {base e n g t : Nat} {v : Value} {xs : List Value} {cs : Array Value} (h : w.ownsRow base e 1 v n xs) (hg : w.heap[g]? = some (.cells cs t (0, 0))) (hne : e ≠ t) : v.ownBlock ≠ some g := by
  rcases h.2 with ⟨rfl, _⟩ | ⟨g', cap, cur, rfl, _, hh, _⟩
  · simp [Value.ownBlock]
  · intro he
    have : g' = g := by simpa [Value.ownBlock] using he
    subst this
    rw [hg] at hh
    injection hh with hh
    injection hh with _ ht
    exact hne ht.symm
theorem own_ne_own {w : World} {b b' e e' n n' g : Nat} {v v' : Value} {xs xs' : List Value} (h : w.ownsRow b e 1 v n xs) (h' : w.ownsRow b' e' 1 v' n' xs') (hne : e ≠ e') (hg : v.ownBlock = some g) : v'.ownBlock ≠ some g := by
  rcases h.2 with ⟨rfl, _⟩ | ⟨g1, cap, cur, rfl, _, hh, _⟩
  · simp [Value.ownBlock] at hg
  · have : g1 = g := by simpa [Value.ownBlock] using hg
    subst this
    exact own_ne_blk h' hh (fun e => hne e.symm)

/-- The first k of l, then z. -/
def fillTo {α : Type} (l : List α) (n : Nat) (z : α) (k : Nat) : List α := l.take k ++ List.replicate (n - k) z
theorem fillTo_zero {α : Type} (l : List α) (n : Nat) (z : α) : fillTo l n z 0 = List.replicate n z := by simp [fillTo]
theorem fillTo_all {α : Type} {l : List α} {n : Nat} (z : α) (h : l.length = n) : fillTo l n z n = l := by simp [fillTo, ← h]
theorem fillTo_set {α : Type} {l : List α} {n k : Nat} {z x : α} (hk : k < n) (hx : l[k]? = some x) : (fillTo l n z k).set k x = fillTo l n z (k + 1) := by
  have h1 : k < l.length := (List.getElem?_eq_some_iff.1 hx).1
  have hl : (l.take k).length = k := by simp; omega
  unfold fillTo
  rw [List.set_append_right _ _ (by omega), hl, Nat.sub_self, List.take_add_one, hx, show n - k = (n - (k + 1)) + 1 from by omega, List.replicate_succ, List.set_cons_zero]
  simp
theorem fillTo_len {α : Type} {l : List α} {n k : Nat} {z : α} (hk : k ≤ n) (h : l.length = n) : (fillTo l n z k).length = n := by simp [fillTo]; omega
end Go.Proofs.YtedmmmlahpmmoaaGreatDoor

namespace Go.Proofs.YtedmmmlahpmmoaaGreatDoor
namespace RuleP

/-- The words along which the labels w stand, from node u on (N nodes). -/
def sols (k N : Nat) (t : List Nat) : Nat → List Nat → List (List Nat)
  | _, [] => [[]]
  | u, c :: w => (List.range k).flatMap fun s => if t.getD (u * k + s) 0 = c then (sols k N t ((u * k + s) % N) w).map (s :: ·) else []
/-- The words that have the image w, in order: those from the first n nodes on. -/
def befTo (k r : Nat) (t w : List Nat) (n : Nat) : List (List Nat) := (List.range n).flatMap fun u => (sols k (k ^ (2 * r)) t u w).map (digB k (2 * r) u ++ ·)
def before (k r : Nat) (t w : List Nat) : List (List Nat) := befTo k r t w (k ^ (2 * r))
/-- The first most of what has been found, and whether that was not all. -/
structure Found (most : Nat) (P L : List (List Nat)) (more : Bool) : Prop where
  list : L = P.take most
  more : more = decide (most < P.length)
theorem Found.start (most : Nat) : Found most [] [] false := ⟨by simp, by simp⟩
theorem Found.all {most : Nat} {P L : List (List Nat)} (h : Found most P L false) : L = P ∧ P.length ≤ most := by
  have h1 : ¬ most < P.length := of_decide_eq_false h.more.symm
  exact ⟨by rw [h.list, List.take_of_length_le (by omega)], by omega⟩
theorem Found.put {most : Nat} {P L : List (List Nat)} (h : Found most P L false) (hl : L.length < most) (x : List Nat) : Found most (P ++ [x]) (L ++ [x]) false := by
  obtain ⟨rfl, h2⟩ := h.all
  exact ⟨by rw [List.take_of_length_le (by simp; omega)], (decide_eq_false (by simp; omega)).symm⟩
theorem Found.full {most : Nat} {P L : List (List Nat)} (h : Found most P L false) (hl : ¬ L.length < most) (x : List Nat) : Found most (P ++ [x]) L true := by
  obtain ⟨rfl, h2⟩ := h.all
  exact ⟨by rw [List.take_append_of_le_length (by omega), List.take_of_length_le (by omega)], (decide_eq_true (by simp; omega)).symm⟩

end RuleP
end Go.Proofs.YtedmmmlahpmmoaaGreatDoor

namespace Go.Proofs.YtedmmmlahpmmoaaGreatDoor
namespace RuleP

/-- The words found ahead, and those from this place on behind x. -/
def onP (P : List (List Nat)) (x : List Nat) (S : List (List Nat)) : List (List Nat) := P ++ S.map (x ++ ·)
/-- More than could be kept were found: something was found. -/
theorem Found.any {most : Nat} {P L : List (List Nat)} {x : List Nat} {S : List (List Nat)} (h : Found most (onP P x S) L true) (h' : P.length ≤ most) : S ≠ [] := by
  have h1 : most < (onP P x S).length := of_decide_eq_true h.more.symm
  intro e
  subst e
  simp [onP] at h1
  omega
end RuleP
end Go.Proofs.YtedmmmlahpmmoaaGreatDoor

namespace Go.Proofs.YtedmmmlahpmmoaaGreatDoor
namespace RuleP

end RuleP
end Go.Proofs.YtedmmmlahpmmoaaGreatDoor

namespace Go.Proofs.YtedmmmlahpmmoaaGreatDoor
open BagP RuleP
namespace SubP

variable {k N : Nat} {t : List Nat} {stop : Bool}

/-- Pairs (state, symbol) in the walk's order. -/
def PLt (p q p' q' : Nat) : Prop := p < p' ∨ (p = p' ∧ q < q')
/-- A row of state i tells where its symbols lead. -/
def RowOk (k N : Nat) (t : List Nat) (stop : Bool) (P Q : Nat → Nat) (S : St) (i : Nat) (row : List Int) : Prop :=
  ∀ (s : Nat) (x : Int), row[s]? = some x → (nodesOf (beh k N t (S.sets.getD i []) s) = [] ∧ x = -1 ∧ stop = false) ∨
    ∃ j : Nat, x = (j : Int) ∧ S.sets[j]? = some (beh k N t (S.sets.getD i []) s) ∧ (j = 0 ∨ P j < i ∨ (P j = i ∧ Q j ≤ s))
structure Inv2 (k N : Nat) (t : List Nat) (stop : Bool) (P Q : Nat → Nat) (i : Nat) (S : St) (row : List Int) (c : Nat) : Prop where
  inv : Inv N i S
  rlen : row.length = c
  zero : S.sets[0]? = some (List.replicate N true)
  zerow : S.words[0]? = some []
  done : ∀ (i' : Nat) r, S.next[i']? = some r → r.length = k ∧ RowOk k N t stop P Q S i' r
  cur : RowOk k N t stop P Q S i row
  src : ∀ j, 0 < j → j < S.sets.length → Q j < k ∧ P j < j ∧ PLt (P j) (Q j) i c ∧ S.words[j]? = some (S.words.getD (P j) [] ++ [Q j]) ∧ S.sets[j]? = some (beh k N t (S.sets.getD (P j) []) (Q j)) ∧
    ((∃ r, S.next[P j]? = some r ∧ r[Q j]? = some (j : Int)) ∨ (P j = i ∧ row[Q j]? = some (j : Int)))
  ord : ∀ j j', 0 < j → j < j' → j' < S.sets.length → PLt (P j) (Q j) (P j') (Q j')

theorem Inv2.start (hN : 0 < N) : Inv2 k N t stop (fun _ => 0) (fun _ => 0) 0 (init N) [] 0 where
  inv := Inv.init hN
  rlen := rfl
  zero := rfl
  zerow := rfl
  done := fun i' r h => by simp [init] at h
  cur := fun s x h => by simp at h
  src := fun j h1 h2 => by simp [init] at h2; omega
  ord := fun j j' h1 h2 h3 => by simp [init] at h3; omega

/-- A row one symbol longer. -/
theorem RowOk.snoc {P Q : Nat → Nat} {S : St} {i : Nat} {row : List Int} {x : Int} (h : RowOk k N t stop P Q S i row)
    (hx : (nodesOf (beh k N t (S.sets.getD i []) row.length) = [] ∧ x = -1 ∧ stop = false) ∨ ∃ j : Nat, x = (j : Int) ∧ S.sets[j]? = some (beh k N t (S.sets.getD i []) row.length) ∧ (j = 0 ∨ P j < i ∨ (P j = i ∧ Q j ≤ row.length))) :
    RowOk k N t stop P Q S i (row ++ [x]) := fun s y hy => by
  rcases get_snoc hy with hy | ⟨rfl, rfl⟩
  · exact h s y hy
  · exact hx
theorem Inv2.longer {P Q : Nat → Nat} {i c : Nat} {S : St} {row : List Int} {x : Int} (h : Inv2 k N t stop P Q i S row c) (hc : RowOk k N t stop P Q S i (row ++ [x])) : Inv2 k N t stop P Q i S (row ++ [x]) (c + 1) where
  inv := h.inv
  rlen := by simp [h.rlen]
  zero := h.zero
  zerow := h.zerow
  done := h.done
  cur := hc
  src := fun j h1 h2 => by
    obtain ⟨a, b, c', d, e, f⟩ := h.src j h1 h2
    refine ⟨a, b, ?_, d, e, f.imp id (fun f => ⟨f.1, get_app f.2⟩)⟩
    rcases c' with c' | ⟨c1, c2⟩
    · exact .inl c'
    · exact .inr ⟨c1, by omega⟩
  ord := h.ord

theorem Inv2.sym {P Q : Nat → Nat} {i c : Nat} {S S' : St} {row row' : List Int} (h : Inv2 k N t stop P Q i S row c) (hi : i < S.sets.length) (hc : c < k) (e : sym k N t stop i S row c = .go S' row') :
    ∃ P' Q', Inv2 k N t stop P' Q' i S' row' (c + 1) := by
  have hinv := (h.inv.sym e).1
  unfold SubP.sym at e
  split at e
  · rename_i h1
    split at e
    · cases e
    · rename_i h2
      injection e with e1 e2
      subst e1 e2
      exact ⟨P, Q, h.longer (h.cur.snoc (.inl ⟨by rw [h.rlen]; exact h1, rfl, by simpa using h2⟩))⟩
  · rename_i h1
    split at e
    · rename_i h2
      injection e with e1 e2
      subst e1 e2
      have hlt := List.idxOf_lt_length_of_mem h2
      have hat : S.sets[S.sets.idxOf (beh k N t (S.sets.getD i []) c)]? = some (beh k N t (S.sets.getD i []) c) := by rw [List.getElem?_eq_getElem hlt]; simp
      refine ⟨P, Q, h.longer (h.cur.snoc (.inr ⟨_, rfl, by rw [h.rlen]; exact hat, ?_⟩))⟩
      rcases Nat.eq_zero_or_pos (S.sets.idxOf (beh k N t (S.sets.getD i []) c)) with h0 | h0
      · exact .inl h0
      · obtain ⟨_, _, h3, _⟩ := h.src _ h0 hlt
        rcases h3 with h3 | ⟨h3, h4⟩
        · exact .inr (.inl h3)
        · exact .inr (.inr ⟨h3, by rw [h.rlen]; omega⟩)
    · rename_i h2
      split at e
      · cases e
      · rename_i h3
        injection e with e1 e2
        subst e1 e2
        have hlen := h.inv.len
        have hne : ∀ {j}, j < S.sets.length → j ≠ S.sets.length := fun h => by omega
        let P' : Nat → Nat := fun x => if x = S.sets.length then i else P x
        let Q' : Nat → Nat := fun x => if x = S.sets.length then c else Q x
        have pO : ∀ {j}, j < S.sets.length → P' j = P j := fun h => if_neg (hne h)
        have qO : ∀ {j}, j < S.sets.length → Q' j = Q j := fun h => if_neg (hne h)
        have pN : P' S.sets.length = i := if_pos rfl
        have qN : Q' S.sets.length = c := if_pos rfl
        have rowO : ∀ {i' : Nat} {r : List Int}, i' < S.sets.length → RowOk k N t stop P Q S i' r → RowOk k N t stop P' Q' ⟨S.sets ++ [beh k N t (S.sets.getD i []) c], S.words ++ [S.words.getD i [] ++ [c]], S.next⟩ i' r := fun {i'} {r} hi' hr s x hx => by
          show (nodesOf (beh k N t ((S.sets ++ _).getD i' []) s) = [] ∧ _) ∨ _
          rw [getD_app hi']
          rcases hr s x hx with h4 | ⟨j, h4, h5, h6⟩
          · exact .inl h4
          · have hj := (List.getElem?_eq_some_iff.1 h5).1
            refine .inr ⟨j, h4, get_app h5, ?_⟩
            rw [pO hj, qO hj]
            exact h6
        refine ⟨P', Q', ⟨hinv, by simp [h.rlen], get_app h.zero, get_app h.zerow, fun i' r hr => ?_, ?_, fun j h4 h5 => ?_, fun j j' h4 h5 h6 => ?_⟩⟩
        · obtain ⟨a, b⟩ := h.done i' r hr
          have hi' : i' < S.sets.length := by
            have h7 : i' < S.next.length := (List.getElem?_eq_some_iff.1 hr).1
            have h8 := h.inv.next
            omega
          exact ⟨a, rowO hi' b⟩
        · refine (rowO hi h.cur).snoc (.inr ⟨S.sets.length, rfl, ?_, .inr (.inr ⟨pN, by rw [qN, h.rlen]; exact Nat.le_refl _⟩)⟩)
          show (S.sets ++ _)[S.sets.length]? = some (beh k N t ((S.sets ++ _).getD i []) row.length)
          rw [get_last, getD_app hi, h.rlen]
        · have h5' : j < S.sets.length + 1 := by simpa using h5
          show Q' j < k ∧ P' j < j ∧ PLt (P' j) (Q' j) i (c + 1) ∧ (S.words ++ [S.words.getD i [] ++ [c]])[j]? = some ((S.words ++ [S.words.getD i [] ++ [c]]).getD (P' j) [] ++ [Q' j]) ∧
            (S.sets ++ [beh k N t (S.sets.getD i []) c])[j]? = some (beh k N t ((S.sets ++ [beh k N t (S.sets.getD i []) c]).getD (P' j) []) (Q' j)) ∧ _
          rcases Nat.lt_or_ge j S.sets.length with hlt | hge
          · obtain ⟨a, b, c', d, e, f⟩ := h.src j h4 hlt
            rw [pO hlt, qO hlt, getD_app (by omega), getD_app (by omega)]
            refine ⟨a, b, ?_, get_app d, get_app e, f.imp id (fun f => ⟨f.1, get_app f.2⟩)⟩
            rcases c' with c' | ⟨c1, c2⟩
            · exact .inl c'
            · exact .inr ⟨c1, by omega⟩
          · obtain rfl : j = S.sets.length := by omega
            rw [pN, qN, getD_app (by omega), getD_app hi, get_last]
            refine ⟨hc, hi, .inr ⟨rfl, by omega⟩, ?_, rfl, .inr ⟨rfl, ?_⟩⟩
            · rw [← hlen, get_last]
            · have := get_last row ((S.sets.length : Nat) : Int)
              rwa [h.rlen] at this
        · have h6' : j' < S.sets.length + 1 := by simpa using h6
          rcases Nat.lt_or_ge j' S.sets.length with hlt | hge
          · rw [pO hlt, qO hlt, pO (by omega), qO (by omega)]
            exact h.ord j j' h4 h5 hlt
          · obtain rfl : j' = S.sets.length := by omega
            rw [pN, qN, pO h5, qO h5]
            exact (h.src j h4 h5).2.2.1

theorem Inv2.rowTo {P Q : Nat → Nat} {i : Nat} {S : St} (h : Inv2 k N t stop P Q i S [] 0) (hi : i < S.sets.length) : ∀ {s : Nat} {S' : St} {row : List Int}, s ≤ k → rowTo k N t stop i S s = .go S' row → S.sets.length ≤ S'.sets.length ∧ ∃ P' Q', Inv2 k N t stop P' Q' i S' row s
  | 0, S', row, _, e => by injection e with e1 e2; subst e1 e2; exact ⟨Nat.le_refl _, P, Q, h⟩
  | s + 1, S', row, hs, e => by
    unfold SubP.rowTo at e
    split at e
    · rename_i S1 row1 e1
      obtain ⟨h1, P1, Q1, h2⟩ := Inv2.rowTo h hi (by omega) e1
      obtain ⟨P2, Q2, h3⟩ := h2.sym (by omega) (by omega) e
      exact ⟨Nat.le_trans h1 (h2.inv.sym e).2.2, P2, Q2, h3⟩
    · cases e
    · cases e
theorem Inv2.next {P Q : Nat → Nat} {i : Nat} {S : St} {row : List Int} (h : Inv2 k N t stop P Q i S row k) (hi : i < S.sets.length) : Inv2 k N t stop P Q (i + 1) ⟨S.sets, S.words, S.next ++ [row]⟩ [] 0 where
  inv := ⟨h.inv.len, h.inv.ok, h.inv.some, h.inv.nd, h.inv.big, by simp [h.inv.next], hi⟩
  rlen := rfl
  zero := h.zero
  zerow := h.zerow
  done := fun i' r hr => by
    rcases get_snoc hr with hr | ⟨rfl, rfl⟩
    · exact h.done i' r hr
    · exact ⟨h.rlen, by rw [h.inv.next]; exact h.cur⟩
  cur := fun s x hx => by simp at hx
  src := fun j h1 h2 => by
    obtain ⟨a, b, c', d, e, f⟩ := h.src j h1 h2
    refine ⟨a, b, .inl ?_, d, e, .inl ?_⟩
    · rcases c' with c' | ⟨c1, c2⟩ <;> omega
    · rcases f with ⟨r, f1, f2⟩ | ⟨f1, f2⟩
      · exact ⟨r, get_app f1, f2⟩
      · refine ⟨row, ?_, f2⟩
        show (S.next ++ [row])[P j]? = _
        rw [f1, ← h.inv.next, get_last]
  ord := h.ord

theorem Inv2.round (hN : 0 < N) : ∀ {i : Nat} {S : St} {row : List Int}, roundTo k N t stop i = .go S row → ∃ P Q, Inv2 k N t stop P Q S.next.length S [] 0
  | 0, S, row, e => by injection e with e1 e2; subst e1 e2; exact ⟨_, _, Inv2.start hN⟩
  | i + 1, S, row, e => by
    unfold roundTo at e
    split at e
    · rename_i S1 row1 e1
      obtain ⟨P, Q, h⟩ := Inv2.round hN e1
      obtain ⟨_, j, hj, hji, hjs⟩ := Inv.round hN e1
      split at e
      · rename_i hlt
        have hji' : S1.next.length = i := by
          rw [hj.next]
          rcases Nat.lt_or_ge j i with h | h
          · have := hjs h; omega
          · omega
        split at e
        · rename_i S2 row2 e2
          injection e with e3 e4
          subst e3 e4
          rw [hji'] at h
          obtain ⟨h1, P', Q', h2⟩ := h.rowTo hlt (Nat.le_refl _) e2
          have h3 := h2.next (by omega)
          refine ⟨P', Q', ?_⟩
          have : (S2.next ++ [row2]).length = i + 1 := by simp [h2.inv.next]
          show Inv2 k N t stop P' Q' (S2.next ++ [row2]).length _ [] 0
          rw [this]
          exact h3
        · cases e
        · cases e
      · injection e with e3 e4
        subst e3 e4
        exact ⟨P, Q, h⟩
    · cases e
    · cases e

/-! ### runs along words -/
/-- The nodes at which a word's preimages end. -/
def run (k N : Nat) (t w : List Nat) : List Bool := w.foldl (fun B c => beh k N t B c) (List.replicate N true)
theorem run_snoc (w : List Nat) (c : Nat) : run k N t (w ++ [c]) = beh k N t (run k N t w) c := by simp [run]
theorem sols_cons_ne {u c : Nat} {w : List Nat} : sols k N t u (c :: w) ≠ [] ↔ ∃ s, s < k ∧ t.getD (u * k + s) 0 = c ∧ sols k N t ((u * k + s) % N) w ≠ [] := by
  constructor
  · intro h
    obtain ⟨y, hy⟩ := List.exists_mem_of_ne_nil _ h
    simp only [sols, List.mem_flatMap, List.mem_range] at hy
    obtain ⟨s, hs, hy⟩ := hy
    split at hy
    · rename_i h1
      refine ⟨s, hs, h1, fun e => ?_⟩
      rw [e] at hy
      simp at hy
    · simp at hy
  · rintro ⟨s, hs, h1, h2⟩
    obtain ⟨y, hy⟩ := List.exists_mem_of_ne_nil _ h2
    refine List.ne_nil_of_mem (a := s :: y) ?_
    simp only [sols, List.mem_flatMap, List.mem_range]
    refine ⟨s, hs, ?_⟩
    rw [if_pos h1]
    exact List.mem_map_of_mem hy
theorem fold_sols (hN : 0 < N) : ∀ (w : List Nat) (B : List Bool), nodesOf (w.foldl (fun B c => beh k N t B c) B) ≠ [] ↔ ∃ u ∈ nodesOf B, sols k N t u w ≠ [] := by
  intro w
  induction w with
  | nil =>
    intro B
    constructor
    · intro h
      obtain ⟨u, hu⟩ := List.exists_mem_of_ne_nil _ h
      exact ⟨u, hu, by simp [sols]⟩
    · rintro ⟨u, hu, _⟩
      exact List.ne_nil_of_mem hu
  | cons c w ih =>
    intro B
    rw [List.foldl_cons, ih]
    constructor
    · rintro ⟨v, hv, hs⟩
      obtain ⟨u, hu, s, h1, h2, h3⟩ := mem_behF.1 ((mem_beh hN).1 hv)
      exact ⟨u, hu, sols_cons_ne.2 ⟨s, h1, h2, by rw [h3]; exact hs⟩⟩
    · rintro ⟨u, hu, hs⟩
      obtain ⟨s, h1, h2, h3⟩ := sols_cons_ne.1 hs
      exact ⟨_, (mem_beh hN).2 (mem_behF.2 ⟨u, hu, s, h1, h2, rfl⟩), h3⟩
theorem mem_all {u : Nat} : u ∈ nodesOf (List.replicate N true) ↔ u < N := by
  rw [mem_nodesOf, List.length_replicate, List.getD_eq_getElem?_getD, List.getElem?_replicate]
  constructor
  · exact fun h => h.1
  · intro h
    rw [if_pos h]
    exact ⟨h, rfl⟩
theorem run_sols (hN : 0 < N) (w : List Nat) : nodesOf (run k N t w) ≠ [] ↔ ∃ u, u < N ∧ sols k N t u w ≠ [] := by
  rw [run, fold_sols hN]
  constructor
  · rintro ⟨u, hu, h⟩; exact ⟨u, mem_all.1 hu, h⟩
  · rintro ⟨u, hu, h⟩; exact ⟨u, mem_all.2 hu, h⟩

/-- The shorter first, then by their numbers. -/
def Slt (k : Nat) (x y : List Nat) : Prop := x.length < y.length ∨ (x.length = y.length ∧ wval k x < wval k y)
theorem Slt.trans {x y z : List Nat} (h : Slt k x y) (h' : Slt k y z) : Slt k x z := by
  rcases h with h | ⟨h, h2⟩ <;> rcases h' with h' | ⟨h', h3⟩
  · exact .inl (by omega)
  · exact .inl (by omega)
  · exact .inl (by omega)
  · exact .inr ⟨by omega, by omega⟩
theorem Slt.asymm {x y : List Nat} (h : Slt k x y) (h' : Slt k y x) : False := by
  rcases h with h | ⟨h, h2⟩ <;> rcases h' with h' | ⟨h', h3⟩ <;> omega
theorem Slt.snoc {x y : List Nat} {a b : Nat} (h : Slt k x y) (ha : a < k) : Slt k (x ++ [a]) (y ++ [b]) := by
  rcases h with h | ⟨h, h2⟩
  · exact .inl (by simpa using h)
  · refine .inr ⟨by simpa using h, ?_⟩
    rw [wval_snoc, wval_snoc]
    have : (wval k x + 1) * k ≤ wval k y * k := Nat.mul_le_mul_right k h2
    rw [Nat.add_mul, Nat.one_mul] at this
    omega
theorem Slt.last {x : List Nat} {a b : Nat} (h : a < b) : Slt k (x ++ [a]) (x ++ [b]) := .inr ⟨by simp, by rw [wval_snoc, wval_snoc]; omega⟩
theorem Slt.of_last {x : List Nat} {a b : Nat} (h : Slt k (x ++ [a]) (x ++ [b])) : a < b := by
  rcases h with h | ⟨_, h⟩
  · simp at h
  · rw [wval_snoc, wval_snoc] at h; omega

theorem Inv2.word {P Q : Nat → Nat} {i c : Nat} {S : St} {row : List Int} (h : Inv2 k N t stop P Q i S row c) : ∀ n j, j ≤ n → j < S.sets.length → (∀ x ∈ S.words.getD j [], x < k) ∧ S.sets[j]? = some (run k N t (S.words.getD j [])) := by
  intro n
  induction n with
  | zero =>
    intro j hj hl
    obtain rfl : j = 0 := by omega
    rw [getD_of h.zerow]
    exact ⟨fun x hx => by simp at hx, h.zero⟩
  | succ n ih =>
    intro j hj hl
    rcases Nat.eq_zero_or_pos j with rfl | h0
    · rw [getD_of h.zerow]
      exact ⟨fun x hx => by simp at hx, h.zero⟩
    · obtain ⟨a, b, _, d, e, _⟩ := h.src j h0 hl
      obtain ⟨h1, h2⟩ := ih (P j) (by omega) (by omega)
      rw [getD_of d, run_snoc]
      refine ⟨fun x hx => ?_, ?_⟩
      · rcases List.mem_append.1 hx with hx | hx
        · exact h1 x hx
        · simp at hx; omega
      · rw [e, getD_of h2]
theorem Inv2.lt {P Q : Nat → Nat} {i c : Nat} {S : St} {row : List Int} (h : Inv2 k N t stop P Q i S row c) : ∀ n j j', j' ≤ n → j < j' → j' < S.sets.length → Slt k (S.words.getD j []) (S.words.getD j' []) := by
  intro n
  induction n with
  | zero => intro j j' h1 h2; omega
  | succ n ih =>
    intro j j' h1 h2 h3
    obtain ⟨a', b', _, d', _, _⟩ := h.src j' (by omega) h3
    rw [getD_of d']
    rcases Nat.eq_zero_or_pos j with rfl | h0
    · rw [getD_of h.zerow]
      exact .inl (by simp)
    · obtain ⟨a, b, _, d, _, _⟩ := h.src j h0 (by omega)
      rw [getD_of d]
      rcases h.ord j j' h0 h2 h3 with h4 | ⟨h4, h5⟩
      · exact (ih (P j) (P j') (by omega) h4 (by omega)).snoc a
      · rw [h4]; exact Slt.last h5

/-- Where a set leads: the state's word comes not behind the longer word. -/
theorem Inv2.leads {P Q : Nat → Nat} {i c : Nat} {S : St} {row : List Int} (h : Inv2 k N t stop P Q i S row c) (hs : stop = true) {j b : Nat} (hj : j < S.sets.length) (hb : b < k) (hp : PLt j b i c) :
    ∃ j', S.sets[j']? = some (beh k N t (S.sets.getD j []) b) ∧ (S.words.getD j' [] = S.words.getD j [] ++ [b] ∨ Slt k (S.words.getD j' []) (S.words.getD j [] ++ [b])) := by
  have hrow : ∃ x, (∃ r, r[b]? = some x ∧ RowOk k N t stop P Q S j r) := by
    rcases hp with hp | ⟨rfl, hp⟩
    · have hn : j < S.next.length := by rw [h.inv.next]; exact hp
      obtain ⟨h1, h2⟩ := h.done j _ (List.getElem?_eq_getElem hn)
      exact ⟨_, _, List.getElem?_eq_getElem (by omega), h2⟩
    · exact ⟨_, row, List.getElem?_eq_getElem (by rw [h.rlen]; exact hp), h.cur⟩
  obtain ⟨x, r, h1, h2⟩ := hrow
  rcases h2 b x h1 with ⟨_, _, h3⟩ | ⟨j', _, h4, h5⟩
  · rw [hs] at h3; cases h3
  · refine ⟨j', h4, ?_⟩
    have hl := (List.getElem?_eq_some_iff.1 h4).1
    rcases Nat.eq_zero_or_pos j' with rfl | h0
    · rw [getD_of h.zerow]
      exact .inr (.inl (by simp))
    · obtain ⟨a, _, _, d, _, _⟩ := h.src j' h0 hl
      rw [getD_of d]
      rcases h5 with h5 | h5 | ⟨h5, h6⟩
      · omega
      · exact .inr ((h.lt _ (P j') j (Nat.le_refl _) h5 hj).snoc a)
      · rw [h5]
        rcases Nat.lt_or_ge (Q j') b with h7 | h7
        · exact .inr (Slt.last h7)
        · exact .inl (by rw [show Q j' = b by omega])

/-- Every word that comes ahead of the first orphan leads to a state. -/
theorem Inv2.ahead {P Q : Nat → Nat} {i c : Nat} {S : St} {row : List Int} (h : Inv2 k N t stop P Q i S row c) (hs : stop = true) (hi : i < S.sets.length) (hc : c < k) : ∀ n (y : List Nat), y.length = n → (∀ x ∈ y, x < k) → Slt k y (S.words.getD i [] ++ [c]) →
    ∃ j, S.sets[j]? = some (run k N t y) ∧ (S.words.getD j [] = y ∨ Slt k (S.words.getD j []) y) := by
  intro n
  induction n with
  | zero =>
    intro y hy _ _
    obtain rfl := List.eq_nil_of_length_eq_zero hy
    exact ⟨0, h.zero, .inl (getD_of h.zerow)⟩
  | succ n ih =>
    intro y hy hyk hlt
    have hne : y ≠ [] := by intro e; subst e; simp at hy
    obtain ⟨z, b, rfl⟩ : ∃ z b, y = z ++ [b] := ⟨y.dropLast, y.getLast hne, (List.dropLast_concat_getLast hne).symm⟩
    have hzl : z.length = n := by simpa using hy
    have hbk : b < k := hyk b (by simp)
    have hzs : Slt k z (S.words.getD i [] ++ [c]) := by
      refine .inl ?_
      rcases hlt with h' | ⟨h', _⟩ <;> simp at h' ⊢ <;> omega
    obtain ⟨j, h1, h2⟩ := ih z hzl (fun x hx => hyk x (by simp [hx])) hzs
    have hj := (List.getElem?_eq_some_iff.1 h1).1
    have h3 : S.words.getD j [] ++ [b] = z ++ [b] ∨ Slt k (S.words.getD j [] ++ [b]) (z ++ [b]) := h2.imp (fun e => by rw [e]) (fun e => e.snoc hbk)
    have h4 : Slt k (S.words.getD j [] ++ [b]) (S.words.getD i [] ++ [c]) := by
      rcases h3 with h3 | h3
      · rw [h3]; exact hlt
      · exact h3.trans hlt
    have hp : PLt j b i c := by
      rcases Nat.lt_trichotomy j i with h5 | h5 | h5
      · exact .inl h5
      · subst h5; exact .inr ⟨rfl, h4.of_last⟩
      · exact absurd ((h.lt _ i j (Nat.le_refl _) h5 hj).snoc hc) (fun h' => h'.asymm h4)
    obtain ⟨j', h5, h6⟩ := h.leads hs hj hbk hp
    refine ⟨j', by rw [run_snoc, h5, getD_of h1], ?_⟩
    rcases h6 with h6 | h6
    · rw [h6]; exact h3
    · rcases h3 with h3 | h3
      · rw [← h3]; exact .inr h6
      · exact .inr (h6.trans h3)
theorem fill_next {row : List Int} {k s : Nat} (hl : row.length = s) (hs : s < k) (x : Int) : (row ++ List.replicate (k - s) 0).set s x = (row ++ [x]) ++ List.replicate (k - (s + 1)) 0 := by
  rw [List.set_append_right _ _ (by omega), hl, Nat.sub_self, show k - s = (k - (s + 1)) + 1 by omega, List.replicate_succ]
  simp
end SubP
end Go.Proofs.YtedmmmlahpmmoaaGreatDoor
