/- What memory holds: slices that are read, slices that the call owns, worlds that differ in a few blocks alone. Plain lemmas, no program. No condition. The error that a number stands for, and the error that a package tells: what root, fault.New return. Condition: the package's error variables hold what E says. The types' rows of the program's table. Closed facts. Numbers as digits, the lowest first: plain lists, no program. A list without a nought at its end is the digits of its value. No condition. Rules as plain lists: what is a rule, windows' numbers, images. No program. No condition. -/
import Derived.Test.YtibplgpolmplpaaGreatDoorProg
import Derived.WalkKit
import Derived.WalkSpells
import Derived.WalkLawsBesides
import Derived.Below
import Derived.Laws.OwnMore
import Derived.ArgAppend
import Derived.Deep.AppendLies
import Derived.Deep.Draws
import Derived.Deep.OwnRows
import Derived.Deep.QuietTactic
import Derived.BigQuiet
import Derived.Lib.Hide
namespace Go.Proofs.YtibplgpolmplpaaGreatDoor
open Go.RowKit

/-- Only blocks of O, and new ones, have changed. -/
structure Keeps (O : Nat → Prop) (w w' : World) : Prop where
  os : w'.os = w.os
  tape : w'.tape = w.tape
  output : w'.output = w.output
  size : w.heap.size ≤ w'.heap.size
  block : ∀ k, k < w.heap.size → ¬ O k → w'.heap[k]? = w.heap[k]?

namespace Keeps
variable {O O' : Nat → Prop} {w w' w'' : World}
theorem refl (O : Nat → Prop) (w : World) : Keeps O w w := ⟨rfl, rfl, rfl, Nat.le_refl _, fun _ _ _ => rfl⟩
theorem mono (h : Keeps O w w') (ho : ∀ k, k < w.heap.size → O k → O' k) : Keeps O' w w' :=
  ⟨h.os, h.tape, h.output, h.size, fun k hk hn => h.block k hk (fun hO => hn (ho k hk hO))⟩
theorem trans (h : Keeps O w w') (h' : Keeps O' w' w'') (ho : ∀ k, k < w.heap.size → O' k → O k) : Keeps O w w'' :=
  ⟨h'.os.trans h.os, h'.tape.trans h.tape, h'.output.trans h.output, Nat.le_trans h.size h'.size,
    fun k hk hn => (h'.block k (Nat.lt_of_lt_of_le hk h.size) (fun x => hn (ho k hk x))).trans (h.block k hk hn)⟩
theorem of_pure (h : Below w.heap.size w w') (O : Nat → Prop) : Keeps O w w' :=
  ⟨h.os, h.tape, h.output, h.size, fun k hk _ => h.block k hk⟩
theorem of_grown {row : Option Nat} (h : w.grownBy w' row) : Keeps (fun k => row = some k) w w' :=
  ⟨h.os, h.tape, h.output, h.size, fun k hk hn => h.block k hk (fun e => hn e.symm)⟩
theorem of_setCell (w : World) (a : Addr) (u : Value) : Keeps (fun k => k = a.block) w (w.setCell a u) :=
  ⟨rfl, rfl, rfl, by simp [World.setCell], fun k _ hn => Below.heap_setCell _ _ _ _ hn⟩
theorem below (h : Keeps O w w') {B : Nat} (hB : B ≤ w.heap.size) (ho : ∀ k, O k → B ≤ k) : Below B w w' :=
  ⟨h.os, h.tape, h.output, h.size, fun k hk => h.block k (by omega) (fun x => by have := ho k x; omega)⟩
theorem cell (h : Keeps O w w') {a : Addr} {v : Value} (hv : w.cell? a = some v) (ho : ¬ O a.block) : w'.cell? a = some v :=
  (World.cell?_of_block (w := w) (h.block a.block (World.block_lt_of_cell? _ _ hv) ho)).trans hv
end Keeps

theorem keeps_new {O : Nat → Prop} {wx w w' : World} (hk : Keeps O wx w) (hg : w.grownBy w' none) : Keeps O wx w' :=
  ⟨hg.os.trans hk.os, hg.tape.trans hk.tape, hg.output.trans hk.output, Nat.le_trans hk.size hg.size, fun k h1 h2 => by
    rw [hg.block k (Nat.lt_of_lt_of_le h1 hk.size) (fun e => by cases e)]
    exact hk.block k h1 h2⟩
theorem below_drewN {B : Nat} {w w' : World} (h : Below B w w') (n : Nat) : Below B w (w'.drewN n) := ⟨h.os, h.tape, h.output, h.size, h.block⟩
theorem pure_drewN (w : World) (n : Nat) : Below w.heap.size w (w.drewN n) := below_drewN (Below.refl _ _) n
theorem pure_trans {w w1 w2 : World} (h : Below w.heap.size w w1) (h' : Below w1.heap.size w1 w2) : Below w.heap.size w w2 := h.trans (h'.mono h.size)

/-- The slice of address A and length n reads as xs. -/
def Sl (w : World) (A : Option Addr) (n : Nat) (xs : List Value) : Prop :=
  xs.length = n ∧ ∀ k v, xs[k]? = some v → ∃ ad, A = some ad ∧ w.cell? (ad.add k) = some v

theorem block_of_add (a : Addr) (n : Nat) : (a.add n).block = a.block := by unfold Addr.add; split <;> rfl
theorem add_of_add (a : Addr) (i j : Nat) : (a.add i).add j = a.add (i + j) := by
  unfold Addr.add
  by_cases hi : i = 0 <;> by_cases hj : j = 0 <;> simp [hi, hj, Nat.add_assoc]

namespace Sl
variable {w w' : World} {A : Option Addr} {n : Nat} {xs : List Value}
theorem nil (w : World) (A : Option Addr) : Sl w A 0 [] := ⟨rfl, fun k v h => by simp at h⟩
theorem len (h : Sl w A n xs) : xs.length = n := h.1
theorem at_ {k : Nat} (h : Sl w A n xs) (hk : k < n) : ∃ ad u, A = some ad ∧ xs[k]? = some u ∧ w.cell? (ad.add k) = some u := by
  have hl : k < xs.length := by have := h.1; omega
  obtain ⟨ad, e, hc⟩ := h.2 k xs[k] (List.getElem?_eq_getElem hl)
  exact ⟨ad, xs[k], e, List.getElem?_eq_getElem hl, hc⟩
theorem int_ {k : Nat} {q : IntKind} {l : List Int} (h : Sl w A n (l.map (Value.int q))) (hk : k < n) : ∃ ad x, A = some ad ∧ l[k]? = some x ∧ w.cell? (ad.add k) = some (.int q x) := by
  obtain ⟨ad, u, h1, h3, h4⟩ := h.at_ hk
  rw [List.getElem?_map] at h3
  cases hl : l[k]? with
  | none => rw [hl] at h3; cases h3
  | some x => rw [hl] at h3; cases h3; exact ⟨ad, x, h1, rfl, h4⟩
theorem word_ {k : Nat} {q : IntKind} {l : List Nat} (h : Sl w A n (l.map (fun (x : Nat) => Value.int q (x : Int)))) (hk : k < n) : ∃ ad x, A = some ad ∧ l[k]? = some x ∧ w.cell? (ad.add k) = some (.int q (x : Int)) := by
  obtain ⟨ad, u, h1, h3, h4⟩ := h.at_ hk
  rw [List.getElem?_map] at h3
  cases hl : l[k]? with
  | none => rw [hl] at h3; cases h3
  | some x => rw [hl] at h3; cases h3; exact ⟨ad, x, h1, rfl, h4⟩
theorem keep (h : Sl w A n xs) (hk : ∀ (p : Addr) v, w.cell? p = some v → (∀ ad, A = some ad → p.block = ad.block) → w'.cell? p = some v) : Sl w' A n xs :=
  ⟨h.1, fun k v hv => by
    obtain ⟨ad, e, hc⟩ := h.2 k v hv
    exact ⟨ad, e, hk _ _ hc (fun ad' e' => by rw [e] at e'; cases e'; exact block_of_add _ _)⟩⟩
theorem below (h : Sl w A n xs) (hb : Below w.heap.size w w') : Sl w' A n xs := h.keep fun _ _ hc _ => cell_later hb hc
theorem keeps {O : Nat → Prop} (h : Sl w A n xs) (hk : Keeps O w w') (ho : ∀ ad, A = some ad → ¬ O ad.block) : Sl w' A n xs :=
  ⟨h.1, fun k v hv => by
    obtain ⟨ad, e, hc⟩ := h.2 k v hv
    exact ⟨ad, e, hk.cell hc (by rw [block_of_add]; exact ho ad e)⟩⟩
theorem drewN (h : Sl w A n xs) (q : Nat) : Sl (w.drewN q) A n xs := h
theorem alloc (h : Sl w A n xs) (o : Obj) : Sl (w.alloc o) A n xs := h.keep fun p _ hc _ => by
  rw [World.cell?_alloc_lt w o p (World.block_lt_of_cell? _ _ hc)]; exact hc
theorem of_own {base e c : Nat} (h : w.ownsRow base e 1 (.slice A n c) n xs) : Sl w A n xs := by
  refine ⟨by simpa using h.1, fun k v hv => ?_⟩
  have hn : 0 < n := by
    rcases Nat.eq_zero_or_pos n with h0 | h0
    · subst h0; have := h.1; simp at this; subst this; simp at hv
    · exact h0
  obtain ⟨g, cap, hv', _, _⟩ := h.form hn
  injection hv' with hA
  subst hA
  exact ⟨_, rfl, h.cells (g := g) rfl k v hv⟩
end Sl

/-- The slice's type and its elements' row of the program's table. -/
structure ElemT (P : Program) (t e : TypeId) (z : Value) (bytes : Nat) : Prop where
  und : P.underlying t = some (.slice e)
  info : (P.info? e).map (fun i => (i.zero, i.size, i.bytes)) = some (some z, 1, bytes)
  one : z.cells = #[z]

/-- Of an owned slice: how its value looks. -/
theorem own_slice {w : World} {base e : Nat} {v : Value} {n : Nat} {xs : List Value} (h : w.ownsRow base e 1 v n xs) : ∃ A c, v = .slice A n c ∧ n ≤ c ∧ c ≤ maxLen := by
  rcases h.2 with ⟨rfl, rfl⟩ | ⟨g, cap, cur, rfl, _, _, h1, h2, _⟩
  · exact ⟨none, 0, rfl, Nat.le_refl _, Nat.zero_le _⟩
  · exact ⟨_, _, rfl, h1, h2⟩

theorem own_keeps {w w' : World} {O : Nat → Prop} {base e : Nat} {v : Value} {n : Nat} {xs : List Value} (h : w.ownsRow base e 1 v n xs) (hk : Keeps O w w') (ho : ∀ g, v.ownBlock = some g → ¬ O g) : w'.ownsRow base e 1 v n xs := by
  refine ⟨h.1, ?_⟩
  rcases h.2 with hn | ⟨g, cap, cur, rfl, hb, hgg, rest⟩
  · exact .inl hn
  · refine .inr ⟨g, cap, cur, rfl, hb, ?_, rest⟩
    rw [hk.block g (Array.getElem?_eq_some_iff.1 hgg).1 (ho g rfl)]
    exact hgg

theorem own_below {w w' : World} {base e : Nat} {v : Value} {n : Nat} {xs : List Value} (h : w.ownsRow base e 1 v n xs) (hk : Below w.heap.size w w') : w'.ownsRow base e 1 v n xs :=
  own_keeps h (Keeps.of_pure hk (fun _ => False)) (fun _ _ h => h)

theorem own_base {w : World} {base base' e : Nat} {v : Value} {n : Nat} {xs : List Value} (h : w.ownsRow base e 1 v n xs) (hb : base' ≤ base) : w.ownsRow base' e 1 v n xs := by
  refine ⟨h.1, ?_⟩
  rcases h.2 with hn | ⟨g, cap, cur, hv, hg, rest⟩
  · exact .inl hn
  · exact .inr ⟨g, cap, cur, hv, Nat.le_trans hb hg, rest⟩

/-- The answer is a new slice that holds xs (and a nil error behind it); nothing that was there has changed. -/
def SomeRow (w : World) (e : TypeId) (xs : List Value) (en : Ending) (w' : World) : Prop :=
  ∃ v, en = .returned (.tuple #[v, .nilIface]) ∧ w'.ownsRow w.heap.size e 1 v xs.length xs ∧ Below w.heap.size w w'
/-- append(s, x) of one element: x lies in a new block of one cell. -/
theorem wpList_push {P : Program} {w w0 : World} {ops : Array Oper} {rest : List Oper} {o : Oper} {a : Act} {Q : Exit → Act → World → Prop} (hgd : o.guard = none) (s x : Operand) (t : TypeId)
    (ho : o.op = .call { callee := .builtin .append, args := #[s, x], argTypes := #[t, t] }) {e : TypeId} {z : Value} {bytes : Nat} (hT : ElemT P t e z bytes)
    {base : Nat} {v : Value} {n : Nat} {xs : List Value} (hown : w0.ownsRow base e 1 v n xs) (hs : a.eval s = v) (u : Value) (q : Nat) (hw : w = (w0.alloc (.cells #[u] e)).drewN q)
    (hx : a.eval x = .slice (some ⟨w0.heap.size, 0, none⟩) 1 1) (hu : u.oneCell' = true) (h63 : n + 1 ≤ maxLen) (hbytes : (n + 1) * bytes ≤ 140737488355328) (hbase : base ≤ w0.heap.size)
    (h : ∀ g cap w', w'.ownsRow base e 1 (.slice (some ⟨g, 0, none⟩) (n + 1) cap) (n + 1) (xs ++ [u]) → w0.grownBy w' v.ownBlock → (v.ownBlock = some g ∨ w0.heap.size < g) → g < w'.heap.size →
      wpList P ops Q rest (a.put o.dst (.slice (some ⟨g, 0, none⟩) (n + 1) cap)) w') : wpList P ops Q (o :: rest) a w := by
  subst hw
  obtain ⟨i, hi, hz, hz1, hz2⟩ := info_parts hT.info
  have hown1 : ((w0.alloc (.cells #[u] e)).drewN q).ownsRow base e 1 v n xs := hown.alloc _
  refine wpList_append_lies _ hgd s x t ho base e i z 1 bytes hT.und hi hz hz1 hz2 (by rw [hT.one]; rfl) (by decide) v n xs hs hown1 ⟨w0.heap.size, 0, none⟩ 1 1 [u] hx rfl ?_ ?_ (by decide) h63 hbytes (by simp; omega) _ rfl ?_
  · intro j u' hj
    match j, hj with
    | 0, hj => simp at hj; subst hj; simp [Addr.add]
  · intro u' hu'; simp at hu'; subst hu'; exact hu
  · intro g cap w' h1 h2 h3 h4
    refine h g cap w' h1 ⟨h2.os, h2.tape, h2.output, Nat.le_trans (by simp) h2.size, fun k hk hn => ?_⟩ ?_ h4
    · rw [h2.block k (by simp; omega) hn]
      exact Below.heap_alloc _ _ _ hk
    · rcases h3 with h3 | h3
      · exact .inl h3
      · right; rw [h3]; simp

/-- append(s, x) of one element, the old row kept where a new one is made. -/
theorem wpList_push2 {P : Program} {w w0 : World} {ops : Array Oper} {rest : List Oper} {o : Oper} {a : Act} {Q : Exit → Act → World → Prop} (hgd : o.guard = none) (s x : Operand) (t : TypeId)
    (ho : o.op = .call { callee := .builtin .append, args := #[s, x], argTypes := #[t, t] }) {e : TypeId} {z : Value} {bytes : Nat} (hT : ElemT P t e z bytes)
    {base : Nat} {v : Value} {n : Nat} {xs : List Value} (hown : w0.ownsRow base e 1 v n xs) (hs : a.eval s = v) (u : Value) (q : Nat) (hw : w = (w0.alloc (.cells #[u] e)).drewN q)
    (hx : a.eval x = .slice (some ⟨w0.heap.size, 0, none⟩) 1 1) (hu : u.oneCell' = true) (h63 : n + 1 ≤ maxLen) (hbytes : (n + 1) * bytes ≤ 140737488355328) (hbase : base ≤ w0.heap.size)
    (h : ∀ g cap w', w'.ownsRow base e 1 (.slice (some ⟨g, 0, none⟩) (n + 1) cap) (n + 1) (xs ++ [u]) → ((v.ownBlock = some g ∧ w0.grownBy w' (some g)) ∨ (w0.heap.size < g ∧ w0.grownBy w' none)) → g < w'.heap.size →
      wpList P ops Q rest (a.put o.dst (.slice (some ⟨g, 0, none⟩) (n + 1) cap)) w') : wpList P ops Q (o :: rest) a w := by
  subst hw
  obtain ⟨i, hi, hz, hz1, hz2⟩ := info_parts hT.info
  have hown1 : ((w0.alloc (.cells #[u] e)).drewN q).ownsRow base e 1 v n xs := hown.alloc _
  have hg0 : ∀ {w' : World} {row : Option Nat}, ((w0.alloc (.cells #[u] e)).drewN q).grownBy w' row → w0.grownBy w' row := by
    intro w' row h2
    refine ⟨h2.os, h2.tape, h2.output, Nat.le_trans (by simp) h2.size, fun k hk hn => ?_⟩
    rw [h2.block k (by simp; omega) hn]
    exact Below.heap_alloc _ _ _ hk
  have hcell : ∀ j u', [u][j]? = some u' → ((w0.alloc (.cells #[u] e)).drewN q).cell? ((⟨w0.heap.size, 0, none⟩ : Addr).add j) = some u' := by
    intro j u' hj
    match j, hj with
    | 0, hj => simp at hj; subst hj; simp [Addr.add]
  have hone : ∀ u' ∈ [u], u'.oneCell' = true := by intro u' hu'; simp at hu'; subst hu'; exact hu
  rcases hown.2 with ⟨rfl, rfl⟩ | ⟨g, cap, cur, rfl, hbg, hg, hnc, hcm, hsz, htake⟩
  · refine wpList_append_grows _ hgd s x t ho e i z 1 bytes hT.und hi hz hz1 hz2 (by rw [hT.one]; rfl) (by decide) none 0 0 xs hs (fun _ => ⟨rfl, rfl⟩) (by simpa using hown.1) (fun b hb => by cases hb) ⟨w0.heap.size, 0, none⟩ 1 1 [u] hx rfl hcell hone (by omega) h63 hbytes ?_
    intro v' w' h1 h2
    obtain ⟨g, cap, rfl, hb, hlt⟩ := h1.form (by omega)
    have hb' : w0.heap.size < g := by simp at hb; omega
    exact h g cap w' (own_base h1 (by simp; omega)) (.inr ⟨hb', hg0 h2⟩) hlt
  · by_cases hroom : n + 1 ≤ cap
    · refine wpList_append_fits _ hgd s x t ho base e i 1 hT.und hi hz1 g n cap xs hs hown1 ⟨w0.heap.size, 0, none⟩ 1 1 [u] hx rfl hcell hone hroom ?_
      intro w' h1 h2
      exact h g cap w' h1 (.inl ⟨rfl, hg0 h2⟩) (h1.lt g rfl).2
    · refine wpList_append_grows _ hgd s x t ho e i z 1 bytes hT.und hi hz hz1 hz2 (by rw [hT.one]; rfl) (by decide) (some ⟨g, 0, none⟩) n cap xs hs (fun hb => by cases hb) (by simpa using hown.1) (fun b hb j u' hj => by cases hb; exact hown1.cells (g := g) rfl j u' hj) ⟨w0.heap.size, 0, none⟩ 1 1 [u] hx rfl hcell hone (by omega) h63 hbytes ?_
      intro v' w' h1 h2
      obtain ⟨g', cap', rfl, hb, hlt⟩ := h1.form (by omega)
      have hb' : w0.heap.size < g' := by simp at hb; omega
      exact h g' cap' w' (own_base h1 (by simp; omega)) (.inr ⟨hb', hg0 h2⟩) hlt

theorem run_append_of_nil {P : Program} {w : World} {base t ty e n : Nat} {i : TypeInfo} {v : Value} {xs : List Value} (ht : P.underlying t = some (.slice e)) (hi : P.info? e = some i)
    (hown : w.ownsRow base e 1 v n xs) (c : Nat) : (Builtin.append_ #[t, t] ty #[v, .slice none 0 c]).run P w = .ok v w := by
  rcases hown.2 with ⟨rfl, rfl⟩ | ⟨g, cap, cur, rfl, _, _, hnc, _⟩
  · simp [Builtin.append_, run_underlying ht, sizeOf, typeInfo, hi, Builtin.lenOf, Builtin.firstCells]
  · simp [Builtin.append_, run_underlying ht, sizeOf, typeInfo, hi, Builtin.lenOf, Builtin.firstCells, hnc, storeCells]

/-- append(s, x...): x is read from memory. -/
theorem wpList_cat {P : Program} {w : World} {ops : Array Oper} {rest : List Oper} {o : Oper} {a : Act} {Q : Exit → Act → World → Prop} (hgd : o.guard = none) (s x : Operand) (t : TypeId)
    (ho : o.op = .call { callee := .builtin .append, args := #[s, x], argTypes := #[t, t] }) {e : TypeId} {z : Value} {bytes : Nat} (hT : ElemT P t e z bytes)
    {base : Nat} {v : Value} {n : Nat} {xs : List Value} (hown : w.ownsRow base e 1 v n xs) (hs : a.eval s = v) {A : Option Addr} {m c : Nat} {ys : List Value} (hsl : Sl w A m ys)
    (hx : a.eval x = .slice A m c) (hu : ∀ u ∈ ys, u.oneCell' = true) (h63 : n + m ≤ maxLen) (hbytes : (n + m) * bytes ≤ 140737488355328) (hbase : base ≤ w.heap.size)
    (h : ∀ v' w', w'.ownsRow base e 1 v' (n + m) (xs ++ ys) → w.grownBy w' v.ownBlock → (v'.ownBlock = v.ownBlock ∨ v'.ownBlock = some w.heap.size) → (v ≠ .slice none 0 0 → v' ≠ .slice none 0 0) → wpList P ops Q rest (a.put o.dst v') w') :
    wpList P ops Q (o :: rest) a w := by
  obtain ⟨i, hi, hz, hz1, hz2⟩ := info_parts hT.info
  cases A with
  | none =>
    have hys : ys = [] := by
      cases ys with
      | nil => rfl
      | cons y ys => obtain ⟨ad, e', _⟩ := hsl.2 0 y (by simp); cases e'
    subst hys
    have hm : m = 0 := by have := hsl.1; simpa using this.symm
    subst hm
    refine wpList_plain hgd fun K hK => ?_
    have hrun := run_append_of_nil (P := P) (w := w) (t := t) (ty := o.type) hT.und hi hown c
    unfold Oper.wp
    simp [execOp, ho, resolve, invoke, builtin, hs, hx, hrun, Result.andThen]
    exact hK _ _ (h v w (by simpa using hown) (World.grownBy.refl _ _) (.inl rfl) (fun h => h))
  | some ad =>
    refine wpList_append_own_at w hgd s x t ho base e i z 1 bytes hT.und hi hz hz1 hz2 (by rw [hT.one]; rfl) (by decide) v n xs hs hown ad m c ys hx (by rw [hsl.1]; simp) (fun j u hj => ?_) hu h63 hbytes hbase ?_
    · obtain ⟨ad', e', hc⟩ := hsl.2 j u hj
      cases e'
      exact hc
    · intro v' w' h1 h2 h3 h4
      exact h v' w' h1 h2 h4 (fun hv e' => hv (h3.1 e').1)

theorem ints_one {q : IntKind} (l : List Int) : ∀ u ∈ l.map (Value.int q), u.oneCell' = true := by
  intro u hu
  obtain ⟨x, _, rfl⟩ := List.mem_map.1 hu
  rfl

theorem blk_cells {w : World} {bb t : Nat} {x0 x1 x2 : Value} (h : w.heap[bb]? = some (.cells #[x0, x1, x2] t (0, 0))) :
    w.cell? ⟨bb, 0, none⟩ = some x0 ∧ w.cell? ⟨bb, 1, none⟩ = some x1 ∧ w.cell? ⟨bb, 2, none⟩ = some x2 ∧ w.frozen? ⟨bb, 1, none⟩ = false := by
  refine ⟨?_, ?_, ?_, frozen_of_row w bb 1 _ t h⟩ <;> rw [cell_of_row w bb _ _ t _ h] <;> rfl

theorem own_ne_blk {w : World} {base e n g t : Nat} {v : Value} {xs : List Value} {cs : Array Value} (h : w.ownsRow base e 1 v n xs) (hg : w.heap[g]? = some (.cells cs t (0, 0))) (hne : e ≠ t) : v.ownBlock ≠ some g := by
  rcases h.2 with ⟨rfl, _⟩ | ⟨g', cap, cur, rfl, _, hh, _⟩
  · simp [Value.ownBlock]
  · intro he
    have : g' = g := by simpa [Value.ownBlock] using he
    subst this
    rw [hg] at hh
    injection hh with hh
    injection hh with _ ht
    exact hne ht.symm
theorem own_ne_map {w : World} {base e n g : Nat} {v : Value} {xs : List Value} {es : Array MapEntry} {ck : Nat} (h : w.ownsRow base e 1 v n xs) (hg : w.heap[g]? = some (.map es ck)) : v.ownBlock ≠ some g := by
  rcases h.2 with ⟨rfl, _⟩ | ⟨g', cap, cur, rfl, _, hh, _⟩
  · simp [Value.ownBlock]
  · intro he
    have : g' = g := by simpa [Value.ownBlock] using he
    subst this
    rw [hg] at hh
    cases hh

theorem own_ne_own {w : World} {b b' e e' n n' g : Nat} {v v' : Value} {xs xs' : List Value} (h : w.ownsRow b e 1 v n xs) (h' : w.ownsRow b' e' 1 v' n' xs') (hne : e ≠ e') (hg : v.ownBlock = some g) : v'.ownBlock ≠ some g := by
  rcases h.2 with ⟨rfl, _⟩ | ⟨g1, cap, cur, rfl, _, hh, _⟩
  · simp [Value.ownBlock] at hg
  · have : g1 = g := by simpa [Value.ownBlock] using hg
    subst this
    exact own_ne_blk h' hh (fun e => hne e.symm)

/-- The first k of l, then z. -/
def fillTo {α : Type} (l : List α) (n : Nat) (z : α) (k : Nat) : List α := l.take k ++ List.replicate (n - k) z
theorem fillTo_zero {α : Type} (l : List α) (n : Nat) (z : α) : fillTo l n z 0 = List.replicate n z := by simp [fillTo]
theorem fillTo_all {α : Type} {l : List α} {n : Nat} (z : α) (h : l.length = n) : fillTo l n z n = l := by simp [fillTo, ← h]
theorem fillTo_set {α : Type} {l : List α} {n k : Nat} {z x : α} (hk : k < n) (hx : l[k]? = some x) : (fillTo l n z k).set k x = fillTo l n z (k + 1) := by
  have h1 : k < l.length := (List.getElem?_eq_some_iff.1 hx).1
  have hl : (l.take k).length = k := by simp; omega
  unfold fillTo
  rw [List.set_append_right _ _ (by omega), hl, Nat.sub_self, List.take_add_one, hx, show n - k = (n - (k + 1)) + 1 from by omega, List.replicate_succ, List.set_cons_zero]
  simp
theorem fillTo_len {α : Type} {l : List α} {n k : Nat} {z : α} (hk : k ≤ n) (h : l.length = n) : (fillTo l n z k).length = n := by simp [fillTo]; omega
end Go.Proofs.YtibplgpolmplpaaGreatDoor

namespace Go.Proofs.YtibplgpolmplpaaGreatDoor
open Go.RowKit

theorem heap_new (w : World) (o : Obj) : (w.alloc o).heap[w.heap.size]? = some o := by
  show (w.heap.push o)[w.heap.size]? = some o
  simp
/-- The error variables hold the values of E, by their numbers. -/
structure Errs (w : World) (E : Nat → Addr) : Prop where
  e1 : w.cell? ⟨2, 0, none⟩ = some (.iface 219 (.pointer (some (E 1))))
  e2 : w.cell? ⟨3, 0, none⟩ = some (.iface 219 (.pointer (some (E 2))))
  e3 : w.cell? ⟨4, 0, none⟩ = some (.iface 219 (.pointer (some (E 3))))
  e4 : w.cell? ⟨0, 0, none⟩ = some (.iface 219 (.pointer (some (E 4))))
  e5 : w.cell? ⟨5, 0, none⟩ = some (.iface 219 (.pointer (some (E 5))))
  e6 : w.cell? ⟨6, 0, none⟩ = some (.iface 219 (.pointer (some (E 6))))
  e7 : w.cell? ⟨7, 0, none⟩ = some (.iface 219 (.pointer (some (E 7))))
  e8 : w.cell? ⟨8, 0, none⟩ = some (.iface 219 (.pointer (some (E 8))))
  e9 : w.cell? ⟨9, 0, none⟩ = some (.iface 219 (.pointer (some (E 9))))
  e10 : w.cell? ⟨10, 0, none⟩ = some (.iface 219 (.pointer (some (E 10))))
  e11 : w.cell? ⟨11, 0, none⟩ = some (.iface 219 (.pointer (some (E 11))))
  e99 : w.cell? ⟨12, 0, none⟩ = some (.iface 219 (.pointer (some (E 99))))

theorem Errs.keep {w w' : World} {E : Nat → Addr} (h : Errs w E) (hk : ∀ (a : Addr) v, w.cell? a = some v → w'.cell? a = some v) : Errs w' E :=
  ⟨hk _ _ h.e1, hk _ _ h.e2, hk _ _ h.e3, hk _ _ h.e4, hk _ _ h.e5, hk _ _ h.e6, hk _ _ h.e7, hk _ _ h.e8, hk _ _ h.e9, hk _ _ h.e10, hk _ _ h.e11, hk _ _ h.e99⟩
theorem Errs.below {w w' : World} {E : Nat → Addr} (h : Errs w E) (hb : Below w.heap.size w w') : Errs w' E := h.keep fun _ _ hc => cell_later hb hc

set_option maxHeartbeats 1000000 in
theorem root_c (w : World) (E : Nat → Addr) (hE : Errs w E) (n : Nat) (h1 : 1 ≤ n) (h2 : n ≤ 11) :
    Calls Tryz.prog 121 #[.int .i64 (n : Int)] w fun e w' => e = .returned (.iface 219 (.pointer (some (E n)))) ∧ w = w' := by
  obtain ⟨e1, e2, e3, e4, e5, e6, e7, e8, e9, e10, e11, e99⟩ := hE
  have hn : n = 1 ∨ n = 2 ∨ n = 3 ∨ n = 4 ∨ n = 5 ∨ n = 6 ∨ n = 7 ∨ n = 8 ∨ n = 9 ∨ n = 10 ∨ n = 11 := by omega
  clear h1 h2
  rcases hn with rfl | rfl | rfl | rfl | rfl | rfl | rfl | rfl | rfl | rfl | rfl
  all_goals
    go_enter Tryz.func121, Tryz.ntmps121
    go_wp2
    go_ret
    exact ⟨rfl, rfl⟩

/-- The value of an error that lies in block b. -/
def errV (b : Nat) : Value := .iface 131 (.pointer (some ⟨b, 0, none⟩))

theorem new_c (w : World) (E : Nat → Addr) (hE : Errs w E) (op : ByteArray) (at' : Int) (n : Nat) (h1 : 1 ≤ n) (h2 : n ≤ 11) :
    Calls Tryz.prog 85 #[.string op, .int .i64 at', .int .i64 (n : Int)] w fun e w' => e = .returned (errV w.heap.size) ∧ w.alloc (.cells #[.string op, .int .i64 at', .iface 219 (.pointer (some (E n)))] 134) = w' := by
  have hn : ((n : Int) == 0) = false := by simp; omega
  go_enter Tryz.func85, Tryz.ntmps85
  go_wp2_with (go_at_call 121; refine (root_c _ E hE n h1 h2).mono ?_; rintro e w' ⟨rfl, rfl⟩)
  go_ret
  exact ⟨rfl, rfl⟩


/-- Three writes into one block. -/
theorem keeps_set3 (w : World) (g : Nat) (u0 u1 u2 : Value) : Keeps (fun k => k = g) w (((w.setCell ⟨g, 0, none⟩ u0).setCell ⟨g, 1, none⟩ u1).setCell ⟨g, 2, none⟩ u2) :=
  ((Keeps.of_setCell w ⟨g, 0, none⟩ u0).trans (Keeps.of_setCell _ ⟨g, 1, none⟩ u1) (fun _ _ h => h)).trans (Keeps.of_setCell _ ⟨g, 2, none⟩ u2) (fun _ _ h => h)
theorem below_set3 {w0 w : World} {B g : Nat} (h : Below B w0 w) (hg : B ≤ g) (u0 u1 u2 : Value) : Below B w0 (((w.setCell ⟨g, 0, none⟩ u0).setCell ⟨g, 1, none⟩ u1).setCell ⟨g, 2, none⟩ u2) :=
  ((h.setCell (p := ⟨g, 0, none⟩) hg u0).setCell (p := ⟨g, 1, none⟩) hg u1).setCell (p := ⟨g, 2, none⟩) hg u2
end Go.Proofs.YtibplgpolmplpaaGreatDoor

namespace Go.Proofs.YtibplgpolmplpaaGreatDoor

theorem tInts : ElemT Tryz.prog 22 3 (.int .i64 0) 8 := ⟨Tryz.underlying22, by kernel_rfl, rfl⟩
theorem tIntss : ElemT Tryz.prog 31 22 (.slice none 0 0) 24 := ⟨Tryz.underlying31, by kernel_rfl, rfl⟩
theorem tU64s : ElemT Tryz.prog 174 87 (.int .u64 0) 8 := ⟨Tryz.underlying174, by kernel_rfl, rfl⟩
theorem tU64ss : ElemT Tryz.prog 171 174 (.slice none 0 0) 24 := ⟨Tryz.underlying171, by kernel_rfl, rfl⟩
theorem tBytes : ElemT Tryz.prog 209 5 (.int .u8 0) 1 := ⟨Tryz.underlying209, by kernel_rfl, rfl⟩
theorem tNat : ElemT Tryz.prog 38 64 (.int .u32 0) 4 := ⟨Tryz.underlying38, by kernel_rfl, rfl⟩
theorem tNats : ElemT Tryz.prog 149 38 (.slice none 0 0) 24 := ⟨Tryz.underlying149, by kernel_rfl, rfl⟩

end Go.Proofs.YtibplgpolmplpaaGreatDoor

namespace Go.Proofs.YtibplgpolmplpaaGreatDoor
/-- Of one number, told by these packages at these places, from the outermost on. -/
abbrev Tale := Nat × List (ByteArray × Int)
namespace NatP

def valB (b : Nat) : List Nat → Nat
  | [] => 0
  | x :: l => x + b * valB b l
def digsF (b : Nat) : Nat → Nat → List Nat
  | 0, _ => []
  | f + 1, v => if v = 0 then [] else (v % b) :: digsF b f (v / b)
def digs (b v : Nat) : List Nat := digsF b v v
def OkB (b : Nat) (l : List Nat) : Prop := ∀ x ∈ l, x < b
/-- No nought at the end. -/
def Norm (l : List Nat) : Prop := ∀ x, l.getLast? = some x → x ≠ 0

theorem digsF_fuel {b : Nat} (hb : 2 ≤ b) : ∀ (f g v : Nat), v ≤ f → v ≤ g → digsF b f v = digsF b g v := by
  intro f
  induction f with
  | zero =>
    intro g v h1 h2
    have : v = 0 := by omega
    subst this
    cases g <;> simp [digsF]
  | succ f ih =>
    intro g v h1 h2
    cases g with
    | zero =>
      have : v = 0 := by omega
      subst this
      simp [digsF]
    | succ g =>
      by_cases hv : v = 0
      · simp [digsF, hv]
      · have hlt : v / b < v := Nat.div_lt_self (by omega) (by omega)
        simp only [digsF, if_neg hv]
        rw [ih g (v / b) (by omega) (by omega)]
theorem digs_zero (b : Nat) : digs b 0 = [] := rfl
theorem digs_pos {b v : Nat} (hb : 2 ≤ b) (hv : 0 < v) : digs b v = v % b :: digs b (v / b) := by
  obtain ⟨u, rfl⟩ : ∃ u, v = u + 1 := ⟨v - 1, by omega⟩
  have hlt : (u + 1) / b < u + 1 := Nat.div_lt_self (by omega) (by omega)
  show digsF b (u + 1) (u + 1) = _
  rw [digsF, if_neg (by omega)]
  unfold digs
  rw [digsF_fuel hb u ((u + 1) / b) _ (by omega) (Nat.le_refl _)]

theorem val_digs {b : Nat} (hb : 2 ≤ b) (v : Nat) : valB b (digs b v) = v := by
  induction v using Nat.strongRecOn with
  | _ v ih =>
    rcases Nat.eq_zero_or_pos v with rfl | hv
    · rfl
    · rw [digs_pos hb hv, valB, ih _ (Nat.div_lt_self hv (by omega))]
      exact Nat.mod_add_div v b
theorem ok_digs {b : Nat} (hb : 2 ≤ b) (v : Nat) : OkB b (digs b v) := by
  induction v using Nat.strongRecOn with
  | _ v ih =>
    rcases Nat.eq_zero_or_pos v with rfl | hv
    · intro x hx; simp [digs_zero] at hx
    · rw [digs_pos hb hv]
      intro x hx
      rcases List.mem_cons.1 hx with rfl | hx
      · exact Nat.mod_lt _ (by omega)
      · exact ih _ (Nat.div_lt_self hv (by omega)) x hx
theorem digs_eq_nil {b v : Nat} (hb : 2 ≤ b) (h : digs b v = []) : v = 0 := by
  have := val_digs hb v
  rw [h] at this
  exact this.symm
theorem norm_digs {b : Nat} (hb : 2 ≤ b) (v : Nat) : Norm (digs b v) := by
  induction v using Nat.strongRecOn with
  | _ v ih =>
    rcases Nat.eq_zero_or_pos v with rfl | hv
    · intro x hx; simp [digs_zero] at hx
    · rw [digs_pos hb hv]
      intro x hx
      by_cases hq : v / b = 0
      · rw [hq, digs_zero] at hx
        simp at hx
        subst hx
        have := Nat.mod_add_div v b
        rw [hq] at this
        omega
      · have hne : digs b (v / b) ≠ [] := fun h => hq (digs_eq_nil hb h)
        rw [List.getLast?_cons_of_ne_nil hne] at hx
        exact ih _ (Nat.div_lt_self hv (by omega)) x hx

theorem norm_tail {x : Nat} {l : List Nat} (h : Norm (x :: l)) : Norm l := by
  intro y hy
  cases l with
  | nil => simp at hy
  | cons z l => exact h y (by rw [List.getLast?_cons_of_ne_nil (by simp)]; exact hy)
theorem val_pos {b : Nat} (hb : 2 ≤ b) : ∀ {l : List Nat}, Norm l → l ≠ [] → 0 < valB b l := by
  intro l
  induction l with
  | nil => intro _ h; exact absurd rfl h
  | cons x l ih =>
    intro h _
    cases l with
    | nil =>
      have := h x (by simp)
      simp [valB]; omega
    | cons z l =>
      have := ih (norm_tail h) (by simp)
      have h2 : 0 < b * valB b (z :: l) := Nat.mul_pos (by omega) this
      simp only [valB] at h2 ⊢
      omega
theorem digs_val {b : Nat} (hb : 2 ≤ b) : ∀ {l : List Nat}, OkB b l → Norm l → digs b (valB b l) = l := by
  intro l
  induction l with
  | nil => intro _ _; rfl
  | cons x l ih =>
    intro ho hn
    have hx : x < b := ho x (by simp)
    have hpos := val_pos hb hn (by simp)
    rw [digs_pos hb hpos]
    have e1 : valB b (x :: l) % b = x := by
      simp only [valB]
      rw [Nat.add_mul_mod_self_left, Nat.mod_eq_of_lt hx]
    have e2 : valB b (x :: l) / b = valB b l := by
      simp only [valB]
      rw [Nat.add_mul_div_left _ _ (by omega), Nat.div_eq_of_lt hx, Nat.zero_add]
    rw [e1, e2, ih (fun y hy => ho y (by simp [hy])) (norm_tail hn)]

theorem val_append (b : Nat) (l m : List Nat) : valB b (l ++ m) = valB b l + b ^ l.length * valB b m := by
  induction l with
  | nil => simp [valB]
  | cons x l ih =>
    simp only [List.cons_append, valB, List.length_cons, ih, Nat.pow_succ]
    rw [Nat.mul_add, Nat.add_assoc, ← Nat.mul_assoc, Nat.mul_comm (b ^ l.length) b]
theorem val_zeros (b n : Nat) : valB b (List.replicate n 0) = 0 := by
  induction n with
  | zero => rfl
  | succ n ih => simp [List.replicate_succ, valB, ih]
theorem val_snoc (b : Nat) (l : List Nat) (x : Nat) : valB b (l ++ [x]) = valB b l + b ^ l.length * x := by
  rw [val_append]; simp [valB]
theorem val_lt {b : Nat} (_hb : 2 ≤ b) : ∀ {l : List Nat}, OkB b l → valB b l < b ^ l.length := by
  intro l
  induction l with
  | nil => intro _; simp [valB]
  | cons x l ih =>
    intro h
    have h1 := h x (by simp)
    have h2 := ih (fun y hy => h y (by simp [hy]))
    simp only [valB, List.length_cons, Nat.pow_succ]
    have : b * (valB b l + 1) ≤ b * b ^ l.length := Nat.mul_le_mul (Nat.le_refl b) (by omega)
    rw [Nat.mul_add, Nat.mul_one] at this
    rw [Nat.mul_comm (b ^ l.length) b]
    omega
theorem ok_take {b : Nat} {l : List Nat} (h : OkB b l) (k : Nat) : OkB b (l.take k) := fun x hx => h x (List.mem_of_mem_take hx)
/-- Cut where the noughts at the end begin: the digits of the value. -/
theorem cut_eq {b : Nat} (hb : 2 ≤ b) {l : List Nat} (ho : OkB b l) {m : Nat} (hm : m ≤ l.length) (hz : ∀ j x, m ≤ j → l[j]? = some x → x = 0) (hl : ∀ x, 0 < m → l[m - 1]? = some x → x ≠ 0) :
    l.take m = digs b (valB b l) := by
  have hval : valB b l = valB b (l.take m) := by
    conv => lhs; rw [← List.take_append_drop m l]
    rw [val_append]
    have : l.drop m = List.replicate (l.length - m) 0 := by
      apply List.ext_getElem?
      intro i
      rw [List.getElem?_drop, List.getElem?_replicate]
      split
      · rename_i hi
        have hlt : m + i < l.length := by omega
        rw [List.getElem?_eq_getElem hlt, hz (m + i) _ (by omega) (List.getElem?_eq_getElem hlt)]
      · rw [List.getElem?_eq_none (by omega)]
    rw [this, val_zeros, Nat.mul_zero, Nat.add_zero]
  rw [hval, digs_val hb (ok_take ho m)]
  intro x hx
  rcases Nat.eq_zero_or_pos m with rfl | h0
  · simp at hx
  · refine hl x h0 ?_
    rw [List.getLast?_eq_getElem?, List.length_take, Nat.min_eq_left hm, List.getElem?_take, if_pos (by omega)] at hx
    exact hx
theorem length_digs_le {b : Nat} (hb : 2 ≤ b) {l : List Nat} (ho : OkB b l) : (digs b (valB b l)).length ≤ l.length := by
  rcases Nat.lt_or_ge l.length (digs b (valB b l)).length with h | h
  · exfalso
    have hv := val_lt hb ho
    have hd := val_digs hb (valB b l)
    have hn := norm_digs hb (valB b l)
    have hne : digs b (valB b l) ≠ [] := by intro e; rw [e] at h; simp at h
    -- a list of so many digits, the last one no nought, is no less than the power
    obtain ⟨pre, x, hx⟩ : ∃ pre x, digs b (valB b l) = pre ++ [x] := ⟨_, _, (List.dropLast_concat_getLast hne).symm⟩
    have hx0 : x ≠ 0 := hn x (by rw [hx]; simp)
    have h1 : valB b l = valB b pre + b ^ pre.length * x := by rw [← val_snoc, ← hx, hd]
    have h2 : b ^ l.length ≤ b ^ pre.length := Nat.pow_le_pow_right (by omega) (by rw [hx] at h; simp at h; omega)
    have h3 : b ^ pre.length * 1 ≤ b ^ pre.length * x := Nat.mul_le_mul (Nat.le_refl _) (by omega)
    omega
  · exact h

/-- Where the noughts at the end begin. -/
theorem cut_ex (xs : List Nat) : ∃ m, m ≤ xs.length ∧ (∀ (j x : Nat), m ≤ j → xs[j]? = some x → x = 0) ∧ (∀ x, 0 < m → xs[m - 1]? = some x → x ≠ 0) := by
  have key : ∀ m, m ≤ xs.length → (∀ (j x : Nat), m ≤ j → xs[j]? = some x → x = 0) → ∃ m, m ≤ xs.length ∧ (∀ (j x : Nat), m ≤ j → xs[j]? = some x → x = 0) ∧ (∀ x, 0 < m → xs[m - 1]? = some x → x ≠ 0) := by
    intro m
    induction m with
    | zero => intro h1 h2; exact ⟨0, h1, h2, fun x h => absurd h (by omega)⟩
    | succ m ih =>
      intro h1 h2
      by_cases h : xs[m]? = some 0
      · refine ih (by omega) (fun j x hj hx => ?_)
        rcases Nat.lt_or_ge m j with h3 | h3
        · exact h2 j x h3 hx
        · obtain rfl : j = m := by omega
          rw [h] at hx
          exact (Option.some.inj hx).symm
      · refine ⟨m + 1, h1, h2, fun x _ hx e => ?_⟩
        rw [Nat.add_sub_cancel] at hx
        subst e
        exact h hx
  exact key xs.length (Nat.le_refl _) (fun j x hj hx => by rw [List.getElem?_eq_none hj] at hx; cases hx)
theorem val_take_succ (b : Nat) (l : List Nat) (k : Nat) : valB b (l.take (k + 1)) = valB b (l.take k) + b ^ k * l.getD k 0 := by
  rw [List.take_add_one]
  cases h : l[k]? with
  | none => simp [List.getD_eq_getElem?_getD, h]
  | some x =>
    have hk : k < l.length := (List.getElem?_eq_some_iff.1 h).1
    simp only [Option.toList_some, List.getD_eq_getElem?_getD, h, Option.getD_some]
    rw [val_snoc, List.length_take, Nat.min_eq_left (by omega)]
theorem val_set {b : Nat} {l : List Nat} {k x v : Nat} (h : l[k]? = some x) : valB b (l.set k v) + b ^ k * x = valB b l + b ^ k * v := by
  induction l generalizing k with
  | nil => simp at h
  | cons y l ih =>
    cases k with
    | zero =>
      simp at h
      subst h
      simp [valB]
      omega
    | succ k =>
      simp only [List.getElem?_cons_succ] at h
      have := ih h
      simp only [List.set_cons_succ, valB, Nat.pow_succ]
      have e1 : b * (valB b (l.set k v) + b ^ k * x) = b * (valB b l + b ^ k * v) := by rw [this]
      rw [Nat.mul_add, Nat.mul_add, ← Nat.mul_assoc, ← Nat.mul_assoc, Nat.mul_comm b (b ^ k)] at e1
      omega
theorem ok_set {b : Nat} {l : List Nat} (h : OkB b l) {k v : Nat} (hv : v < b) : OkB b (l.set k v) := by
  intro y hy
  rcases List.mem_or_eq_of_mem_set hy with hy | rfl
  · exact h y hy
  · exact hv
theorem ok_getD {b : Nat} (hb : 0 < b) {l : List Nat} (h : OkB b l) (k : Nat) : l.getD k 0 < b := by
  rw [List.getD_eq_getElem?_getD]
  cases hk : l[k]? with
  | none => simpa using hb
  | some x => simpa using h x (List.mem_of_getElem? hk)
theorem ok_zeros {b : Nat} (hb : 0 < b) (n : Nat) : OkB b (List.replicate n 0) := by
  intro x hx; rw [List.eq_of_mem_replicate hx]; exact hb

end NatP
end Go.Proofs.YtibplgpolmplpaaGreatDoor

namespace Go.Proofs.YtibplgpolmplpaaGreatDoor
namespace RuleP

def sRule : ByteArray := ⟨#[114, 117, 108, 101]⟩
/-- The first place that holds no symbol below k. -/
def odd (k : Int) (w : List Int) : Option Nat := w.findIdx? fun x => decide (x < 0 ∨ k ≤ x)
def check (K R : Int) (T : List Int) : Option Tale :=
  if K < 1 ∨ 4 < K then some (1, [(sRule, 0)])
  else if R < 0 ∨ 3 < R then some (1, [(sRule, 1)])
  else if T.length ≠ K.toNat ^ (2 * R.toNat + 1) then some (1, [(sRule, 2)])
  else match odd K T with
  | some i => some (1, [(sRule, 3 + (i : Int))])
  | none => none
def small (K R : Int) (T : List Int) : Option Tale :=
  match check K R T with
  | some t => some t
  | none => if 256 < T.length then some (4, [(sRule, 0)]) else none
/-- It is a rule of k symbols and radius r. -/
structure IsRule (k r : Nat) (t : List Nat) : Prop where
  k1 : 1 ≤ k
  k4 : k ≤ 4
  r3 : r ≤ 3
  len : t.length = k ^ (2 * r + 1)
  sym : ∀ x ∈ t, x < k
def ints (l : List Nat) : List Int := l.map fun (x : Nat) => (x : Int)
theorem ints_len (l : List Nat) : (ints l).length = l.length := by simp [ints]
theorem ints_map {α : Type} (f : Int → α) (l : List Nat) : (ints l).map f = l.map fun (x : Nat) => f (x : Int) := by simp [ints]
theorem ints_inj : ∀ {a b : List Nat}, ints a = ints b → a = b := by
  intro a
  induction a with
  | nil => intro b h; cases b with
    | nil => rfl
    | cons y b => simp [ints] at h
  | cons x a ih => intro b h; cases b with
    | nil => simp [ints] at h
    | cons y b =>
      simp only [ints, List.map_cons, List.cons.injEq] at h
      rw [ih h.2, show x = y from by omega]
theorem odd_none {k : Int} {w : List Int} (h : odd k w = none) : ∀ x ∈ w, 0 ≤ x ∧ x < k := by
  intro x hx
  have := List.findIdx?_eq_none_iff.1 h x hx
  simp at this
  omega
theorem odd_nat {k : Nat} {w : List Int} (h : odd (k : Int) w = none) : ∃ v : List Nat, w = ints v ∧ ∀ x ∈ v, x < k := by
  have h' := odd_none h
  refine ⟨w.map Int.toNat, ?_, ?_⟩
  · rw [ints, List.map_map]
    conv => lhs; rw [← List.map_id w]
    apply List.map_congr_left
    intro x hx
    have := h' x hx
    simp; omega
  · intro x hx
    obtain ⟨y, hy, rfl⟩ := List.mem_map.1 hx
    have := h' y hy
    omega
theorem odd_ints {k : Nat} {v : List Nat} (h : ∀ x ∈ v, x < k) : odd (k : Int) (ints v) = none := by
  refine List.findIdx?_eq_none_iff.2 fun x hx => ?_
  obtain ⟨y, hy, rfl⟩ := List.mem_map.1 hx
  have := h y hy
  simp; omega
theorem odd_some {k : Int} {w : List Int} {i : Nat} (h : odd k w = some i) : i < w.length := by
  obtain ⟨h1, _⟩ := List.findIdx?_eq_some_iff_getElem.1 h
  exact h1

theorem check_none {K R : Int} {T : List Int} (h : check K R T = none) : ∃ (k r : Nat) (t : List Nat), K = (k : Int) ∧ R = (r : Int) ∧ T = ints t ∧ IsRule k r t := by
  unfold check at h
  split at h
  · cases h
  split at h
  · cases h
  split at h
  · cases h
  rename_i h1 h2 h3
  split at h
  · cases h
  rename_i h4
  have hk : K = (K.toNat : Int) := by omega
  rw [hk] at h4
  obtain ⟨v, hv, hs⟩ := odd_nat h4
  refine ⟨K.toNat, R.toNat, v, hk, by omega, hv, ⟨by omega, by omega, by omega, ?_, hs⟩⟩
  rw [← ints_len, ← hv]
  exact Decidable.not_not.1 h3
theorem check_rule {k r : Nat} {t : List Nat} (h : IsRule k r t) : check k r (ints t) = none := by
  have h1 := h.k1
  have h2 := h.k4
  have h3 := h.r3
  unfold check
  rw [if_neg (by omega), if_neg (by omega), if_neg (by rw [ints_len, h.len]; simp), odd_ints h.sym]
theorem pow_le {k r : Nat} (hk : k ≤ 4) (hr : r ≤ 3) : k ^ (2 * r + 1) ≤ 16384 := by
  have h1 : k ^ (2 * r + 1) ≤ 4 ^ (2 * r + 1) := Nat.pow_le_pow_left hk _
  have h2 : 4 ^ (2 * r + 1) ≤ 4 ^ 7 := Nat.pow_le_pow_right (by decide) (by omega)
  have h3 : 4 ^ 7 = 16384 := by decide
  omega
theorem IsRule.le {k r : Nat} {t : List Nat} (h : IsRule k r t) : t.length ≤ 16384 := by rw [h.len]; exact pow_le h.k4 h.r3
theorem IsRule.pos {k r : Nat} {t : List Nat} (h : IsRule k r t) : 0 < t.length := by rw [h.len]; exact Nat.pow_pos h.k1

/-- The number that symbols write in base k. -/
def wval (k : Nat) (w : List Nat) : Nat := w.foldl (fun n x => n * k + x) 0
theorem wval_snoc (k : Nat) (w : List Nat) (x : Nat) : wval k (w ++ [x]) = wval k w * k + x := by simp [wval]
theorem wval_nil (k : Nat) : wval k [] = 0 := rfl
theorem foldl_from (k : Nat) : ∀ (b : List Nat) (n : Nat), b.foldl (fun n x => n * k + x) n = n * k ^ b.length + wval k b := by
  intro b
  induction b with
  | nil => intro n; simp [wval]
  | cons y b ih =>
    intro n
    have e : wval k (y :: b) = y * k ^ b.length + wval k b := by
      show b.foldl _ (0 * k + y) = _
      rw [ih]; simp
    rw [List.foldl_cons, ih, e, List.length_cons, Nat.pow_succ, Nat.add_mul, Nat.mul_assoc, Nat.mul_comm (k ^ b.length) k, Nat.add_assoc]
theorem wval_append (k : Nat) (a b : List Nat) : wval k (a ++ b) = wval k a * k ^ b.length + wval k b := by
  show (a ++ b).foldl _ 0 = _
  rw [List.foldl_append, foldl_from]
  rfl
theorem wval_lt {k : Nat} : ∀ {w : List Nat}, (∀ x ∈ w, x < k) → wval k w < k ^ w.length := by
  intro w
  induction w with
  | nil => intro _; simp [wval]
  | cons x w ih =>
    intro h
    have h1 := h x (by simp)
    have h2 := ih (fun y hy => h y (by simp [hy]))
    rw [show x :: w = [x] ++ w from rfl, wval_append, show wval k [x] = x from by simp [wval], List.length_append, List.length_singleton, Nat.add_comm 1, Nat.pow_succ, Nat.mul_comm _ k]
    have : (x + 1) * k ^ w.length ≤ k * k ^ w.length := Nat.mul_le_mul_right _ h1
    rw [Nat.add_mul, Nat.one_mul] at this
    omega
/-- The last m symbols' number is the whole number's remainder. -/
theorem wval_mod {k : Nat} (a : List Nat) {b : List Nat} (hb : ∀ x ∈ b, x < k) : wval k (a ++ b) % k ^ b.length = wval k b := by
  rw [wval_append, Nat.add_comm, Nat.add_mul_mod_self_right, Nat.mod_eq_of_lt (wval_lt hb)]

/-- Window number i of a word, of m symbols. -/
def win (w : List Nat) (i m : Nat) : List Nat := (w.drop i).take m
theorem win_len {w : List Nat} {i m : Nat} (h : i + m ≤ w.length) : (win w i m).length = m := by simp [win]; omega
/-- The image of a word. -/
def image (k r : Nat) (t w : List Nat) : List Nat := (List.range (w.length - 2 * r)).map fun i => t.getD (wval k (win w i (2 * r + 1))) 0
theorem image_len (k r : Nat) (t w : List Nat) : (image k r t w).length = w.length - 2 * r := by simp [image]
theorem image_at {k r : Nat} {t w : List Nat} {i : Nat} (h : i + 2 * r < w.length) : (image k r t w)[i]? = some (t.getD (wval k (win w i (2 * r + 1))) 0) := by
  unfold image
  rw [List.getElem?_map, List.getElem?_range (by omega)]
  rfl
theorem win_sym {k : Nat} {w : List Nat} (h : ∀ x ∈ w, x < k) (i m : Nat) : ∀ x ∈ win w i m, x < k := fun x hx => h x (List.mem_of_mem_drop (List.mem_of_mem_take hx))
end RuleP
end Go.Proofs.YtibplgpolmplpaaGreatDoor
