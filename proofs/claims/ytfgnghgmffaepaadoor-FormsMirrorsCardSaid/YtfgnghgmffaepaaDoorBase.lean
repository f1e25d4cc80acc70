/- What memory holds: slices that are read, slices that the call owns, worlds that differ in a few blocks alone. Plain lemmas, no program. No condition. -/
import Derived.Test.YtfgnghgmffaepaaDoorProg
import Derived.WalkKit
import Derived.WalkSpells
import Derived.WalkLawsBesides
import Derived.Below
import Derived.Laws.OwnMore
import Derived.ArgAppend
import Derived.Deep.AppendLies
import Derived.Deep.Draws
import Derived.Deep.OwnRows
import Derived.Deep.QuietTactic
import Derived.BigQuiet
import Derived.Lib.Hide
namespace Go.Proofs.YtfgnghgmffaepaaDoor
open Go.RowKit

/-- Only blocks of O, and new ones, have changed. -/
structure Keeps (O : Nat → Prop) (w w' : World) : Prop where
  os : w'.os = w.os
  tape : w'.tape = w.tape
  output : w'.output = w.output
  size : w.heap.size ≤ w'.heap.size
  block : ∀ k, k < w.heap.size → ¬ O k → w'.heap[k]? = w.heap[k]?

namespace Keeps
variable {O O' : Nat → Prop} {w w' w'' : World}
theorem refl (O : Nat → Prop) (w : World) : Keeps O w w := ⟨rfl, rfl, rfl, Nat.le_refl _, fun _ _ _ => rfl⟩
theorem mono (h : Keeps O w w') (ho : ∀ k, k < w.heap.size → O k → O' k) : Keeps O' w w' :=
  ⟨h.os, h.tape, h.output, h.size, fun k hk hn => h.block k hk (fun hO => hn (ho k hk hO))⟩
theorem trans (h : Keeps O w w') (h' : Keeps O' w' w'') (ho : ∀ k, k < w.heap.size → O' k → O k) : Keeps O w w'' :=
  ⟨h'.os.trans h.os, h'.tape.trans h.tape, h'.output.trans h.output, Nat.le_trans h.size h'.size,
    fun k hk hn => (h'.block k (Nat.lt_of_lt_of_le hk h.size) (fun x => hn (ho k hk x))).trans (h.block k hk hn)⟩
theorem of_below {B : Nat} (h : Below B w w') : Keeps (fun k => B ≤ k) w w' :=
  ⟨h.os, h.tape, h.output, h.size, fun k _ hn => h.block k (by omega)⟩
theorem of_pure (h : Below w.heap.size w w') (O : Nat → Prop) : Keeps O w w' :=
  ⟨h.os, h.tape, h.output, h.size, fun k hk _ => h.block k hk⟩
theorem of_grown {row : Option Nat} (h : w.grownBy w' row) : Keeps (fun k => row = some k) w w' :=
  ⟨h.os, h.tape, h.output, h.size, fun k hk hn => h.block k hk (fun e => hn e.symm)⟩
theorem of_setCell (w : World) (a : Addr) (u : Value) : Keeps (fun k => k = a.block) w (w.setCell a u) :=
  ⟨rfl, rfl, rfl, by simp [World.setCell], fun k _ hn => Below.heap_setCell _ _ _ _ hn⟩
theorem below (h : Keeps O w w') {B : Nat} (hB : B ≤ w.heap.size) (ho : ∀ k, O k → B ≤ k) : Below B w w' :=
  ⟨h.os, h.tape, h.output, h.size, fun k hk => h.block k (by omega) (fun x => by have := ho k x; omega)⟩
theorem cell (h : Keeps O w w') {a : Addr} {v : Value} (hv : w.cell? a = some v) (ho : ¬ O a.block) : w'.cell? a = some v :=
  (World.cell?_of_block (w := w) (h.block a.block (World.block_lt_of_cell? _ _ hv) ho)).trans hv
end Keeps

/-- A write to a row that may be written, or that is new. -/
theorem keeps_row {O : Nat → Prop} {wx w w' : World} {g : Nat} (hk : Keeps O wx w) (hg : w.grownBy w' (some g)) (ho : O g ∨ wx.heap.size ≤ g) : Keeps O wx w' :=
  ⟨hg.os.trans hk.os, hg.tape.trans hk.tape, hg.output.trans hk.output, Nat.le_trans hk.size hg.size, fun k h1 h2 => by
    rw [hg.block k (Nat.lt_of_lt_of_le h1 hk.size) (fun e => by cases e; rcases ho with h | h; exact h2 h; omega)]
    exact hk.block k h1 h2⟩
theorem keeps_new {O : Nat → Prop} {wx w w' : World} (hk : Keeps O wx w) (hg : w.grownBy w' none) : Keeps O wx w' :=
  ⟨hg.os.trans hk.os, hg.tape.trans hk.tape, hg.output.trans hk.output, Nat.le_trans hk.size hg.size, fun k h1 h2 => by
    rw [hg.block k (Nat.lt_of_lt_of_le h1 hk.size) (fun e => by cases e)]
    exact hk.block k h1 h2⟩
theorem below_drewN {B : Nat} {w w' : World} (h : Below B w w') (n : Nat) : Below B w (w'.drewN n) := ⟨h.os, h.tape, h.output, h.size, h.block⟩
theorem pure_drewN (w : World) (n : Nat) : Below w.heap.size w (w.drewN n) := below_drewN (Below.refl _ _) n
theorem pure_trans {w w1 w2 : World} (h : Below w.heap.size w w1) (h' : Below w1.heap.size w1 w2) : Below w.heap.size w w2 := h.trans (h'.mono h.size)

/-- The slice of address A and length n reads as xs. -/
def Sl (w : World) (A : Option Addr) (n : Nat) (xs : List Value) : Prop :=
  xs.length = n ∧ ∀ k v, xs[k]? = some v → ∃ ad, A = some ad ∧ w.cell? (ad.add k) = some v

theorem block_of_add (a : Addr) (n : Nat) : (a.add n).block = a.block := by unfold Addr.add; split <;> rfl
theorem add_of_add (a : Addr) (i j : Nat) : (a.add i).add j = a.add (i + j) := by
  unfold Addr.add
  by_cases hi : i = 0 <;> by_cases hj : j = 0 <;> simp [hi, hj, Nat.add_assoc]

namespace Sl
variable {w w' : World} {A : Option Addr} {n : Nat} {xs : List Value}
theorem nil (w : World) (A : Option Addr) : Sl w A 0 [] := ⟨rfl, fun k v h => by simp at h⟩
theorem len (h : Sl w A n xs) : xs.length = n := h.1
theorem at_ {k : Nat} (h : Sl w A n xs) (hk : k < n) : ∃ ad u, A = some ad ∧ xs[k]? = some u ∧ w.cell? (ad.add k) = some u := by
  have hl : k < xs.length := by have := h.1; omega
  obtain ⟨ad, e, hc⟩ := h.2 k xs[k] (List.getElem?_eq_getElem hl)
  exact ⟨ad, xs[k], e, List.getElem?_eq_getElem hl, hc⟩
theorem int_ {k : Nat} {q : IntKind} {l : List Int} (h : Sl w A n (l.map (Value.int q))) (hk : k < n) : ∃ ad x, A = some ad ∧ l[k]? = some x ∧ w.cell? (ad.add k) = some (.int q x) := by
  obtain ⟨ad, u, h1, h3, h4⟩ := h.at_ hk
  rw [List.getElem?_map] at h3
  cases hl : l[k]? with
  | none => rw [hl] at h3; cases h3
  | some x => rw [hl] at h3; cases h3; exact ⟨ad, x, h1, rfl, h4⟩
theorem word_ {k : Nat} {q : IntKind} {l : List Nat} (h : Sl w A n (l.map (fun (x : Nat) => Value.int q (x : Int)))) (hk : k < n) : ∃ ad x, A = some ad ∧ l[k]? = some x ∧ w.cell? (ad.add k) = some (.int q (x : Int)) := by
  obtain ⟨ad, u, h1, h3, h4⟩ := h.at_ hk
  rw [List.getElem?_map] at h3
  cases hl : l[k]? with
  | none => rw [hl] at h3; cases h3
  | some x => rw [hl] at h3; cases h3; exact ⟨ad, x, h1, rfl, h4⟩
theorem keep (h : Sl w A n xs) (hk : ∀ (p : Addr) v, w.cell? p = some v → (∀ ad, A = some ad → p.block = ad.block) → w'.cell? p = some v) : Sl w' A n xs :=
  ⟨h.1, fun k v hv => by
    obtain ⟨ad, e, hc⟩ := h.2 k v hv
    exact ⟨ad, e, hk _ _ hc (fun ad' e' => by rw [e] at e'; cases e'; exact block_of_add _ _)⟩⟩
theorem below (h : Sl w A n xs) (hb : Below w.heap.size w w') : Sl w' A n xs := h.keep fun _ _ hc _ => cell_later hb hc
theorem keeps {O : Nat → Prop} (h : Sl w A n xs) (hk : Keeps O w w') (ho : ∀ ad, A = some ad → ¬ O ad.block) : Sl w' A n xs :=
  ⟨h.1, fun k v hv => by
    obtain ⟨ad, e, hc⟩ := h.2 k v hv
    exact ⟨ad, e, hk.cell hc (by rw [block_of_add]; exact ho ad e)⟩⟩
theorem drewN (h : Sl w A n xs) (q : Nat) : Sl (w.drewN q) A n xs := h
theorem alloc (h : Sl w A n xs) (o : Obj) : Sl (w.alloc o) A n xs := h.keep fun p _ hc _ => by
  rw [World.cell?_alloc_lt w o p (World.block_lt_of_cell? _ _ hc)]; exact hc
theorem of_own {base e c : Nat} (h : w.ownsRow base e 1 (.slice A n c) n xs) : Sl w A n xs := by
  refine ⟨by simpa using h.1, fun k v hv => ?_⟩
  have hn : 0 < n := by
    rcases Nat.eq_zero_or_pos n with h0 | h0
    · subst h0; have := h.1; simp at this; subst this; simp at hv
    · exact h0
  obtain ⟨g, cap, hv', _, _⟩ := h.form hn
  injection hv' with hA
  subst hA
  exact ⟨_, rfl, h.cells (g := g) rfl k v hv⟩
end Sl

/-- The slice's type and its elements' row of the program's table. -/
structure ElemT (P : Program) (t e : TypeId) (z : Value) (bytes : Nat) : Prop where
  und : P.underlying t = some (.slice e)
  info : (P.info? e).map (fun i => (i.zero, i.size, i.bytes)) = some (some z, 1, bytes)
  one : z.cells = #[z]

/-- Of an owned slice: how its value looks. -/
theorem own_slice {w : World} {base e : Nat} {v : Value} {n : Nat} {xs : List Value} (h : w.ownsRow base e 1 v n xs) : ∃ A c, v = .slice A n c ∧ n ≤ c ∧ c ≤ maxLen := by
  rcases h.2 with ⟨rfl, rfl⟩ | ⟨g, cap, cur, rfl, _, _, h1, h2, _⟩
  · exact ⟨none, 0, rfl, Nat.le_refl _, Nat.zero_le _⟩
  · exact ⟨_, _, rfl, h1, h2⟩

theorem own_keeps {w w' : World} {O : Nat → Prop} {base e : Nat} {v : Value} {n : Nat} {xs : List Value} (h : w.ownsRow base e 1 v n xs) (hk : Keeps O w w') (ho : ∀ g, v.ownBlock = some g → ¬ O g) : w'.ownsRow base e 1 v n xs := by
  refine ⟨h.1, ?_⟩
  rcases h.2 with hn | ⟨g, cap, cur, rfl, hb, hgg, rest⟩
  · exact .inl hn
  · refine .inr ⟨g, cap, cur, rfl, hb, ?_, rest⟩
    rw [hk.block g (Array.getElem?_eq_some_iff.1 hgg).1 (ho g rfl)]
    exact hgg

theorem own_below {w w' : World} {base e : Nat} {v : Value} {n : Nat} {xs : List Value} (h : w.ownsRow base e 1 v n xs) (hk : Below w.heap.size w w') : w'.ownsRow base e 1 v n xs :=
  own_keeps h (Keeps.of_pure hk (fun _ => False)) (fun _ _ h => h)

theorem own_base {w : World} {base base' e : Nat} {v : Value} {n : Nat} {xs : List Value} (h : w.ownsRow base e 1 v n xs) (hb : base' ≤ base) : w.ownsRow base' e 1 v n xs := by
  refine ⟨h.1, ?_⟩
  rcases h.2 with hn | ⟨g, cap, cur, hv, hg, rest⟩
  · exact .inl hn
  · exact .inr ⟨g, cap, cur, hv, Nat.le_trans hb hg, rest⟩

/-- The answer is a new slice that holds xs (and a nil error behind it); nothing that was there has changed. -/
def SomeRow (w : World) (e : TypeId) (xs : List Value) (en : Ending) (w' : World) : Prop :=
  ∃ v, en = .returned (.tuple #[v, .nilIface]) ∧ w'.ownsRow w.heap.size e 1 v xs.length xs ∧ Below w.heap.size w w'
/-- The answer is a new slice that holds xs. -/
def OneRow (w : World) (e : TypeId) (xs : List Value) (en : Ending) (w' : World) : Prop :=
  ∃ v, en = .returned v ∧ w'.ownsRow w.heap.size e 1 v xs.length xs ∧ Below w.heap.size w w'

/-- append(s, x) of one element: x lies in a new block of one cell. -/
theorem wpList_push {P : Program} {w w0 : World} {ops : Array Oper} {rest : List Oper} {o : Oper} {a : Act} {Q : Exit → Act → World → Prop} (hgd : o.guard = none) (s x : Operand) (t : TypeId)
    (ho : o.op = .call { callee := .builtin .append, args := #[s, x], argTypes := #[t, t] }) {e : TypeId} {z : Value} {bytes : Nat} (hT : ElemT P t e z bytes)
    {base : Nat} {v : Value} {n : Nat} {xs : List Value} (hown : w0.ownsRow base e 1 v n xs) (hs : a.eval s = v) (u : Value) (q : Nat) (hw : w = (w0.alloc (.cells #[u] e)).drewN q)
    (hx : a.eval x = .slice (some ⟨w0.heap.size, 0, none⟩) 1 1) (hu : u.oneCell' = true) (h63 : n + 1 ≤ maxLen) (hbytes : (n + 1) * bytes ≤ 140737488355328) (hbase : base ≤ w0.heap.size)
    (h : ∀ g cap w', w'.ownsRow base e 1 (.slice (some ⟨g, 0, none⟩) (n + 1) cap) (n + 1) (xs ++ [u]) → w0.grownBy w' v.ownBlock → (v.ownBlock = some g ∨ w0.heap.size < g) → g < w'.heap.size →
      wpList P ops Q rest (a.put o.dst (.slice (some ⟨g, 0, none⟩) (n + 1) cap)) w') : wpList P ops Q (o :: rest) a w := by
  subst hw
  obtain ⟨i, hi, hz, hz1, hz2⟩ := info_parts hT.info
  have hown1 : ((w0.alloc (.cells #[u] e)).drewN q).ownsRow base e 1 v n xs := hown.alloc _
  refine wpList_append_lies _ hgd s x t ho base e i z 1 bytes hT.und hi hz hz1 hz2 (by rw [hT.one]; rfl) (by decide) v n xs hs hown1 ⟨w0.heap.size, 0, none⟩ 1 1 [u] hx rfl ?_ ?_ (by decide) h63 hbytes (by simp; omega) _ rfl ?_
  · intro j u' hj
    match j, hj with
    | 0, hj => simp at hj; subst hj; simp [Addr.add]
  · intro u' hu'; simp at hu'; subst hu'; exact hu
  · intro g cap w' h1 h2 h3 h4
    refine h g cap w' h1 ⟨h2.os, h2.tape, h2.output, Nat.le_trans (by simp) h2.size, fun k hk hn => ?_⟩ ?_ h4
    · rw [h2.block k (by simp; omega) hn]
      exact Below.heap_alloc _ _ _ hk
    · rcases h3 with h3 | h3
      · exact .inl h3
      · right; rw [h3]; simp

/-- append(s, x) of one element, the old row kept where a new one is made. -/
theorem wpList_push2 {P : Program} {w w0 : World} {ops : Array Oper} {rest : List Oper} {o : Oper} {a : Act} {Q : Exit → Act → World → Prop} (hgd : o.guard = none) (s x : Operand) (t : TypeId)
    (ho : o.op = .call { callee := .builtin .append, args := #[s, x], argTypes := #[t, t] }) {e : TypeId} {z : Value} {bytes : Nat} (hT : ElemT P t e z bytes)
    {base : Nat} {v : Value} {n : Nat} {xs : List Value} (hown : w0.ownsRow base e 1 v n xs) (hs : a.eval s = v) (u : Value) (q : Nat) (hw : w = (w0.alloc (.cells #[u] e)).drewN q)
    (hx : a.eval x = .slice (some ⟨w0.heap.size, 0, none⟩) 1 1) (hu : u.oneCell' = true) (h63 : n + 1 ≤ maxLen) (hbytes : (n + 1) * bytes ≤ 140737488355328) (hbase : base ≤ w0.heap.size)
    (h : ∀ g cap w', w'.ownsRow base e 1 (.slice (some ⟨g, 0, none⟩) (n + 1) cap) (n + 1) (xs ++ [u]) → ((v.ownBlock = some g ∧ w0.grownBy w' (some g)) ∨ (w0.heap.size < g ∧ w0.grownBy w' none)) → g < w'.heap.size →
      wpList P ops Q rest (a.put o.dst (.slice (some ⟨g, 0, none⟩) (n + 1) cap)) w') : wpList P ops Q (o :: rest) a w := by
  subst hw
  obtain ⟨i, hi, hz, hz1, hz2⟩ := info_parts hT.info
  have hown1 : ((w0.alloc (.cells #[u] e)).drewN q).ownsRow base e 1 v n xs := hown.alloc _
  have hg0 : ∀ {w' : World} {row : Option Nat}, ((w0.alloc (.cells #[u] e)).drewN q).grownBy w' row → w0.grownBy w' row := by
    intro w' row h2
    refine ⟨h2.os, h2.tape, h2.output, Nat.le_trans (by simp) h2.size, fun k hk hn => ?_⟩
    rw [h2.block k (by simp; omega) hn]
    exact Below.heap_alloc _ _ _ hk
  have hcell : ∀ j u', [u][j]? = some u' → ((w0.alloc (.cells #[u] e)).drewN q).cell? ((⟨w0.heap.size, 0, none⟩ : Addr).add j) = some u' := by
    intro j u' hj
    match j, hj with
    | 0, hj => simp at hj; subst hj; simp [Addr.add]
  have hone : ∀ u' ∈ [u], u'.oneCell' = true := by intro u' hu'; simp at hu'; subst hu'; exact hu
  rcases hown.2 with ⟨rfl, rfl⟩ | ⟨g, cap, cur, rfl, hbg, hg, hnc, hcm, hsz, htake⟩
  · refine wpList_append_grows _ hgd s x t ho e i z 1 bytes hT.und hi hz hz1 hz2 (by rw [hT.one]; rfl) (by decide) none 0 0 xs hs (fun _ => ⟨rfl, rfl⟩) (by simpa using hown.1) (fun b hb => by cases hb) ⟨w0.heap.size, 0, none⟩ 1 1 [u] hx rfl hcell hone (by omega) h63 hbytes ?_
    intro v' w' h1 h2
    obtain ⟨g, cap, rfl, hb, hlt⟩ := h1.form (by omega)
    have hb' : w0.heap.size < g := by simp at hb; omega
    exact h g cap w' (own_base h1 (by simp; omega)) (.inr ⟨hb', hg0 h2⟩) hlt
  · by_cases hroom : n + 1 ≤ cap
    · refine wpList_append_fits _ hgd s x t ho base e i 1 hT.und hi hz1 g n cap xs hs hown1 ⟨w0.heap.size, 0, none⟩ 1 1 [u] hx rfl hcell hone hroom ?_
      intro w' h1 h2
      exact h g cap w' h1 (.inl ⟨rfl, hg0 h2⟩) (h1.lt g rfl).2
    · refine wpList_append_grows _ hgd s x t ho e i z 1 bytes hT.und hi hz hz1 hz2 (by rw [hT.one]; rfl) (by decide) (some ⟨g, 0, none⟩) n cap xs hs (fun hb => by cases hb) (by simpa using hown.1) (fun b hb j u' hj => by cases hb; exact hown1.cells (g := g) rfl j u' hj) ⟨w0.heap.size, 0, none⟩ 1 1 [u] hx rfl hcell hone (by omega) h63 hbytes ?_
      intro v' w' h1 h2
      obtain ⟨g', cap', rfl, hb, hlt⟩ := h1.form (by omega)
      have hb' : w0.heap.size < g' := by simp at hb; omega
      exact h g' cap' w' (own_base h1 (by simp; omega)) (.inr ⟨hb', hg0 h2⟩) hlt

theorem run_append_of_nil {P : Program} {w : World} {base t ty e n : Nat} {i : TypeInfo} {v : Value} {xs : List Value} (ht : P.underlying t = some (.slice e)) (hi : P.info? e = some i)
    (hown : w.ownsRow base e 1 v n xs) (c : Nat) : (Builtin.append_ #[t, t] ty #[v, .slice none 0 c]).run P w = .ok v w := by
  rcases hown.2 with ⟨rfl, rfl⟩ | ⟨g, cap, cur, rfl, _, _, hnc, _⟩
  · simp [Builtin.append_, run_underlying ht, sizeOf, typeInfo, hi, Builtin.lenOf, Builtin.firstCells]
  · simp [Builtin.append_, run_underlying ht, sizeOf, typeInfo, hi, Builtin.lenOf, Builtin.firstCells, hnc, storeCells]

/-- append(s, x...): x is read from memory. -/
theorem wpList_cat {P : Program} {w : World} {ops : Array Oper} {rest : List Oper} {o : Oper} {a : Act} {Q : Exit → Act → World → Prop} (hgd : o.guard = none) (s x : Operand) (t : TypeId)
    (ho : o.op = .call { callee := .builtin .append, args := #[s, x], argTypes := #[t, t] }) {e : TypeId} {z : Value} {bytes : Nat} (hT : ElemT P t e z bytes)
    {base : Nat} {v : Value} {n : Nat} {xs : List Value} (hown : w.ownsRow base e 1 v n xs) (hs : a.eval s = v) {A : Option Addr} {m c : Nat} {ys : List Value} (hsl : Sl w A m ys)
    (hx : a.eval x = .slice A m c) (hu : ∀ u ∈ ys, u.oneCell' = true) (h63 : n + m ≤ maxLen) (hbytes : (n + m) * bytes ≤ 140737488355328) (hbase : base ≤ w.heap.size)
    (h : ∀ v' w', w'.ownsRow base e 1 v' (n + m) (xs ++ ys) → w.grownBy w' v.ownBlock → (v'.ownBlock = v.ownBlock ∨ v'.ownBlock = some w.heap.size) → (v ≠ .slice none 0 0 → v' ≠ .slice none 0 0) → wpList P ops Q rest (a.put o.dst v') w') :
    wpList P ops Q (o :: rest) a w := by
  obtain ⟨i, hi, hz, hz1, hz2⟩ := info_parts hT.info
  cases A with
  | none =>
    have hys : ys = [] := by
      cases ys with
      | nil => rfl
      | cons y ys => obtain ⟨ad, e', _⟩ := hsl.2 0 y (by simp); cases e'
    subst hys
    have hm : m = 0 := by have := hsl.1; simpa using this.symm
    subst hm
    refine wpList_plain hgd fun K hK => ?_
    have hrun := run_append_of_nil (P := P) (w := w) (t := t) (ty := o.type) hT.und hi hown c
    unfold Oper.wp
    simp [execOp, ho, resolve, invoke, builtin, hs, hx, hrun, Result.andThen]
    exact hK _ _ (h v w (by simpa using hown) (World.grownBy.refl _ _) (.inl rfl) (fun h => h))
  | some ad =>
    refine wpList_append_own_at w hgd s x t ho base e i z 1 bytes hT.und hi hz hz1 hz2 (by rw [hT.one]; rfl) (by decide) v n xs hs hown ad m c ys hx (by rw [hsl.1]; simp) (fun j u hj => ?_) hu h63 hbytes hbase ?_
    · obtain ⟨ad', e', hc⟩ := hsl.2 j u hj
      cases e'
      exact hc
    · intro v' w' h1 h2 h3 h4
      exact h v' w' h1 h2 h4 (fun hv e' => hv (h3.1 e').1)

theorem words_one {q : IntKind} (l : List Nat) : ∀ u ∈ l.map (fun (x : Nat) => Value.int q (x : Int)), u.oneCell' = true := by
  intro u hu
  obtain ⟨x, _, rfl⟩ := List.mem_map.1 hu
  rfl
theorem ints_one {q : IntKind} (l : List Int) : ∀ u ∈ l.map (Value.int q), u.oneCell' = true := by
  intro u hu
  obtain ⟨x, _, rfl⟩ := List.mem_map.1 hu
  rfl

theorem blk_cells {w : World} {bb t : Nat} {x0 x1 x2 : Value} (h : w.heap[bb]? = some (.cells #[x0, x1, x2] t (0, 0))) :
    w.cell? ⟨bb, 0, none⟩ = some x0 ∧ w.cell? ⟨bb, 1, none⟩ = some x1 ∧ w.cell? ⟨bb, 2, none⟩ = some x2 ∧ w.frozen? ⟨bb, 1, none⟩ = false := by
  refine ⟨?_, ?_, ?_, frozen_of_row w bb 1 _ t h⟩ <;> rw [cell_of_row w bb _ _ t _ h] <;> rfl

theorem own_ne_blk {w : World} {base e n g t : Nat} {v : Value} {xs : List Value} {cs : Array Value} (h : w.ownsRow base e 1 v n xs) (hg : w.heap[g]? = some (.cells cs t (0, 0))) (hne : e ≠ t) : v.ownBlock ≠ some g := by
  rcases h.2 with ⟨rfl, _⟩ | ⟨g', cap, cur, rfl, _, hh, _⟩
  · simp [Value.ownBlock]
  · intro he
    have : g' = g := by simpa [Value.ownBlock] using he
    subst this
    rw [hg] at hh
    injection hh with hh
    injection hh with _ ht
    exact hne ht.symm
theorem own_ne_map {w : World} {base e n g : Nat} {v : Value} {xs : List Value} {es : Array MapEntry} {ck : Nat} (h : w.ownsRow base e 1 v n xs) (hg : w.heap[g]? = some (.map es ck)) : v.ownBlock ≠ some g := by
  rcases h.2 with ⟨rfl, _⟩ | ⟨g', cap, cur, rfl, _, hh, _⟩
  · simp [Value.ownBlock]
  · intro he
    have : g' = g := by simpa [Value.ownBlock] using he
    subst this
    rw [hg] at hh
    cases hh

theorem own_ne_own {w : World} {b b' e e' n n' g : Nat} {v v' : Value} {xs xs' : List Value} (h : w.ownsRow b e 1 v n xs) (h' : w.ownsRow b' e' 1 v' n' xs') (hne : e ≠ e') (hg : v.ownBlock = some g) : v'.ownBlock ≠ some g := by
  rcases h.2 with ⟨rfl, _⟩ | ⟨g1, cap, cur, rfl, _, hh, _⟩
  · simp [Value.ownBlock] at hg
  · have : g1 = g := by simpa [Value.ownBlock] using hg
    subst this
    exact own_ne_blk h' hh (fun e => hne e.symm)

/-- What is left of a region that draws its order is quiet: one walk in the order of the text. -/
theorem wpAny_quiet_from {P : Program} {md : Region.Mode} {ops : Array Oper} {Q : Exit → Act → World → Prop} {w : World} {fuel : Nat} {listed : Array Bool} {a : Act} (l : List Oper) (k : Nat) (hs : Region.noSelect ops = true) (hl : ops.toList.drop k = l) (hf : fuel = l.length)
    (hB : Region.lexFrom md ops l.length k listed = true) (h : wpQuiet P ops (fun w' => ∃ n, w' = w.drewN n) (fun a' => ∀ w', (∃ n, w' = w.drewN n) → Q .normal a' w') l a) : wpAny P md ops Q fuel listed a w := by
  subst hf
  exact wpAny_of_quiet (C := fun w' => ∃ n, w' = w.drewN n) (Q := fun a' => ∀ w', (∃ n, w' = w.drewN n) → Q .normal a' w') (fun _ w' hw' h => h w' hw') _ _ _ _ ⟨0, rfl⟩ (wpAnyQ_lex hs l k listed a (fun j => by rw [← hl]; simp) hB h)

/-- The first k of l, then z. -/
def fillTo {α : Type} (l : List α) (n : Nat) (z : α) (k : Nat) : List α := l.take k ++ List.replicate (n - k) z
theorem fillTo_zero {α : Type} (l : List α) (n : Nat) (z : α) : fillTo l n z 0 = List.replicate n z := by simp [fillTo]
theorem fillTo_all {α : Type} {l : List α} {n : Nat} (z : α) (h : l.length = n) : fillTo l n z n = l := by simp [fillTo, ← h]
theorem fillTo_set {α : Type} {l : List α} {n k : Nat} {z x : α} (hk : k < n) (hx : l[k]? = some x) : (fillTo l n z k).set k x = fillTo l n z (k + 1) := by
  have h1 : k < l.length := (List.getElem?_eq_some_iff.1 hx).1
  have hl : (l.take k).length = k := by simp; omega
  unfold fillTo
  rw [List.set_append_right _ _ (by omega), hl, Nat.sub_self, List.take_add_one, hx, show n - k = (n - (k + 1)) + 1 from by omega, List.replicate_succ, List.set_cons_zero]
  simp
theorem fillTo_len {α : Type} {l : List α} {n k : Nat} {z : α} (hk : k ≤ n) (h : l.length = n) : (fillTo l n z k).length = n := by simp [fillTo]; omega
theorem map_fillTo {α β : Type} (f : α → β) (l : List α) (n : Nat) (z : α) (k : Nat) : (fillTo l n z k).map f = fillTo (l.map f) n (f z) k := by simp [fillTo, List.map_take]

end Go.Proofs.YtfgnghgmffaepaaDoor
