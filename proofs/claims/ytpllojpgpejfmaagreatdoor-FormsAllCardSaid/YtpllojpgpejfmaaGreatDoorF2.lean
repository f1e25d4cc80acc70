/- What memory holds: slices that are read, slices that the call owns, worlds that differ in a few blocks alone. Plain lemmas, no program. No condition. The error that a number stands for, and the error that a package tells: what root, fault.New return. Condition: the package's error variables hold what E says. The types' rows of the program's table. Closed facts. The first place of a list that holds no symbol: rule.odd, word.Check's and overlap.check's search, slices.IndexFunc. Condition: the list reads from memory. errors.As at an *api.Fault: nil, and the hit. After the kit's worked proof of errors.As at a concrete target. Condition: the variable that As reads, the target's cell. -/
import Derived.Test.YtpllojpgpejfmaaGreatDoorProg
import Derived.WalkKit
import Derived.WalkSpells
import Derived.WalkLawsBesides
import Derived.Below
import Derived.Laws.OwnMore
import Derived.ArgAppend
import Derived.Deep.AppendLies
import Derived.Deep.Draws
import Derived.Deep.OwnRows
import Derived.Deep.QuietTactic
import Derived.BigQuiet
import Derived.Lib.Hide
import Derived.LaidEql
import Derived.Stop.Asserts
import Derived.RowKitTokens
import Derived.Test.YtpllojpgpejfmaaGreatDoorF1
namespace Go.Proofs.YtpllojpgpejfmaaGreatDoor
open Go.RowKit

/-- Only blocks of O, and new ones, have changed. -/
structure Keeps (O : Nat → Prop) (w w' : World) : Prop where
  os : w'.os = w.os
  tape : w'.tape = w.tape
  output : w'.output = w.output
  size : w.heap.size ≤ w'.heap.size
  block : ∀ k, k < w.heap.size → ¬ O k → w'.heap[k]? = w.heap[k]?

namespace Keeps
variable {O O' : Nat → Prop} {w w' w'' : World}
theorem refl (O : Nat → Prop) (w : World) : Keeps O w w := ⟨rfl, rfl, rfl, Nat.le_refl _, fun _ _ _ => rfl⟩
theorem mono (h : Keeps O w w') (ho : ∀ k, k < w.heap.size → O k → O' k) : Keeps O' w w' :=
  ⟨h.os, h.tape, h.output, h.size, fun k hk hn => h.block k hk (fun hO => hn (ho k hk hO))⟩
theorem trans (h : Keeps O w w') (h' : Keeps O' w' w'') (ho : ∀ k, k < w.heap.size → O' k → O k) : Keeps O w w'' :=
  ⟨h'.os.trans h.os, h'.tape.trans h.tape, h'.output.trans h.output, Nat.le_trans h.size h'.size,
    fun k hk hn => (h'.block k (Nat.lt_of_lt_of_le hk h.size) (fun x => hn (ho k hk x))).trans (h.block k hk hn)⟩
theorem of_pure (h : Below w.heap.size w w') (O : Nat → Prop) : Keeps O w w' :=
  ⟨h.os, h.tape, h.output, h.size, fun k hk _ => h.block k hk⟩
theorem of_grown {row : Option Nat} (h : w.grownBy w' row) : Keeps (fun k => row = some k) w w' :=
  ⟨h.os, h.tape, h.output, h.size, fun k hk hn => h.block k hk (fun e => hn e.symm)⟩
theorem of_setCell (w : World) (a : Addr) (u : Value) : Keeps (fun k => k = a.block) w (w.setCell a u) :=
  ⟨rfl, rfl, rfl, by simp [World.setCell], fun k _ hn => Below.heap_setCell _ _ _ _ hn⟩
theorem below (h : Keeps O w w') {B : Nat} (hB : B ≤ w.heap.size) (ho : ∀ k, O k → B ≤ k) : Below B w w' :=
  ⟨h.os, h.tape, h.output, h.size, fun k hk => h.block k (by omega) (fun x => by have := ho k x; omega)⟩
theorem cell (h : Keeps O w w') {a : Addr} {v : Value} (hv : w.cell? a = some v) (ho : ¬ O a.block) : w'.cell? a = some v :=
  (World.cell?_of_block (w := w) (h.block a.block (World.block_lt_of_cell? _ _ hv) ho)).trans hv
end Keeps

theorem keeps_new {O : Nat → Prop} {wx w w' : World} (hk : Keeps O wx w) (hg : w.grownBy w' none) : Keeps O wx w' :=
  ⟨hg.os.trans hk.os, hg.tape.trans hk.tape, hg.output.trans hk.output, Nat.le_trans hk.size hg.size, fun k h1 h2 => by
    rw [hg.block k (Nat.lt_of_lt_of_le h1 hk.size) (fun e => by cases e)]
    exact hk.block k h1 h2⟩
theorem below_drewN {B : Nat} {w w' : World} (h : Below B w w') (n : Nat) : Below B w (w'.drewN n) := ⟨h.os, h.tape, h.output, h.size, h.block⟩
theorem pure_drewN (w : World) (n : Nat) : Below w.heap.size w (w.drewN n) := below_drewN (Below.refl _ _) n
theorem pure_trans {w w1 w2 : World} (h : Below w.heap.size w w1) (h' : Below w1.heap.size w1 w2) : Below w.heap.size w w2 := h.trans (h'.mono h.size)

/-- The slice of address A and length n reads as xs. -/
def Sl (w : World) (A : Option Addr) (n : Nat) (xs : List Value) : Prop :=
  xs.length = n ∧ ∀ k v, xs[k]? = some v → ∃ ad, A = some ad ∧ w.cell? (ad.add k) = some v

theorem block_of_add (a : Addr) (n : Nat) : (a.add n).block = a.block := by unfold Addr.add; split <;> rfl
theorem add_of_add (a : Addr) (i j : Nat) : (a.add i).add j = a.add (i + j) := by
  unfold Addr.add
  by_cases hi : i = 0 <;> by_cases hj : j = 0 <;> simp [hi, hj, Nat.add_assoc]

namespace Sl
variable {w w' : World} {A : Option Addr} {n : Nat} {xs : List Value}
theorem nil (w : World) (A : Option Addr) : Sl w A 0 [] := ⟨rfl, fun k v h => by simp at h⟩
theorem len (h : Sl w A n xs) : xs.length = n := h.1
theorem at_ {k : Nat} (h : Sl w A n xs) (hk : k < n) : ∃ ad u, A = some ad ∧ xs[k]? = some u ∧ w.cell? (ad.add k) = some u := by
  have hl : k < xs.length := by have := h.1; omega
  obtain ⟨ad, e, hc⟩ := h.2 k xs[k] (List.getElem?_eq_getElem hl)
  exact ⟨ad, xs[k], e, List.getElem?_eq_getElem hl, hc⟩
theorem int_ {k : Nat} {q : IntKind} {l : List Int} (h : Sl w A n (l.map (Value.int q))) (hk : k < n) : ∃ ad x, A = some ad ∧ l[k]? = some x ∧ w.cell? (ad.add k) = some (.int q x) := by
  obtain ⟨ad, u, h1, h3, h4⟩ := h.at_ hk
  rw [List.getElem?_map] at h3
  cases hl : l[k]? with
  | none => rw [hl] at h3; cases h3
  | some x => rw [hl] at h3; cases h3; exact ⟨ad, x, h1, rfl, h4⟩
theorem word_ {k : Nat} {q : IntKind} {l : List Nat} (h : Sl w A n (l.map (fun (x : Nat) => Value.int q (x : Int)))) (hk : k < n) : ∃ ad x, A = some ad ∧ l[k]? = some x ∧ w.cell? (ad.add k) = some (.int q (x : Int)) := by
  obtain ⟨ad, u, h1, h3, h4⟩ := h.at_ hk
  rw [List.getElem?_map] at h3
  cases hl : l[k]? with
  | none => rw [hl] at h3; cases h3
  | some x => rw [hl] at h3; cases h3; exact ⟨ad, x, h1, rfl, h4⟩
theorem keep (h : Sl w A n xs) (hk : ∀ (p : Addr) v, w.cell? p = some v → (∀ ad, A = some ad → p.block = ad.block) → w'.cell? p = some v) : Sl w' A n xs :=
  ⟨h.1, fun k v hv => by
    obtain ⟨ad, e, hc⟩ := h.2 k v hv
    exact ⟨ad, e, hk _ _ hc (fun ad' e' => by rw [e] at e'; cases e'; exact block_of_add _ _)⟩⟩
theorem below (h : Sl w A n xs) (hb : Below w.heap.size w w') : Sl w' A n xs := h.keep fun _ _ hc _ => cell_later hb hc
theorem keeps {O : Nat → Prop} (h : Sl w A n xs) (hk : Keeps O w w') (ho : ∀ ad, A = some ad → ¬ O ad.block) : Sl w' A n xs :=
  ⟨h.1, fun k v hv => by
    obtain ⟨ad, e, hc⟩ := h.2 k v hv
    exact ⟨ad, e, hk.cell hc (by rw [block_of_add]; exact ho ad e)⟩⟩
theorem drewN (h : Sl w A n xs) (q : Nat) : Sl (w.drewN q) A n xs := h
theorem alloc (h : Sl w A n xs) (o : Obj) : Sl (w.alloc o) A n xs := h.keep fun p _ hc _ => by
  rw [World.cell?_alloc_lt w o p (World.block_lt_of_cell? _ _ hc)]; exact hc
theorem of_own {base e c : Nat} (h : w.ownsRow base e 1 (.slice A n c) n xs) : Sl w A n xs := by
  refine ⟨by simpa using h.1, fun k v hv => ?_⟩
  have hn : 0 < n := by
    rcases Nat.eq_zero_or_pos n with h0 | h0
    · subst h0; have := h.1; simp at this; subst this; simp at hv
    · exact h0
  obtain ⟨g, cap, hv', _, _⟩ := h.form hn
  injection hv' with hA
  subst hA
  exact ⟨_, rfl, h.cells (g := g) rfl k v hv⟩
end Sl

/-- The slice's type and its elements' row of the program's table. -/
structure ElemT (P : Program) (t e : TypeId) (z : Value) (bytes : Nat) : Prop where
  und : P.underlying t = some (.slice e)
  info : (P.info? e).map (fun i => (i.zero, i.size, i.bytes)) = some (some z, 1, bytes)
  one : z.cells = #[z]

/-- Of an owned slice: how its value looks. -/
theorem own_slice {w : World} {base e : Nat} {v : Value} {n : Nat} {xs : List Value} (h : w.ownsRow base e 1 v n xs) : ∃ A c, v = .slice A n c ∧ n ≤ c ∧ c ≤ maxLen := by
  rcases h.2 with ⟨rfl, rfl⟩ | ⟨g, cap, cur, rfl, _, _, h1, h2, _⟩
  · exact ⟨none, 0, rfl, Nat.le_refl _, Nat.zero_le _⟩
  · exact ⟨_, _, rfl, h1, h2⟩

theorem own_keeps {w w' : World} {O : Nat → Prop} {base e : Nat} {v : Value} {n : Nat} {xs : List Value} (h : w.ownsRow base e 1 v n xs) (hk : Keeps O w w') (ho : ∀ g, v.ownBlock = some g → ¬ O g) : w'.ownsRow base e 1 v n xs := by
  refine ⟨h.1, ?_⟩
  rcases h.2 with hn | ⟨g, cap, cur, rfl, hb, hgg, rest⟩
  · exact .inl hn
  · refine .inr ⟨g, cap, cur, rfl, hb, ?_, rest⟩
    rw [hk.block g (Array.getElem?_eq_some_iff.1 hgg).1 (ho g rfl)]
    exact hgg

theorem own_below {w w' : World} {base e : Nat} {v : Value} {n : Nat} {xs : List Value} (h : w.ownsRow base e 1 v n xs) (hk : Below w.heap.size w w') : w'.ownsRow base e 1 v n xs :=
  own_keeps h (Keeps.of_pure hk (fun _ => False)) (fun _ _ h => h)

theorem own_base {w : World} {base base' e : Nat} {v : Value} {n : Nat} {xs : List Value} (h : w.ownsRow base e 1 v n xs) (hb : base' ≤ base) : w.ownsRow base' e 1 v n xs := by
  refine ⟨h.1, ?_⟩
  rcases h.2 with hn | ⟨g, cap, cur, hv, hg, rest⟩
  · exact .inl hn
  · exact .inr ⟨g, cap, cur, hv, Nat.le_trans hb hg, rest⟩

/-- append(s, x) of one element: x lies in a new block of one cell. -/
theorem wpList_push {P : Program} {w w0 : World} {ops : Array Oper} {rest : List Oper} {o : Oper} {a : Act} {Q : Exit → Act → World → Prop} (hgd : o.guard = none) (s x : Operand) (t : TypeId)
    (ho : o.op = .call { callee := .builtin .append, args := #[s, x], argTypes := #[t, t] }) {e : TypeId} {z : Value} {bytes : Nat} (hT : ElemT P t e z bytes)
    {base : Nat} {v : Value} {n : Nat} {xs : List Value} (hown : w0.ownsRow base e 1 v n xs) (hs : a.eval s = v) (u : Value) (q : Nat) (hw : w = (w0.alloc (.cells #[u] e)).drewN q)
    (hx : a.eval x = .slice (some ⟨w0.heap.size, 0, none⟩) 1 1) (hu : u.oneCell' = true) (h63 : n + 1 ≤ maxLen) (hbytes : (n + 1) * bytes ≤ 140737488355328) (hbase : base ≤ w0.heap.size)
    (h : ∀ g cap w', w'.ownsRow base e 1 (.slice (some ⟨g, 0, none⟩) (n + 1) cap) (n + 1) (xs ++ [u]) → w0.grownBy w' v.ownBlock → (v.ownBlock = some g ∨ w0.heap.size < g) → g < w'.heap.size →
      wpList P ops Q rest (a.put o.dst (.slice (some ⟨g, 0, none⟩) (n + 1) cap)) w') : wpList P ops Q (o :: rest) a w := by
  subst hw
  obtain ⟨i, hi, hz, hz1, hz2⟩ := info_parts hT.info
  have hown1 : ((w0.alloc (.cells #[u] e)).drewN q).ownsRow base e 1 v n xs := hown.alloc _
  refine wpList_append_lies _ hgd s x t ho base e i z 1 bytes hT.und hi hz hz1 hz2 (by rw [hT.one]; rfl) (by decide) v n xs hs hown1 ⟨w0.heap.size, 0, none⟩ 1 1 [u] hx rfl ?_ ?_ (by decide) h63 hbytes (by simp; omega) _ rfl ?_
  · intro j u' hj
    match j, hj with
    | 0, hj => simp at hj; subst hj; simp [Addr.add]
  · intro u' hu'; simp at hu'; subst hu'; exact hu
  · intro g cap w' h1 h2 h3 h4
    refine h g cap w' h1 ⟨h2.os, h2.tape, h2.output, Nat.le_trans (by simp) h2.size, fun k hk hn => ?_⟩ ?_ h4
    · rw [h2.block k (by simp; omega) hn]
      exact Below.heap_alloc _ _ _ hk
    · rcases h3 with h3 | h3
      · exact .inl h3
      · right; rw [h3]; simp

/-- append(s, x) of one element, the old row kept where a new one is made. -/
theorem wpList_push2 {P : Program} {w w0 : World} {ops : Array Oper} {rest : List Oper} {o : Oper} {a : Act} {Q : Exit → Act → World → Prop} (hgd : o.guard = none) (s x : Operand) (t : TypeId)
    (ho : o.op = .call { callee := .builtin .append, args := #[s, x], argTypes := #[t, t] }) {e : TypeId} {z : Value} {bytes : Nat} (hT : ElemT P t e z bytes)
    {base : Nat} {v : Value} {n : Nat} {xs : List Value} (hown : w0.ownsRow base e 1 v n xs) (hs : a.eval s = v) (u : Value) (q : Nat) (hw : w = (w0.alloc (.cells #[u] e)).drewN q)
    (hx : a.eval x = .slice (some ⟨w0.heap.size, 0, none⟩) 1 1) (hu : u.oneCell' = true) (h63 : n + 1 ≤ maxLen) (hbytes : (n + 1) * bytes ≤ 140737488355328) (hbase : base ≤ w0.heap.size)
    (h : ∀ g cap w', w'.ownsRow base e 1 (.slice (some ⟨g, 0, none⟩) (n + 1) cap) (n + 1) (xs ++ [u]) → ((v.ownBlock = some g ∧ w0.grownBy w' (some g)) ∨ (w0.heap.size < g ∧ w0.grownBy w' none)) → g < w'.heap.size →
      wpList P ops Q rest (a.put o.dst (.slice (some ⟨g, 0, none⟩) (n + 1) cap)) w') : wpList P ops Q (o :: rest) a w := by
  subst hw
  obtain ⟨i, hi, hz, hz1, hz2⟩ := info_parts hT.info
  have hown1 : ((w0.alloc (.cells #[u] e)).drewN q).ownsRow base e 1 v n xs := hown.alloc _
  have hg0 : ∀ {w' : World} {row : Option Nat}, ((w0.alloc (.cells #[u] e)).drewN q).grownBy w' row → w0.grownBy w' row := by
    intro w' row h2
    refine ⟨h2.os, h2.tape, h2.output, Nat.le_trans (by simp) h2.size, fun k hk hn => ?_⟩
    rw [h2.block k (by simp; omega) hn]
    exact Below.heap_alloc _ _ _ hk
  have hcell : ∀ j u', [u][j]? = some u' → ((w0.alloc (.cells #[u] e)).drewN q).cell? ((⟨w0.heap.size, 0, none⟩ : Addr).add j) = some u' := by
    intro j u' hj
    match j, hj with
    | 0, hj => simp at hj; subst hj; simp [Addr.add]
  have hone : ∀ u' ∈ [u], u'.oneCell' = true := by intro u' hu'; simp at hu'; subst hu'; exact hu
  rcases hown.2 with ⟨rfl, rfl⟩ | ⟨g, cap, cur, rfl, hbg, hg, hnc, hcm, hsz, htake⟩
  · refine wpList_append_grows _ hgd s x t ho e i z 1 bytes hT.und hi hz hz1 hz2 (by rw [hT.one]; rfl) (by decide) none 0 0 xs hs (fun _ => ⟨rfl, rfl⟩) (by simpa using hown.1) (fun b hb => by cases hb) ⟨w0.heap.size, 0, none⟩ 1 1 [u] hx rfl hcell hone (by omega) h63 hbytes ?_
    intro v' w' h1 h2
    obtain ⟨g, cap, rfl, hb, hlt⟩ := h1.form (by omega)
    have hb' : w0.heap.size < g := by simp at hb; omega
    exact h g cap w' (own_base h1 (by simp; omega)) (.inr ⟨hb', hg0 h2⟩) hlt
  · by_cases hroom : n + 1 ≤ cap
    · refine wpList_append_fits _ hgd s x t ho base e i 1 hT.und hi hz1 g n cap xs hs hown1 ⟨w0.heap.size, 0, none⟩ 1 1 [u] hx rfl hcell hone hroom ?_
      intro w' h1 h2
      exact h g cap w' h1 (.inl ⟨rfl, hg0 h2⟩) (h1.lt g rfl).2
    · refine wpList_append_grows _ hgd s x t ho e i z 1 bytes hT.und hi hz hz1 hz2 (by rw [hT.one]; rfl) (by decide) (some ⟨g, 0, none⟩) n cap xs hs (fun hb => by cases hb) (by simpa using hown.1) (fun b hb j u' hj => by cases hb; exact hown1.cells (g := g) rfl j u' hj) ⟨w0.heap.size, 0, none⟩ 1 1 [u] hx rfl hcell hone (by omega) h63 hbytes ?_
      intro v' w' h1 h2
      obtain ⟨g', cap', rfl, hb, hlt⟩ := h1.form (by omega)
      have hb' : w0.heap.size < g' := by simp at hb; omega
      exact h g' cap' w' (own_base h1 (by simp; omega)) (.inr ⟨hb', hg0 h2⟩) hlt

theorem run_append_of_nil {P : Program} {w : World} {base t ty e n : Nat} {i : TypeInfo} {v : Value} {xs : List Value} (ht : P.underlying t = some (.slice e)) (hi : P.info? e = some i)
    (hown : w.ownsRow base e 1 v n xs) (c : Nat) : (Builtin.append_ #[t, t] ty #[v, .slice none 0 c]).run P w = .ok v w := by
  rcases hown.2 with ⟨rfl, rfl⟩ | ⟨g, cap, cur, rfl, _, _, hnc, _⟩
  · simp [Builtin.append_, run_underlying ht, sizeOf, typeInfo, hi, Builtin.lenOf, Builtin.firstCells]
  · simp [Builtin.append_, run_underlying ht, sizeOf, typeInfo, hi, Builtin.lenOf, Builtin.firstCells, hnc, storeCells]

/-- append(s, x...): x is read from memory. -/
theorem wpList_cat {P : Program} {w : World} {ops : Array Oper} {rest : List Oper} {o : Oper} {a : Act} {Q : Exit → Act → World → Prop} (hgd : o.guard = none) (s x : Operand) (t : TypeId)
    (ho : o.op = .call { callee := .builtin .append, args := #[s, x], argTypes := #[t, t] }) {e : TypeId} {z : Value} {bytes : Nat} (hT : ElemT P t e z bytes)
    {base : Nat} {v : Value} {n : Nat} {xs : List Value} (hown : w.ownsRow base e 1 v n xs) (hs : a.eval s = v) {A : Option Addr} {m c : Nat} {ys : List Value} (hsl : Sl w A m ys)
    (hx : a.eval x = .slice A m c) (hu : ∀ u ∈ ys, u.oneCell' = true) (h63 : n + m ≤ maxLen) (hbytes : (n + m) * bytes ≤ 140737488355328) (hbase : base ≤ w.heap.size)
    (h : ∀ v' w', w'.ownsRow base e 1 v' (n + m) (xs ++ ys) → w.grownBy w' v.ownBlock → (v'.ownBlock = v.ownBlock ∨ v'.ownBlock = some w.heap.size) → (v ≠ .slice none 0 0 → v' ≠ .slice none 0 0) → wpList P ops Q rest (a.put o.dst v') w') :
    wpList P ops Q (o :: rest) a w := by
  obtain ⟨i, hi, hz, hz1, hz2⟩ := info_parts hT.info
  cases A with
  | none =>
    have hys : ys = [] := by
      cases ys with
      | nil => rfl
      | cons y ys => obtain ⟨ad, e', _⟩ := hsl.2 0 y (by simp); cases e'
    subst hys
    have hm : m = 0 := by have := hsl.1; simpa using this.symm
    subst hm
    refine wpList_plain hgd fun K hK => ?_
    have hrun := run_append_of_nil (P := P) (w := w) (t := t) (ty := o.type) hT.und hi hown c
    unfold Oper.wp
    simp [execOp, ho, resolve, invoke, builtin, hs, hx, hrun, Result.andThen]
    exact hK _ _ (h v w (by simpa using hown) (World.grownBy.refl _ _) (.inl rfl) (fun h => h))
  | some ad =>
    refine wpList_append_own_at w hgd s x t ho base e i z 1 bytes hT.und hi hz hz1 hz2 (by rw [hT.one]; rfl) (by decide) v n xs hs hown ad m c ys hx (by rw [hsl.1]; simp) (fun j u hj => ?_) hu h63 hbytes hbase ?_
    · obtain ⟨ad', e', hc⟩ := hsl.2 j u hj
      cases e'
      exact hc
    · intro v' w' h1 h2 h3 h4
      exact h v' w' h1 h2 h4 (fun hv e' => hv (h3.1 e').1)

theorem ints_one {q : IntKind} (l : List Int) : ∀ u ∈ l.map (Value.int q), u.oneCell' = true := by
  intro u hu
  obtain ⟨x, _, rfl⟩ := List.mem_map.1 hu
  rfl

theorem blk_cells {w : World} {bb t : Nat} {x0 x1 x2 : Value} (h : w.heap[bb]? = some (.cells #[x0, x1, x2] t (0, 0))) :
    w.cell? ⟨bb, 0, none⟩ = some x0 ∧ w.cell? ⟨bb, 1, none⟩ = some x1 ∧ w.cell? ⟨bb, 2, none⟩ = some x2 ∧ w.frozen? ⟨bb, 1, none⟩ = false := by
  refine ⟨?_, ?_, ?_, frozen_of_row w bb 1 _ t h⟩ <;> rw [cell_of_row w bb _ _ t _ h] <;> rfl

theorem own_ne_blk {w : World} {base e n g t : Nat} {v : Value} {xs : List Value} {cs : Array Value} (h : w.ownsRow base e 1 v n xs) (hg : w.heap[g]? = some (.cells cs t (0, 0))) (hne : e ≠ t) : v.ownBlock ≠ some g := by
  rcases h.2 with ⟨rfl, _⟩ | ⟨g', cap, cur, rfl, _, hh, _⟩
  · simp [Value.ownBlock]
  · intro he
    have : g' = g := by simpa [Value.ownBlock] using he
    subst this
    rw [hg] at hh
    injection hh with hh
    injection hh with _ ht
    exact hne ht.symm
theorem own_ne_own {w : World} {b b' e e' n n' g : Nat} {v v' : Value} {xs xs' : List Value} (h : w.ownsRow b e 1 v n xs) (h' : w.ownsRow b' e' 1 v' n' xs') (hne : e ≠ e') (hg : v.ownBlock = some g) : v'.ownBlock ≠ some g := by
  rcases h.2 with ⟨rfl, _⟩ | ⟨g1, cap, cur, rfl, _, hh, _⟩
  · simp [Value.ownBlock] at hg
  · have : g1 = g := by simpa [Value.ownBlock] using hg
    subst this
    exact own_ne_blk h' hh (fun e => hne e.symm)

/-- What is left of a region that draws its order is quiet: one walk in the order of the text. -/
theorem wpAny_quiet_from {P : Program} {md : Region.Mode} {ops : Array Oper} {Q : Exit → Act → World → Prop} {w : World} {fuel : Nat} {listed : Array Bool} {a : Act} (l : List Oper) (k : Nat) (hs : Region.noSelect ops = true) (hl : ops.toList.drop k = l) (hf : fuel = l.length)
    (hB : Region.lexFrom md ops l.length k listed = true) (h : wpQuiet P ops (fun w' => ∃ n, w' = w.drewN n) (fun a' => ∀ w', (∃ n, w' = w.drewN n) → Q .normal a' w') l a) : wpAny P md ops Q fuel listed a w := by
  subst hf
  exact wpAny_of_quiet (C := fun w' => ∃ n, w' = w.drewN n) (Q := fun a' => ∀ w', (∃ n, w' = w.drewN n) → Q .normal a' w') (fun _ w' hw' h => h w' hw') _ _ _ _ ⟨0, rfl⟩ (wpAnyQ_lex hs l k listed a (fun j => by rw [← hl]; simp) hB h)

/-- The first k of l, then z. -/
def fillTo {α : Type} (l : List α) (n : Nat) (z : α) (k : Nat) : List α := l.take k ++ List.replicate (n - k) z
theorem fillTo_zero {α : Type} (l : List α) (n : Nat) (z : α) : fillTo l n z 0 = List.replicate n z := by simp [fillTo]
theorem fillTo_all {α : Type} {l : List α} {n : Nat} (z : α) (h : l.length = n) : fillTo l n z n = l := by simp [fillTo, ← h]
theorem fillTo_set {α : Type} {l : List α} {n k : Nat} {z x : α} (hk : k < n) (hx : l[k]? = some x) : (fillTo l n z k).set k x = fillTo l n z (k + 1) := by
  have h1 : k < l.length := (List.getElem?_eq_some_iff.1 hx).1
  have hl : (l.take k).length = k := by simp; omega
  unfold fillTo
  rw [List.set_append_right _ _ (by omega), hl, Nat.sub_self, List.take_add_one, hx, show n - k = (n - (k + 1)) + 1 from by omega, List.replicate_succ, List.set_cons_zero]
  simp
theorem fillTo_len {α : Type} {l : List α} {n k : Nat} {z : α} (hk : k ≤ n) (h : l.length = n) : (fillTo l n z k).length = n := by simp [fillTo]; omega
end Go.Proofs.YtpllojpgpejfmaaGreatDoor

namespace Go.Proofs.YtpllojpgpejfmaaGreatDoor
open Go.RowKit

theorem heap_new (w : World) (o : Obj) : (w.alloc o).heap[w.heap.size]? = some o := by
  show (w.heap.push o)[w.heap.size]? = some o
  simp
/-- The error variables hold the values of E, by their numbers. -/
structure Errs (w : World) (E : Nat → Addr) : Prop where
  e1 : w.cell? ⟨0, 0, none⟩ = some (.iface 199 (.pointer (some (E 1))))
  e2 : w.cell? ⟨1, 0, none⟩ = some (.iface 199 (.pointer (some (E 2))))
  e3 : w.cell? ⟨2, 0, none⟩ = some (.iface 199 (.pointer (some (E 3))))
  e4 : w.cell? ⟨3, 0, none⟩ = some (.iface 199 (.pointer (some (E 4))))
  e5 : w.cell? ⟨4, 0, none⟩ = some (.iface 199 (.pointer (some (E 5))))
  e6 : w.cell? ⟨5, 0, none⟩ = some (.iface 199 (.pointer (some (E 6))))
  e7 : w.cell? ⟨6, 0, none⟩ = some (.iface 199 (.pointer (some (E 7))))
  e8 : w.cell? ⟨7, 0, none⟩ = some (.iface 199 (.pointer (some (E 8))))
  e9 : w.cell? ⟨8, 0, none⟩ = some (.iface 199 (.pointer (some (E 9))))
  e10 : w.cell? ⟨9, 0, none⟩ = some (.iface 199 (.pointer (some (E 10))))
  e11 : w.cell? ⟨10, 0, none⟩ = some (.iface 199 (.pointer (some (E 11))))
  e99 : w.cell? ⟨11, 0, none⟩ = some (.iface 199 (.pointer (some (E 99))))

theorem Errs.keep {w w' : World} {E : Nat → Addr} (h : Errs w E) (hk : ∀ (a : Addr) v, w.cell? a = some v → w'.cell? a = some v) : Errs w' E :=
  ⟨hk _ _ h.e1, hk _ _ h.e2, hk _ _ h.e3, hk _ _ h.e4, hk _ _ h.e5, hk _ _ h.e6, hk _ _ h.e7, hk _ _ h.e8, hk _ _ h.e9, hk _ _ h.e10, hk _ _ h.e11, hk _ _ h.e99⟩
theorem Errs.below {w w' : World} {E : Nat → Addr} (h : Errs w E) (hb : Below w.heap.size w w') : Errs w' E := h.keep fun _ _ hc => cell_later hb hc

set_option maxHeartbeats 1000000 in
theorem root_c (w : World) (E : Nat → Addr) (hE : Errs w E) (n : Nat) (h1 : 1 ≤ n) (h2 : n ≤ 11) :
    Calls Tryz.prog 97 #[.int .i64 (n : Int)] w fun e w' => e = .returned (.iface 199 (.pointer (some (E n)))) ∧ w = w' := by
  obtain ⟨e1, e2, e3, e4, e5, e6, e7, e8, e9, e10, e11, e99⟩ := hE
  have hn : n = 1 ∨ n = 2 ∨ n = 3 ∨ n = 4 ∨ n = 5 ∨ n = 6 ∨ n = 7 ∨ n = 8 ∨ n = 9 ∨ n = 10 ∨ n = 11 := by omega
  clear h1 h2
  rcases hn with rfl | rfl | rfl | rfl | rfl | rfl | rfl | rfl | rfl | rfl | rfl
  all_goals
    go_enter Tryz.func97, Tryz.ntmps97
    go_wp2
    go_ret
    exact ⟨rfl, rfl⟩

/-- The value of an error that lies in block b. -/
def errV (b : Nat) : Value := .iface 95 (.pointer (some ⟨b, 0, none⟩))

theorem new_c (w : World) (E : Nat → Addr) (hE : Errs w E) (op : ByteArray) (at' : Int) (n : Nat) (h1 : 1 ≤ n) (h2 : n ≤ 11) :
    Calls Tryz.prog 68 #[.string op, .int .i64 at', .int .i64 (n : Int)] w fun e w' => e = .returned (errV w.heap.size) ∧ w.alloc (.cells #[.string op, .int .i64 at', .iface 199 (.pointer (some (E n)))] 99) = w' := by
  have hn : ((n : Int) == 0) = false := by simp; omega
  go_enter Tryz.func68, Tryz.ntmps68
  go_wp2_with (go_at_call 97; refine (root_c _ E hE n h1 h2).mono ?_; rintro e w' ⟨rfl, rfl⟩)
  go_ret
  exact ⟨rfl, rfl⟩


/-- Three writes into one block. -/
theorem keeps_set3 (w : World) (g : Nat) (u0 u1 u2 : Value) : Keeps (fun k => k = g) w (((w.setCell ⟨g, 0, none⟩ u0).setCell ⟨g, 1, none⟩ u1).setCell ⟨g, 2, none⟩ u2) :=
  ((Keeps.of_setCell w ⟨g, 0, none⟩ u0).trans (Keeps.of_setCell _ ⟨g, 1, none⟩ u1) (fun _ _ h => h)).trans (Keeps.of_setCell _ ⟨g, 2, none⟩ u2) (fun _ _ h => h)
theorem below_set3 {w0 w : World} {B g : Nat} (h : Below B w0 w) (hg : B ≤ g) (u0 u1 u2 : Value) : Below B w0 (((w.setCell ⟨g, 0, none⟩ u0).setCell ⟨g, 1, none⟩ u1).setCell ⟨g, 2, none⟩ u2) :=
  ((h.setCell (p := ⟨g, 0, none⟩) hg u0).setCell (p := ⟨g, 1, none⟩) hg u1).setCell (p := ⟨g, 2, none⟩) hg u2
end Go.Proofs.YtpllojpgpejfmaaGreatDoor

namespace Go.Proofs.YtpllojpgpejfmaaGreatDoor

theorem tInts : ElemT Tryz.prog 24 3 (.int .i64 0) 8 := ⟨Tryz.underlying24, by kernel_rfl, rfl⟩
theorem tBytes : ElemT Tryz.prog 77 5 (.int .u8 0) 1 := ⟨Tryz.underlying77, by kernel_rfl, rfl⟩
theorem tNat : ElemT Tryz.prog 66 103 (.int .u32 0) 4 := ⟨Tryz.underlying66, by kernel_rfl, rfl⟩

end Go.Proofs.YtpllojpgpejfmaaGreatDoor

namespace Go.Proofs.YtpllojpgpejfmaaGreatDoor
open Go.RowKit RuleP

theorem run_enter {P : Program} {f : FuncId} {fn : Func} (hf : P.funcs[f]? = some fn) (hname : (fn.name == "runtime.NumGoroutine") = false) (hb : fn.body.isSome = true) (args : Array Value) (w : World) :
    (callFunc f args).run P w = .ok (.enter f args) w := by
  have h1 : fn.name ≠ "runtime.NumGoroutine" := by simpa using hname
  obtain ⟨c, hc⟩ := Option.isSome_iff_exists.1 hb
  simp [callFunc, hf, h1, hc]

/-- The place, or -1. -/
def place : Option Nat → Int
  | some i => (i : Int)
  | none => -1

set_option maxRecDepth 100000 in
set_option maxHeartbeats 400000 in
/-- slices.IndexFunc by a closure of one captured value, whose body is a test of the element. -/
theorem indexFunc_c (w : World) (F : FuncId) (b : Addr) (p : Int → Bool) (A : Option Addr) (n c : Nat) (xs : List Int) (h : Sl w A n (xs.map (Value.int .i64))) (hm : n ≤ 9223372036854775807)
    (he : ∀ (x : Int) (wz : World), (callFunc F #[.int .i64 x, .pointer (some b)]).run Tryz.prog wz = .ok (.enter F #[.int .i64 x, .pointer (some b)]) wz)
    (hf : ∀ (x : Int), Calls Tryz.prog F #[.int .i64 x, .pointer (some b)] w fun e w' => e = .returned (.bool (p x)) ∧ w = w') :
    Calls Tryz.prog 113 #[.slice A n c, .func (.func F) #[] #[.pointer (some b)]] w fun e w' => e = .returned (.int .i64 (place (xs.findIdx? p))) ∧ w = w' := by
  have hl : xs.length = n := by simpa using h.1
  have HL := Lib.hid hl
  have HF := Lib.hid hf
  have HE := Lib.hid he
  clear hl hf he
  go_enter Tryz.func113, Tryz.ntmps113
  go_wp2_with fail
  go_loop [8] (fun i => ∃ k : Nat, k ≤ n ∧ i = .int .i64 (k : Int) ∧ Hid (∀ (j : Nat) (x : Int), j < k → xs[j]? = some x → p x = false)) (fun i => n - (intOf i).toNat)
  case atStart => exact ⟨0, Nat.zero_le _, rfl, Lib.hid (fun j x hj => by omega)⟩
  case round =>
    obtain ⟨k, hk, rfl, hs⟩ := hrel
    by_cases hlt : k < n
    · obtain ⟨ad, x, rfl, hxk, hcx⟩ := h.int_ hlt
      have hx := HE.out x
      cases hpx : p x with
      | false =>
        have hc := HF.out x
        rw [hpx] at hc
        have HC := Lib.hid hc
        have hs2 : Hid (∀ (j : Nat) (y : Int), j < k + 1 → xs[j]? = some y → p y = false) := Lib.hid (fun j y hj hy => by
          rcases Nat.lt_or_ge j k with h1 | h1
          · exact hs.out j y h1 hy
          · obtain rfl : j = k := by omega
            rw [hxk] at hy
            cases hy; exact hpx)
        clear hc hpx hxk hs
        go_wp2_with fail
        refine (HC.out).mono ?_
        rintro e w' ⟨rfl, rfl⟩
        go_wp2_with fail
        exact ⟨⟨k + 1, by omega, by go_num, hs2⟩, by simp [intOf]; omega⟩
      | true =>
        have hc := HF.out x
        rw [hpx] at hc
        have HC := Lib.hid hc
        have hp : Hid (place (xs.findIdx? p) = (k : Int)) := Lib.hid (by
          rw [List.findIdx?_eq_some_iff_getElem.2 ⟨by rw [HL.out]; exact hlt, by rw [(List.getElem?_eq_some_iff.1 hxk).2]; exact hpx, fun j hj => by
            have := hs.out j _ hj (List.getElem?_eq_getElem (by have := HL.out; omega))
            simp [this]⟩]
          rfl)
        clear hc hpx hxk hs
        go_wp2_with fail
        refine (HC.out).mono ?_
        rintro e w' ⟨rfl, rfl⟩
        go_wp2_with fail
        go_ret
        exact ⟨by rw [hp.out]; rfl, rfl⟩
    · obtain rfl : k = n := by omega
      have hp : Hid (place (xs.findIdx? p) = -1) := Lib.hid (by
        rw [List.findIdx?_eq_none_iff.2 fun x hx => by
          obtain ⟨j, hj⟩ := List.getElem?_of_mem hx
          exact hs.out j x (by rw [← HL.out]; exact (List.getElem?_eq_some_iff.1 hj).1) hj]
        rfl)
      clear hs
      go_wp2_with fail
      go_ret
      exact ⟨by rw [hp.out]; rfl, rfl⟩

set_option maxHeartbeats 400000 in
theorem ruleOddF_c (w : World) (x k : Int) (b : Addr) (hb : w.cell? b = some (.int .i64 k)) :
    Calls Tryz.prog 114 #[.int .i64 x, .pointer (some b)] w fun e w' => e = .returned (.bool (decide (x < 0 ∨ k ≤ x))) ∧ w = w' := by
  by_cases h : x < 0
  · have h1 : decide (x < 0) = true := decide_eq_true h
    have hd : Hid (decide (x < 0 ∨ k ≤ x) = true) := Lib.hid (decide_eq_true (.inl h))
    go_enter Tryz.func114, Tryz.ntmps114
    go_wp2_with fail
    go_ret
    exact ⟨by first | rfl | (rw [hd.out]; rfl), rfl⟩
  · have h1 : decide (x < 0) = false := decide_eq_false h
    have hd : Hid (decide (x < 0 ∨ k ≤ x) = decide (k ≤ x)) := Lib.hid (by simp [h])
    go_enter Tryz.func114, Tryz.ntmps114
    go_wp2_with fail
    go_ret
    exact ⟨by first | rfl | (rw [hd.out]; rfl), rfl⟩

theorem ruleOdd_c (w : World) (k : Int) (A : Option Addr) (n c : Nat) (xs : List Int) (h : Sl w A n (xs.map (Value.int .i64))) (hm : n ≤ 9223372036854775807) :
    Calls Tryz.prog 101 #[.int .i64 k, .slice A n c] w fun e w' => e = .returned (.int .i64 (place (odd k xs))) ∧ Below w.heap.size w w' := by
  have hi := indexFunc_c (w.alloc (.cells #[.int .i64 k] 3)) 114 ⟨w.heap.size, 0, none⟩ (fun x => decide (x < 0 ∨ k ≤ x)) A n c xs (h.alloc _) hm
    (fun x wz => run_enter Tryz.func114 (by kernel_rfl) (by kernel_rfl) _ _) (fun x => ruleOddF_c _ x k _ (by simp))
  change Calls _ _ _ _ (fun e w' => e = .returned (.int .i64 (place (odd k xs))) ∧ _ = w') at hi
  have HI := Lib.hid hi
  clear hi
  go_enter Tryz.func101, Tryz.ntmps101
  go_wp2_with fail
  refine (HI.out).mono ?_
  rintro e w' ⟨rfl, rfl⟩
  go_wp2_with fail
  go_ret
  exact ⟨rfl, (Below.refl _ _).alloc (Nat.le_refl _) _⟩
end Go.Proofs.YtpllojpgpejfmaaGreatDoor

namespace Go.Proofs.YtpllojpgpejfmaaGreatDoor
open Go.RowKit Go.Extern.Stop Go.Stop Go.Extern

/-! ### CLOSED FACTS ON THE MODEL's ENTRIES FOR internal/reflectlite, at this program's types: 25: *p.E · 27: **p.E · 23: error · 45: reflectlite's rtype · 1: how many package-level variables the dump has -/
theorem As.valueOf27 (t : Addr) (w : World) : (ReflectliteValue.unpack (.iface 97 (.pointer (some t)))).run Tryz.prog w
    = .ok (.agg #[.pointer (some ⟨17, 97, none⟩), .pointer (some ⟨w.heap.size, 0, none⟩), .int .u64 150]) (w.alloc (.cells #[.pointer (some t)] 97)) := by kernel_rfl
theorem As.type27 (a : Addr) (w : World) : (ReflectliteValue.methodAny (ReflectliteValue.valueError "reflectlite.Value.Type" 0) (fun t _ _ _ => ReflectliteType.toType t) #[.agg #[.pointer (some ⟨17, 97, none⟩), .pointer (some a), .int .u64 150]]).run Tryz.prog w
    = .ok (.iface 152 (.agg #[.pointer (some ⟨17, 97, none⟩)])) w := by kernel_rfl
theorem As.methodKind (h : Value) (w : World) : (Go.method 332 152 (.agg #[h]) "Kind").run Tryz.prog w = .ok (157, h) w := by kernel_rfl
theorem As.kind27 (w : World) : ((ReflectliteType.abiMethod fun t => (fun a : Nat => Value.int IntKind.u8 (a : Int)) <$> Rtype.kind t) #[.pointer (some ⟨17, 97, none⟩)]).run Tryz.prog w = .ok (.int .u8 22) w := by kernel_rfl
theorem As.kind25 (w : World) : ((ReflectliteType.abiMethod fun t => (fun a : Nat => Value.int IntKind.u8 (a : Int)) <$> Rtype.kind t) #[.pointer (some ⟨17, 95, none⟩)]).run Tryz.prog w = .ok (.int .u8 22) w := by kernel_rfl

/-! ### THE ENTRIES THAT READ OR WRITE MEMORY: laws with a premise on the cell (after Derived/Lib/ReflectliteSlice.lean's manner: each unfolding a lemma of its own, by rfl) -/
theorem rlm (z : Sem Value) (f : TypeId → Addr → Nat → Nat → Sem Value) (v : Value) :
    ReflectliteValue.method z f #[v] = (do match ← ReflectliteValue.parts v with | none => z | some (t, a, fl) => f t a fl (fl % 32)) := rfl
theorem As.parts27 (a : Addr) (w : World) : (ReflectliteValue.parts (.agg #[.pointer (some ⟨17, 97, none⟩), .pointer (some a), .int .u64 150])).run Tryz.prog w = .ok (some (97, a, 150)) w := by kernel_rfl
/-- (Value).IsNil at the Value of a **p.E that is not nil. -/
theorem As.isNil27 (a p : Addr) (W : World) (ha : W.cell? a = some (.pointer (some p))) :
    (ReflectliteValue.method (ReflectliteValue.valueError "reflectlite.Value.IsNil" 0) ReflectliteValue.isNil #[.agg #[.pointer (some ⟨17, 97, none⟩), .pointer (some a), .int .u64 150]]).run Tryz.prog W = .ok (.bool false) W := by
  rw [rlm]
  simp only [Sem.run_bind, As.parts27, Result.andThen]
  simp [ReflectliteValue.isNil, loadVar, isAgg, underlying, Tryz.underlying97, ha, Result.andThen]

theorem As.methodElem (h : Value) (w : World) : (Go.method 332 152 (.agg #[h]) "Elem").run Tryz.prog w = .ok (168, .agg #[h]) w := by kernel_rfl
theorem As.methodImplements (h : Value) (w : World) : (Go.method 332 152 (.agg #[h]) "Implements").run Tryz.prog w = .ok (169, .agg #[h]) w := by kernel_rfl
theorem As.methodAssignableTo (h : Value) (w : World) : (Go.method 332 152 (.agg #[h]) "AssignableTo").run Tryz.prog w = .ok (166, .agg #[h]) w := by kernel_rfl
theorem As.elem27 (w : World) : (ReflectliteType.method ReflectliteType.elem #[.agg #[.pointer (some ⟨17, 97, none⟩)]]).run Tryz.prog w = .ok (.iface 152 (.agg #[.pointer (some ⟨17, 95, none⟩)])) w := by kernel_rfl
theorem As.implements25 (w : World) : (ReflectliteType.relation "Implements" ReflectliteType.implements_ #[.agg #[.pointer (some ⟨17, 95, none⟩)], .iface 152 (.agg #[.pointer (some ⟨17, 36, none⟩)])]).run Tryz.prog w = .ok (.bool true) w := by kernel_rfl
theorem As.typeOf25 (v : Value) (w : World) : (ReflectliteType.typeOf #[.iface 95 v]).run Tryz.prog w = .ok (.iface 152 (.agg #[.pointer (some ⟨17, 95, none⟩)])) w := by kernel_rfl
theorem As.assignable25 (w : World) : (ReflectliteType.relation "AssignableTo" ReflectliteType.assignableTo #[.agg #[.pointer (some ⟨17, 95, none⟩)], .iface 152 (.agg #[.pointer (some ⟨17, 95, none⟩)])]).run Tryz.prog w = .ok (.bool true) w := by kernel_rfl
theorem As.valueOf25 (e : Addr) (w : World) : (ReflectliteValue.unpack (.iface 95 (.pointer (some e)))).run Tryz.prog w
    = .ok (.agg #[.pointer (some ⟨17, 95, none⟩), .pointer (some ⟨w.heap.size, 0, none⟩), .int .u64 150]) (w.alloc (.cells #[.pointer (some e)] 95)) := by kernel_rfl

theorem As.elemOf27 (w : World) : (Rtype.elem? 97).run Tryz.prog w = .ok (some 95) w := by kernel_rfl
theorem As.mk25 (p : Addr) (w : World) : (ReflectliteValue.mk 95 p ReflectliteValue.flagAddr).run Tryz.prog w = .ok (.agg #[.pointer (some ⟨17, 95, none⟩), .pointer (some p), .int .u64 406]) w := by kernel_rfl
/-- (Value).Elem at the Value of a **p.E that is not nil: the Value of the *p.E variable that it points to, addressable. -/
theorem As.elemV27 (a p : Addr) (W : World) (ha : W.cell? a = some (.pointer (some p))) :
    (ReflectliteValue.method (ReflectliteValue.valueError "reflectlite.Value.Elem" 0) ReflectliteValue.elem #[.agg #[.pointer (some ⟨17, 97, none⟩), .pointer (some a), .int .u64 150]]).run Tryz.prog W
      = .ok (.agg #[.pointer (some ⟨17, 95, none⟩), .pointer (some p), .int .u64 406]) W := by
  rw [rlm]
  simp only [Sem.run_bind, As.parts27, Result.andThen]
  simp [ReflectliteValue.elem, loadVar, isAgg, underlying, Tryz.underlying97, ha, Result.andThen, As.elemOf27, As.mk25]
theorem rls (v x : Value) : ReflectliteValue.set #[v, x] = (do
    let (some (dst, a, fl), some (src, b, _)) := (← ReflectliteValue.parts v, ← ReflectliteValue.parts x)
      | unsupported (.noEntry "extern/(internal/reflectlite.Value).Set.zeroValue")
    if fl / ReflectliteValue.flagAddr % 2 == 0 then unsupported (.noEntry "extern/(internal/reflectlite.Value).Set.unaddressable")
    let val ← loadVar src b
    if ← Rtype.directlyAssignable dst src then storeVar dst a val
    else if ← Rtype.implements dst src then
      if (← Rtype.kind src) == 20 then
        match val with
        | .nilIface => unsupported (.noEntry "extern/reflectlite: a nil value of one interface type handed on as a value of another")
        | _ => storeVar dst a val
      else storeVar dst a (.iface src val)
    else panicString ("reflectlite.Set: value of type " ++ (← Rtype.spelt src) ++ " is not assignable to type " ++ (← Rtype.spelt dst))
    pure (.tuple #[])) := rfl
theorem As.parts25a (a : Addr) (w : World) : (ReflectliteValue.parts (.agg #[.pointer (some ⟨17, 95, none⟩), .pointer (some a), .int .u64 406])).run Tryz.prog w = .ok (some (95, a, 406)) w := by kernel_rfl
theorem As.parts25 (a : Addr) (w : World) : (ReflectliteValue.parts (.agg #[.pointer (some ⟨17, 95, none⟩), .pointer (some a), .int .u64 150])).run Tryz.prog w = .ok (some (95, a, 150)) w := by kernel_rfl
theorem As.direct25 (w : World) : (Rtype.directlyAssignable 95 95).run Tryz.prog w = .ok true w := by kernel_rfl
/-- (Value).Set: the *p.E variable at 'ta' gets what the Value's own variable 'b' holds. -/
theorem As.set25 (ta b e : Addr) (old : Value) (W : World) (hb : W.cell? b = some (.pointer (some e))) (ht : W.cell? ta = some old) (hf : W.frozen? ta = false) :
    (ReflectliteValue.set #[.agg #[.pointer (some ⟨17, 95, none⟩), .pointer (some ta), .int .u64 406], .agg #[.pointer (some ⟨17, 95, none⟩), .pointer (some b), .int .u64 150]]).run Tryz.prog W
      = .ok (.tuple #[]) (W.setCell ta (.pointer (some e))) := by
  rw [rls]
  simp only [Sem.run_bind, As.parts25a, As.parts25, Result.andThen]
  simp [ReflectliteValue.flagAddr, loadVar, isAgg, underlying, Tryz.underlying95, hb, Result.andThen, As.direct25, storeVar, Value.cells, storeCells, Addr.add]
  rw [run_store Tryz.prog W ta _ _ (by rfl)]
  simp [ht, hf]

set_option maxHeartbeats 4000000 in
theorem as_hit (e t : Addr) (old : Value) (w : World) (hg : w.cell? ⟨12, 0, none⟩ = some (.iface 152 (.agg #[.pointer (some ⟨17, 36, none⟩)]))) (ht0 : w.cell? t = some old) (hf0 : w.frozen? t = false) :
    Calls Tryz.prog 67 #[.iface 95 (.pointer (some e)), .iface 97 (.pointer (some t))] w fun ev w' => ev = .returned (.bool true) ∧ w' = ((((w.alloc (.cells #[.pointer (some t)] 97)).alloc (.cells #[.pointer (some ⟨17, 97, none⟩), .pointer (some ⟨w.heap.size, 0, none⟩), .int .u64 150] 128)).alloc (.cells #[.pointer (some ⟨17, 97, none⟩), .pointer (some ⟨w.heap.size, 0, none⟩), .int .u64 150] 128)).alloc (.cells #[.pointer (some e)] 95)).setCell t (.pointer (some e)) := by
  have h6 := @run_callFunc_extern Tryz.prog 93 _ (fun args => ReflectliteValue.unpack (args.getD 0 (.tuple #[]))) Tryz.func93 (by kernel_rfl) (by kernel_rfl) (by kernel_rfl) (by kernel_rfl)
  have h7 := @run_callFunc_extern Tryz.prog 94 _ (ReflectliteValue.methodAny (ReflectliteValue.valueError "reflectlite.Value.Type" 0) (fun t _ _ _ => ReflectliteType.toType t)) Tryz.func94 (by kernel_rfl) (by kernel_rfl) (by kernel_rfl) (by kernel_rfl)
  have h8 := @run_callFunc_extern Tryz.prog 95 _ (ReflectliteValue.method (ReflectliteValue.valueError "reflectlite.Value.IsNil" 0) ReflectliteValue.isNil) Tryz.func95 (by kernel_rfl) (by kernel_rfl) (by kernel_rfl) (by kernel_rfl)
  have h27 := @run_callFunc_extern Tryz.prog 157 _ (ReflectliteType.abiMethod fun t => do pure (.int .u8 (← Rtype.kind t))) Tryz.func157 (by kernel_rfl) (by kernel_rfl) (by kernel_rfl) (by kernel_rfl)
  have h37 := @run_callFunc_extern Tryz.prog 168 _ (ReflectliteType.method ReflectliteType.elem) Tryz.func168 (by kernel_rfl) (by kernel_rfl) (by kernel_rfl) (by kernel_rfl)
  have h38 := @run_callFunc_extern Tryz.prog 169 _ (ReflectliteType.relation "Implements" ReflectliteType.implements_) Tryz.func169 (by kernel_rfl) (by kernel_rfl) (by kernel_rfl) (by kernel_rfl)
  have h10 := @run_callFunc_extern Tryz.prog 91 _ ReflectliteType.typeOf Tryz.func91 (by kernel_rfl) (by kernel_rfl) (by kernel_rfl) (by kernel_rfl)
  have h35 := @run_callFunc_extern Tryz.prog 166 _ (ReflectliteType.relation "AssignableTo" ReflectliteType.assignableTo) Tryz.func166 (by kernel_rfl) (by kernel_rfl) (by kernel_rfl) (by kernel_rfl)
  have h11 := @run_callFunc_extern Tryz.prog 111 _ (ReflectliteValue.method (ReflectliteValue.valueError "reflectlite.Value.Elem" 0) ReflectliteValue.elem) Tryz.func111 (by kernel_rfl) (by kernel_rfl) (by kernel_rfl) (by kernel_rfl)
  have h12 := @run_callFunc_extern Tryz.prog 112 _ ReflectliteValue.set Tryz.func112 (by kernel_rfl) (by kernel_rfl) (by kernel_rfl) (by kernel_rfl)
  have tO := As.typeOf25
  have mA := As.methodAssignableTo
  have a25 := As.assignable25
  have v25 := As.valueOf25
  have f6 := As.valueOf27
  have f7 := As.type27
  have mK := As.methodKind
  have mE := As.methodElem
  have mI := As.methodImplements
  have k27 := As.kind27
  have k25 := As.kind25
  have e27 := As.elem27
  have i25 := As.implements25
  have n8 := As.isNil27 ⟨w.heap.size, 0, none⟩ t ((w.alloc (.cells #[.pointer (some t)] 97)).alloc (.cells #[.pointer (some ⟨17, 97, none⟩), .pointer (some ⟨w.heap.size, 0, none⟩), .int .u64 150] 128)) (by simp)
  have hlt : 12 < w.heap.size := World.block_lt_of_cell? _ _ hg
  have hg2 : ((w.alloc (.cells #[.pointer (some t)] 97)).alloc (.cells #[.pointer (some ⟨17, 97, none⟩), .pointer (some ⟨w.heap.size, 0, none⟩), .int .u64 150] 128)).cell? ⟨12, 0, none⟩ = some (.iface 152 (.agg #[.pointer (some ⟨17, 36, none⟩)])) := by
    rw [World.cell?_alloc_lt _ _ ⟨12, 0, none⟩ (by simp <;> omega), World.cell?_alloc_lt _ _ ⟨12, 0, none⟩ hlt]; exact hg
  have htl : t.block < w.heap.size := by
    rcases Nat.lt_or_ge t.block w.heap.size with h | h
    · exact h
    · simp [World.cell?, Array.getElem?_eq_none h] at ht0
  have el := As.elemV27 ⟨w.heap.size, 0, none⟩ t (((w.alloc (.cells #[.pointer (some t)] 97)).alloc (.cells #[.pointer (some ⟨17, 97, none⟩), .pointer (some ⟨w.heap.size, 0, none⟩), .int .u64 150] 128)).alloc (.cells #[.pointer (some ⟨17, 97, none⟩), .pointer (some ⟨w.heap.size, 0, none⟩), .int .u64 150] 128)) (by rw [World.cell?_alloc_lt _ _ ⟨w.heap.size, 0, none⟩ (by simp; omega)]; simp)
  have st := As.set25 t ⟨w.heap.size + 1 + 1 + 1, 0, none⟩ e old ((((w.alloc (.cells #[.pointer (some t)] 97)).alloc (.cells #[.pointer (some ⟨17, 97, none⟩), .pointer (some ⟨w.heap.size, 0, none⟩), .int .u64 150] 128)).alloc (.cells #[.pointer (some ⟨17, 97, none⟩), .pointer (some ⟨w.heap.size, 0, none⟩), .int .u64 150] 128)).alloc (.cells #[.pointer (some e)] 95))
    (by rw [World.cell?_alloc_at _ _ _ _ (by simp)]; rfl)
    (by rw [World.cell?_alloc_lt _ _ t (by simp; omega), World.cell?_alloc_lt _ _ t (by simp; omega), World.cell?_alloc_lt _ _ t (by simp; omega), World.cell?_alloc_lt _ _ t htl]; exact ht0)
    (by rw [World.frozen?_alloc_old _ _ t (by simp; omega), World.frozen?_alloc_old _ _ t (by simp; omega), World.frozen?_alloc_old _ _ t (by simp; omega), World.frozen?_alloc_old _ _ t (Nat.ne_of_lt htl)]; exact hf0)
  go_enter Tryz.func67, Tryz.ntmps67
  go_wp2
  refine wp_loop_rounds 1 ?_
  rw [rounds_succ]
  go_wp2
  go_ret
  exact ⟨rfl, rfl⟩

end Go.Proofs.YtpllojpgpejfmaaGreatDoor
