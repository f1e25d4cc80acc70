/- What memory holds of the walk over the subsets: subset's walk. Plain lemmas, no program. No condition. -/
import Derived.Test.YtlajiblhnkognaaDoorSubP
import Derived.Test.YtlajiblhnkognaaDoorOverAB
import Derived.Test.YtlajiblhnkognaaDoorBagT
import Derived.Test.YtlajiblhnkognaaDoorRowsL
namespace Go.Proofs.YtlajiblhnkognaaDoor
open Go.RowKit BagP RuleP SubP

/-- What stays: the rule, where it lies, where the walk and its bag lie, the world ahead of it. -/
structure WalkP where
  w0 : World
  k : Nat
  r : Nat
  t : List Nat
  TA : Option Addr
  tc : Nat
  wb : Nat
  bp : Value
  stop : Bool
def WalkP.N (D : WalkP) : Nat := D.k ^ (2 * D.r)
def WalkP.B (D : WalkP) : Nat := D.w0.heap.size
def WalkP.cells (D : WalkP) (nv wv : Value) : Array Value :=
  #[.int .i64 (D.k : Int), .int .i64 (D.r : Int), .slice D.TA D.t.length D.tc, D.bp, nv, wv, .bool D.stop]
structure WalkOk (D : WalkP) : Prop where
  rule : IsRule D.k D.r D.t
  small : D.t.length ≤ 256
  T : Sl D.w0 D.TA D.t.length ((ints D.t).map (Value.int .i64))
theorem WalkOk.N0 {D : WalkP} (h : WalkOk D) : 0 < D.N := Nat.pow_pos h.rule.k1
theorem WalkOk.N256 {D : WalkP} (h : WalkOk D) : D.N * D.k ≤ 256 := by
  have h1 := (nodes_div h.rule).2
  have h2 := h.small
  have : D.N = D.k ^ (2 * D.r) := rfl
  rw [this]
  omega
theorem WalkOk.k4 {D : WalkP} (h : WalkOk D) : 1 ≤ D.k ∧ D.k ≤ 4 := ⟨h.rule.k1, h.rule.k4⟩
theorem WalkOk.Nle {D : WalkP} (h : WalkOk D) : D.N ≤ 256 := by
  have h1 := h.N256
  have h2 := h.k4.1
  exact Nat.le_trans (Nat.le_mul_of_pos_right _ h2) h1

/-- The walk as memory holds it. -/
structure WalkAt (w : World) (D : WalkP) (S : St) (nv wv : Value) (nr wr : List Value) (X : Nat → Prop) : Prop where
  blk : w.heap[D.wb]? = some (.cells (D.cells nv wv) 65 (0, 0))
  old : Below D.B D.w0 w
  fb : D.B ≤ D.wb
  bag : BagT w D.B D.bp D.N (S.sets.map (wordsOf D.N))
  nx : RowsAt w D.B nv nr S.next X
  wd : RowsAt w D.B wv wr (S.words.map ints) X
  two : ∀ g, nv.ownBlock = some g → wv.ownBlock ≠ some g

namespace WalkAt
variable {w w' : World} {D : WalkP} {S : St} {nv wv nv' wv' : Value} {nr wr nr' wr' : List Value} {X X' : Nat → Prop}
theorem lt (h : WalkAt w D S nv wv nr wr X) : D.wb < w.heap.size := (Array.getElem?_eq_some_iff.1 h.blk).1
theorem facts (h : WalkAt w D S nv wv nr wr X) :
    w.cell? ⟨D.wb, 0, none⟩ = some (.int .i64 (D.k : Int)) ∧ w.cell? ⟨D.wb, 1, none⟩ = some (.int .i64 (D.r : Int)) ∧ w.cell? ⟨D.wb, 2, none⟩ = some (.slice D.TA D.t.length D.tc) ∧ w.cell? ⟨D.wb, 3, none⟩ = some D.bp ∧
    w.cell? ⟨D.wb, 4, none⟩ = some nv ∧ w.cell? ⟨D.wb, 5, none⟩ = some wv ∧ w.cell? ⟨D.wb, 6, none⟩ = some (.bool D.stop) ∧ w.frozen? ⟨D.wb, 4, none⟩ = false ∧ w.frozen? ⟨D.wb, 5, none⟩ = false := by
  have hb := h.blk
  refine ⟨?_, ?_, ?_, ?_, ?_, ?_, ?_, frozen_of_row _ _ 4 _ _ hb, frozen_of_row _ _ 5 _ _ hb⟩ <;> rw [cell_of_row w D.wb _ _ _ _ hb] <;> rfl
theorem tab (h : WalkAt w D S nv wv nr wr X) (hD : WalkOk D) : Sl w D.TA D.t.length ((ints D.t).map (Value.int .i64)) := hD.T.below h.old
theorem mono (h : WalkAt w D S nv wv nr wr X) (hx : ∀ b, X' b → X b ∨ w.heap.size ≤ b) : WalkAt w D S nv wv nr wr X' :=
  { h with nx := h.nx.mono hx, wd := h.wd.mono hx }
theorem wlst (h : WalkAt w D S nv wv nr wr X) : w.ownsRow D.B 22 1 wv S.words.length wr := by
  have := h.wd.lst
  rwa [List.length_map] at this
/-- Writes to rows of numbers that are none of the walk's. -/
theorem keeps {Q : Nat → Prop} (h : WalkAt w D S nv wv nr wr X) (hk : Keeps Q w w') (hq : ∀ b, Q b → X b ∧ D.B ≤ b ∧ ∃ cs, w.heap[b]? = some (.cells cs 3 (0, 0))) : WalkAt w' D S nv wv nr wr X where
  blk := (hk.block _ h.lt (fun hb => by
    obtain ⟨_, _, cs, hc⟩ := hq _ hb
    have := h.blk
    rw [hc] at this
    injection this with this
    injection this with _ this
    exact absurd this (by decide))).trans h.blk
  old := h.old.trans (hk.below h.old.size (fun b hb => (hq b hb).2.1))
  fb := h.fb
  bag := h.bag.keeps hk (fun b hb => by obtain ⟨_, _, cs, hc⟩ := hq b hb; exact fun h => notBT_blk hc (by decide) h.1)
  nx := h.nx.keeps hk (fun b hb => by obtain ⟨_, _, cs, hc⟩ := hq b hb; exact h.nx.not_lst hc (by decide)) (fun b hb => h.nx.not_X (hq b hb).1)
  wd := h.wd.keeps hk (fun b hb => by obtain ⟨_, _, cs, hc⟩ := hq b hb; exact h.wd.not_lst hc (by decide)) (fun b hb => h.wd.not_X (hq b hb).1)
  two := h.two
theorem pure (h : WalkAt w D S nv wv nr wr X) (hb : Below w.heap.size w w') : WalkAt w' D S nv wv nr wr X :=
  h.keeps (Keeps.of_pure hb (fun _ => False)) (fun _ hf => hf.elim)

/-- What the walk may write. -/
def Foot (w : World) (D : WalkP) (nv wv : Value) (b : Nat) : Prop := b = D.wb ∨ BOwn w D.B b ∨ nv.ownBlock = some b ∨ wv.ownBlock = some b
theorem notFoot (h : WalkAt w D S nv wv nr wr X) {base n g : Nat} {xv : Value} {xs : List Value} (hx : w.ownsRow base 3 1 xv n xs) (hg : xv.ownBlock = some g) : ¬ Foot w D nv wv g := by
  rintro (rfl | hb | hb | hb)
  · exact own_ne_blk hx h.blk (by decide) hg
  · exact notBT_own hx (by decide) hg hb.1
  · exact own_ne_own hx h.nx.lst (by decide) hg hb
  · exact own_ne_own hx h.wd.lst (by decide) hg hb

/-- Behind a call of the bag: a set more, or none. -/
theorem bagged (h : WalkAt w D S nv wv nr wr X) (hk : Keeps (BOwn w D.B) w w') {sets : List (List Bool)} (hb : BagT w' D.B D.bp D.N (sets.map (wordsOf D.N))) :
    WalkAt w' D ⟨sets, S.words, S.next⟩ nv wv nr wr X where
  blk := (hk.block _ h.lt (fun h' => notBT_blk h.blk (by decide) h'.1)).trans h.blk
  old := h.old.trans (hk.below h.old.size (fun _ h => h.2))
  fb := h.fb
  bag := hb
  nx := h.nx.keeps hk (fun b hb hg => notBT_own h.nx.lst (by decide) hg hb.1) (fun b hb v hv hg => by obtain ⟨l, _, h2, _⟩ := h.nx.mem hv; exact notBT_own h2 (by decide) hg hb.1)
  wd := h.wd.keeps hk (fun b hb hg => notBT_own h.wd.lst (by decide) hg hb.1) (fun b hb v hv hg => by obtain ⟨l, _, h2, _⟩ := h.wd.mem hv; exact notBT_own h2 (by decide) hg hb.1)
  two := h.two
/-- Something stored in the walk's own block. -/
theorem setW {cs : Array Value} {j : Nat} {u : Value} (blk : w.heap[D.wb]? = some (.cells cs 65 (0, 0))) (hc : cs.setIfInBounds j u = D.cells nv wv) (old : Below D.B D.w0 w) (fb : D.B ≤ D.wb)
    (bag : BagT w D.B D.bp D.N (S.sets.map (wordsOf D.N))) (nx : RowsAt w D.B nv nr S.next X) (wd : RowsAt w D.B wv wr (S.words.map ints) X) (two : ∀ g, nv.ownBlock = some g → wv.ownBlock ≠ some g) :
    WalkAt (w.setCell ⟨D.wb, j, none⟩ u) D S nv wv nr wr X := by
  have hk := Keeps.of_setCell w ⟨D.wb, j, none⟩ u
  have hb : ∀ b, b = (⟨D.wb, j, none⟩ : Addr).block → w.heap[b]? = some (.cells cs 65 (0, 0)) := fun b e => by rw [show b = D.wb from e]; exact blk
  exact {
    blk := by
      have := heap_setCell_same w D.wb j _ _ u blk
      rw [hc] at this
      exact this
    old := old.setCell fb _
    fb := fb
    bag := bag.keeps hk (fun b e h => notBT_blk (hb b e) (by decide) h.1)
    nx := nx.keeps hk (fun b e => nx.not_lst (hb b e) (by decide)) (fun b e => nx.not_el (hb b e) (by decide))
    wd := wd.keeps hk (fun b e => wd.not_lst (hb b e) (by decide)) (fun b e => wd.not_el (hb b e) (by decide))
    two := two }
/-- A word kept behind the others. -/
theorem worded (h : WalkAt w D S nv wv nr wr X) {x : List Nat} {v lv' : Value} (hv : w.ownsRow D.B 3 1 v x.length ((ints x).map (Value.int .i64))) (hX : ∀ g, v.ownBlock = some g → ¬ X g) (hnew : ∀ g, v.ownBlock = some g → ∀ u ∈ wr, u.ownBlock ≠ some g)
    (hl : w'.ownsRow D.B 22 1 lv' (S.words.length + 1) (wr ++ [v])) (hk : Keeps (fun b => wv.ownBlock = some b) w w') (hg : ∀ g, lv'.ownBlock = some g → wv.ownBlock = some g ∨ w.heap.size ≤ g) :
    WalkAt (w'.setCell ⟨D.wb, 5, none⟩ lv') D ⟨S.sets, S.words ++ [x], S.next⟩ nv lv' nr (wr ++ [v]) X := by
  refine setW (cs := D.cells nv wv) ((hk.block _ h.lt (own_ne_blk h.wd.lst h.blk (by decide))).trans h.blk) rfl (h.old.trans (hk.below h.old.size (fun b hb => (h.wd.lst.lt b hb).1))) h.fb
    (h.bag.keeps hk (fun b hb hB => notBT_own h.wd.lst (by decide) hb hB.1))
    (h.nx.keeps hk (fun b hb hb' => h.two b hb' hb) (fun b hb v hv hg => by obtain ⟨l, _, h2, _⟩ := h.nx.mem hv; exact own_ne_own h2 h.wd.lst (by decide) hg hb)) ?_ (fun g h1 h2 => ?_)
  · have := h.wd.put (l := ints x) (v := v) (lv' := lv') (w' := w') (by rw [ints_len]; exact hv) hX hnew (by rw [List.length_map]; exact hl) hk
    rw [List.map_append]
    exact this
  · rcases hg g h2 with h3 | h3
    · exact h.two g h1 h3
    · have := (h.nx.lst.lt g h1).2; omega
/-- Behind a push to the words: the walk's own block. -/
theorem worded_pre (h : WalkAt w D S nv wv nr wr X) (hk : Keeps (fun b => wv.ownBlock = some b) w w') :
    w'.cell? ⟨D.wb, 5, none⟩ = some wv ∧ w'.frozen? ⟨D.wb, 5, none⟩ = false ∧ w.heap.size ≤ w'.heap.size := by
  have hb := (hk.block _ h.lt (own_ne_blk h.wd.lst h.blk (by decide))).trans h.blk
  exact ⟨by rw [cell_of_row w' D.wb _ _ _ _ hb]; rfl, frozen_of_row _ _ 5 _ _ hb, hk.size⟩
theorem nexted_pre (h : WalkAt w D S nv wv nr wr X) (hk : Keeps (fun b => nv.ownBlock = some b) w w') :
    w'.cell? ⟨D.wb, 4, none⟩ = some nv ∧ w'.frozen? ⟨D.wb, 4, none⟩ = false ∧ w.heap.size ≤ w'.heap.size := by
  have hb := (hk.block _ h.lt (own_ne_blk h.nx.lst h.blk (by decide))).trans h.blk
  exact ⟨by rw [cell_of_row w' D.wb _ _ _ _ hb]; rfl, frozen_of_row _ _ 4 _ _ hb, hk.size⟩
/-- A row kept behind the others. -/
theorem nexted (h : WalkAt w D S nv wv nr wr X) {x : List Int} {v lv' : Value} (hv : w.ownsRow D.B 3 1 v x.length (x.map (Value.int .i64))) (hX : ∀ g, v.ownBlock = some g → ¬ X g) (hnew : ∀ g, v.ownBlock = some g → ∀ u ∈ nr, u.ownBlock ≠ some g)
    (hl : w'.ownsRow D.B 22 1 lv' (S.next.length + 1) (nr ++ [v])) (hk : Keeps (fun b => nv.ownBlock = some b) w w') (hg : ∀ g, lv'.ownBlock = some g → nv.ownBlock = some g ∨ w.heap.size ≤ g) :
    WalkAt (w'.setCell ⟨D.wb, 4, none⟩ lv') D ⟨S.sets, S.words, S.next ++ [x]⟩ lv' wv (nr ++ [v]) wr X := by
  refine setW (cs := D.cells nv wv) ((hk.block _ h.lt (own_ne_blk h.nx.lst h.blk (by decide))).trans h.blk) rfl (h.old.trans (hk.below h.old.size (fun b hb => (h.nx.lst.lt b hb).1))) h.fb
    (h.bag.keeps hk (fun b hb hB => notBT_own h.nx.lst (by decide) hb hB.1))
    (h.nx.put (l := x) (v := v) (lv' := lv') (w' := w') hv hX hnew hl hk)
    (h.wd.keeps hk (fun b hb hb' => h.two b hb hb') (fun b hb v hv hg => by obtain ⟨l, _, h2, _⟩ := h.wd.mem hv; exact own_ne_own h2 h.nx.lst (by decide) hg hb)) (fun g h1 h2 => ?_)
  rcases hg g h1 with h3 | h3
  · exact h.two g h3 h2
  · have := (h.wd.lst.lt g h2).2; omega
/-- A row of numbers that is none of the walk's, behind a write of the walk. -/
theorem keeps_int {w' : World} (h : WalkAt w D S nv wv nr wr X) {base n : Nat} {xv : Value} {xs : List Value} (hx : w.ownsRow base 3 1 xv n xs) (hk : Keeps (Foot w D nv wv) w w') : w'.ownsRow base 3 1 xv n xs :=
  own_keeps hx hk (fun _ hg hf => h.notFoot hx hg hf)
end WalkAt
end Go.Proofs.YtlajiblhnkognaaDoor
