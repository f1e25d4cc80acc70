/- Lists of lists in memory of their own, side by side: what Apart asks of them. Plain lemmas. No condition. The walk with and without a stop; how long words and rows get. Plain lists, no program. No condition. -/
import Derived.Test.YtlajiblhnkognaaDoorApart
import Derived.Test.YtlajiblhnkognaaDoorRowsL
import Derived.Test.YtlajiblhnkognaaDoorSubQ
namespace Go.Proofs.YtlajiblhnkognaaDoor
open Go.RowKit RuleP

namespace FarR
/-- Rows and what they hold. -/
def rowsI (rows : List Value) (L : List (List Int)) : List (Value × List Int) := rows.zip L
theorem rowsI_fst {rows : List Value} {L : List (List Int)} (h : rows.length = L.length) : (rowsI rows L).map (·.1) = rows := by
  unfold rowsI
  exact List.map_fst_zip (by omega)
theorem rowsI_at {rows : List Value} {L : List (List Int)} {i : Nat} {p : Value × List Int} (hp : (rowsI rows L)[i]? = some p) : rows[i]? = some p.1 ∧ L[i]? = some p.2 := by
  unfold rowsI at hp
  rw [List.getElem?_zip_eq_some] at hp
  exact hp
theorem far_of {rows : List Value} {L : List (List Int)} (h : FarV rows) : Apart.Far (rowsI rows L) := fun i j p q g hij hp hq hg => h i j p.1 q.1 g hij (rowsI_at hp).1 (rowsI_at hq).1 hg
theorem far_append {R1 R2 : List (Value × List Int)} (h1 : Apart.Far R1) (h2 : Apart.Far R2) (h : ∀ p ∈ R1, ∀ q ∈ R2, ∀ g, p.1.ownBlock = some g → q.1.ownBlock ≠ some g) : Apart.Far (R1 ++ R2) := by
  have hin : ∀ (i : Nat) (p : Value × List Int), (R1 ++ R2)[i]? = some p → (i < R1.length ∧ R1[i]? = some p) ∨ (R1.length ≤ i ∧ R2[i - R1.length]? = some p) := fun i p hp => by
    rcases Nat.lt_or_ge i R1.length with hl | hl
    · rw [List.getElem?_append_left hl] at hp; exact Or.inl ⟨hl, hp⟩
    · rw [List.getElem?_append_right hl] at hp; exact Or.inr ⟨hl, hp⟩
  intro i j p q g hij hp hq hg hq'
  rcases hin i p hp with ⟨a1, a2⟩ | ⟨a1, a2⟩ <;> rcases hin j q hq with ⟨b1, b2⟩ | ⟨b1, b2⟩
  · exact h1 i j p q g hij a2 b2 hg hq'
  · exact h p (List.mem_of_getElem? a2) q (List.mem_of_getElem? b2) g hg hq'
  · exact h q (List.mem_of_getElem? b2) p (List.mem_of_getElem? a2) g hq' hg
  · exact h2 _ _ p q g (by omega) a2 b2 hg hq'
theorem rows_of {w : World} {R : List (Value × List Int)} (h : ∀ p ∈ R, w.ownsRow 0 3 1 p.1 p.2.length (p.2.map (Value.int .i64))) : Apart.Rows w R 0 0 :=
  ⟨fun i p hp => by
    rw [Apart.cont_zero, if_neg (by omega)]
    exact h p (List.mem_of_getElem? hp)⟩
/-- A group of rows: they lie in blocks from lo to hi, none longer than m. -/
structure Grp (w : World) (lo hi m : Nat) (R : List (Value × List Int)) : Prop where
  own : ∀ p ∈ R, w.ownsRow 0 3 1 p.1 p.2.length (p.2.map (Value.int .i64))
  blk : ∀ p ∈ R, ∀ g, p.1.ownBlock = some g → lo ≤ g ∧ g < hi
  len : ∀ p ∈ R, p.2.length ≤ m
  far : Apart.Far R
theorem Grp.pure {w w' : World} {lo hi m : Nat} {R : List (Value × List Int)} (h : Grp w lo hi m R) (hb : Below w.heap.size w w') : Grp w' lo hi m R :=
  { h with own := fun p hp => own_below (h.own p hp) hb }
theorem Grp.app {w : World} {lo mid hi m : Nat} {R1 R2 : List (Value × List Int)} (h1 : Grp w lo mid m R1) (h2 : Grp w mid hi m R2) (hlm : lo ≤ mid) (hmh : mid ≤ hi) : Grp w lo hi m (R1 ++ R2) where
  own := fun p hp => (List.mem_append.1 hp).elim (h1.own p) (h2.own p)
  blk := fun p hp g hg => by
    rcases List.mem_append.1 hp with h | h
    · have := h1.blk p h g hg; omega
    · have := h2.blk p h g hg; omega
  len := fun p hp => (List.mem_append.1 hp).elim (h1.len p) (h2.len p)
  far := far_append h1.far h2.far (fun p hp q hq g hg hg' => by
    have a := h1.blk p hp g hg
    have b := h2.blk q hq g hg'
    omega)
theorem Grp.comm {w : World} {lo mid hi m : Nat} {R1 R2 : List (Value × List Int)} (h1 : Grp w lo mid m R1) (h2 : Grp w mid hi m R2) (hlm : lo ≤ mid) (hmh : mid ≤ hi) : Grp w lo hi m (R2 ++ R1) where
  own := fun p hp => (List.mem_append.1 hp).elim (h2.own p) (h1.own p)
  blk := fun p hp g hg => by
    rcases List.mem_append.1 hp with h | h
    · have := h2.blk p h g hg; omega
    · have := h1.blk p h g hg; omega
  len := fun p hp => (List.mem_append.1 hp).elim (h2.len p) (h1.len p)
  far := far_append h2.far h1.far (fun p hp q hq g hg hg' => by
    have a := h2.blk p hp g hg
    have b := h1.blk q hq g hg'
    omega)
theorem Grp.list {w : World} {B m : Nat} {lv : Value} {rows : List Value} {L : List (List Int)} {X : Nat → Prop} (h : RowsAt w B lv rows L X) (hm : ∀ l ∈ L, l.length ≤ m) : Grp w B w.heap.size m (rowsI rows L) where
  own := fun p hp => by
    obtain ⟨i, hi⟩ := List.getElem?_of_mem hp
    obtain ⟨a, b⟩ := rowsI_at hi
    obtain ⟨v, h1, h2, _⟩ := h.el i p.2 b
    rw [a] at h1
    cases h1
    exact own_base h2 (Nat.zero_le _)
  blk := fun p hp g hg => by
    obtain ⟨i, hi⟩ := List.getElem?_of_mem hp
    obtain ⟨a, b⟩ := rowsI_at hi
    obtain ⟨v, h1, h2, _⟩ := h.el i p.2 b
    rw [a] at h1
    cases h1
    exact h2.lt g hg
  len := fun p hp => by
    obtain ⟨i, hi⟩ := List.getElem?_of_mem hp
    exact hm _ (List.mem_of_getElem? (rowsI_at hi).2)
  far := far_of h.far
theorem Grp.one {w : World} {B m : Nat} {v : Value} {l : List Int} (h : w.ownsRow B 3 1 v l.length (l.map (Value.int .i64))) (hm : l.length ≤ m) : Grp w B w.heap.size m [(v, l)] where
  own := fun p hp => by rw [List.mem_singleton] at hp; rw [hp]; exact own_base h (Nat.zero_le _)
  blk := fun p hp g hg => by rw [List.mem_singleton] at hp; rw [hp] at hg; exact h.lt g hg
  len := fun p hp => by rw [List.mem_singleton] at hp; rw [hp]; exact hm
  far := fun i j p q g hij hp hq _ _ => by
    match i, j, hij, hp, hq with
    | 0, 0, hij, _, _ => exact hij rfl
    | i + 1, _, _, hp, _ => simp at hp
    | 0, j + 1, _, _, hq => simp at hq
theorem rows_one {w : World} {B : Nat} {lv : Value} {rows : List Value} {L : List (List Int)} {X : Nat → Prop} (h : RowsAt w B lv rows L X) : ∀ u ∈ rows, u.oneCell' = true := fun u hu => by
  obtain ⟨l, _, h2, _⟩ := h.mem hu
  obtain ⟨A, c, rfl, _, _⟩ := own_slice h2
  rfl
end FarR
end Go.Proofs.YtlajiblhnkognaaDoor

namespace Go.Proofs.YtlajiblhnkognaaDoor
open BagP RuleP
namespace SubP
variable {k N : Nat} {t : List Nat}

theorem sym_stop {i s : Nat} {S : St} {row : List Int} {o : Out} (h : sym k N t true i S row s = o) (ho : ∀ x, o ≠ .orphan x) : sym k N t false i S row s = o := by
  unfold sym at h ⊢
  split at h
  · rw [if_pos rfl] at h
    exact absurd h.symm (ho _)
  · rename_i hn
    rw [if_neg hn]
    exact h
theorem row_stop {i : Nat} {S : St} : ∀ {s : Nat} {o : Out}, rowTo k N t true i S s = o → (∀ x, o ≠ .orphan x) → rowTo k N t false i S s = o
  | 0, _, h, _ => h
  | s + 1, o, h, ho => by
    unfold rowTo at h ⊢
    split at h
    · rename_i S' row e
      rw [row_stop e (fun x hx => by cases hx)]
      exact sym_stop h ho
    · exact absurd h.symm (ho _)
    · rename_i e
      rw [row_stop e (fun x hx => by cases hx)]
      exact h
theorem round_stop : ∀ {n : Nat} {o : Out}, roundTo k N t true n = o → (∀ x, o ≠ .orphan x) → roundTo k N t false n = o
  | 0, _, h, _ => h
  | n + 1, o, h, ho => by
    unfold roundTo at h ⊢
    split at h
    · rename_i S row e
      rw [round_stop e (fun x hx => by cases hx)]
      simp only
      split at h
      · rename_i hl
        rw [if_pos hl]
        split at h
        · rename_i S' row' e'
          rw [row_stop e' (fun x hx => by cases hx)]
          exact h
        · exact absurd h.symm (ho _)
        · rename_i e'
          rw [row_stop e' (fun x hx => by cases hx)]
          exact h
      · rename_i hl
        rw [if_neg hl]
        exact h
    · exact absurd h.symm (ho _)
    · rename_i e
      rw [round_stop e (fun x hx => by cases hx)]
      exact h
/-- What is not too much without a stop is not too much with one. -/
theorem fin_not_over {S : St} {row : List Int} (h : fin k N t false = .go S row) : fin k N t true ≠ .over := fun e => by
  have := round_stop (n := 4097) e (fun x hx => by cases hx)
  unfold fin at h
  rw [h] at this
  cases this
theorem orphan_len {x : List Nat} {stop : Bool} (hN : 0 < N) (h : fin k N t stop = .orphan x) : x.length ≤ 4096 := by
  unfold fin at h
  obtain ⟨i, c, S, row, P, Q, h2, hi, _, e⟩ := round_orphan hN h
  have h3 := Inv2_wlen h2 i i (Nat.le_refl _) hi
  have h4 := h2.inv.big
  have h5 := (sym_orphan e).2.2
  rw [h5, List.length_append, List.length_singleton]
  omega
theorem next_len {S : St} {row : List Int} {stop : Bool} (hN : 0 < N) (h : fin k N t stop = .go S row) : S.next.length = S.sets.length ∧ ∀ r ∈ S.next, r.length = k := by
  obtain ⟨_, hl, P, Q, h2⟩ := fin_inv hN h
  refine ⟨hl, fun r hr => ?_⟩
  obtain ⟨i, hi⟩ := List.getElem?_of_mem hr
  exact (h2.done i r hi).1
end SubP
end Go.Proofs.YtlajiblhnkognaaDoor
