/- A list of lists of numbers as the call's own memory holds it: the list's row, the rows of its elements, apart from one another. Plain lemmas, no program. No condition. -/
import Derived.Test.YtlajiblhnkognaaDoorDead
import Derived.Test.YtlajiblhnkognaaDoorPush3
namespace Go.Proofs.YtlajiblhnkognaaDoor
open Go.RowKit RuleP

/-- A list of lists: lt the inner lists' type, et their elements'. -/
structure RowsG (lt et : TypeId) (w : World) (B : Nat) (lv : Value) (rows : List Value) (L : List (List Value)) (X : Nat → Prop) : Prop where
  lst : w.ownsRow B lt 1 lv L.length rows
  el : ∀ (j : Nat) l, L[j]? = some l → ∃ v, rows[j]? = some v ∧ w.ownsRow B et 1 v l.length l ∧ ∀ g, v.ownBlock = some g → ¬ X g
  far : FarV rows
namespace RowsG
variable {lt et : TypeId} {w w' : World} {B : Nat} {lv lv' : Value} {rows : List Value} {L : List (List Value)} {X X' : Nat → Prop}
theorem len (h : RowsG lt et w B lv rows L X) : rows.length = L.length := by simpa using h.lst.1
theorem mem (h : RowsG lt et w B lv rows L X) {v : Value} (hv : v ∈ rows) : ∃ l, l ∈ L ∧ w.ownsRow B et 1 v l.length l ∧ ∀ g, v.ownBlock = some g → ¬ X g := by
  obtain ⟨j, hj⟩ := List.getElem?_of_mem hv
  have hl : j < L.length := by have := (List.getElem?_eq_some_iff.1 hj).1; have := h.len; omega
  obtain ⟨u, h1, h2, h3⟩ := h.el j _ (List.getElem?_eq_getElem hl)
  rw [hj] at h1
  cases h1
  exact ⟨_, List.getElem_mem hl, h2, h3⟩
theorem nil (w : World) (B : Nat) (X : Nat → Prop) : RowsG lt et w B (.slice none 0 0) [] [] X :=
  ⟨World.ownsRow_nil _ _ _ _, fun j l h => by simp at h, fun i j v v' g _ h => by simp at h⟩
theorem mono (h : RowsG lt et w B lv rows L X) (hx : ∀ b, X' b → X b ∨ w.heap.size ≤ b) : RowsG lt et w B lv rows L X' :=
  { h with
    el := fun j l hj => by
      obtain ⟨v, h1, h2, h3⟩ := h.el j l hj
      exact ⟨v, h1, h2, fun g hg hx' => by
        rcases hx g hx' with h' | h'
        · exact h3 g hg h'
        · have := (h2.lt g hg).2; omega⟩ }
theorem base (h : RowsG lt et w B lv rows L X) {B' : Nat} (hb : B' ≤ B) : RowsG lt et w B' lv rows L X :=
  ⟨own_base h.lst hb, fun j l hj => (let ⟨v, h1, h2, h3⟩ := h.el j l hj; ⟨v, h1, own_base h2 hb, h3⟩), h.far⟩
theorem keeps {Q : Nat → Prop} (h : RowsG lt et w B lv rows L X) (hk : Keeps Q w w') (h1 : ∀ b, Q b → lv.ownBlock ≠ some b) (h2 : ∀ b, Q b → ∀ v ∈ rows, v.ownBlock ≠ some b) : RowsG lt et w' B lv rows L X :=
  ⟨own_keeps h.lst hk (fun g hg hQ => h1 g hQ hg), fun j l hj => by
    obtain ⟨v, e1, e2, e3⟩ := h.el j l hj
    exact ⟨v, e1, own_keeps e2 hk (fun g hg hQ => h2 g hQ v (List.mem_of_getElem? e1) hg), e3⟩, h.far⟩
theorem pure (h : RowsG lt et w B lv rows L X) (hb : Below w.heap.size w w') : RowsG lt et w' B lv rows L X :=
  h.keeps (Keeps.of_pure hb (fun _ => False)) (fun _ hf => hf.elim) (fun _ hf => hf.elim)
/-- A block of another kind is none of the list's. -/
theorem not_lst (h : RowsG lt et w B lv rows L X) {b e : Nat} {cs : Array Value} (hb : w.heap[b]? = some (.cells cs e (0, 0))) (he : e ≠ lt) : lv.ownBlock ≠ some b := own_ne_blk h.lst hb he.symm
theorem not_el (h : RowsG lt et w B lv rows L X) {b e : Nat} {cs : Array Value} (hb : w.heap[b]? = some (.cells cs e (0, 0))) (he : e ≠ et) : ∀ v ∈ rows, v.ownBlock ≠ some b := fun v hv => by
  obtain ⟨l, _, h2, _⟩ := h.mem hv
  exact own_ne_blk h2 hb he.symm
theorem not_X (h : RowsG lt et w B lv rows L X) {b : Nat} (hb : X b) : ∀ v ∈ rows, v.ownBlock ≠ some b := fun v hv hg => by
  obtain ⟨l, _, _, h3⟩ := h.mem hv
  exact h3 b hg hb
theorem not_new (h : RowsG lt et w B lv rows L X) {b : Nat} (hb : w.heap.size ≤ b) : lv.ownBlock ≠ some b ∧ ∀ v ∈ rows, v.ownBlock ≠ some b :=
  ⟨fun hg => by have := (h.lst.lt b hg).2; omega, fun v hv hg => by
    obtain ⟨l, _, h2, _⟩ := h.mem hv
    have := (h2.lt b hg).2
    omega⟩
/-- One element more: the list grown beside it. -/
theorem put (hT : et ≠ lt) (h : RowsG lt et w B lv rows L X) {l : List Value} {v : Value} (hv : w.ownsRow B et 1 v l.length l) (hX : ∀ g, v.ownBlock = some g → ¬ X g) (hnew : ∀ g, v.ownBlock = some g → ∀ u ∈ rows, u.ownBlock ≠ some g)
    (hl : w'.ownsRow B lt 1 lv' (L.length + 1) (rows ++ [v])) (hk : Keeps (fun b => lv.ownBlock = some b) w w') :
    RowsG lt et w' B lv' (rows ++ [v]) (L ++ [l]) X := by
  have hrl := h.len
  have hne : ∀ {n : Nat} {u : Value} {xs : List Value}, w.ownsRow B et 1 u n xs → ∀ g, u.ownBlock = some g → ¬ (lv.ownBlock = some g) := fun ho g hg e => own_ne_own ho h.lst hT hg e
  refine ⟨by rw [List.length_append]; exact hl, fun j l' hj => ?_, fun i j u u' g hij hu hu' hg hg' => ?_⟩
  · rcases Nat.lt_or_ge j L.length with hlt | hge
    · rw [List.getElem?_append_left hlt] at hj
      obtain ⟨u, h1, h2, h3⟩ := h.el j l' hj
      exact ⟨u, by rw [List.getElem?_append_left (by omega)]; exact h1, own_keeps h2 hk (hne h2), h3⟩
    · rw [List.getElem?_append_right hge] at hj
      rcases Nat.eq_zero_or_pos (j - L.length) with h0 | h0
      · rw [h0] at hj
        simp at hj
        subst hj
        exact ⟨v, by rw [List.getElem?_append_right (by omega), hrl, h0]; rfl, own_keeps hv hk (hne hv), hX⟩
      · rw [List.getElem?_eq_none (by simp; omega)] at hj; cases hj
  · have hin : ∀ (i : Nat) (u : Value), (rows ++ [v])[i]? = some u → (rows[i]? = some u ∧ u ∈ rows) ∨ (i = rows.length ∧ u = v) := fun i u hu => by
      rcases Nat.lt_or_ge i rows.length with hlt | hge
      · rw [List.getElem?_append_left hlt] at hu
        exact .inl ⟨hu, List.mem_of_getElem? hu⟩
      · rw [List.getElem?_append_right hge] at hu
        rcases Nat.eq_zero_or_pos (i - rows.length) with h0 | h0
        · rw [h0] at hu; simp at hu; exact .inr ⟨by omega, hu.symm⟩
        · rw [List.getElem?_eq_none (by simp; omega)] at hu; cases hu
    rcases hin i u hu with ⟨a1, a2⟩ | ⟨a1, a2⟩ <;> rcases hin j u' hu' with ⟨b1, b2⟩ | ⟨b1, b2⟩
    · exact h.far i j u u' g hij a1 b1 hg hg'
    · subst b2; exact hnew g hg' u a2 hg
    · subst a2; exact hnew g hg u' b2 hg'
    · omega
end RowsG

/-- A list of lists of numbers. -/
def iVs (L : List (List Int)) : List (List Value) := L.map fun l => l.map (Value.int .i64)
def RowsAt (w : World) (B : Nat) (lv : Value) (rows : List Value) (L : List (List Int)) (X : Nat → Prop) : Prop := RowsG 22 3 w B lv rows (iVs L) X
namespace RowsAt
variable {w w' : World} {B : Nat} {lv lv' : Value} {rows : List Value} {L : List (List Int)} {X X' : Nat → Prop}
theorem lst (h : RowsAt w B lv rows L X) : w.ownsRow B 22 1 lv L.length rows := by
  have := RowsG.lst h
  unfold iVs at this
  rwa [List.length_map] at this
theorem el (h : RowsAt w B lv rows L X) (j : Nat) (l : List Int) (hj : L[j]? = some l) : ∃ v, rows[j]? = some v ∧ w.ownsRow B 3 1 v l.length (l.map (Value.int .i64)) ∧ ∀ g, v.ownBlock = some g → ¬ X g := by
  obtain ⟨v, h1, h2, h3⟩ := RowsG.el h j (l.map (Value.int .i64)) (by unfold iVs; rw [List.getElem?_map, hj]; rfl)
  rw [List.length_map] at h2
  exact ⟨v, h1, h2, h3⟩
theorem mk' (h1 : w.ownsRow B 22 1 lv L.length rows) (h2 : ∀ (j : Nat) l, L[j]? = some l → ∃ v, rows[j]? = some v ∧ w.ownsRow B 3 1 v l.length (l.map (Value.int .i64)) ∧ ∀ g, v.ownBlock = some g → ¬ X g) (h3 : FarV rows) : RowsAt w B lv rows L X :=
  ⟨by unfold iVs; rw [List.length_map]; exact h1, fun j l hj => by
    unfold iVs at hj
    rw [List.getElem?_map] at hj
    cases hl : L[j]? with
    | none => rw [hl] at hj; cases hj
    | some l' =>
      rw [hl] at hj
      obtain rfl := Option.some.inj hj
      obtain ⟨v, a1, a2, a3⟩ := h2 j l' hl
      exact ⟨v, a1, by rw [List.length_map]; exact a2, a3⟩, h3⟩
theorem far (h : RowsAt w B lv rows L X) : FarV rows := RowsG.far h
theorem nil (w : World) (B : Nat) (X : Nat → Prop) : RowsAt w B (.slice none 0 0) [] [] X := RowsG.nil w B X
theorem len (h : RowsAt w B lv rows L X) : rows.length = L.length := by have := RowsG.len h; unfold iVs at this; rwa [List.length_map] at this
theorem mem (h : RowsAt w B lv rows L X) {v : Value} (hv : v ∈ rows) : ∃ l, l ∈ iVs L ∧ w.ownsRow B 3 1 v l.length l ∧ ∀ g, v.ownBlock = some g → ¬ X g := RowsG.mem h hv
theorem mono (h : RowsAt w B lv rows L X) (hx : ∀ b, X' b → X b ∨ w.heap.size ≤ b) : RowsAt w B lv rows L X' := RowsG.mono h hx
theorem base (h : RowsAt w B lv rows L X) {B' : Nat} (hb : B' ≤ B) : RowsAt w B' lv rows L X := RowsG.base h hb
theorem keeps {Q : Nat → Prop} (h : RowsAt w B lv rows L X) (hk : Keeps Q w w') (h1 : ∀ b, Q b → lv.ownBlock ≠ some b) (h2 : ∀ b, Q b → ∀ v ∈ rows, v.ownBlock ≠ some b) : RowsAt w' B lv rows L X := RowsG.keeps h hk h1 h2
theorem pure (h : RowsAt w B lv rows L X) (hb : Below w.heap.size w w') : RowsAt w' B lv rows L X := RowsG.pure h hb
theorem not_lst (h : RowsAt w B lv rows L X) {b e : Nat} {cs : Array Value} (hb : w.heap[b]? = some (.cells cs e (0, 0))) (he : e ≠ 22) : lv.ownBlock ≠ some b := RowsG.not_lst h hb he
theorem not_el (h : RowsAt w B lv rows L X) {b e : Nat} {cs : Array Value} (hb : w.heap[b]? = some (.cells cs e (0, 0))) (he : e ≠ 3) : ∀ v ∈ rows, v.ownBlock ≠ some b := RowsG.not_el h hb he
theorem not_X (h : RowsAt w B lv rows L X) {b : Nat} (hb : X b) : ∀ v ∈ rows, v.ownBlock ≠ some b := RowsG.not_X h hb
theorem not_new (h : RowsAt w B lv rows L X) {b : Nat} (hb : w.heap.size ≤ b) : lv.ownBlock ≠ some b ∧ ∀ v ∈ rows, v.ownBlock ≠ some b := RowsG.not_new h hb
theorem put (h : RowsAt w B lv rows L X) {l : List Int} {v : Value} (hv : w.ownsRow B 3 1 v l.length (l.map (Value.int .i64))) (hX : ∀ g, v.ownBlock = some g → ¬ X g) (hnew : ∀ g, v.ownBlock = some g → ∀ u ∈ rows, u.ownBlock ≠ some g)
    (hl : w'.ownsRow B 22 1 lv' (L.length + 1) (rows ++ [v])) (hk : Keeps (fun b => lv.ownBlock = some b) w w') :
    RowsAt w' B lv' (rows ++ [v]) (L ++ [l]) X := by
  have := RowsG.put (by decide) h (l := l.map (Value.int .i64)) (by rw [List.length_map]; exact hv) hX hnew (lv' := lv') (w' := w') (by unfold iVs; rw [List.length_map]; exact hl) hk
  unfold RowsAt iVs at *
  rw [List.map_append]
  exact this
end RowsAt
end Go.Proofs.YtlajiblhnkognaaDoor
