/- What memory holds of a search among preimages: overlap's dead. Plain lemmas, no program. No condition. -/
import Derived.Test.YtlajiblhnkognaaDoorOverAB
import Derived.Test.YtlajiblhnkognaaDoorCopyM
import Derived.Test.YtlajiblhnkognaaDoorCut
namespace Go.Proofs.YtlajiblhnkognaaDoor
open Go.RowKit RuleP

/-- What stays: the rule, the word, where they lie, where the search lies, the world ahead of it. -/
structure DeadP where
  w0 : World
  k : Nat
  r : Nat
  most : Nat
  t : List Nat
  W : List Nat
  TA : Option Addr
  tc : Nat
  WA : Option Addr
  wc : Nat
  db : Nat
  atv : Value
  G : List Value
def DeadP.N (D : DeadP) : Nat := D.k ^ (2 * D.r)
def DeadP.B (D : DeadP) : Nat := D.w0.heap.size
def DeadP.cells (D : DeadP) (lv : Value) (more : Bool) : Array Value :=
  #[.int .i64 (D.k : Int), .int .i64 (D.r : Int), .slice D.TA D.t.length D.tc, .slice D.WA D.W.length D.wc, D.atv, .int .i64 (D.most : Int), lv, .bool more]
/-- What holds of the rule and the word. -/
structure DeadOk (D : DeadP) : Prop where
  rule : IsRule D.k D.r D.t
  small : D.t.length ≤ 256
  sym : ∀ x ∈ D.W, x < D.k
  len : D.W.length ≤ 256
  most : D.most ≤ 256
  T : Sl D.w0 D.TA D.t.length ((ints D.t).map (Value.int .i64))
  V : Sl D.w0 D.WA D.W.length ((ints D.W).map (Value.int .i64))

/-- Row i of the marks: where a mark stands, nothing goes on. -/
def DeadRow (w : World) (D : DeadP) (i : Nat) : Prop :=
  ∃ (g : Nat) (fl : List Bool), D.G[i]? = some (.slice (some ⟨g, 0, none⟩) D.N D.N) ∧ w.ownsRow D.B 4 1 (.slice (some ⟨g, 0, none⟩) D.N D.N) D.N (fl.map Value.bool) ∧
    ∀ u, fl[u]? = some true → sols D.k D.N D.t u (D.W.drop i) = []
def FarV (l : List Value) : Prop := ∀ (i j : Nat) (v v' : Value) (g : Nat), i ≠ j → l[i]? = some v → l[j]? = some v' → v.ownBlock = some g → v'.ownBlock ≠ some g

/-- The search as memory holds it. -/
structure DeadAt (w : World) (D : DeadP) (lv : Value) (rows : List Value) (L : List (List Nat)) (more : Bool) (X : Nat → Prop) : Prop where
  blk : w.heap[D.db]? = some (.cells (D.cells lv more) 135 (0, 0))
  old : Below D.B D.w0 w
  atb : w.ownsRow D.B 53 1 D.atv D.W.length D.G
  row : ∀ i, i < D.W.length → DeadRow w D i
  inj : FarV D.G
  lst : w.ownsRow D.B 22 1 lv L.length rows
  el : ∀ (j : Nat) l, L[j]? = some l → ∃ v, rows[j]? = some v ∧ w.ownsRow D.B 3 1 v l.length ((ints l).map (Value.int .i64)) ∧ ∀ g, v.ownBlock = some g → ¬ X g
  far : FarV rows
  fb : D.B ≤ D.db

variable {w w' w1 w2 : World} {D : DeadP} {lv lv' : Value} {rows rows' : List Value} {L : List (List Nat)} {more : Bool} {X X' : Nat → Prop}

theorem DeadRow.keeps {Q : Nat → Prop} {i : Nat} (h : DeadRow w D i) (hk : Keeps Q w w') (hq : ∀ b, Q b → ∀ v n xs, w.ownsRow D.B 4 1 v n xs → v.ownBlock ≠ some b) : DeadRow w' D i := by
  obtain ⟨g, fl, h1, h2, h4⟩ := h
  exact ⟨g, fl, h1, own_keeps h2 hk (fun g' hg' hQ => hq g' hQ _ _ _ h2 hg'), h4⟩

theorem DeadAt.lt (h : DeadAt w D lv rows L more X) : D.db < w.heap.size := (Array.getElem?_eq_some_iff.1 h.blk).1
theorem DeadAt.facts (h : DeadAt w D lv rows L more X) :
    w.cell? ⟨D.db, 0, none⟩ = some (.int .i64 (D.k : Int)) ∧ w.cell? ⟨D.db, 1, none⟩ = some (.int .i64 (D.r : Int)) ∧ w.cell? ⟨D.db, 2, none⟩ = some (.slice D.TA D.t.length D.tc) ∧ w.cell? ⟨D.db, 3, none⟩ = some (.slice D.WA D.W.length D.wc) ∧
    w.cell? ⟨D.db, 4, none⟩ = some D.atv ∧ w.cell? ⟨D.db, 5, none⟩ = some (.int .i64 (D.most : Int)) ∧ w.cell? ⟨D.db, 6, none⟩ = some lv ∧ w.cell? ⟨D.db, 7, none⟩ = some (.bool more) ∧ w.frozen? ⟨D.db, 6, none⟩ = false ∧ w.frozen? ⟨D.db, 7, none⟩ = false := by
  have hb := h.blk
  refine ⟨?_, ?_, ?_, ?_, ?_, ?_, ?_, ?_, frozen_of_row _ _ 6 _ _ hb, frozen_of_row _ _ 7 _ _ hb⟩ <;> rw [cell_of_row w D.db _ _ _ _ hb] <;> rfl
theorem DeadAt.tab (h : DeadAt w D lv rows L more X) (hD : DeadOk D) : Sl w D.TA D.t.length ((ints D.t).map (Value.int .i64)) := hD.T.below h.old
theorem DeadAt.word (h : DeadAt w D lv rows L more X) (hD : DeadOk D) : Sl w D.WA D.W.length ((ints D.W).map (Value.int .i64)) := hD.V.below h.old
theorem DeadAt.mono (h : DeadAt w D lv rows L more X) (hx : ∀ b, X' b → X b ∨ w.heap.size ≤ b) : DeadAt w D lv rows L more X' :=
  { h with
    el := fun j l hj => by
      obtain ⟨v, h1, h2, h3⟩ := h.el j l hj
      exact ⟨v, h1, h2, fun g hg hx' => by
        rcases hx g hx' with h' | h'
        · exact h3 g hg h'
        · have := (h2.lt g hg).2; omega⟩ }

/-- What a call of the search may write. -/
def Foot (D : DeadP) (lv : Value) (b : Nat) : Prop := b = D.db ∨ (∃ (i : Nat) (v : Value), D.G[i]? = some v ∧ v.ownBlock = some b) ∨ lv.ownBlock = some b
theorem DeadAt.notFoot (h : DeadAt w D lv rows L more X) {base n g : Nat} {xv : Value} {xs : List Value} (hx : w.ownsRow base 3 1 xv n xs) (hg : xv.ownBlock = some g) : ¬ Foot D lv g := by
  rintro (rfl | ⟨i, v, hi, hv⟩ | hv)
  · exact own_ne_blk hx h.blk (by decide) hg
  · have hlt : i < D.W.length := by have := (List.getElem?_eq_some_iff.1 hi).1; have := h.atb.1; simp at this; omega
    obtain ⟨g', fl, e1, e2, _⟩ := h.row i hlt
    rw [hi] at e1
    cases e1
    exact own_ne_own hx e2 (by decide) hg hv
  · exact own_ne_own hx h.lst (by decide) hg hv
theorem DeadAt.foot_lt (h : DeadAt w D lv rows L more X) {b : Nat} (hb : Foot D lv b) : D.B ≤ b := by
  rcases hb with rfl | ⟨i, v, hi, hv⟩ | hv
  · exact h.fb
  · have hlt : i < D.W.length := by have := (List.getElem?_eq_some_iff.1 hi).1; have := h.atb.1; simp at this; omega
    obtain ⟨g', fl, e1, e2, _⟩ := h.row i hlt
    rw [hi] at e1
    cases e1
    exact (e2.lt b hv).1
  · exact (h.lst.lt b hv).1

/-- Writes to rows of numbers that are none of the list's. -/
theorem DeadAt.keeps {Q : Nat → Prop} (h : DeadAt w D lv rows L more X) (hk : Keeps Q w w') (hq : ∀ b, Q b → X b ∧ D.B ≤ b ∧ ∃ cs, w.heap[b]? = some (.cells cs 3 (0, 0))) : DeadAt w' D lv rows L more X := by
  have hne : ∀ {e n : Nat} {v : Value} {xs : List Value} (b : Nat), Q b → w.ownsRow D.B e 1 v n xs → e ≠ 3 → v.ownBlock ≠ some b := fun b hb ho he => by
    obtain ⟨_, _, cs, hc⟩ := hq b hb
    exact own_ne_blk ho hc he
  exact {
    blk := (hk.block _ h.lt (fun hb => by
      obtain ⟨_, _, cs, hc⟩ := hq _ hb
      have := h.blk
      rw [hc] at this
      injection this with this
      injection this with _ this
      exact absurd this (by decide))).trans h.blk
    old := h.old.trans (hk.below h.old.size (fun b hb => (hq b hb).2.1))
    atb := own_keeps h.atb hk (fun g hg hb => hne g hb h.atb (by decide) hg)
    row := fun i hi => (h.row i hi).keeps hk (fun b hb v n xs ho hv => hne b hb ho (by decide) hv)
    inj := h.inj
    lst := own_keeps h.lst hk (fun g hg hb => hne g hb h.lst (by decide) hg)
    el := fun j l hj => by
      obtain ⟨v, h1, h2, h3⟩ := h.el j l hj
      exact ⟨v, h1, own_keeps h2 hk (fun g hg hb => h3 g hg (hq g hb).1), h3⟩
    far := h.far
    fb := h.fb }
theorem DeadAt.pure (h : DeadAt w D lv rows L more X) (hb : Below w.heap.size w w') : DeadAt w' D lv rows L more X :=
  h.keeps (Keeps.of_pure hb (fun _ => False)) (fun _ hf => hf.elim)

theorem cells_set6 (D : DeadP) (lv u : Value) (more : Bool) : (D.cells lv more).setIfInBounds 6 u = D.cells u more := rfl
theorem cells_set7 (D : DeadP) (lv : Value) (more b : Bool) : (D.cells lv more).setIfInBounds 7 (.bool b) = D.cells lv b := rfl

/-- Something stored in the search's own block. -/
theorem DeadAt.set (h : DeadAt w D lv rows L more X) {j : Nat} {u lv' : Value} {more' : Bool} {rows' : List Value} {L' : List (List Nat)} (hc : (D.cells lv more).setIfInBounds j u = D.cells lv' more')
    (hl : w.ownsRow D.B 22 1 lv' L'.length rows') (he : ∀ (j : Nat) l, L'[j]? = some l → ∃ v, rows'[j]? = some v ∧ w.ownsRow D.B 3 1 v l.length ((ints l).map (Value.int .i64)) ∧ ∀ g, v.ownBlock = some g → ¬ X g)
    (hf : FarV rows') : DeadAt (w.setCell ⟨D.db, j, none⟩ u) D lv' rows' L' more' X := by
  have hk := Keeps.of_setCell w ⟨D.db, j, none⟩ u
  have hne : ∀ {e n : Nat} {v : Value} {xs : List Value}, w.ownsRow D.B e 1 v n xs → e ≠ 135 → ∀ g, v.ownBlock = some g → ¬ (g = (⟨D.db, j, none⟩ : Addr).block) := fun ho he g hg e => by
    have e' : g = D.db := e
    subst e'
    exact own_ne_blk ho h.blk he hg
  exact {
    blk := by
      have := heap_setCell_same w D.db j _ _ u h.blk
      rw [hc] at this
      exact this
    old := h.old.setCell h.fb _
    atb := own_keeps h.atb hk (hne h.atb (by decide))
    row := fun i hi => (h.row i hi).keeps hk (fun b hb v n xs ho hv => hne ho (by decide) b hv hb)
    inj := h.inj
    lst := own_keeps hl hk (hne hl (by decide))
    el := fun j' l hj => by
      obtain ⟨v, h1, h2, h3⟩ := he j' l hj
      exact ⟨v, h1, own_keeps h2 hk (hne h2 (by decide)), h3⟩
    far := hf
    fb := h.fb }
theorem DeadAt.full (h : DeadAt w D lv rows L more X) : DeadAt (w.setCell ⟨D.db, 7, none⟩ (.bool true)) D lv rows L true X :=
  h.set (cells_set7 D lv more true) h.lst h.el h.far

/-- A new word kept behind the others, the list grown beside it. -/
theorem DeadAt.put (h : DeadAt w D lv rows L more X) {l : List Nat} {v lv' : Value} (hv : w.ownsRow D.B 3 1 v l.length ((ints l).map (Value.int .i64))) (hX : ∀ g, v.ownBlock = some g → ¬ X g) (hnew : ∀ g, v.ownBlock = some g → ∀ u ∈ rows, u.ownBlock ≠ some g)
    (hl : w'.ownsRow D.B 22 1 lv' (L.length + 1) (rows ++ [v])) (hk : Keeps (fun b => lv.ownBlock = some b) w w') :
    DeadAt (w'.setCell ⟨D.db, 6, none⟩ lv') D lv' (rows ++ [v]) (L ++ [l]) more X := by
  have hrl : rows.length = L.length := by simpa using h.lst.1
  have hne : ∀ {e n : Nat} {u : Value} {xs : List Value}, w.ownsRow D.B e 1 u n xs → e ≠ 22 → ∀ g, u.ownBlock = some g → ¬ (lv.ownBlock = some g) := fun ho he g hg e => own_ne_own ho h.lst he hg e
  have hb : w'.heap[D.db]? = some (.cells (D.cells lv more) 135 (0, 0)) := (hk.block _ h.lt (own_ne_blk h.lst h.blk (by decide))).trans h.blk
  have hold : Below D.B D.w0 w' := h.old.trans (hk.below h.old.size (fun b hb' => (h.lst.lt b hb').1))
  have hkS := Keeps.of_setCell w' ⟨D.db, 6, none⟩ lv'
  have hneS : ∀ {e n : Nat} {u : Value} {xs : List Value}, w'.ownsRow D.B e 1 u n xs → e ≠ 135 → ∀ g, u.ownBlock = some g → ¬ (g = (⟨D.db, 6, none⟩ : Addr).block) := fun ho he g hg e => by
    have e' : g = D.db := e
    subst e'
    exact own_ne_blk ho hb he hg
  have hat := own_keeps h.atb hk (hne h.atb (by decide))
  exact {
    blk := by
      have := heap_setCell_same w' D.db 6 _ _ lv' hb
      rw [cells_set6] at this
      exact this
    old := hold.setCell h.fb _
    atb := own_keeps hat hkS (hneS hat (by decide))
    row := fun i hi => ((h.row i hi).keeps hk (fun b hb v n xs ho hv => hne ho (by decide) b hv hb)).keeps hkS (fun b hb v n xs ho hv => hneS ho (by decide) b hv hb)
    inj := h.inj
    lst := by
      rw [List.length_append]
      exact own_keeps hl hkS (hneS hl (by decide))
    el := fun j l' hj => by
      have keepI : ∀ {n : Nat} {u : Value} {xs : List Value}, w.ownsRow D.B 3 1 u n xs → (w'.setCell ⟨D.db, 6, none⟩ lv').ownsRow D.B 3 1 u n xs := fun ho => by
        have h1 := own_keeps ho hk (hne ho (by decide))
        exact own_keeps h1 hkS (hneS h1 (by decide))
      rcases Nat.lt_or_ge j L.length with hlt | hge
      · rw [List.getElem?_append_left hlt] at hj
        obtain ⟨u, h1, h2, h3⟩ := h.el j l' hj
        exact ⟨u, by rw [List.getElem?_append_left (by omega)]; exact h1, keepI h2, h3⟩
      · rw [List.getElem?_append_right hge] at hj
        rcases Nat.eq_zero_or_pos (j - L.length) with h0 | h0
        · rw [h0] at hj
          simp at hj
          subst hj
          exact ⟨v, by rw [List.getElem?_append_right (by omega), hrl, h0]; rfl, keepI hv, hX⟩
        · rw [List.getElem?_eq_none (by simp; omega)] at hj; cases hj
    far := fun i j u u' g hij hu hu' hg hg' => by
      have hin : ∀ (i : Nat) (u : Value), (rows ++ [v])[i]? = some u → (rows[i]? = some u ∧ u ∈ rows) ∨ (i = rows.length ∧ u = v) := fun i u hu => by
        rcases Nat.lt_or_ge i rows.length with hlt | hge
        · rw [List.getElem?_append_left hlt] at hu
          exact .inl ⟨hu, List.mem_of_getElem? hu⟩
        · rw [List.getElem?_append_right hge] at hu
          rcases Nat.eq_zero_or_pos (i - rows.length) with h0 | h0
          · rw [h0] at hu; simp at hu; exact .inr ⟨by omega, hu.symm⟩
          · rw [List.getElem?_eq_none (by simp; omega)] at hu; cases hu
      rcases hin i u hu with ⟨a1, a2⟩ | ⟨a1, a2⟩ <;> rcases hin j u' hu' with ⟨b1, b2⟩ | ⟨b1, b2⟩
      · exact h.far i j u u' g hij a1 b1 hg hg'
      · subst b2; exact hnew g hg' u a2 hg
      · subst a2; exact hnew g hg u' b2 hg'
      · omega
    fb := h.fb }

/-- A mark set where nothing goes on. -/
theorem DeadAt.mark (h : DeadAt w D lv rows L more X) {i u g : Nat} (hi : i < D.W.length) (hu : u < D.N) (hg : D.G[i]? = some (.slice (some ⟨g, 0, none⟩) D.N D.N)) (b : Bool) (hb : b = true → sols D.k D.N D.t u (D.W.drop i) = []) :
    DeadAt (w.setCell ⟨g, u, none⟩ (.bool b)) D lv rows L more X := by
  have hk := Keeps.of_setCell w ⟨g, u, none⟩ (.bool b)
  obtain ⟨g', fl, e1, e2, e4⟩ := h.row i hi
  rw [hg] at e1
  injection e1 with e1
  injection e1 with e1
  injection e1 with e1
  injection e1 with e1
  subst e1
  have hne : ∀ {e n : Nat} {v : Value} {xs : List Value}, w.ownsRow D.B e 1 v n xs → e ≠ 4 → ∀ g', v.ownBlock = some g' → ¬ (g' = (⟨g, u, none⟩ : Addr).block) := fun ho he g' hg' e => by
    have e' : g' = g := e
    subst e'
    exact own_ne_own ho e2 he hg' rfl
  exact {
    blk := (hk.block _ h.lt (fun e => by
      have e' : D.db = g := e
      rw [← e'] at e2
      exact own_ne_blk e2 h.blk (by decide) rfl)).trans h.blk
    old := h.old.setCell (e2.lt g rfl).1 _
    atb := own_keeps h.atb hk (hne h.atb (by decide))
    row := fun j hj => by
      by_cases hij : j = i
      · subst hij
        refine ⟨g, fl.set u b, hg, ?_, fun u' hu' => ?_⟩
        · have := (e2.stored u (.bool b)).1
          rw [← List.map_set] at this
          exact this
        · by_cases huu : u = u'
          · subst huu
            have hlen : u < fl.length := by have := e2.1; simp at this; omega
            rw [List.getElem?_set_self hlen] at hu'
            exact hb (Option.some.inj hu')
          · rw [List.getElem?_set_ne huu] at hu'
            exact e4 u' hu'
      · obtain ⟨g2, fl2, f1, f2, f4⟩ := h.row j hj
        exact ⟨g2, fl2, f1, own_keeps f2 hk (fun g' hg' e => h.inj j i _ _ g' hij f1 hg hg' (by rw [show g' = g from e]; rfl)), f4⟩
    inj := h.inj
    lst := own_keeps h.lst hk (hne h.lst (by decide))
    el := fun j l hj => by
      obtain ⟨v, h1, h2, h3⟩ := h.el j l hj
      exact ⟨v, h1, own_keeps h2 hk (hne h2 (by decide)), h3⟩
    far := h.far
    fb := h.fb }

/-- Behind a push to the list: the search's own block. -/
theorem DeadAt.pushed (h : DeadAt w D lv rows L more X) (hk : Keeps (fun b => lv.ownBlock = some b) w w') :
    w'.cell? ⟨D.db, 6, none⟩ = some lv ∧ w'.frozen? ⟨D.db, 6, none⟩ = false ∧ w.heap.size ≤ w'.heap.size := by
  have hb : w'.heap[D.db]? = some (.cells (D.cells lv more) 135 (0, 0)) := (hk.block _ h.lt (own_ne_blk h.lst h.blk (by decide))).trans h.blk
  exact ⟨by rw [cell_of_row w' D.db _ _ _ _ hb]; rfl, frozen_of_row _ _ 6 _ _ hb, hk.size⟩
end Go.Proofs.YtlajiblhnkognaaDoor
