/- What the walk over the subsets has found: each state's set, word and row; runs along words; the first orphan comes ahead of all. Plain lists, no program. No condition. The rows of the walk over the subsets, as SubsetRuns asks of them: lengths, sources, runs along a word. Plain lists, no program. No condition. Words of one length compared: word.Cmp, slices.Compare, cmp.Compare, cmp.Or. Condition: the words read from memory and have one length. -/
import Derived.Test.YtibplgpolmplpaaGreatDoorW1
import Derived.Test.YtibplgpolmplpaaGreatDoorW3
import Derived.Test.YtibplgpolmplpaaGreatDoorW5
namespace Go.Proofs.YtibplgpolmplpaaGreatDoor
open BagP RuleP
namespace SubP

variable {k N : Nat} {t : List Nat} {stop : Bool}

/-- Pairs (state, symbol) in the walk's order. -/
def PLt (p q p' q' : Nat) : Prop := p < p' ∨ (p = p' ∧ q < q')
/-- A row of state i tells where its symbols lead. -/
def RowOk (k N : Nat) (t : List Nat) (stop : Bool) (P Q : Nat → Nat) (S : St) (i : Nat) (row : List Int) : Prop :=
  ∀ (s : Nat) (x : Int), row[s]? = some x → (nodesOf (beh k N t (S.sets.getD i []) s) = [] ∧ x = -1 ∧ stop = false) ∨
    ∃ j : Nat, x = (j : Int) ∧ S.sets[j]? = some (beh k N t (S.sets.getD i []) s) ∧ (j = 0 ∨ P j < i ∨ (P j = i ∧ Q j ≤ s))
structure Inv2 (k N : Nat) (t : List Nat) (stop : Bool) (P Q : Nat → Nat) (i : Nat) (S : St) (row : List Int) (c : Nat) : Prop where
  inv : Inv N i S
  rlen : row.length = c
  zero : S.sets[0]? = some (List.replicate N true)
  zerow : S.words[0]? = some []
  done : ∀ (i' : Nat) r, S.next[i']? = some r → r.length = k ∧ RowOk k N t stop P Q S i' r
  cur : RowOk k N t stop P Q S i row
  src : ∀ j, 0 < j → j < S.sets.length → Q j < k ∧ P j < j ∧ PLt (P j) (Q j) i c ∧ S.words[j]? = some (S.words.getD (P j) [] ++ [Q j]) ∧ S.sets[j]? = some (beh k N t (S.sets.getD (P j) []) (Q j)) ∧
    ((∃ r, S.next[P j]? = some r ∧ r[Q j]? = some (j : Int)) ∨ (P j = i ∧ row[Q j]? = some (j : Int)))
  ord : ∀ j j', 0 < j → j < j' → j' < S.sets.length → PLt (P j) (Q j) (P j') (Q j')

theorem Inv2.start (hN : 0 < N) : Inv2 k N t stop (fun _ => 0) (fun _ => 0) 0 (init N) [] 0 where
  inv := Inv.init hN
  rlen := rfl
  zero := rfl
  zerow := rfl
  done := fun i' r h => by simp [init] at h
  cur := fun s x h => by simp at h
  src := fun j h1 h2 => by simp [init] at h2; omega
  ord := fun j j' h1 h2 h3 => by simp [init] at h3; omega

/-- A row one symbol longer. -/
theorem RowOk.snoc {P Q : Nat → Nat} {S : St} {i : Nat} {row : List Int} {x : Int} (h : RowOk k N t stop P Q S i row)
    (hx : (nodesOf (beh k N t (S.sets.getD i []) row.length) = [] ∧ x = -1 ∧ stop = false) ∨ ∃ j : Nat, x = (j : Int) ∧ S.sets[j]? = some (beh k N t (S.sets.getD i []) row.length) ∧ (j = 0 ∨ P j < i ∨ (P j = i ∧ Q j ≤ row.length))) :
    RowOk k N t stop P Q S i (row ++ [x]) := fun s y hy => by
  rcases get_snoc hy with hy | ⟨rfl, rfl⟩
  · exact h s y hy
  · exact hx
theorem Inv2.longer {P Q : Nat → Nat} {i c : Nat} {S : St} {row : List Int} {x : Int} (h : Inv2 k N t stop P Q i S row c) (hc : RowOk k N t stop P Q S i (row ++ [x])) : Inv2 k N t stop P Q i S (row ++ [x]) (c + 1) where
  inv := h.inv
  rlen := by simp [h.rlen]
  zero := h.zero
  zerow := h.zerow
  done := h.done
  cur := hc
  src := fun j h1 h2 => by
    obtain ⟨a, b, c', d, e, f⟩ := h.src j h1 h2
    refine ⟨a, b, ?_, d, e, f.imp id (fun f => ⟨f.1, get_app f.2⟩)⟩
    rcases c' with c' | ⟨c1, c2⟩
    · exact .inl c'
    · exact .inr ⟨c1, by omega⟩
  ord := h.ord

theorem Inv2.sym {P Q : Nat → Nat} {i c : Nat} {S S' : St} {row row' : List Int} (h : Inv2 k N t stop P Q i S row c) (hi : i < S.sets.length) (hc : c < k) (e : sym k N t stop i S row c = .go S' row') :
    ∃ P' Q', Inv2 k N t stop P' Q' i S' row' (c + 1) := by
  have hinv := (h.inv.sym e).1
  unfold SubP.sym at e
  split at e
  · rename_i h1
    split at e
    · cases e
    · rename_i h2
      injection e with e1 e2
      subst e1 e2
      exact ⟨P, Q, h.longer (h.cur.snoc (.inl ⟨by rw [h.rlen]; exact h1, rfl, by simpa using h2⟩))⟩
  · rename_i h1
    split at e
    · rename_i h2
      injection e with e1 e2
      subst e1 e2
      have hlt := List.idxOf_lt_length_of_mem h2
      have hat : S.sets[S.sets.idxOf (beh k N t (S.sets.getD i []) c)]? = some (beh k N t (S.sets.getD i []) c) := by rw [List.getElem?_eq_getElem hlt]; simp
      refine ⟨P, Q, h.longer (h.cur.snoc (.inr ⟨_, rfl, by rw [h.rlen]; exact hat, ?_⟩))⟩
      rcases Nat.eq_zero_or_pos (S.sets.idxOf (beh k N t (S.sets.getD i []) c)) with h0 | h0
      · exact .inl h0
      · obtain ⟨_, _, h3, _⟩ := h.src _ h0 hlt
        rcases h3 with h3 | ⟨h3, h4⟩
        · exact .inr (.inl h3)
        · exact .inr (.inr ⟨h3, by rw [h.rlen]; omega⟩)
    · rename_i h2
      split at e
      · cases e
      · rename_i h3
        injection e with e1 e2
        subst e1 e2
        have hlen := h.inv.len
        have hne : ∀ {j}, j < S.sets.length → j ≠ S.sets.length := fun h => by omega
        let P' : Nat → Nat := fun x => if x = S.sets.length then i else P x
        let Q' : Nat → Nat := fun x => if x = S.sets.length then c else Q x
        have pO : ∀ {j}, j < S.sets.length → P' j = P j := fun h => if_neg (hne h)
        have qO : ∀ {j}, j < S.sets.length → Q' j = Q j := fun h => if_neg (hne h)
        have pN : P' S.sets.length = i := if_pos rfl
        have qN : Q' S.sets.length = c := if_pos rfl
        have rowO : ∀ {i' : Nat} {r : List Int}, i' < S.sets.length → RowOk k N t stop P Q S i' r → RowOk k N t stop P' Q' ⟨S.sets ++ [beh k N t (S.sets.getD i []) c], S.words ++ [S.words.getD i [] ++ [c]], S.next⟩ i' r := fun {i'} {r} hi' hr s x hx => by
          show (nodesOf (beh k N t ((S.sets ++ _).getD i' []) s) = [] ∧ _) ∨ _
          rw [getD_app hi']
          rcases hr s x hx with h4 | ⟨j, h4, h5, h6⟩
          · exact .inl h4
          · have hj := (List.getElem?_eq_some_iff.1 h5).1
            refine .inr ⟨j, h4, get_app h5, ?_⟩
            rw [pO hj, qO hj]
            exact h6
        refine ⟨P', Q', ⟨hinv, by simp [h.rlen], get_app h.zero, get_app h.zerow, fun i' r hr => ?_, ?_, fun j h4 h5 => ?_, fun j j' h4 h5 h6 => ?_⟩⟩
        · obtain ⟨a, b⟩ := h.done i' r hr
          have hi' : i' < S.sets.length := by
            have h7 : i' < S.next.length := (List.getElem?_eq_some_iff.1 hr).1
            have h8 := h.inv.next
            omega
          exact ⟨a, rowO hi' b⟩
        · refine (rowO hi h.cur).snoc (.inr ⟨S.sets.length, rfl, ?_, .inr (.inr ⟨pN, by rw [qN, h.rlen]; exact Nat.le_refl _⟩)⟩)
          show (S.sets ++ _)[S.sets.length]? = some (beh k N t ((S.sets ++ _).getD i []) row.length)
          rw [get_last, getD_app hi, h.rlen]
        · have h5' : j < S.sets.length + 1 := by simpa using h5
          show Q' j < k ∧ P' j < j ∧ PLt (P' j) (Q' j) i (c + 1) ∧ (S.words ++ [S.words.getD i [] ++ [c]])[j]? = some ((S.words ++ [S.words.getD i [] ++ [c]]).getD (P' j) [] ++ [Q' j]) ∧
            (S.sets ++ [beh k N t (S.sets.getD i []) c])[j]? = some (beh k N t ((S.sets ++ [beh k N t (S.sets.getD i []) c]).getD (P' j) []) (Q' j)) ∧ _
          rcases Nat.lt_or_ge j S.sets.length with hlt | hge
          · obtain ⟨a, b, c', d, e, f⟩ := h.src j h4 hlt
            rw [pO hlt, qO hlt, getD_app (by omega), getD_app (by omega)]
            refine ⟨a, b, ?_, get_app d, get_app e, f.imp id (fun f => ⟨f.1, get_app f.2⟩)⟩
            rcases c' with c' | ⟨c1, c2⟩
            · exact .inl c'
            · exact .inr ⟨c1, by omega⟩
          · obtain rfl : j = S.sets.length := by omega
            rw [pN, qN, getD_app (by omega), getD_app hi, get_last]
            refine ⟨hc, hi, .inr ⟨rfl, by omega⟩, ?_, rfl, .inr ⟨rfl, ?_⟩⟩
            · rw [← hlen, get_last]
            · have := get_last row ((S.sets.length : Nat) : Int)
              rwa [h.rlen] at this
        · have h6' : j' < S.sets.length + 1 := by simpa using h6
          rcases Nat.lt_or_ge j' S.sets.length with hlt | hge
          · rw [pO hlt, qO hlt, pO (by omega), qO (by omega)]
            exact h.ord j j' h4 h5 hlt
          · obtain rfl : j' = S.sets.length := by omega
            rw [pN, qN, pO h5, qO h5]
            exact (h.src j h4 h5).2.2.1

theorem Inv2.rowTo {P Q : Nat → Nat} {i : Nat} {S : St} (h : Inv2 k N t stop P Q i S [] 0) (hi : i < S.sets.length) : ∀ {s : Nat} {S' : St} {row : List Int}, s ≤ k → rowTo k N t stop i S s = .go S' row → S.sets.length ≤ S'.sets.length ∧ ∃ P' Q', Inv2 k N t stop P' Q' i S' row s
  | 0, S', row, _, e => by injection e with e1 e2; subst e1 e2; exact ⟨Nat.le_refl _, P, Q, h⟩
  | s + 1, S', row, hs, e => by
    unfold SubP.rowTo at e
    split at e
    · rename_i S1 row1 e1
      obtain ⟨h1, P1, Q1, h2⟩ := Inv2.rowTo h hi (by omega) e1
      obtain ⟨P2, Q2, h3⟩ := h2.sym (by omega) (by omega) e
      exact ⟨Nat.le_trans h1 (h2.inv.sym e).2.2, P2, Q2, h3⟩
    · cases e
    · cases e
theorem Inv2.next {P Q : Nat → Nat} {i : Nat} {S : St} {row : List Int} (h : Inv2 k N t stop P Q i S row k) (hi : i < S.sets.length) : Inv2 k N t stop P Q (i + 1) ⟨S.sets, S.words, S.next ++ [row]⟩ [] 0 where
  inv := ⟨h.inv.len, h.inv.ok, h.inv.some, h.inv.nd, h.inv.big, by simp [h.inv.next], hi⟩
  rlen := rfl
  zero := h.zero
  zerow := h.zerow
  done := fun i' r hr => by
    rcases get_snoc hr with hr | ⟨rfl, rfl⟩
    · exact h.done i' r hr
    · exact ⟨h.rlen, by rw [h.inv.next]; exact h.cur⟩
  cur := fun s x hx => by simp at hx
  src := fun j h1 h2 => by
    obtain ⟨a, b, c', d, e, f⟩ := h.src j h1 h2
    refine ⟨a, b, .inl ?_, d, e, .inl ?_⟩
    · rcases c' with c' | ⟨c1, c2⟩ <;> omega
    · rcases f with ⟨r, f1, f2⟩ | ⟨f1, f2⟩
      · exact ⟨r, get_app f1, f2⟩
      · refine ⟨row, ?_, f2⟩
        show (S.next ++ [row])[P j]? = _
        rw [f1, ← h.inv.next, get_last]
  ord := h.ord

theorem Inv2.round (hN : 0 < N) : ∀ {i : Nat} {S : St} {row : List Int}, roundTo k N t stop i = .go S row → ∃ P Q, Inv2 k N t stop P Q S.next.length S [] 0
  | 0, S, row, e => by injection e with e1 e2; subst e1 e2; exact ⟨_, _, Inv2.start hN⟩
  | i + 1, S, row, e => by
    unfold roundTo at e
    split at e
    · rename_i S1 row1 e1
      obtain ⟨P, Q, h⟩ := Inv2.round hN e1
      obtain ⟨_, j, hj, hji, hjs⟩ := Inv.round hN e1
      split at e
      · rename_i hlt
        have hji' : S1.next.length = i := by
          rw [hj.next]
          rcases Nat.lt_or_ge j i with h | h
          · have := hjs h; omega
          · omega
        split at e
        · rename_i S2 row2 e2
          injection e with e3 e4
          subst e3 e4
          rw [hji'] at h
          obtain ⟨h1, P', Q', h2⟩ := h.rowTo hlt (Nat.le_refl _) e2
          have h3 := h2.next (by omega)
          refine ⟨P', Q', ?_⟩
          have : (S2.next ++ [row2]).length = i + 1 := by simp [h2.inv.next]
          show Inv2 k N t stop P' Q' (S2.next ++ [row2]).length _ [] 0
          rw [this]
          exact h3
        · cases e
        · cases e
      · injection e with e3 e4
        subst e3 e4
        exact ⟨P, Q, h⟩
    · cases e
    · cases e

/-- What holds where the walk has come to its end. -/
theorem fin_inv (hN : 0 < N) {S : St} {row : List Int} (h : fin k N t stop = .go S row) : row = [] ∧ S.next.length = S.sets.length ∧ ∃ P Q, Inv2 k N t stop P Q S.sets.length S [] 0 := by
  obtain ⟨h1, j, h2, h3, h4⟩ := Inv.round hN h
  obtain ⟨P, Q, h5⟩ := Inv2.round hN h
  have h6 : j = S.sets.length := by
    rcases Nat.lt_or_ge j 4097 with h | h
    · exact h4 h
    · have h7 := h2.le
      have h8 := h2.big
      omega
  have h7 := h2.next
  rw [h7, h6] at h5
  exact ⟨h1, by omega, P, Q, h5⟩

theorem row_orphan {i : Nat} {S : St} {x : List Nat} : ∀ {s : Nat}, rowTo k N t stop i S s = .orphan x → ∃ c S' row, c < s ∧ rowTo k N t stop i S c = .go S' row ∧ sym k N t stop i S' row c = .orphan x
  | 0, e => by cases e
  | s + 1, e => by
    unfold rowTo at e
    split at e
    · rename_i S1 row1 e1
      exact ⟨s, S1, row1, by omega, e1, e⟩
    · rename_i y e1
      injection e with e
      subst e
      obtain ⟨c, S', row, h1, h2, h3⟩ := row_orphan e1
      exact ⟨c, S', row, by omega, h2, h3⟩
    · cases e
theorem round_orphan (hN : 0 < N) {x : List Nat} : ∀ {n : Nat}, roundTo k N t stop n = .orphan x → ∃ (i c : Nat) (S : St) (row : List Int) (P Q : Nat → Nat), Inv2 k N t stop P Q i S row c ∧ i < S.sets.length ∧ c < k ∧ sym k N t stop i S row c = .orphan x
  | 0, e => by cases e
  | n + 1, e => by
    unfold roundTo at e
    split at e
    · rename_i S1 row1 e1
      obtain ⟨P, Q, h⟩ := Inv2.round hN e1
      obtain ⟨_, j, hj, hji, hjs⟩ := Inv.round hN e1
      split at e
      · rename_i hlt
        have hji' : S1.next.length = n := by
          rw [hj.next]
          rcases Nat.lt_or_ge j n with h | h
          · have := hjs h; omega
          · omega
        split at e
        · cases e
        · rename_i y e2
          injection e with e
          subst e
          obtain ⟨c, S', row, h1, h2, h3⟩ := row_orphan e2
          rw [hji'] at h
          obtain ⟨h4, P', Q', h5⟩ := h.rowTo hlt (by omega) h2
          exact ⟨n, c, S', row, P', Q', h5, by omega, h1, h3⟩
        · cases e
      · cases e
    · rename_i y e1
      injection e with e
      subst e
      exact round_orphan hN e1
    · cases e
theorem sym_orphan {i c : Nat} {S : St} {row : List Int} {x : List Nat} (h : sym k N t stop i S row c = .orphan x) : nodesOf (beh k N t (S.sets.getD i []) c) = [] ∧ stop = true ∧ x = S.words.getD i [] ++ [c] := by
  unfold sym at h
  split at h
  · rename_i h1
    split at h
    · rename_i h2
      injection h with h
      exact ⟨h1, h2, h.symm⟩
    · cases h
  · split at h
    · cases h
    · split at h <;> cases h

/-! ### runs along words -/
/-- The nodes at which a word's preimages end. -/
def run (k N : Nat) (t w : List Nat) : List Bool := w.foldl (fun B c => beh k N t B c) (List.replicate N true)
theorem run_snoc (w : List Nat) (c : Nat) : run k N t (w ++ [c]) = beh k N t (run k N t w) c := by simp [run]
theorem sols_cons_ne {u c : Nat} {w : List Nat} : sols k N t u (c :: w) ≠ [] ↔ ∃ s, s < k ∧ t.getD (u * k + s) 0 = c ∧ sols k N t ((u * k + s) % N) w ≠ [] := by
  constructor
  · intro h
    obtain ⟨y, hy⟩ := List.exists_mem_of_ne_nil _ h
    simp only [sols, List.mem_flatMap, List.mem_range] at hy
    obtain ⟨s, hs, hy⟩ := hy
    split at hy
    · rename_i h1
      refine ⟨s, hs, h1, fun e => ?_⟩
      rw [e] at hy
      simp at hy
    · simp at hy
  · rintro ⟨s, hs, h1, h2⟩
    obtain ⟨y, hy⟩ := List.exists_mem_of_ne_nil _ h2
    refine List.ne_nil_of_mem (a := s :: y) ?_
    simp only [sols, List.mem_flatMap, List.mem_range]
    refine ⟨s, hs, ?_⟩
    rw [if_pos h1]
    exact List.mem_map_of_mem hy
theorem fold_sols (hN : 0 < N) : ∀ (w : List Nat) (B : List Bool), nodesOf (w.foldl (fun B c => beh k N t B c) B) ≠ [] ↔ ∃ u ∈ nodesOf B, sols k N t u w ≠ [] := by
  intro w
  induction w with
  | nil =>
    intro B
    constructor
    · intro h
      obtain ⟨u, hu⟩ := List.exists_mem_of_ne_nil _ h
      exact ⟨u, hu, by simp [sols]⟩
    · rintro ⟨u, hu, _⟩
      exact List.ne_nil_of_mem hu
  | cons c w ih =>
    intro B
    rw [List.foldl_cons, ih]
    constructor
    · rintro ⟨v, hv, hs⟩
      obtain ⟨u, hu, s, h1, h2, h3⟩ := mem_behF.1 ((mem_beh hN).1 hv)
      exact ⟨u, hu, sols_cons_ne.2 ⟨s, h1, h2, by rw [h3]; exact hs⟩⟩
    · rintro ⟨u, hu, hs⟩
      obtain ⟨s, h1, h2, h3⟩ := sols_cons_ne.1 hs
      exact ⟨_, (mem_beh hN).2 (mem_behF.2 ⟨u, hu, s, h1, h2, rfl⟩), h3⟩
theorem mem_all {u : Nat} : u ∈ nodesOf (List.replicate N true) ↔ u < N := by
  rw [mem_nodesOf, List.length_replicate, List.getD_eq_getElem?_getD, List.getElem?_replicate]
  constructor
  · exact fun h => h.1
  · intro h
    rw [if_pos h]
    exact ⟨h, rfl⟩
theorem run_sols (hN : 0 < N) (w : List Nat) : nodesOf (run k N t w) ≠ [] ↔ ∃ u, u < N ∧ sols k N t u w ≠ [] := by
  rw [run, fold_sols hN]
  constructor
  · rintro ⟨u, hu, h⟩; exact ⟨u, mem_all.1 hu, h⟩
  · rintro ⟨u, hu, h⟩; exact ⟨u, mem_all.2 hu, h⟩

/-- The shorter first, then by their numbers. -/
def Slt (k : Nat) (x y : List Nat) : Prop := x.length < y.length ∨ (x.length = y.length ∧ wval k x < wval k y)
theorem Slt.trans {x y z : List Nat} (h : Slt k x y) (h' : Slt k y z) : Slt k x z := by
  rcases h with h | ⟨h, h2⟩ <;> rcases h' with h' | ⟨h', h3⟩
  · exact .inl (by omega)
  · exact .inl (by omega)
  · exact .inl (by omega)
  · exact .inr ⟨by omega, by omega⟩
theorem Slt.asymm {x y : List Nat} (h : Slt k x y) (h' : Slt k y x) : False := by
  rcases h with h | ⟨h, h2⟩ <;> rcases h' with h' | ⟨h', h3⟩ <;> omega
theorem Slt.snoc {x y : List Nat} {a b : Nat} (h : Slt k x y) (ha : a < k) : Slt k (x ++ [a]) (y ++ [b]) := by
  rcases h with h | ⟨h, h2⟩
  · exact .inl (by simpa using h)
  · refine .inr ⟨by simpa using h, ?_⟩
    rw [wval_snoc, wval_snoc]
    have : (wval k x + 1) * k ≤ wval k y * k := Nat.mul_le_mul_right k h2
    rw [Nat.add_mul, Nat.one_mul] at this
    omega
theorem Slt.last {x : List Nat} {a b : Nat} (h : a < b) : Slt k (x ++ [a]) (x ++ [b]) := .inr ⟨by simp, by rw [wval_snoc, wval_snoc]; omega⟩
theorem Slt.of_last {x : List Nat} {a b : Nat} (h : Slt k (x ++ [a]) (x ++ [b])) : a < b := by
  rcases h with h | ⟨_, h⟩
  · simp at h
  · rw [wval_snoc, wval_snoc] at h; omega

theorem Inv2.word {P Q : Nat → Nat} {i c : Nat} {S : St} {row : List Int} (h : Inv2 k N t stop P Q i S row c) : ∀ n j, j ≤ n → j < S.sets.length → (∀ x ∈ S.words.getD j [], x < k) ∧ S.sets[j]? = some (run k N t (S.words.getD j [])) := by
  intro n
  induction n with
  | zero =>
    intro j hj hl
    obtain rfl : j = 0 := by omega
    rw [getD_of h.zerow]
    exact ⟨fun x hx => by simp at hx, h.zero⟩
  | succ n ih =>
    intro j hj hl
    rcases Nat.eq_zero_or_pos j with rfl | h0
    · rw [getD_of h.zerow]
      exact ⟨fun x hx => by simp at hx, h.zero⟩
    · obtain ⟨a, b, _, d, e, _⟩ := h.src j h0 hl
      obtain ⟨h1, h2⟩ := ih (P j) (by omega) (by omega)
      rw [getD_of d, run_snoc]
      refine ⟨fun x hx => ?_, ?_⟩
      · rcases List.mem_append.1 hx with hx | hx
        · exact h1 x hx
        · simp at hx; omega
      · rw [e, getD_of h2]
theorem Inv2.lt {P Q : Nat → Nat} {i c : Nat} {S : St} {row : List Int} (h : Inv2 k N t stop P Q i S row c) : ∀ n j j', j' ≤ n → j < j' → j' < S.sets.length → Slt k (S.words.getD j []) (S.words.getD j' []) := by
  intro n
  induction n with
  | zero => intro j j' h1 h2; omega
  | succ n ih =>
    intro j j' h1 h2 h3
    obtain ⟨a', b', _, d', _, _⟩ := h.src j' (by omega) h3
    rw [getD_of d']
    rcases Nat.eq_zero_or_pos j with rfl | h0
    · rw [getD_of h.zerow]
      exact .inl (by simp)
    · obtain ⟨a, b, _, d, _, _⟩ := h.src j h0 (by omega)
      rw [getD_of d]
      rcases h.ord j j' h0 h2 h3 with h4 | ⟨h4, h5⟩
      · exact (ih (P j) (P j') (by omega) h4 (by omega)).snoc a
      · rw [h4]; exact Slt.last h5

/-- Where a set leads: the state's word comes not behind the longer word. -/
theorem Inv2.leads {P Q : Nat → Nat} {i c : Nat} {S : St} {row : List Int} (h : Inv2 k N t stop P Q i S row c) (hs : stop = true) {j b : Nat} (hj : j < S.sets.length) (hb : b < k) (hp : PLt j b i c) :
    ∃ j', S.sets[j']? = some (beh k N t (S.sets.getD j []) b) ∧ (S.words.getD j' [] = S.words.getD j [] ++ [b] ∨ Slt k (S.words.getD j' []) (S.words.getD j [] ++ [b])) := by
  have hrow : ∃ x, (∃ r, r[b]? = some x ∧ RowOk k N t stop P Q S j r) := by
    rcases hp with hp | ⟨rfl, hp⟩
    · have hn : j < S.next.length := by rw [h.inv.next]; exact hp
      obtain ⟨h1, h2⟩ := h.done j _ (List.getElem?_eq_getElem hn)
      exact ⟨_, _, List.getElem?_eq_getElem (by omega), h2⟩
    · exact ⟨_, row, List.getElem?_eq_getElem (by rw [h.rlen]; exact hp), h.cur⟩
  obtain ⟨x, r, h1, h2⟩ := hrow
  rcases h2 b x h1 with ⟨_, _, h3⟩ | ⟨j', _, h4, h5⟩
  · rw [hs] at h3; cases h3
  · refine ⟨j', h4, ?_⟩
    have hl := (List.getElem?_eq_some_iff.1 h4).1
    rcases Nat.eq_zero_or_pos j' with rfl | h0
    · rw [getD_of h.zerow]
      exact .inr (.inl (by simp))
    · obtain ⟨a, _, _, d, _, _⟩ := h.src j' h0 hl
      rw [getD_of d]
      rcases h5 with h5 | h5 | ⟨h5, h6⟩
      · omega
      · exact .inr ((h.lt _ (P j') j (Nat.le_refl _) h5 hj).snoc a)
      · rw [h5]
        rcases Nat.lt_or_ge (Q j') b with h7 | h7
        · exact .inr (Slt.last h7)
        · exact .inl (by rw [show Q j' = b by omega])

/-- Every word that comes ahead of the first orphan leads to a state. -/
theorem Inv2.ahead {P Q : Nat → Nat} {i c : Nat} {S : St} {row : List Int} (h : Inv2 k N t stop P Q i S row c) (hs : stop = true) (hi : i < S.sets.length) (hc : c < k) : ∀ n (y : List Nat), y.length = n → (∀ x ∈ y, x < k) → Slt k y (S.words.getD i [] ++ [c]) →
    ∃ j, S.sets[j]? = some (run k N t y) ∧ (S.words.getD j [] = y ∨ Slt k (S.words.getD j []) y) := by
  intro n
  induction n with
  | zero =>
    intro y hy _ _
    obtain rfl := List.eq_nil_of_length_eq_zero hy
    exact ⟨0, h.zero, .inl (getD_of h.zerow)⟩
  | succ n ih =>
    intro y hy hyk hlt
    have hne : y ≠ [] := by intro e; subst e; simp at hy
    obtain ⟨z, b, rfl⟩ : ∃ z b, y = z ++ [b] := ⟨y.dropLast, y.getLast hne, (List.dropLast_concat_getLast hne).symm⟩
    have hzl : z.length = n := by simpa using hy
    have hbk : b < k := hyk b (by simp)
    have hzs : Slt k z (S.words.getD i [] ++ [c]) := by
      refine .inl ?_
      rcases hlt with h' | ⟨h', _⟩ <;> simp at h' ⊢ <;> omega
    obtain ⟨j, h1, h2⟩ := ih z hzl (fun x hx => hyk x (by simp [hx])) hzs
    have hj := (List.getElem?_eq_some_iff.1 h1).1
    have h3 : S.words.getD j [] ++ [b] = z ++ [b] ∨ Slt k (S.words.getD j [] ++ [b]) (z ++ [b]) := h2.imp (fun e => by rw [e]) (fun e => e.snoc hbk)
    have h4 : Slt k (S.words.getD j [] ++ [b]) (S.words.getD i [] ++ [c]) := by
      rcases h3 with h3 | h3
      · rw [h3]; exact hlt
      · exact h3.trans hlt
    have hp : PLt j b i c := by
      rcases Nat.lt_trichotomy j i with h5 | h5 | h5
      · exact .inl h5
      · subst h5; exact .inr ⟨rfl, h4.of_last⟩
      · exact absurd ((h.lt _ i j (Nat.le_refl _) h5 hj).snoc hc) (fun h' => h'.asymm h4)
    obtain ⟨j', h5, h6⟩ := h.leads hs hj hbk hp
    refine ⟨j', by rw [run_snoc, h5, getD_of h1], ?_⟩
    rcases h6 with h6 | h6
    · rw [h6]; exact h3
    · rcases h3 with h3 | h3
      · rw [← h3]; exact .inr h6
      · exact .inr (h6.trans h3)
theorem ahead_some {P Q : Nat → Nat} {i c : Nat} {S : St} {row : List Int} (h : Inv2 k N t stop P Q i S row c) (hs : stop = true) (hi : i < S.sets.length) (hc : c < k) {y : List Nat} (hy : ∀ x ∈ y, x < k) (hlt : Slt k y (S.words.getD i [] ++ [c])) : nodesOf (run k N t y) ≠ [] := by
  obtain ⟨j, h1, _⟩ := h.ahead hs hi hc _ y rfl hy hlt
  exact h.inv.some _ (List.mem_of_getElem? h1)

/-- The orphan that the walk finds: no nodes behind it, but behind each word ahead of it. -/
theorem fin_orphan (hN : 0 < N) {x : List Nat} (h : fin k N t true = .orphan x) : (∀ s ∈ x, s < k) ∧ x ≠ [] ∧ nodesOf (run k N t x) = [] ∧ ∀ y : List Nat, (∀ s ∈ y, s < k) → Slt k y x → nodesOf (run k N t y) ≠ [] := by
  obtain ⟨i, c, S, row, P, Q, h1, hi, hc, h2⟩ := round_orphan hN h
  obtain ⟨h3, h4, rfl⟩ := sym_orphan h2
  obtain ⟨h5, h6⟩ := h1.word i i (Nat.le_refl _) hi
  refine ⟨fun s hs => ?_, by simp, ?_, fun y hy hlt => ahead_some h1 rfl hi hc hy hlt⟩
  · rcases List.mem_append.1 hs with hs | hs
    · exact h5 s hs
    · simp at hs; omega
  · rw [run_snoc, ← getD_of (d := []) h6]; exact h3
/-- Where the walk ends without an orphan each word leads to a state. -/
theorem fin_all (hN : 0 < N) {S : St} {row : List Int} (h : fin k N t true = .go S row) : ∀ n (y : List Nat), y.length = n → (∀ s ∈ y, s < k) → ∃ j : Nat, S.sets[j]? = some (run k N t y) := by
  obtain ⟨_, _, P, Q, hinv⟩ := fin_inv hN h
  intro n
  induction n with
  | zero =>
    intro y hy _
    obtain rfl := List.eq_nil_of_length_eq_zero hy
    exact ⟨0, hinv.zero⟩
  | succ n ih =>
    intro y hy hyk
    have hne : y ≠ [] := by intro e; subst e; simp at hy
    obtain ⟨z, b, rfl⟩ : ∃ z b, y = z ++ [b] := ⟨y.dropLast, y.getLast hne, (List.dropLast_concat_getLast hne).symm⟩
    obtain ⟨j, h1⟩ := ih z (by simpa using hy) (fun x hx => hyk x (by simp [hx]))
    have hj := (List.getElem?_eq_some_iff.1 h1).1
    obtain ⟨j', h2, _⟩ := hinv.leads rfl hj (hyk b (by simp)) (.inl hj)
    exact ⟨j', by rw [run_snoc, h2, getD_of h1]⟩
theorem fin_yes (hN : 0 < N) {S : St} {row : List Int} (h : fin k N t true = .go S row) {y : List Nat} (hy : ∀ s ∈ y, s < k) : nodesOf (run k N t y) ≠ [] := by
  obtain ⟨_, _, P, Q, hinv⟩ := fin_inv hN h
  obtain ⟨j, hj⟩ := fin_all hN h _ y rfl hy
  exact hinv.inv.some _ (List.mem_of_getElem? hj)
theorem fill_next {row : List Int} {k s : Nat} (hl : row.length = s) (hs : s < k) (x : Int) : (row ++ List.replicate (k - s) 0).set s x = (row ++ [x]) ++ List.replicate (k - (s + 1)) 0 := by
  rw [List.set_append_right _ _ (by omega), hl, Nat.sub_self, show k - s = (k - (s + 1)) + 1 by omega, List.replicate_succ]
  simp
theorem sym_none {k N : Nat} {t : List Nat} {stop : Bool} {i s : Nat} {S : St} {row : List Int} (h : nodesOf (beh k N t (S.sets.getD i []) s) = []) (hs : stop = false) : sym k N t stop i S row s = .go S (row ++ [-1]) := by
  unfold sym; rw [if_pos h, if_neg (by rw [hs]; simp)]
theorem sym_orph {k N : Nat} {t : List Nat} {stop : Bool} {i s : Nat} {S : St} {row : List Int} (h : nodesOf (beh k N t (S.sets.getD i []) s) = []) (hs : stop = true) : sym k N t stop i S row s = .orphan (S.words.getD i [] ++ [s]) := by
  unfold sym; rw [if_pos h, if_pos hs]
theorem sym_old {k N : Nat} {t : List Nat} {stop : Bool} {i s : Nat} {S : St} {row : List Int} (h : nodesOf (beh k N t (S.sets.getD i []) s) ≠ []) (hm : beh k N t (S.sets.getD i []) s ∈ S.sets) : sym k N t stop i S row s = .go S (row ++ [((S.sets.idxOf (beh k N t (S.sets.getD i []) s) : Nat) : Int)]) := by
  unfold sym; rw [if_neg h, if_pos hm]
theorem sym_full {k N : Nat} {t : List Nat} {stop : Bool} {i s : Nat} {S : St} {row : List Int} (h : nodesOf (beh k N t (S.sets.getD i []) s) ≠ []) (hm : beh k N t (S.sets.getD i []) s ∉ S.sets) (hl : 4096 ≤ S.sets.length) : sym k N t stop i S row s = .over := by
  unfold sym; rw [if_neg h, if_neg hm, if_pos hl]
theorem sym_new {k N : Nat} {t : List Nat} {stop : Bool} {i s : Nat} {S : St} {row : List Int} (h : nodesOf (beh k N t (S.sets.getD i []) s) ≠ []) (hm : beh k N t (S.sets.getD i []) s ∉ S.sets) (hl : S.sets.length < 4096) :
    sym k N t stop i S row s = .go ⟨S.sets ++ [beh k N t (S.sets.getD i []) s], S.words ++ [S.words.getD i [] ++ [s]], S.next⟩ (row ++ [((S.sets.length : Nat) : Int)]) := by
  unfold sym; rw [if_neg h, if_neg hm, if_neg (by omega)]

theorem Inv2_wlen {k N : Nat} {t : List Nat} {stop : Bool} {P Q : Nat → Nat} {i c : Nat} {S : St} {row : List Int} (h : Inv2 k N t stop P Q i S row c) : ∀ n j, j ≤ n → j < S.sets.length → (S.words.getD j []).length ≤ j := by
  intro n
  induction n with
  | zero =>
    intro j hj hl
    obtain rfl : j = 0 := by omega
    rw [getD_of h.zerow]
    exact Nat.le_refl _
  | succ n ih =>
    intro j hj hl
    rcases Nat.eq_zero_or_pos j with rfl | h0
    · rw [getD_of h.zerow]; exact Nat.le_refl _
    · obtain ⟨a, b, _, d, _, _⟩ := h.src j h0 hl
      have := ih (P j) (by omega) (by omega)
      rw [getD_of d, List.length_append, List.length_singleton]
      omega
/-- What holds ahead of symbol s of round i. -/
theorem row_inv {k N : Nat} {t : List Nat} {stop : Bool} {i s : Nat} {S S' : St} {row : List Int} (hN : 0 < N) (hr : roundTo k N t stop i = .go S []) (hI : Inv N i S) (hi : i < S.sets.length) (hs : s ≤ k) (h : rowTo k N t stop i S s = .go S' row) :
    Inv N i S' ∧ row.length = s ∧ i < S'.sets.length ∧ (S'.words.getD i []).length ≤ 4096 := by
  obtain ⟨P, Q, h2⟩ := Inv2.round hN hr
  rw [hI.next] at h2
  obtain ⟨h3, P', Q', h4⟩ := h2.rowTo hi hs h
  have h5 := Inv2_wlen h4 i i (Nat.le_refl _) (by omega)
  have := h4.inv.big
  exact ⟨h4.inv, h4.rlen, by omega, by omega⟩

end SubP
end Go.Proofs.YtibplgpolmplpaaGreatDoor

namespace Go.Proofs.YtibplgpolmplpaaGreatDoor
open BagP RuleP
namespace SubP
variable {k N : Nat} {t : List Nat}

structure RowsOk (k N : Nat) (t : List Nat) (S : St) : Prop where
  len : S.next.length = S.sets.length
  row : ∀ (i : Nat) r, S.next[i]? = some r → r.length = k
  set : ∀ B ∈ S.sets, B.length = N ∧ nodesOf B ≠ []
  zero : S.sets[0]? = some (List.replicate N true)
  to : ∀ (i s : Nat) r x, S.next[i]? = some r → r[s]? = some x → (x = -1 ∧ nodesOf (beh k N t (S.sets.getD i []) s) = []) ∨ ∃ j : Nat, x = (j : Int) ∧ j < S.sets.length ∧ S.sets[j]? = some (beh k N t (S.sets.getD i []) s)
  src : ∀ j, 0 < j → j < S.sets.length → ∃ i s r, i < j ∧ s < k ∧ S.next[i]? = some r ∧ r[s]? = some (j : Int)
theorem RowsOk.pos {S : St} (h : RowsOk k N t S) : 0 < S.sets.length := (List.getElem?_eq_some_iff.1 h.zero).1
/-- Marked are state 0 and all to which the rows ahead of row i lead, and row i's first s symbols. -/
structure Seen (S : St) (i s : Nat) (L : List Bool) : Prop where
  len : L.length = S.sets.length
  zero : L[0]? = some true
  all : ∀ (i' s' : Nat) r (j : Nat), (i' < i ∨ (i' = i ∧ s' < s)) → S.next[i']? = some r → r[s']? = some (j : Int) → L[j]? = some true
theorem Seen.start {S : St} (h : RowsOk k N t S) : Seen S 0 0 ((List.replicate S.sets.length false).set 0 true) where
  len := by simp
  zero := by
    rw [List.getElem?_set_self (by have := h.pos; simpa using this)]
  all := fun i' s' r j hp => by omega
theorem Seen.at_ {S : St} {i : Nat} {L : List Bool} (h : RowsOk k N t S) (hs : Seen S i 0 L) (hi : i < S.sets.length) : L[i]? = some true := by
  rcases Nat.eq_zero_or_pos i with rfl | h0
  · exact hs.zero
  · obtain ⟨i', s, r, h1, _, h3, h4⟩ := h.src i h0 hi
    exact hs.all i' s r i (.inl h1) h3 h4
theorem Seen.none {S : St} {i s : Nat} {L : List Bool} {r : List Int} {x : Int} (hs : Seen S i s L) (hr : S.next[i]? = some r) (hx : r[s]? = some x) (hn : x < 0) : Seen S i (s + 1) L where
  len := hs.len
  zero := hs.zero
  all := fun i' s' r' j hp hr' hx' => by
    by_cases e : i' = i ∧ s' = s
    · obtain ⟨rfl, rfl⟩ := e
      rw [hr] at hr'
      cases hr'
      rw [hx] at hx'
      cases hx'
      omega
    · exact hs.all i' s' r' j (by omega) hr' hx'
theorem Seen.put {S : St} {i s q : Nat} {L : List Bool} {r : List Int} (hs : Seen S i s L) (hr : S.next[i]? = some r) (hx : r[s]? = some (q : Int)) (hq : q < S.sets.length) : Seen S i (s + 1) (L.set q true) where
  len := by simp [hs.len]
  zero := by
    by_cases e : q = 0
    · subst e; rw [List.getElem?_set_self (by rw [hs.len]; exact hq)]
    · rw [List.getElem?_set_ne e]; exact hs.zero
  all := fun i' s' r' j hp hr' hx' => by
    by_cases e : q = j
    · subst e; rw [List.getElem?_set_self (by rw [hs.len]; exact hq)]
    · rw [List.getElem?_set_ne e]
      refine hs.all i' s' r' j ?_ hr' hx'
      by_cases e' : i' = i ∧ s' = s
      · obtain ⟨rfl, rfl⟩ := e'
        rw [hr] at hr'
        cases hr'
        rw [hx] at hx'
        cases hx'
        exact absurd rfl e
      · omega
theorem Seen.row {S : St} {i : Nat} {L : List Bool} (h : RowsOk k N t S) (hs : Seen S i k L) : Seen S (i + 1) 0 L where
  len := hs.len
  zero := hs.zero
  all := fun i' s' r' j hp hr' hx' => by
    refine hs.all i' s' r' j ?_ hr' hx'
    have h1 := h.row i' r' hr'
    have h2 := (List.getElem?_eq_some_iff.1 hx').1
    omega
end SubP
end Go.Proofs.YtibplgpolmplpaaGreatDoor

namespace Go.Proofs.YtibplgpolmplpaaGreatDoor
open Go.RowKit RuleP

namespace RuleP
/-- By the first place that differs. -/
def cmpL : List Nat → List Nat → Int
  | x :: a, y :: b => if x < y then -1 else if y < x then 1 else cmpL a b
  | _, _ => 0
theorem cmpL_drop {a b : List Nat} {i : Nat} (ha : i < a.length) (hb : i < b.length) : cmpL (a.drop i) (b.drop i) = if a.getD i 0 < b.getD i 0 then -1 else if b.getD i 0 < a.getD i 0 then 1 else cmpL (a.drop (i + 1)) (b.drop (i + 1)) := by
  rw [List.drop_eq_getElem_cons ha, List.drop_eq_getElem_cons hb, cmpL]
  simp only [List.getD_eq_getElem?_getD, List.getElem?_eq_getElem ha, List.getElem?_eq_getElem hb, Option.getD_some]
theorem cmpL_end {a b : List Nat} : cmpL (a.drop a.length) (b.drop a.length) = 0 := by
  rw [List.drop_length]
  simp [cmpL]
theorem wval_cons (k x : Nat) (a : List Nat) : wval k (x :: a) = x * k ^ a.length + wval k a := by
  have := wval_append k [x] a
  simpa [wval] using this
/-- Of words of one length: as their numbers. -/
theorem cmpL_lt {k : Nat} : ∀ {a b : List Nat}, a.length = b.length → (∀ x ∈ a, x < k) → (∀ x ∈ b, x < k) → wval k a < wval k b → cmpL a b = -1
  | [], [], _, _, _, h => by simp [wval] at h
  | [], _ :: _, h, _, _, _ => by simp at h
  | _ :: _, [], h, _, _, _ => by simp at h
  | x :: a, y :: b, hl, ha, hb, h => by
    have hl' : a.length = b.length := by simpa using hl
    have h1 := wval_lt (k := k) (w := a) (fun z hz => ha z (by simp [hz]))
    have h2 := wval_lt (k := k) (w := b) (fun z hz => hb z (by simp [hz]))
    rw [wval_cons, wval_cons, hl'] at h
    rw [hl'] at h1
    rw [cmpL]
    rcases Nat.lt_trichotomy x y with hxy | hxy | hxy
    · rw [if_pos hxy]
    · subst hxy
      rw [if_neg (by omega), if_neg (by omega)]
      exact cmpL_lt hl' (fun z hz => ha z (by simp [hz])) (fun z hz => hb z (by simp [hz])) (by omega)
    · have : (y + 1) * k ^ b.length ≤ x * k ^ b.length := Nat.mul_le_mul_right _ hxy
      rw [Nat.add_mul, Nat.one_mul] at this
      omega
end RuleP

theorem cmpI_c (w : World) (a b : Nat) : Calls Tryz.prog 44 #[.int .i64 (a : Int), .int .i64 (b : Int)] w fun e w' => e = .returned (.int .i64 (if a < b then -1 else if b < a then 1 else 0)) ∧ w = w' := by
  rcases Nat.lt_trichotomy a b with h | h | h
  · have c1 : decide ((a : Int) < (b : Int)) = true := decide_eq_true (by omega)
    rw [if_pos h]
    go_enter Tryz.func44, Tryz.ntmps44
    go_wp2
    go_ret
    exact ⟨rfl, rfl⟩
  · subst h
    rw [if_neg (Nat.lt_irrefl _), if_neg (Nat.lt_irrefl _)]
    go_enter Tryz.func44, Tryz.ntmps44
    go_wp2
    go_ret
    exact ⟨rfl, rfl⟩
  · have c1 : decide ((a : Int) < (b : Int)) = false := decide_eq_false (by omega)
    have c2 : decide ((b : Int) < (a : Int)) = true := decide_eq_true (by omega)
    have c3 : ¬ a < b := by omega
    rw [if_neg c3, if_pos h]
    go_enter Tryz.func44, Tryz.ntmps44
    go_wp2
    go_ret
    exact ⟨rfl, rfl⟩

set_option maxRecDepth 100000 in
theorem cmpS_c (w : World) (A B : Option Addr) (n c d : Nat) (a b : List Nat) (hA : Sl w A n ((ints a).map (Value.int .i64))) (hB : Sl w B n ((ints b).map (Value.int .i64))) (hn : n ≤ 9223372036854775807) :
    Calls Tryz.prog 45 #[.slice A n c, .slice B n d] w fun e w' => e = .returned (.int .i64 (cmpL a b)) ∧ w = w' := by
  have hla : a.length = n := by simpa [ints] using hA.1
  have hlb : b.length = n := by simpa [ints] using hB.1
  rw [ints_map] at hA hB
  have HA := Lib.hid hA
  have HB := Lib.hid hB
  have HLA := Lib.hid hla
  have HLB := Lib.hid hlb
  clear hla hlb hA hB
  go_enter Tryz.func45, Tryz.ntmps45
  go_wp2_with fail
  go_loop [11] (fun i => ∃ j : Nat, j ≤ n ∧ i = .int .i64 (j : Int) ∧ Hid (cmpL a b = cmpL (a.drop j) (b.drop j))) (fun i => n - (intOf i).toNat)
  case atStart => exact ⟨0, Nat.zero_le _, rfl, Lib.hid (by simp)⟩
  case round =>
    obtain ⟨j, hj, rfl, hI⟩ := hrel
    by_cases hlt : j < n
    · obtain ⟨ad, x, rfl, hx, hc⟩ := HA.out.word_ hlt
      obtain ⟨ad2, y, rfl, hy, hc2⟩ := HB.out.word_ hlt
      have hstep := cmpL_drop (a := a) (b := b) (i := j) (by rw [HLA.out]; exact hlt) (by rw [HLB.out]; exact hlt)
      rw [List.getD_eq_getElem?_getD, hx, List.getD_eq_getElem?_getD, hy, ← hI.out] at hstep
      simp only [Option.getD_some] at hstep
      have HS := Lib.hid hstep
      have HC := Lib.hid (cmpI_c w x y)
      have hnj : decide ((n : Int) ≤ (j : Int)) = false := decide_eq_false (by omega)
      clear hstep hx hy
      rcases Nat.lt_trichotomy x y with h | h | h
      · have hv : Hid (cmpL a b = -1) := Lib.hid (by rw [HS.out, if_pos h])
        rw [if_pos h] at HC
        clear h
        go_wp2_with fail
        refine (HC.out).mono ?_
        rintro e w' ⟨rfl, rfl⟩
        go_wp2_with fail
        go_ret
        exact ⟨by rw [hv.out]; rfl, rfl⟩
      · subst h
        have hv : Hid (cmpL a b = cmpL (a.drop (j + 1)) (b.drop (j + 1))) := Lib.hid (by rw [HS.out, if_neg (Nat.lt_irrefl _), if_neg (Nat.lt_irrefl _)])
        rw [if_neg (Nat.lt_irrefl _), if_neg (Nat.lt_irrefl _)] at HC
        go_wp2_with fail
        refine (HC.out).mono ?_
        rintro e w' ⟨rfl, rfl⟩
        go_wp2_with fail
        exact ⟨⟨j + 1, by omega, by go_num, hv⟩, by simp [intOf]; omega⟩
      · have hv : Hid (cmpL a b = 1) := Lib.hid (by rw [HS.out, if_neg (by omega), if_pos h])
        rw [if_neg (by omega), if_pos h] at HC
        clear h
        go_wp2_with fail
        refine (HC.out).mono ?_
        rintro e w' ⟨rfl, rfl⟩
        go_wp2_with fail
        go_ret
        exact ⟨by rw [hv.out]; rfl, rfl⟩
    · obtain rfl : j = n := by omega
      have hv : Hid (cmpL a b = 0) := Lib.hid (by rw [hI.out, ← HLA.out]; exact cmpL_end)
      go_wp2_with fail
      go_ret
      exact ⟨by rw [hv.out]; rfl, rfl⟩

set_option maxRecDepth 100000 in
theorem or_c (w : World) (g : Nat) (x : Int) (h0 : w.cell? ⟨g, 0, none⟩ = some (.int .i64 0)) (h1 : w.cell? ⟨g, 1, none⟩ = some (.int .i64 x)) (hx : x = -1 ∨ x = 0 ∨ x = 1) :
    Calls Tryz.prog 43 #[.slice (some ⟨g, 0, none⟩) 2 2] w fun e w' => e = .returned (.int .i64 x) ∧ w = w' := by
  by_cases h : x = 0
  · subst h
    go_enter Tryz.func43, Tryz.ntmps43
    go_wp2_with fail
    go_loop [8] (fun i => ∃ j : Nat, j ≤ 2 ∧ i = .int .i64 (j : Int)) (fun i => 2 - (intOf i).toNat)
    case atStart => exact ⟨0, Nat.zero_le _, rfl⟩
    case round =>
      obtain ⟨j, hj, rfl⟩ := hrel
      have hjj : j = 0 ∨ j = 1 ∨ j = 2 := by omega
      rcases hjj with rfl | rfl | rfl
      · go_wp2_with fail
        exact ⟨⟨1, by decide, rfl⟩, by decide⟩
      · go_wp2_with fail
        exact ⟨⟨2, by decide, rfl⟩, by decide⟩
      · go_wp2_with fail
        go_ret
        exact ⟨rfl, rfl⟩
  · have hx0 : (x != 0) = true := by simpa using h
    clear hx
    go_enter Tryz.func43, Tryz.ntmps43
    go_wp2_with fail
    go_loop [8] (fun i => ∃ j : Nat, j ≤ 1 ∧ i = .int .i64 (j : Int)) (fun i => 2 - (intOf i).toNat)
    case atStart => exact ⟨0, Nat.zero_le _, rfl⟩
    case round =>
      obtain ⟨j, hj, rfl⟩ := hrel
      have hjj : j = 0 ∨ j = 1 := by omega
      rcases hjj with rfl | rfl
      · go_wp2_with fail
        exact ⟨⟨1, by decide, rfl⟩, by decide⟩
      · go_wp2_with fail
        go_ret
        exact ⟨rfl, rfl⟩
theorem cmpL_range : ∀ (a b : List Nat), cmpL a b = -1 ∨ cmpL a b = 0 ∨ cmpL a b = 1
  | [], _ => by simp [cmpL]
  | _ :: _, [] => by simp [cmpL]
  | x :: a, y :: b => by
    rw [cmpL]
    split
    · exact Or.inl rfl
    · split
      · exact Or.inr (Or.inr rfl)
      · exact cmpL_range a b

set_option maxRecDepth 100000 in
/-- Words of one length. -/
theorem wordCmp_c (w : World) (A B : Option Addr) (n c d : Nat) (a b : List Nat) (hA : Sl w A n ((ints a).map (Value.int .i64))) (hB : Sl w B n ((ints b).map (Value.int .i64))) (hn : n ≤ 9223372036854775807) :
    Calls Tryz.prog 16 #[.slice A n c, .slice B n d] w fun e w' => e = .returned (.int .i64 (cmpL a b)) ∧ Below w.heap.size w w' := by
  have h1 := cmpI_c w n n
  rw [if_neg (Nat.lt_irrefl _), if_neg (Nat.lt_irrefl _)] at h1
  have H1 := Lib.hid h1
  have H2 := Lib.hid (cmpS_c w A B n c d a b hA hB hn)
  have hr := cmpL_range a b
  obtain ⟨x, hx⟩ : ∃ x, cmpL a b = x := ⟨_, rfl⟩
  rw [hx] at hr H2 ⊢
  have hb := (Below.refl w.heap.size w).alloc (Nat.le_refl _) (.cells #[.int .i64 0, .int .i64 x] 3)
  have h0 := heap_new w (.cells #[.int .i64 0, .int .i64 x] 3)
  have H3 := Lib.hid (or_c (w.alloc (.cells #[.int .i64 0, .int .i64 x] 3)) w.heap.size x ((cell_of_row _ w.heap.size 0 _ _ _ h0).trans rfl) ((cell_of_row _ w.heap.size 1 _ _ _ h0).trans rfl) hr)
  have HB := Lib.hid hb
  clear h1 hx hr h0 hb hA hB
  go_enter Tryz.func16, Tryz.ntmps16
  go_wp2_with fail
  refine (H1.out).mono ?_
  rintro e w1 ⟨rfl, rfl⟩
  go_wp2_with fail
  refine (H2.out).mono ?_
  rintro e w1 ⟨rfl, rfl⟩
  go_wp2_with fail
  refine (H3.out).mono ?_
  rintro e w1 ⟨rfl, rfl⟩
  go_wp2_with fail
  go_ret
  exact ⟨rfl, HB.out⟩
end Go.Proofs.YtibplgpolmplpaaGreatDoor
