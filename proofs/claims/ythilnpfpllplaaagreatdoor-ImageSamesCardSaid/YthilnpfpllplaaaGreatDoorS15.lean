/- What the walk over the subsets has found: each state's set, word and row; runs along words; the first orphan comes ahead of all. Plain lists, no program. No condition. A list filled to a place. Plain lemmas. No condition. The package's name in errors. No condition. What the rows' listed error variables give a walk: each holds an error of its own. Condition: the row's list. -/
import Derived.Test.YthilnpfpllplaaaGreatDoorRows
import Derived.LaidLaws
import Derived.LaidSub
import Derived.Test.YthilnpfpllplaaaGreatDoorS2
import Derived.Test.YthilnpfpllplaaaGreatDoorS4
import Derived.Test.YthilnpfpllplaaaGreatDoorS6
namespace Go.Proofs.YthilnpfpllplaaaGreatDoor
open BagP RuleP
namespace SubP

variable {k N : Nat} {t : List Nat} {stop : Bool}

/-- Pairs (state, symbol) in the walk's order. -/
def PLt (p q p' q' : Nat) : Prop := p < p' ∨ (p = p' ∧ q < q')
/-- A row of state i tells where its symbols lead. -/
def RowOk (k N : Nat) (t : List Nat) (stop : Bool) (P Q : Nat → Nat) (S : St) (i : Nat) (row : List Int) : Prop :=
  ∀ (s : Nat) (x : Int), row[s]? = some x → (nodesOf (beh k N t (S.sets.getD i []) s) = [] ∧ x = -1 ∧ stop = false) ∨
    ∃ j : Nat, x = (j : Int) ∧ S.sets[j]? = some (beh k N t (S.sets.getD i []) s) ∧ (j = 0 ∨ P j < i ∨ (P j = i ∧ Q j ≤ s))
structure Inv2 (k N : Nat) (t : List Nat) (stop : Bool) (P Q : Nat → Nat) (i : Nat) (S : St) (row : List Int) (c : Nat) : Prop where
  inv : Inv N i S
  rlen : row.length = c
  zero : S.sets[0]? = some (List.replicate N true)
  zerow : S.words[0]? = some []
  done : ∀ (i' : Nat) r, S.next[i']? = some r → r.length = k ∧ RowOk k N t stop P Q S i' r
  cur : RowOk k N t stop P Q S i row
  src : ∀ j, 0 < j → j < S.sets.length → Q j < k ∧ P j < j ∧ PLt (P j) (Q j) i c ∧ S.words[j]? = some (S.words.getD (P j) [] ++ [Q j]) ∧ S.sets[j]? = some (beh k N t (S.sets.getD (P j) []) (Q j)) ∧
    ((∃ r, S.next[P j]? = some r ∧ r[Q j]? = some (j : Int)) ∨ (P j = i ∧ row[Q j]? = some (j : Int)))
  ord : ∀ j j', 0 < j → j < j' → j' < S.sets.length → PLt (P j) (Q j) (P j') (Q j')

theorem Inv2.start (hN : 0 < N) : Inv2 k N t stop (fun _ => 0) (fun _ => 0) 0 (init N) [] 0 where
  inv := Inv.init hN
  rlen := rfl
  zero := rfl
  zerow := rfl
  done := fun i' r h => by simp [init] at h
  cur := fun s x h => by simp at h
  src := fun j h1 h2 => by simp [init] at h2; omega
  ord := fun j j' h1 h2 h3 => by simp [init] at h3; omega

/-- A row one symbol longer. -/
theorem RowOk.snoc {P Q : Nat → Nat} {S : St} {i : Nat} {row : List Int} {x : Int} (h : RowOk k N t stop P Q S i row)
    (hx : (nodesOf (beh k N t (S.sets.getD i []) row.length) = [] ∧ x = -1 ∧ stop = false) ∨ ∃ j : Nat, x = (j : Int) ∧ S.sets[j]? = some (beh k N t (S.sets.getD i []) row.length) ∧ (j = 0 ∨ P j < i ∨ (P j = i ∧ Q j ≤ row.length))) :
    RowOk k N t stop P Q S i (row ++ [x]) := fun s y hy => by
  rcases get_snoc hy with hy | ⟨rfl, rfl⟩
  · exact h s y hy
  · exact hx
theorem Inv2.longer {P Q : Nat → Nat} {i c : Nat} {S : St} {row : List Int} {x : Int} (h : Inv2 k N t stop P Q i S row c) (hc : RowOk k N t stop P Q S i (row ++ [x])) : Inv2 k N t stop P Q i S (row ++ [x]) (c + 1) where
  inv := h.inv
  rlen := by simp [h.rlen]
  zero := h.zero
  zerow := h.zerow
  done := h.done
  cur := hc
  src := fun j h1 h2 => by
    obtain ⟨a, b, c', d, e, f⟩ := h.src j h1 h2
    refine ⟨a, b, ?_, d, e, f.imp id (fun f => ⟨f.1, get_app f.2⟩)⟩
    rcases c' with c' | ⟨c1, c2⟩
    · exact .inl c'
    · exact .inr ⟨c1, by omega⟩
  ord := h.ord

theorem Inv2.sym {P Q : Nat → Nat} {i c : Nat} {S S' : St} {row row' : List Int} (h : Inv2 k N t stop P Q i S row c) (hi : i < S.sets.length) (hc : c < k) (e : sym k N t stop i S row c = .go S' row') :
    ∃ P' Q', Inv2 k N t stop P' Q' i S' row' (c + 1) := by
  have hinv := (h.inv.sym e).1
  unfold SubP.sym at e
  split at e
  · rename_i h1
    split at e
    · cases e
    · rename_i h2
      injection e with e1 e2
      subst e1 e2
      exact ⟨P, Q, h.longer (h.cur.snoc (.inl ⟨by rw [h.rlen]; exact h1, rfl, by simpa using h2⟩))⟩
  · rename_i h1
    split at e
    · rename_i h2
      injection e with e1 e2
      subst e1 e2
      have hlt := List.idxOf_lt_length_of_mem h2
      have hat : S.sets[S.sets.idxOf (beh k N t (S.sets.getD i []) c)]? = some (beh k N t (S.sets.getD i []) c) := by rw [List.getElem?_eq_getElem hlt]; simp
      refine ⟨P, Q, h.longer (h.cur.snoc (.inr ⟨_, rfl, by rw [h.rlen]; exact hat, ?_⟩))⟩
      rcases Nat.eq_zero_or_pos (S.sets.idxOf (beh k N t (S.sets.getD i []) c)) with h0 | h0
      · exact .inl h0
      · obtain ⟨_, _, h3, _⟩ := h.src _ h0 hlt
        rcases h3 with h3 | ⟨h3, h4⟩
        · exact .inr (.inl h3)
        · exact .inr (.inr ⟨h3, by rw [h.rlen]; omega⟩)
    · rename_i h2
      split at e
      · cases e
      · rename_i h3
        injection e with e1 e2
        subst e1 e2
        have hlen := h.inv.len
        have hne : ∀ {j}, j < S.sets.length → j ≠ S.sets.length := fun h => by omega
        let P' : Nat → Nat := fun x => if x = S.sets.length then i else P x
        let Q' : Nat → Nat := fun x => if x = S.sets.length then c else Q x
        have pO : ∀ {j}, j < S.sets.length → P' j = P j := fun h => if_neg (hne h)
        have qO : ∀ {j}, j < S.sets.length → Q' j = Q j := fun h => if_neg (hne h)
        have pN : P' S.sets.length = i := if_pos rfl
        have qN : Q' S.sets.length = c := if_pos rfl
        have rowO : ∀ {i' : Nat} {r : List Int}, i' < S.sets.length → RowOk k N t stop P Q S i' r → RowOk k N t stop P' Q' ⟨S.sets ++ [beh k N t (S.sets.getD i []) c], S.words ++ [S.words.getD i [] ++ [c]], S.next⟩ i' r := fun {i'} {r} hi' hr s x hx => by
          show (nodesOf (beh k N t ((S.sets ++ _).getD i' []) s) = [] ∧ _) ∨ _
          rw [getD_app hi']
          rcases hr s x hx with h4 | ⟨j, h4, h5, h6⟩
          · exact .inl h4
          · have hj := (List.getElem?_eq_some_iff.1 h5).1
            refine .inr ⟨j, h4, get_app h5, ?_⟩
            rw [pO hj, qO hj]
            exact h6
        refine ⟨P', Q', ⟨hinv, by simp [h.rlen], get_app h.zero, get_app h.zerow, fun i' r hr => ?_, ?_, fun j h4 h5 => ?_, fun j j' h4 h5 h6 => ?_⟩⟩
        · obtain ⟨a, b⟩ := h.done i' r hr
          have hi' : i' < S.sets.length := by
            have h7 : i' < S.next.length := (List.getElem?_eq_some_iff.1 hr).1
            have h8 := h.inv.next
            omega
          exact ⟨a, rowO hi' b⟩
        · refine (rowO hi h.cur).snoc (.inr ⟨S.sets.length, rfl, ?_, .inr (.inr ⟨pN, by rw [qN, h.rlen]; exact Nat.le_refl _⟩)⟩)
          show (S.sets ++ _)[S.sets.length]? = some (beh k N t ((S.sets ++ _).getD i []) row.length)
          rw [get_last, getD_app hi, h.rlen]
        · have h5' : j < S.sets.length + 1 := by simpa using h5
          show Q' j < k ∧ P' j < j ∧ PLt (P' j) (Q' j) i (c + 1) ∧ (S.words ++ [S.words.getD i [] ++ [c]])[j]? = some ((S.words ++ [S.words.getD i [] ++ [c]]).getD (P' j) [] ++ [Q' j]) ∧
            (S.sets ++ [beh k N t (S.sets.getD i []) c])[j]? = some (beh k N t ((S.sets ++ [beh k N t (S.sets.getD i []) c]).getD (P' j) []) (Q' j)) ∧ _
          rcases Nat.lt_or_ge j S.sets.length with hlt | hge
          · obtain ⟨a, b, c', d, e, f⟩ := h.src j h4 hlt
            rw [pO hlt, qO hlt, getD_app (by omega), getD_app (by omega)]
            refine ⟨a, b, ?_, get_app d, get_app e, f.imp id (fun f => ⟨f.1, get_app f.2⟩)⟩
            rcases c' with c' | ⟨c1, c2⟩
            · exact .inl c'
            · exact .inr ⟨c1, by omega⟩
          · obtain rfl : j = S.sets.length := by omega
            rw [pN, qN, getD_app (by omega), getD_app hi, get_last]
            refine ⟨hc, hi, .inr ⟨rfl, by omega⟩, ?_, rfl, .inr ⟨rfl, ?_⟩⟩
            · rw [← hlen, get_last]
            · have := get_last row ((S.sets.length : Nat) : Int)
              rwa [h.rlen] at this
        · have h6' : j' < S.sets.length + 1 := by simpa using h6
          rcases Nat.lt_or_ge j' S.sets.length with hlt | hge
          · rw [pO hlt, qO hlt, pO (by omega), qO (by omega)]
            exact h.ord j j' h4 h5 hlt
          · obtain rfl : j' = S.sets.length := by omega
            rw [pN, qN, pO h5, qO h5]
            exact (h.src j h4 h5).2.2.1

theorem Inv2.rowTo {P Q : Nat → Nat} {i : Nat} {S : St} (h : Inv2 k N t stop P Q i S [] 0) (hi : i < S.sets.length) : ∀ {s : Nat} {S' : St} {row : List Int}, s ≤ k → rowTo k N t stop i S s = .go S' row → S.sets.length ≤ S'.sets.length ∧ ∃ P' Q', Inv2 k N t stop P' Q' i S' row s
  | 0, S', row, _, e => by injection e with e1 e2; subst e1 e2; exact ⟨Nat.le_refl _, P, Q, h⟩
  | s + 1, S', row, hs, e => by
    unfold SubP.rowTo at e
    split at e
    · rename_i S1 row1 e1
      obtain ⟨h1, P1, Q1, h2⟩ := Inv2.rowTo h hi (by omega) e1
      obtain ⟨P2, Q2, h3⟩ := h2.sym (by omega) (by omega) e
      exact ⟨Nat.le_trans h1 (h2.inv.sym e).2.2, P2, Q2, h3⟩
    · cases e
    · cases e
theorem Inv2.next {P Q : Nat → Nat} {i : Nat} {S : St} {row : List Int} (h : Inv2 k N t stop P Q i S row k) (hi : i < S.sets.length) : Inv2 k N t stop P Q (i + 1) ⟨S.sets, S.words, S.next ++ [row]⟩ [] 0 where
  inv := ⟨h.inv.len, h.inv.ok, h.inv.some, h.inv.nd, h.inv.big, by simp [h.inv.next], hi⟩
  rlen := rfl
  zero := h.zero
  zerow := h.zerow
  done := fun i' r hr => by
    rcases get_snoc hr with hr | ⟨rfl, rfl⟩
    · exact h.done i' r hr
    · exact ⟨h.rlen, by rw [h.inv.next]; exact h.cur⟩
  cur := fun s x hx => by simp at hx
  src := fun j h1 h2 => by
    obtain ⟨a, b, c', d, e, f⟩ := h.src j h1 h2
    refine ⟨a, b, .inl ?_, d, e, .inl ?_⟩
    · rcases c' with c' | ⟨c1, c2⟩ <;> omega
    · rcases f with ⟨r, f1, f2⟩ | ⟨f1, f2⟩
      · exact ⟨r, get_app f1, f2⟩
      · refine ⟨row, ?_, f2⟩
        show (S.next ++ [row])[P j]? = _
        rw [f1, ← h.inv.next, get_last]
  ord := h.ord

theorem Inv2.round (hN : 0 < N) : ∀ {i : Nat} {S : St} {row : List Int}, roundTo k N t stop i = .go S row → ∃ P Q, Inv2 k N t stop P Q S.next.length S [] 0
  | 0, S, row, e => by injection e with e1 e2; subst e1 e2; exact ⟨_, _, Inv2.start hN⟩
  | i + 1, S, row, e => by
    unfold roundTo at e
    split at e
    · rename_i S1 row1 e1
      obtain ⟨P, Q, h⟩ := Inv2.round hN e1
      obtain ⟨_, j, hj, hji, hjs⟩ := Inv.round hN e1
      split at e
      · rename_i hlt
        have hji' : S1.next.length = i := by
          rw [hj.next]
          rcases Nat.lt_or_ge j i with h | h
          · have := hjs h; omega
          · omega
        split at e
        · rename_i S2 row2 e2
          injection e with e3 e4
          subst e3 e4
          rw [hji'] at h
          obtain ⟨h1, P', Q', h2⟩ := h.rowTo hlt (Nat.le_refl _) e2
          have h3 := h2.next (by omega)
          refine ⟨P', Q', ?_⟩
          have : (S2.next ++ [row2]).length = i + 1 := by simp [h2.inv.next]
          show Inv2 k N t stop P' Q' (S2.next ++ [row2]).length _ [] 0
          rw [this]
          exact h3
        · cases e
        · cases e
      · injection e with e3 e4
        subst e3 e4
        exact ⟨P, Q, h⟩
    · cases e
    · cases e

/-- What holds where the walk has come to its end. -/
theorem fin_inv (hN : 0 < N) {S : St} {row : List Int} (h : fin k N t stop = .go S row) : row = [] ∧ S.next.length = S.sets.length ∧ ∃ P Q, Inv2 k N t stop P Q S.sets.length S [] 0 := by
  obtain ⟨h1, j, h2, h3, h4⟩ := Inv.round hN h
  obtain ⟨P, Q, h5⟩ := Inv2.round hN h
  have h6 : j = S.sets.length := by
    rcases Nat.lt_or_ge j 4097 with h | h
    · exact h4 h
    · have h7 := h2.le
      have h8 := h2.big
      omega
  have h7 := h2.next
  rw [h7, h6] at h5
  exact ⟨h1, by omega, P, Q, h5⟩

theorem row_orphan {i : Nat} {S : St} {x : List Nat} : ∀ {s : Nat}, rowTo k N t stop i S s = .orphan x → ∃ c S' row, c < s ∧ rowTo k N t stop i S c = .go S' row ∧ sym k N t stop i S' row c = .orphan x
  | 0, e => by cases e
  | s + 1, e => by
    unfold rowTo at e
    split at e
    · rename_i S1 row1 e1
      exact ⟨s, S1, row1, by omega, e1, e⟩
    · rename_i y e1
      injection e with e
      subst e
      obtain ⟨c, S', row, h1, h2, h3⟩ := row_orphan e1
      exact ⟨c, S', row, by omega, h2, h3⟩
    · cases e
theorem round_orphan (hN : 0 < N) {x : List Nat} : ∀ {n : Nat}, roundTo k N t stop n = .orphan x → ∃ (i c : Nat) (S : St) (row : List Int) (P Q : Nat → Nat), Inv2 k N t stop P Q i S row c ∧ i < S.sets.length ∧ c < k ∧ sym k N t stop i S row c = .orphan x
  | 0, e => by cases e
  | n + 1, e => by
    unfold roundTo at e
    split at e
    · rename_i S1 row1 e1
      obtain ⟨P, Q, h⟩ := Inv2.round hN e1
      obtain ⟨_, j, hj, hji, hjs⟩ := Inv.round hN e1
      split at e
      · rename_i hlt
        have hji' : S1.next.length = n := by
          rw [hj.next]
          rcases Nat.lt_or_ge j n with h | h
          · have := hjs h; omega
          · omega
        split at e
        · cases e
        · rename_i y e2
          injection e with e
          subst e
          obtain ⟨c, S', row, h1, h2, h3⟩ := row_orphan e2
          rw [hji'] at h
          obtain ⟨h4, P', Q', h5⟩ := h.rowTo hlt (by omega) h2
          exact ⟨n, c, S', row, P', Q', h5, by omega, h1, h3⟩
        · cases e
      · cases e
    · rename_i y e1
      injection e with e
      subst e
      exact round_orphan hN e1
    · cases e
theorem sym_orphan {i c : Nat} {S : St} {row : List Int} {x : List Nat} (h : sym k N t stop i S row c = .orphan x) : nodesOf (beh k N t (S.sets.getD i []) c) = [] ∧ stop = true ∧ x = S.words.getD i [] ++ [c] := by
  unfold sym at h
  split at h
  · rename_i h1
    split at h
    · rename_i h2
      injection h with h
      exact ⟨h1, h2, h.symm⟩
    · cases h
  · split at h
    · cases h
    · split at h <;> cases h

/-! ### runs along words -/
/-- The nodes at which a word's preimages end. -/
def run (k N : Nat) (t w : List Nat) : List Bool := w.foldl (fun B c => beh k N t B c) (List.replicate N true)
theorem run_snoc (w : List Nat) (c : Nat) : run k N t (w ++ [c]) = beh k N t (run k N t w) c := by simp [run]
theorem sols_cons_ne {u c : Nat} {w : List Nat} : sols k N t u (c :: w) ≠ [] ↔ ∃ s, s < k ∧ t.getD (u * k + s) 0 = c ∧ sols k N t ((u * k + s) % N) w ≠ [] := by
  constructor
  · intro h
    obtain ⟨y, hy⟩ := List.exists_mem_of_ne_nil _ h
    simp only [sols, List.mem_flatMap, List.mem_range] at hy
    obtain ⟨s, hs, hy⟩ := hy
    split at hy
    · rename_i h1
      refine ⟨s, hs, h1, fun e => ?_⟩
      rw [e] at hy
      simp at hy
    · simp at hy
  · rintro ⟨s, hs, h1, h2⟩
    obtain ⟨y, hy⟩ := List.exists_mem_of_ne_nil _ h2
    refine List.ne_nil_of_mem (a := s :: y) ?_
    simp only [sols, List.mem_flatMap, List.mem_range]
    refine ⟨s, hs, ?_⟩
    rw [if_pos h1]
    exact List.mem_map_of_mem hy
theorem fold_sols (hN : 0 < N) : ∀ (w : List Nat) (B : List Bool), nodesOf (w.foldl (fun B c => beh k N t B c) B) ≠ [] ↔ ∃ u ∈ nodesOf B, sols k N t u w ≠ [] := by
  intro w
  induction w with
  | nil =>
    intro B
    constructor
    · intro h
      obtain ⟨u, hu⟩ := List.exists_mem_of_ne_nil _ h
      exact ⟨u, hu, by simp [sols]⟩
    · rintro ⟨u, hu, _⟩
      exact List.ne_nil_of_mem hu
  | cons c w ih =>
    intro B
    rw [List.foldl_cons, ih]
    constructor
    · rintro ⟨v, hv, hs⟩
      obtain ⟨u, hu, s, h1, h2, h3⟩ := mem_behF.1 ((mem_beh hN).1 hv)
      exact ⟨u, hu, sols_cons_ne.2 ⟨s, h1, h2, by rw [h3]; exact hs⟩⟩
    · rintro ⟨u, hu, hs⟩
      obtain ⟨s, h1, h2, h3⟩ := sols_cons_ne.1 hs
      exact ⟨_, (mem_beh hN).2 (mem_behF.2 ⟨u, hu, s, h1, h2, rfl⟩), h3⟩
theorem mem_all {u : Nat} : u ∈ nodesOf (List.replicate N true) ↔ u < N := by
  rw [mem_nodesOf, List.length_replicate, List.getD_eq_getElem?_getD, List.getElem?_replicate]
  constructor
  · exact fun h => h.1
  · intro h
    rw [if_pos h]
    exact ⟨h, rfl⟩
theorem run_sols (hN : 0 < N) (w : List Nat) : nodesOf (run k N t w) ≠ [] ↔ ∃ u, u < N ∧ sols k N t u w ≠ [] := by
  rw [run, fold_sols hN]
  constructor
  · rintro ⟨u, hu, h⟩; exact ⟨u, mem_all.1 hu, h⟩
  · rintro ⟨u, hu, h⟩; exact ⟨u, mem_all.2 hu, h⟩

/-- The shorter first, then by their numbers. -/
def Slt (k : Nat) (x y : List Nat) : Prop := x.length < y.length ∨ (x.length = y.length ∧ wval k x < wval k y)
theorem Slt.trans {x y z : List Nat} (h : Slt k x y) (h' : Slt k y z) : Slt k x z := by
  rcases h with h | ⟨h, h2⟩ <;> rcases h' with h' | ⟨h', h3⟩
  · exact .inl (by omega)
  · exact .inl (by omega)
  · exact .inl (by omega)
  · exact .inr ⟨by omega, by omega⟩
theorem Slt.asymm {x y : List Nat} (h : Slt k x y) (h' : Slt k y x) : False := by
  rcases h with h | ⟨h, h2⟩ <;> rcases h' with h' | ⟨h', h3⟩ <;> omega
theorem Slt.snoc {x y : List Nat} {a b : Nat} (h : Slt k x y) (ha : a < k) : Slt k (x ++ [a]) (y ++ [b]) := by
  rcases h with h | ⟨h, h2⟩
  · exact .inl (by simpa using h)
  · refine .inr ⟨by simpa using h, ?_⟩
    rw [wval_snoc, wval_snoc]
    have : (wval k x + 1) * k ≤ wval k y * k := Nat.mul_le_mul_right k h2
    rw [Nat.add_mul, Nat.one_mul] at this
    omega
theorem Slt.last {x : List Nat} {a b : Nat} (h : a < b) : Slt k (x ++ [a]) (x ++ [b]) := .inr ⟨by simp, by rw [wval_snoc, wval_snoc]; omega⟩
theorem Slt.of_last {x : List Nat} {a b : Nat} (h : Slt k (x ++ [a]) (x ++ [b])) : a < b := by
  rcases h with h | ⟨_, h⟩
  · simp at h
  · rw [wval_snoc, wval_snoc] at h; omega

theorem Inv2.word {P Q : Nat → Nat} {i c : Nat} {S : St} {row : List Int} (h : Inv2 k N t stop P Q i S row c) : ∀ n j, j ≤ n → j < S.sets.length → (∀ x ∈ S.words.getD j [], x < k) ∧ S.sets[j]? = some (run k N t (S.words.getD j [])) := by
  intro n
  induction n with
  | zero =>
    intro j hj hl
    obtain rfl : j = 0 := by omega
    rw [getD_of h.zerow]
    exact ⟨fun x hx => by simp at hx, h.zero⟩
  | succ n ih =>
    intro j hj hl
    rcases Nat.eq_zero_or_pos j with rfl | h0
    · rw [getD_of h.zerow]
      exact ⟨fun x hx => by simp at hx, h.zero⟩
    · obtain ⟨a, b, _, d, e, _⟩ := h.src j h0 hl
      obtain ⟨h1, h2⟩ := ih (P j) (by omega) (by omega)
      rw [getD_of d, run_snoc]
      refine ⟨fun x hx => ?_, ?_⟩
      · rcases List.mem_append.1 hx with hx | hx
        · exact h1 x hx
        · simp at hx; omega
      · rw [e, getD_of h2]
theorem Inv2.lt {P Q : Nat → Nat} {i c : Nat} {S : St} {row : List Int} (h : Inv2 k N t stop P Q i S row c) : ∀ n j j', j' ≤ n → j < j' → j' < S.sets.length → Slt k (S.words.getD j []) (S.words.getD j' []) := by
  intro n
  induction n with
  | zero => intro j j' h1 h2; omega
  | succ n ih =>
    intro j j' h1 h2 h3
    obtain ⟨a', b', _, d', _, _⟩ := h.src j' (by omega) h3
    rw [getD_of d']
    rcases Nat.eq_zero_or_pos j with rfl | h0
    · rw [getD_of h.zerow]
      exact .inl (by simp)
    · obtain ⟨a, b, _, d, _, _⟩ := h.src j h0 (by omega)
      rw [getD_of d]
      rcases h.ord j j' h0 h2 h3 with h4 | ⟨h4, h5⟩
      · exact (ih (P j) (P j') (by omega) h4 (by omega)).snoc a
      · rw [h4]; exact Slt.last h5

/-- Where a set leads: the state's word comes not behind the longer word. -/
theorem Inv2.leads {P Q : Nat → Nat} {i c : Nat} {S : St} {row : List Int} (h : Inv2 k N t stop P Q i S row c) (hs : stop = true) {j b : Nat} (hj : j < S.sets.length) (hb : b < k) (hp : PLt j b i c) :
    ∃ j', S.sets[j']? = some (beh k N t (S.sets.getD j []) b) ∧ (S.words.getD j' [] = S.words.getD j [] ++ [b] ∨ Slt k (S.words.getD j' []) (S.words.getD j [] ++ [b])) := by
  have hrow : ∃ x, (∃ r, r[b]? = some x ∧ RowOk k N t stop P Q S j r) := by
    rcases hp with hp | ⟨rfl, hp⟩
    · have hn : j < S.next.length := by rw [h.inv.next]; exact hp
      obtain ⟨h1, h2⟩ := h.done j _ (List.getElem?_eq_getElem hn)
      exact ⟨_, _, List.getElem?_eq_getElem (by omega), h2⟩
    · exact ⟨_, row, List.getElem?_eq_getElem (by rw [h.rlen]; exact hp), h.cur⟩
  obtain ⟨x, r, h1, h2⟩ := hrow
  rcases h2 b x h1 with ⟨_, _, h3⟩ | ⟨j', _, h4, h5⟩
  · rw [hs] at h3; cases h3
  · refine ⟨j', h4, ?_⟩
    have hl := (List.getElem?_eq_some_iff.1 h4).1
    rcases Nat.eq_zero_or_pos j' with rfl | h0
    · rw [getD_of h.zerow]
      exact .inr (.inl (by simp))
    · obtain ⟨a, _, _, d, _, _⟩ := h.src j' h0 hl
      rw [getD_of d]
      rcases h5 with h5 | h5 | ⟨h5, h6⟩
      · omega
      · exact .inr ((h.lt _ (P j') j (Nat.le_refl _) h5 hj).snoc a)
      · rw [h5]
        rcases Nat.lt_or_ge (Q j') b with h7 | h7
        · exact .inr (Slt.last h7)
        · exact .inl (by rw [show Q j' = b by omega])

/-- Every word that comes ahead of the first orphan leads to a state. -/
theorem Inv2.ahead {P Q : Nat → Nat} {i c : Nat} {S : St} {row : List Int} (h : Inv2 k N t stop P Q i S row c) (hs : stop = true) (hi : i < S.sets.length) (hc : c < k) : ∀ n (y : List Nat), y.length = n → (∀ x ∈ y, x < k) → Slt k y (S.words.getD i [] ++ [c]) →
    ∃ j, S.sets[j]? = some (run k N t y) ∧ (S.words.getD j [] = y ∨ Slt k (S.words.getD j []) y) := by
  intro n
  induction n with
  | zero =>
    intro y hy _ _
    obtain rfl := List.eq_nil_of_length_eq_zero hy
    exact ⟨0, h.zero, .inl (getD_of h.zerow)⟩
  | succ n ih =>
    intro y hy hyk hlt
    have hne : y ≠ [] := by intro e; subst e; simp at hy
    obtain ⟨z, b, rfl⟩ : ∃ z b, y = z ++ [b] := ⟨y.dropLast, y.getLast hne, (List.dropLast_concat_getLast hne).symm⟩
    have hzl : z.length = n := by simpa using hy
    have hbk : b < k := hyk b (by simp)
    have hzs : Slt k z (S.words.getD i [] ++ [c]) := by
      refine .inl ?_
      rcases hlt with h' | ⟨h', _⟩ <;> simp at h' ⊢ <;> omega
    obtain ⟨j, h1, h2⟩ := ih z hzl (fun x hx => hyk x (by simp [hx])) hzs
    have hj := (List.getElem?_eq_some_iff.1 h1).1
    have h3 : S.words.getD j [] ++ [b] = z ++ [b] ∨ Slt k (S.words.getD j [] ++ [b]) (z ++ [b]) := h2.imp (fun e => by rw [e]) (fun e => e.snoc hbk)
    have h4 : Slt k (S.words.getD j [] ++ [b]) (S.words.getD i [] ++ [c]) := by
      rcases h3 with h3 | h3
      · rw [h3]; exact hlt
      · exact h3.trans hlt
    have hp : PLt j b i c := by
      rcases Nat.lt_trichotomy j i with h5 | h5 | h5
      · exact .inl h5
      · subst h5; exact .inr ⟨rfl, h4.of_last⟩
      · exact absurd ((h.lt _ i j (Nat.le_refl _) h5 hj).snoc hc) (fun h' => h'.asymm h4)
    obtain ⟨j', h5, h6⟩ := h.leads hs hj hbk hp
    refine ⟨j', by rw [run_snoc, h5, getD_of h1], ?_⟩
    rcases h6 with h6 | h6
    · rw [h6]; exact h3
    · rcases h3 with h3 | h3
      · rw [← h3]; exact .inr h6
      · exact .inr (h6.trans h3)
theorem fill_next {row : List Int} {k s : Nat} (hl : row.length = s) (hs : s < k) (x : Int) : (row ++ List.replicate (k - s) 0).set s x = (row ++ [x]) ++ List.replicate (k - (s + 1)) 0 := by
  rw [List.set_append_right _ _ (by omega), hl, Nat.sub_self, show k - s = (k - (s + 1)) + 1 by omega, List.replicate_succ]
  simp
theorem sym_none {k N : Nat} {t : List Nat} {stop : Bool} {i s : Nat} {S : St} {row : List Int} (h : nodesOf (beh k N t (S.sets.getD i []) s) = []) (hs : stop = false) : sym k N t stop i S row s = .go S (row ++ [-1]) := by
  unfold sym; rw [if_pos h, if_neg (by rw [hs]; simp)]
theorem sym_orph {k N : Nat} {t : List Nat} {stop : Bool} {i s : Nat} {S : St} {row : List Int} (h : nodesOf (beh k N t (S.sets.getD i []) s) = []) (hs : stop = true) : sym k N t stop i S row s = .orphan (S.words.getD i [] ++ [s]) := by
  unfold sym; rw [if_pos h, if_pos hs]
theorem sym_old {k N : Nat} {t : List Nat} {stop : Bool} {i s : Nat} {S : St} {row : List Int} (h : nodesOf (beh k N t (S.sets.getD i []) s) ≠ []) (hm : beh k N t (S.sets.getD i []) s ∈ S.sets) : sym k N t stop i S row s = .go S (row ++ [((S.sets.idxOf (beh k N t (S.sets.getD i []) s) : Nat) : Int)]) := by
  unfold sym; rw [if_neg h, if_pos hm]
theorem sym_full {k N : Nat} {t : List Nat} {stop : Bool} {i s : Nat} {S : St} {row : List Int} (h : nodesOf (beh k N t (S.sets.getD i []) s) ≠ []) (hm : beh k N t (S.sets.getD i []) s ∉ S.sets) (hl : 4096 ≤ S.sets.length) : sym k N t stop i S row s = .over := by
  unfold sym; rw [if_neg h, if_neg hm, if_pos hl]
theorem sym_new {k N : Nat} {t : List Nat} {stop : Bool} {i s : Nat} {S : St} {row : List Int} (h : nodesOf (beh k N t (S.sets.getD i []) s) ≠ []) (hm : beh k N t (S.sets.getD i []) s ∉ S.sets) (hl : S.sets.length < 4096) :
    sym k N t stop i S row s = .go ⟨S.sets ++ [beh k N t (S.sets.getD i []) s], S.words ++ [S.words.getD i [] ++ [s]], S.next⟩ (row ++ [((S.sets.length : Nat) : Int)]) := by
  unfold sym; rw [if_neg h, if_neg hm, if_neg (by omega)]

theorem Inv2_wlen {k N : Nat} {t : List Nat} {stop : Bool} {P Q : Nat → Nat} {i c : Nat} {S : St} {row : List Int} (h : Inv2 k N t stop P Q i S row c) : ∀ n j, j ≤ n → j < S.sets.length → (S.words.getD j []).length ≤ j := by
  intro n
  induction n with
  | zero =>
    intro j hj hl
    obtain rfl : j = 0 := by omega
    rw [getD_of h.zerow]
    exact Nat.le_refl _
  | succ n ih =>
    intro j hj hl
    rcases Nat.eq_zero_or_pos j with rfl | h0
    · rw [getD_of h.zerow]; exact Nat.le_refl _
    · obtain ⟨a, b, _, d, _, _⟩ := h.src j h0 hl
      have := ih (P j) (by omega) (by omega)
      rw [getD_of d, List.length_append, List.length_singleton]
      omega
/-- What holds ahead of symbol s of round i. -/
theorem row_inv {k N : Nat} {t : List Nat} {stop : Bool} {i s : Nat} {S S' : St} {row : List Int} (hN : 0 < N) (hr : roundTo k N t stop i = .go S []) (hI : Inv N i S) (hi : i < S.sets.length) (hs : s ≤ k) (h : rowTo k N t stop i S s = .go S' row) :
    Inv N i S' ∧ row.length = s ∧ i < S'.sets.length ∧ (S'.words.getD i []).length ≤ 4096 := by
  obtain ⟨P, Q, h2⟩ := Inv2.round hN hr
  rw [hI.next] at h2
  obtain ⟨h3, P', Q', h4⟩ := h2.rowTo hi hs h
  have h5 := Inv2_wlen h4 i i (Nat.le_refl _) (by omega)
  have := h4.inv.big
  exact ⟨h4.inv, h4.rlen, by omega, by omega⟩

end SubP
end Go.Proofs.YthilnpfpllplaaaGreatDoor

namespace Go.Proofs.YthilnpfpllplaaaGreatDoor
theorem fillTo_at' {α : Type} {l : List α} {n k : Nat} {z : α} (hk : k < n) (hl : k ≤ l.length) : (fillTo l n z k)[k]? = some z := by
  unfold fillTo
  have h : (l.take k).length = k := by rw [List.length_take]; omega
  rw [List.getElem?_append_right (by omega), h, Nat.sub_self, List.getElem?_replicate, if_pos (by omega)]
end Go.Proofs.YthilnpfpllplaaaGreatDoor

namespace Go.Proofs.YthilnpfpllplaaaGreatDoor
def sSubset : ByteArray := ⟨#[115, 117, 98, 115, 101, 116]⟩
end Go.Proofs.YthilnpfpllplaaaGreatDoor

namespace Go.Proofs.YthilnpfpllplaaaGreatDoor
open Go.RowKit Go.ChangeShapes

def mkSent (nm : String) (x : String × List UInt8) : String × DataW Unit := (x.1, .iface nm (.ptr (.agg [.lit (.string x.2)])))

theorem sents {P : Program} {nm : String} {W : World} {ti tp te ts : TypeId} {ms : Array (String × TypeId)} {f : Field}
    (hi : P.underlying ti = some (.interface ms)) (hrow : ∀ u, P.typeName? 3 u = some nm → u = tp)
    (hp : P.underlying tp = some (.pointer te)) (he : P.underlying te = some (.struct #[f])) (hft : f.type = ts) (hfo : f.offset = 0) (hs : P.underlying ts = some .string) (hc : P.cellsOf te = 1) (hcs : P.cellsOf ts = 1)
    (all : List MemPlace) (hrows : ∀ b off, MemPlace.cell b off ∈ all → (∃ c t, W.heap[b]? = some (.cells c t (0, 0))) ∧ ∀ u v, W.cell? ⟨b, off, none⟩ = some (.iface u v) → Value.okWide P W .any 0 u v) :
    ∀ (L : List (String × List UInt8)) (ps : List MemPlace), (∀ x ∈ L, ∀ g, P.globalNamed x.1 = some g → (P.globals[g]?).map (·.type) = some ti) → DataW.LaidVars P W (L.map (mkSent nm)) ps → ps.Nodup → (∀ x ∈ ps, x ∈ all) →
      ∃ adr : List Addr, adr.length = L.length ∧ adr.Nodup ∧ (∀ a ∈ adr, MemPlace.cell a.block a.off ∈ ps) ∧ ∀ (i : Nat) x a, L[i]? = some x → adr[i]? = some a → W.var? P x.1 = some #[.iface tp (.pointer (some a))] := by
  intro L
  induction L with
  | nil => intro ps _ _ _ _; exact ⟨[], rfl, List.nodup_nil, fun a h => by simp at h, fun i x a h => by simp at h⟩
  | cons y L ih =>
    intro ps hti h hnd hall
    obtain ⟨g, t, cs, fuel, p, q, hg, ht, hv, hd, hr, rfl⟩ := h
    have ht' := hti y (by simp) g hg
    rw [ht] at ht'
    obtain rfl := Option.some.inj ht'
    obtain ⟨l0⟩ := cs
    have ok0 : ∀ u v, l0 = [.iface u v] → Value.okWide P W .any 0 u v := fun u v e => by
      subst e
      exact (hrows g 0 (hall _ (by simp [MemPlace.row]))).2 u v (by simpa using World.var?_cell hg hv 0)
    obtain ⟨a0, s0, rfl, hc0, hs0, hz0, rfl⟩ := errorString_of_trod hi hrow hp he hft hfo hs hc hcs hd ok0
    obtain ⟨adr, h1, h2, h3, h4⟩ := ih q (fun x hx => hti x (by simp [hx])) hr ((List.nodup_append.1 hnd).2.1) (fun x hx => hall x (by simp [hx]))
    refine ⟨a0 :: adr, by simp [h1], List.nodup_cons.2 ⟨fun hm => ?_, h2⟩, ?_, ?_⟩
    · have := (List.nodup_append.1 hnd).2.2 (.cell a0.block a0.off) (by simp [MemPlace.row]) _ (h3 a0 hm)
      exact this rfl
    · intro a ha
      rcases List.mem_cons.1 ha with rfl | ha
      · simp [MemPlace.row]
      · have := h3 a ha
        simp [this]
    · intro i x a hx ha
      cases i with
      | zero =>
        simp at hx ha
        subst hx ha
        exact hv
      | succ i => exact h4 i x a (by simpa using hx) (by simpa using ha)

/-- The error variables' rows of a list. -/
def keepSent (x : String × DataW Unit) : Bool := match x.2 with
  | .iface _ (.ptr (.agg [.lit (.string _)])) => true
  | _ => false
def sentsOf (l : List (String × DataW Unit)) : List (String × List UInt8) := l.filterMap fun x => match x.2 with
  | .iface _ (.ptr (.agg [.lit (.string t)])) => some (x.1, t)
  | _ => none
def sentGlobals : List (Option Nat) := [some 0, some 1, some 2, some 3, some 4, some 5, some 6, some 7, some 8, some 9, some 10, some 11]
/-- The errors' addresses are twelve different ones. -/
def Apart12 (E : Nat → Addr) : Prop := ∀ i j, ((1 ≤ i ∧ i ≤ 11) ∨ i = 99) → ((1 ≤ j ∧ j ≤ 11) ∨ j = 99) → E i = E j → i = j

theorem star : "*" ++ "errors.errorString" = "*errors.errorString" := by decide
theorem rowErr (u : TypeId) (h : Tryz.prog.typeName? 3 u = some "*errors.errorString") : u = 225 :=
  typeName_ptr_named (nm := "errors.errorString") (by rw [star]; kernel_rfl) (by kernel_rfl) (by decide) u (by rw [star]; exact h)
theorem cellsErr : Tryz.prog.cellsOf 245 = 1 := by kernel_rfl
theorem cellsStr : Tryz.prog.cellsOf 9 = 1 := by kernel_rfl

/-- Each error's own memory. -/
def ErrBlk (W : World) (E : Nat → Addr) : Prop := ∀ n, ((1 ≤ n ∧ n ≤ 11) ∨ n = 99) → ∃ c t, W.heap[(E n).block]? = some (.cells c t (0, 0))
theorem ErrBlk.below {W W' : World} {E : Nat → Addr} (h : ErrBlk W E) (hb : Below W.heap.size W W') : ErrBlk W' E := fun n hn => by
  obtain ⟨c, t, hc⟩ := h n hn
  exact ⟨c, t, (hb.block _ (Array.getElem?_eq_some_iff.1 hc).1).trans hc⟩
/-- From a row's list: the error variables hold errors, twelve different ones. -/
theorem errs_of2 {W : World} (l : List (String × DataW Unit)) (h : laidMetH Tryz.prog l W)
    (hl : ((l.filter fun x => x.2.handleName?.isNone).filter keepSent) = (sentsOf l).map (mkSent "*errors.errorString"))
    (hg : (sentsOf l).map (fun x => Tryz.prog.globalNamed x.1) = sentGlobals)
    (ht : ((sentsOf l).all fun x => decide ((Tryz.prog.globalNamed x.1).bind (fun g => (Tryz.prog.globals[g]?).map (·.type)) = some 29)) = true) :
    ∃ E, Errs W E ∧ Apart12 E ∧ ErrBlk W E := by
  obtain ⟨ps, h1, h2, h3⟩ := (laidMetH_iff.1 h).1.filter keepSent
  rw [hl] at h1
  obtain ⟨adr, a1, a2, a3, a4⟩ := sents Tryz.underlying29 rowErr Tryz.underlying225 Tryz.underlying245 rfl rfl Tryz.underlying9 cellsErr cellsStr ps h3 (sentsOf l) ps (fun x hx g hxg => by
    have := List.all_eq_true.1 ht x hx
    rw [hxg] at this
    simpa using this) h1 h2 (fun x hx => hx)
  have hlen : (sentsOf l).length = 12 := by
    have := congrArg List.length hg
    simpa [sentGlobals] using this
  have cell : ∀ (i g : Nat), sentGlobals[i]? = some (some g) → ∃ a, adr[i]? = some a ∧ W.cell? ⟨g, 0, none⟩ = some (.iface 225 (.pointer (some a))) := by
    intro i g hi
    rw [← hg, List.getElem?_map] at hi
    cases hx : (sentsOf l)[i]? with
    | none => rw [hx] at hi; cases hi
    | some x =>
      rw [hx] at hi
      have hil : i < (sentsOf l).length := (List.getElem?_eq_some_iff.1 hx).1
      have ha : adr[i]? = some (adr[i]'(by omega)) := List.getElem?_eq_getElem (by omega)
      have hv := a4 i x _ hx ha
      refine ⟨_, ha, ?_⟩
      simpa using World.var?_cell (Option.some.inj hi) hv 0
  let ix : Nat → Nat := fun n => if n = 99 then 11 else n - 1
  have get : ∀ (n g : Nat), sentGlobals[ix n]? = some (some g) → W.cell? ⟨g, 0, none⟩ = some (.iface 225 (.pointer (some ((fun n => adr.getD (ix n) ⟨0, 0, none⟩) n)))) := by
    intro n g hi
    obtain ⟨a, ha, hc⟩ := cell _ _ hi
    simp only [List.getD_eq_getElem?_getD, ha, Option.getD_some]
    exact hc
  refine ⟨fun n => adr.getD (ix n) ⟨0, 0, none⟩, ⟨get 1 _ rfl, get 2 _ rfl, get 3 _ rfl, get 4 _ rfl, get 5 _ rfl, get 6 _ rfl, get 7 _ rfl, get 8 _ rfl, get 9 _ rfl, get 10 _ rfl, get 11 _ rfl, get 99 _ rfl⟩, ?_⟩
  have bound : ∀ n, ((1 ≤ n ∧ n ≤ 11) ∨ n = 99) → ix n < adr.length := by
    intro n hn
    rw [a1, hlen]
    show (if n = 99 then 11 else n - 1) < 12
    split <;> omega
  refine ⟨fun i j hi hj he => ?_, fun n hn => ?_⟩
  rotate_left
  · have hx := bound n hn
    simp only [List.getD_eq_getElem?_getD, List.getElem?_eq_getElem hx, Option.getD_some]
    exact (h3 _ _ (a3 _ (List.getElem_mem hx))).1
  have hx := bound i hi
  have hy := bound j hj
  simp only [List.getD_eq_getElem?_getD, List.getElem?_eq_getElem hx, List.getElem?_eq_getElem hy, Option.getD_some] at he
  have hpw := List.pairwise_iff_getElem.1 a2
  have hij : ix i = ix j := by
    rcases Nat.lt_trichotomy (ix i) (ix j) with h | h | h
    · exact absurd he (hpw _ _ hx hy h)
    · exact h
    · exact absurd he.symm (hpw _ _ hy hx h)
  change (if i = 99 then 11 else i - 1) = (if j = 99 then 11 else j - 1) at hij
  split at hij <;> split at hij <;> omega
end Go.Proofs.YthilnpfpllplaaaGreatDoor
