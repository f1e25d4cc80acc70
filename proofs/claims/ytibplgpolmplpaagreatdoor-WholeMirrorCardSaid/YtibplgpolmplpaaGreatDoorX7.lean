/- What the walk over the subsets has found: each state's set, word and row; runs along words; the first orphan comes ahead of all. Plain lists, no program. No condition. The rows of the walk over the subsets, as SubsetRuns asks of them: lengths, sources, runs along a word. Plain lists, no program. No condition. The words that have an image, in their order: which they are. Plain lists, no program. No condition. Rules out of rules, as plain lists: tables told window by window; widened, narrowed, mirrored, shifted, one behind the other. No program. No condition. Rules out of rules, as plain lists: widened, narrowed, shifted, mirrored. No program. No condition. Automata, as plain lists: how many words of a length run. No program. No condition. The automaton of the subsets, as a plain automaton: the words that run are those that have preimages; one language of narrow, wide and shifted rules. No program. No condition. Automata, as plain lists: with one more symbol no fewer words and at most k times as many; the words in order, by their numbers. No program. No condition. -/
import Derived.Test.YtibplgpolmplpaaGreatDoorX1
import Derived.Test.YtibplgpolmplpaaGreatDoorX3
import Derived.Test.YtibplgpolmplpaaGreatDoorX5
import Derived.Test.YtibplgpolmplpaaGreatDoorX6
namespace Go.Proofs.YtibplgpolmplpaaGreatDoor
open BagP RuleP
namespace SubP

variable {k N : Nat} {t : List Nat} {stop : Bool}

/-- Pairs (state, symbol) in the walk's order. -/
def PLt (p q p' q' : Nat) : Prop := p < p' ∨ (p = p' ∧ q < q')
/-- A row of state i tells where its symbols lead. -/
def RowOk (k N : Nat) (t : List Nat) (stop : Bool) (P Q : Nat → Nat) (S : St) (i : Nat) (row : List Int) : Prop :=
  ∀ (s : Nat) (x : Int), row[s]? = some x → (nodesOf (beh k N t (S.sets.getD i []) s) = [] ∧ x = -1 ∧ stop = false) ∨
    ∃ j : Nat, x = (j : Int) ∧ S.sets[j]? = some (beh k N t (S.sets.getD i []) s) ∧ (j = 0 ∨ P j < i ∨ (P j = i ∧ Q j ≤ s))
structure Inv2 (k N : Nat) (t : List Nat) (stop : Bool) (P Q : Nat → Nat) (i : Nat) (S : St) (row : List Int) (c : Nat) : Prop where
  inv : Inv N i S
  rlen : row.length = c
  zero : S.sets[0]? = some (List.replicate N true)
  zerow : S.words[0]? = some []
  done : ∀ (i' : Nat) r, S.next[i']? = some r → r.length = k ∧ RowOk k N t stop P Q S i' r
  cur : RowOk k N t stop P Q S i row
  src : ∀ j, 0 < j → j < S.sets.length → Q j < k ∧ P j < j ∧ PLt (P j) (Q j) i c ∧ S.words[j]? = some (S.words.getD (P j) [] ++ [Q j]) ∧ S.sets[j]? = some (beh k N t (S.sets.getD (P j) []) (Q j)) ∧
    ((∃ r, S.next[P j]? = some r ∧ r[Q j]? = some (j : Int)) ∨ (P j = i ∧ row[Q j]? = some (j : Int)))
  ord : ∀ j j', 0 < j → j < j' → j' < S.sets.length → PLt (P j) (Q j) (P j') (Q j')

theorem Inv2.start (hN : 0 < N) : Inv2 k N t stop (fun _ => 0) (fun _ => 0) 0 (init N) [] 0 where
  inv := Inv.init hN
  rlen := rfl
  zero := rfl
  zerow := rfl
  done := fun i' r h => by simp [init] at h
  cur := fun s x h => by simp at h
  src := fun j h1 h2 => by simp [init] at h2; omega
  ord := fun j j' h1 h2 h3 => by simp [init] at h3; omega

/-- A row one symbol longer. -/
theorem RowOk.snoc {P Q : Nat → Nat} {S : St} {i : Nat} {row : List Int} {x : Int} (h : RowOk k N t stop P Q S i row)
    (hx : (nodesOf (beh k N t (S.sets.getD i []) row.length) = [] ∧ x = -1 ∧ stop = false) ∨ ∃ j : Nat, x = (j : Int) ∧ S.sets[j]? = some (beh k N t (S.sets.getD i []) row.length) ∧ (j = 0 ∨ P j < i ∨ (P j = i ∧ Q j ≤ row.length))) :
    RowOk k N t stop P Q S i (row ++ [x]) := fun s y hy => by
  rcases get_snoc hy with hy | ⟨rfl, rfl⟩
  · exact h s y hy
  · exact hx
theorem Inv2.longer {P Q : Nat → Nat} {i c : Nat} {S : St} {row : List Int} {x : Int} (h : Inv2 k N t stop P Q i S row c) (hc : RowOk k N t stop P Q S i (row ++ [x])) : Inv2 k N t stop P Q i S (row ++ [x]) (c + 1) where
  inv := h.inv
  rlen := by simp [h.rlen]
  zero := h.zero
  zerow := h.zerow
  done := h.done
  cur := hc
  src := fun j h1 h2 => by
    obtain ⟨a, b, c', d, e, f⟩ := h.src j h1 h2
    refine ⟨a, b, ?_, d, e, f.imp id (fun f => ⟨f.1, get_app f.2⟩)⟩
    rcases c' with c' | ⟨c1, c2⟩
    · exact .inl c'
    · exact .inr ⟨c1, by omega⟩
  ord := h.ord

theorem Inv2.sym {P Q : Nat → Nat} {i c : Nat} {S S' : St} {row row' : List Int} (h : Inv2 k N t stop P Q i S row c) (hi : i < S.sets.length) (hc : c < k) (e : sym k N t stop i S row c = .go S' row') :
    ∃ P' Q', Inv2 k N t stop P' Q' i S' row' (c + 1) := by
  have hinv := (h.inv.sym e).1
  unfold SubP.sym at e
  split at e
  · rename_i h1
    split at e
    · cases e
    · rename_i h2
      injection e with e1 e2
      subst e1 e2
      exact ⟨P, Q, h.longer (h.cur.snoc (.inl ⟨by rw [h.rlen]; exact h1, rfl, by simpa using h2⟩))⟩
  · rename_i h1
    split at e
    · rename_i h2
      injection e with e1 e2
      subst e1 e2
      have hlt := List.idxOf_lt_length_of_mem h2
      have hat : S.sets[S.sets.idxOf (beh k N t (S.sets.getD i []) c)]? = some (beh k N t (S.sets.getD i []) c) := by rw [List.getElem?_eq_getElem hlt]; simp
      refine ⟨P, Q, h.longer (h.cur.snoc (.inr ⟨_, rfl, by rw [h.rlen]; exact hat, ?_⟩))⟩
      rcases Nat.eq_zero_or_pos (S.sets.idxOf (beh k N t (S.sets.getD i []) c)) with h0 | h0
      · exact .inl h0
      · obtain ⟨_, _, h3, _⟩ := h.src _ h0 hlt
        rcases h3 with h3 | ⟨h3, h4⟩
        · exact .inr (.inl h3)
        · exact .inr (.inr ⟨h3, by rw [h.rlen]; omega⟩)
    · rename_i h2
      split at e
      · cases e
      · rename_i h3
        injection e with e1 e2
        subst e1 e2
        have hlen := h.inv.len
        have hne : ∀ {j}, j < S.sets.length → j ≠ S.sets.length := fun h => by omega
        let P' : Nat → Nat := fun x => if x = S.sets.length then i else P x
        let Q' : Nat → Nat := fun x => if x = S.sets.length then c else Q x
        have pO : ∀ {j}, j < S.sets.length → P' j = P j := fun h => if_neg (hne h)
        have qO : ∀ {j}, j < S.sets.length → Q' j = Q j := fun h => if_neg (hne h)
        have pN : P' S.sets.length = i := if_pos rfl
        have qN : Q' S.sets.length = c := if_pos rfl
        have rowO : ∀ {i' : Nat} {r : List Int}, i' < S.sets.length → RowOk k N t stop P Q S i' r → RowOk k N t stop P' Q' ⟨S.sets ++ [beh k N t (S.sets.getD i []) c], S.words ++ [S.words.getD i [] ++ [c]], S.next⟩ i' r := fun {i'} {r} hi' hr s x hx => by
          show (nodesOf (beh k N t ((S.sets ++ _).getD i' []) s) = [] ∧ _) ∨ _
          rw [getD_app hi']
          rcases hr s x hx with h4 | ⟨j, h4, h5, h6⟩
          · exact .inl h4
          · have hj := (List.getElem?_eq_some_iff.1 h5).1
            refine .inr ⟨j, h4, get_app h5, ?_⟩
            rw [pO hj, qO hj]
            exact h6
        refine ⟨P', Q', ⟨hinv, by simp [h.rlen], get_app h.zero, get_app h.zerow, fun i' r hr => ?_, ?_, fun j h4 h5 => ?_, fun j j' h4 h5 h6 => ?_⟩⟩
        · obtain ⟨a, b⟩ := h.done i' r hr
          have hi' : i' < S.sets.length := by
            have h7 : i' < S.next.length := (List.getElem?_eq_some_iff.1 hr).1
            have h8 := h.inv.next
            omega
          exact ⟨a, rowO hi' b⟩
        · refine (rowO hi h.cur).snoc (.inr ⟨S.sets.length, rfl, ?_, .inr (.inr ⟨pN, by rw [qN, h.rlen]; exact Nat.le_refl _⟩)⟩)
          show (S.sets ++ _)[S.sets.length]? = some (beh k N t ((S.sets ++ _).getD i []) row.length)
          rw [get_last, getD_app hi, h.rlen]
        · have h5' : j < S.sets.length + 1 := by simpa using h5
          show Q' j < k ∧ P' j < j ∧ PLt (P' j) (Q' j) i (c + 1) ∧ (S.words ++ [S.words.getD i [] ++ [c]])[j]? = some ((S.words ++ [S.words.getD i [] ++ [c]]).getD (P' j) [] ++ [Q' j]) ∧
            (S.sets ++ [beh k N t (S.sets.getD i []) c])[j]? = some (beh k N t ((S.sets ++ [beh k N t (S.sets.getD i []) c]).getD (P' j) []) (Q' j)) ∧ _
          rcases Nat.lt_or_ge j S.sets.length with hlt | hge
          · obtain ⟨a, b, c', d, e, f⟩ := h.src j h4 hlt
            rw [pO hlt, qO hlt, getD_app (by omega), getD_app (by omega)]
            refine ⟨a, b, ?_, get_app d, get_app e, f.imp id (fun f => ⟨f.1, get_app f.2⟩)⟩
            rcases c' with c' | ⟨c1, c2⟩
            · exact .inl c'
            · exact .inr ⟨c1, by omega⟩
          · obtain rfl : j = S.sets.length := by omega
            rw [pN, qN, getD_app (by omega), getD_app hi, get_last]
            refine ⟨hc, hi, .inr ⟨rfl, by omega⟩, ?_, rfl, .inr ⟨rfl, ?_⟩⟩
            · rw [← hlen, get_last]
            · have := get_last row ((S.sets.length : Nat) : Int)
              rwa [h.rlen] at this
        · have h6' : j' < S.sets.length + 1 := by simpa using h6
          rcases Nat.lt_or_ge j' S.sets.length with hlt | hge
          · rw [pO hlt, qO hlt, pO (by omega), qO (by omega)]
            exact h.ord j j' h4 h5 hlt
          · obtain rfl : j' = S.sets.length := by omega
            rw [pN, qN, pO h5, qO h5]
            exact (h.src j h4 h5).2.2.1

theorem Inv2.rowTo {P Q : Nat → Nat} {i : Nat} {S : St} (h : Inv2 k N t stop P Q i S [] 0) (hi : i < S.sets.length) : ∀ {s : Nat} {S' : St} {row : List Int}, s ≤ k → rowTo k N t stop i S s = .go S' row → S.sets.length ≤ S'.sets.length ∧ ∃ P' Q', Inv2 k N t stop P' Q' i S' row s
  | 0, S', row, _, e => by injection e with e1 e2; subst e1 e2; exact ⟨Nat.le_refl _, P, Q, h⟩
  | s + 1, S', row, hs, e => by
    unfold SubP.rowTo at e
    split at e
    · rename_i S1 row1 e1
      obtain ⟨h1, P1, Q1, h2⟩ := Inv2.rowTo h hi (by omega) e1
      obtain ⟨P2, Q2, h3⟩ := h2.sym (by omega) (by omega) e
      exact ⟨Nat.le_trans h1 (h2.inv.sym e).2.2, P2, Q2, h3⟩
    · cases e
    · cases e
theorem Inv2.next {P Q : Nat → Nat} {i : Nat} {S : St} {row : List Int} (h : Inv2 k N t stop P Q i S row k) (hi : i < S.sets.length) : Inv2 k N t stop P Q (i + 1) ⟨S.sets, S.words, S.next ++ [row]⟩ [] 0 where
  inv := ⟨h.inv.len, h.inv.ok, h.inv.some, h.inv.nd, h.inv.big, by simp [h.inv.next], hi⟩
  rlen := rfl
  zero := h.zero
  zerow := h.zerow
  done := fun i' r hr => by
    rcases get_snoc hr with hr | ⟨rfl, rfl⟩
    · exact h.done i' r hr
    · exact ⟨h.rlen, by rw [h.inv.next]; exact h.cur⟩
  cur := fun s x hx => by simp at hx
  src := fun j h1 h2 => by
    obtain ⟨a, b, c', d, e, f⟩ := h.src j h1 h2
    refine ⟨a, b, .inl ?_, d, e, .inl ?_⟩
    · rcases c' with c' | ⟨c1, c2⟩ <;> omega
    · rcases f with ⟨r, f1, f2⟩ | ⟨f1, f2⟩
      · exact ⟨r, get_app f1, f2⟩
      · refine ⟨row, ?_, f2⟩
        show (S.next ++ [row])[P j]? = _
        rw [f1, ← h.inv.next, get_last]
  ord := h.ord

theorem Inv2.round (hN : 0 < N) : ∀ {i : Nat} {S : St} {row : List Int}, roundTo k N t stop i = .go S row → ∃ P Q, Inv2 k N t stop P Q S.next.length S [] 0
  | 0, S, row, e => by injection e with e1 e2; subst e1 e2; exact ⟨_, _, Inv2.start hN⟩
  | i + 1, S, row, e => by
    unfold roundTo at e
    split at e
    · rename_i S1 row1 e1
      obtain ⟨P, Q, h⟩ := Inv2.round hN e1
      obtain ⟨_, j, hj, hji, hjs⟩ := Inv.round hN e1
      split at e
      · rename_i hlt
        have hji' : S1.next.length = i := by
          rw [hj.next]
          rcases Nat.lt_or_ge j i with h | h
          · have := hjs h; omega
          · omega
        split at e
        · rename_i S2 row2 e2
          injection e with e3 e4
          subst e3 e4
          rw [hji'] at h
          obtain ⟨h1, P', Q', h2⟩ := h.rowTo hlt (Nat.le_refl _) e2
          have h3 := h2.next (by omega)
          refine ⟨P', Q', ?_⟩
          have : (S2.next ++ [row2]).length = i + 1 := by simp [h2.inv.next]
          show Inv2 k N t stop P' Q' (S2.next ++ [row2]).length _ [] 0
          rw [this]
          exact h3
        · cases e
        · cases e
      · injection e with e3 e4
        subst e3 e4
        exact ⟨P, Q, h⟩
    · cases e
    · cases e

/-! ### runs along words -/
/-- The nodes at which a word's preimages end. -/
def run (k N : Nat) (t w : List Nat) : List Bool := w.foldl (fun B c => beh k N t B c) (List.replicate N true)
theorem run_snoc (w : List Nat) (c : Nat) : run k N t (w ++ [c]) = beh k N t (run k N t w) c := by simp [run]
theorem sols_cons_ne {u c : Nat} {w : List Nat} : sols k N t u (c :: w) ≠ [] ↔ ∃ s, s < k ∧ t.getD (u * k + s) 0 = c ∧ sols k N t ((u * k + s) % N) w ≠ [] := by
  constructor
  · intro h
    obtain ⟨y, hy⟩ := List.exists_mem_of_ne_nil _ h
    simp only [sols, List.mem_flatMap, List.mem_range] at hy
    obtain ⟨s, hs, hy⟩ := hy
    split at hy
    · rename_i h1
      refine ⟨s, hs, h1, fun e => ?_⟩
      rw [e] at hy
      simp at hy
    · simp at hy
  · rintro ⟨s, hs, h1, h2⟩
    obtain ⟨y, hy⟩ := List.exists_mem_of_ne_nil _ h2
    refine List.ne_nil_of_mem (a := s :: y) ?_
    simp only [sols, List.mem_flatMap, List.mem_range]
    refine ⟨s, hs, ?_⟩
    rw [if_pos h1]
    exact List.mem_map_of_mem hy
theorem fold_sols (hN : 0 < N) : ∀ (w : List Nat) (B : List Bool), nodesOf (w.foldl (fun B c => beh k N t B c) B) ≠ [] ↔ ∃ u ∈ nodesOf B, sols k N t u w ≠ [] := by
  intro w
  induction w with
  | nil =>
    intro B
    constructor
    · intro h
      obtain ⟨u, hu⟩ := List.exists_mem_of_ne_nil _ h
      exact ⟨u, hu, by simp [sols]⟩
    · rintro ⟨u, hu, _⟩
      exact List.ne_nil_of_mem hu
  | cons c w ih =>
    intro B
    rw [List.foldl_cons, ih]
    constructor
    · rintro ⟨v, hv, hs⟩
      obtain ⟨u, hu, s, h1, h2, h3⟩ := mem_behF.1 ((mem_beh hN).1 hv)
      exact ⟨u, hu, sols_cons_ne.2 ⟨s, h1, h2, by rw [h3]; exact hs⟩⟩
    · rintro ⟨u, hu, hs⟩
      obtain ⟨s, h1, h2, h3⟩ := sols_cons_ne.1 hs
      exact ⟨_, (mem_beh hN).2 (mem_behF.2 ⟨u, hu, s, h1, h2, rfl⟩), h3⟩
theorem mem_all {u : Nat} : u ∈ nodesOf (List.replicate N true) ↔ u < N := by
  rw [mem_nodesOf, List.length_replicate, List.getD_eq_getElem?_getD, List.getElem?_replicate]
  constructor
  · exact fun h => h.1
  · intro h
    rw [if_pos h]
    exact ⟨h, rfl⟩
theorem run_sols (hN : 0 < N) (w : List Nat) : nodesOf (run k N t w) ≠ [] ↔ ∃ u, u < N ∧ sols k N t u w ≠ [] := by
  rw [run, fold_sols hN]
  constructor
  · rintro ⟨u, hu, h⟩; exact ⟨u, mem_all.1 hu, h⟩
  · rintro ⟨u, hu, h⟩; exact ⟨u, mem_all.2 hu, h⟩

/-- The shorter first, then by their numbers. -/
def Slt (k : Nat) (x y : List Nat) : Prop := x.length < y.length ∨ (x.length = y.length ∧ wval k x < wval k y)
theorem Slt.trans {x y z : List Nat} (h : Slt k x y) (h' : Slt k y z) : Slt k x z := by
  rcases h with h | ⟨h, h2⟩ <;> rcases h' with h' | ⟨h', h3⟩
  · exact .inl (by omega)
  · exact .inl (by omega)
  · exact .inl (by omega)
  · exact .inr ⟨by omega, by omega⟩
theorem Slt.asymm {x y : List Nat} (h : Slt k x y) (h' : Slt k y x) : False := by
  rcases h with h | ⟨h, h2⟩ <;> rcases h' with h' | ⟨h', h3⟩ <;> omega
theorem Slt.snoc {x y : List Nat} {a b : Nat} (h : Slt k x y) (ha : a < k) : Slt k (x ++ [a]) (y ++ [b]) := by
  rcases h with h | ⟨h, h2⟩
  · exact .inl (by simpa using h)
  · refine .inr ⟨by simpa using h, ?_⟩
    rw [wval_snoc, wval_snoc]
    have : (wval k x + 1) * k ≤ wval k y * k := Nat.mul_le_mul_right k h2
    rw [Nat.add_mul, Nat.one_mul] at this
    omega
theorem Slt.last {x : List Nat} {a b : Nat} (h : a < b) : Slt k (x ++ [a]) (x ++ [b]) := .inr ⟨by simp, by rw [wval_snoc, wval_snoc]; omega⟩
theorem Slt.of_last {x : List Nat} {a b : Nat} (h : Slt k (x ++ [a]) (x ++ [b])) : a < b := by
  rcases h with h | ⟨_, h⟩
  · simp at h
  · rw [wval_snoc, wval_snoc] at h; omega

theorem Inv2.word {P Q : Nat → Nat} {i c : Nat} {S : St} {row : List Int} (h : Inv2 k N t stop P Q i S row c) : ∀ n j, j ≤ n → j < S.sets.length → (∀ x ∈ S.words.getD j [], x < k) ∧ S.sets[j]? = some (run k N t (S.words.getD j [])) := by
  intro n
  induction n with
  | zero =>
    intro j hj hl
    obtain rfl : j = 0 := by omega
    rw [getD_of h.zerow]
    exact ⟨fun x hx => by simp at hx, h.zero⟩
  | succ n ih =>
    intro j hj hl
    rcases Nat.eq_zero_or_pos j with rfl | h0
    · rw [getD_of h.zerow]
      exact ⟨fun x hx => by simp at hx, h.zero⟩
    · obtain ⟨a, b, _, d, e, _⟩ := h.src j h0 hl
      obtain ⟨h1, h2⟩ := ih (P j) (by omega) (by omega)
      rw [getD_of d, run_snoc]
      refine ⟨fun x hx => ?_, ?_⟩
      · rcases List.mem_append.1 hx with hx | hx
        · exact h1 x hx
        · simp at hx; omega
      · rw [e, getD_of h2]
theorem Inv2.lt {P Q : Nat → Nat} {i c : Nat} {S : St} {row : List Int} (h : Inv2 k N t stop P Q i S row c) : ∀ n j j', j' ≤ n → j < j' → j' < S.sets.length → Slt k (S.words.getD j []) (S.words.getD j' []) := by
  intro n
  induction n with
  | zero => intro j j' h1 h2; omega
  | succ n ih =>
    intro j j' h1 h2 h3
    obtain ⟨a', b', _, d', _, _⟩ := h.src j' (by omega) h3
    rw [getD_of d']
    rcases Nat.eq_zero_or_pos j with rfl | h0
    · rw [getD_of h.zerow]
      exact .inl (by simp)
    · obtain ⟨a, b, _, d, _, _⟩ := h.src j h0 (by omega)
      rw [getD_of d]
      rcases h.ord j j' h0 h2 h3 with h4 | ⟨h4, h5⟩
      · exact (ih (P j) (P j') (by omega) h4 (by omega)).snoc a
      · rw [h4]; exact Slt.last h5

/-- Where a set leads: the state's word comes not behind the longer word. -/
theorem Inv2.leads {P Q : Nat → Nat} {i c : Nat} {S : St} {row : List Int} (h : Inv2 k N t stop P Q i S row c) (hs : stop = true) {j b : Nat} (hj : j < S.sets.length) (hb : b < k) (hp : PLt j b i c) :
    ∃ j', S.sets[j']? = some (beh k N t (S.sets.getD j []) b) ∧ (S.words.getD j' [] = S.words.getD j [] ++ [b] ∨ Slt k (S.words.getD j' []) (S.words.getD j [] ++ [b])) := by
  have hrow : ∃ x, (∃ r, r[b]? = some x ∧ RowOk k N t stop P Q S j r) := by
    rcases hp with hp | ⟨rfl, hp⟩
    · have hn : j < S.next.length := by rw [h.inv.next]; exact hp
      obtain ⟨h1, h2⟩ := h.done j _ (List.getElem?_eq_getElem hn)
      exact ⟨_, _, List.getElem?_eq_getElem (by omega), h2⟩
    · exact ⟨_, row, List.getElem?_eq_getElem (by rw [h.rlen]; exact hp), h.cur⟩
  obtain ⟨x, r, h1, h2⟩ := hrow
  rcases h2 b x h1 with ⟨_, _, h3⟩ | ⟨j', _, h4, h5⟩
  · rw [hs] at h3; cases h3
  · refine ⟨j', h4, ?_⟩
    have hl := (List.getElem?_eq_some_iff.1 h4).1
    rcases Nat.eq_zero_or_pos j' with rfl | h0
    · rw [getD_of h.zerow]
      exact .inr (.inl (by simp))
    · obtain ⟨a, _, _, d, _, _⟩ := h.src j' h0 hl
      rw [getD_of d]
      rcases h5 with h5 | h5 | ⟨h5, h6⟩
      · omega
      · exact .inr ((h.lt _ (P j') j (Nat.le_refl _) h5 hj).snoc a)
      · rw [h5]
        rcases Nat.lt_or_ge (Q j') b with h7 | h7
        · exact .inr (Slt.last h7)
        · exact .inl (by rw [show Q j' = b by omega])

/-- Every word that comes ahead of the first orphan leads to a state. -/
theorem Inv2.ahead {P Q : Nat → Nat} {i c : Nat} {S : St} {row : List Int} (h : Inv2 k N t stop P Q i S row c) (hs : stop = true) (hi : i < S.sets.length) (hc : c < k) : ∀ n (y : List Nat), y.length = n → (∀ x ∈ y, x < k) → Slt k y (S.words.getD i [] ++ [c]) →
    ∃ j, S.sets[j]? = some (run k N t y) ∧ (S.words.getD j [] = y ∨ Slt k (S.words.getD j []) y) := by
  intro n
  induction n with
  | zero =>
    intro y hy _ _
    obtain rfl := List.eq_nil_of_length_eq_zero hy
    exact ⟨0, h.zero, .inl (getD_of h.zerow)⟩
  | succ n ih =>
    intro y hy hyk hlt
    have hne : y ≠ [] := by intro e; subst e; simp at hy
    obtain ⟨z, b, rfl⟩ : ∃ z b, y = z ++ [b] := ⟨y.dropLast, y.getLast hne, (List.dropLast_concat_getLast hne).symm⟩
    have hzl : z.length = n := by simpa using hy
    have hbk : b < k := hyk b (by simp)
    have hzs : Slt k z (S.words.getD i [] ++ [c]) := by
      refine .inl ?_
      rcases hlt with h' | ⟨h', _⟩ <;> simp at h' ⊢ <;> omega
    obtain ⟨j, h1, h2⟩ := ih z hzl (fun x hx => hyk x (by simp [hx])) hzs
    have hj := (List.getElem?_eq_some_iff.1 h1).1
    have h3 : S.words.getD j [] ++ [b] = z ++ [b] ∨ Slt k (S.words.getD j [] ++ [b]) (z ++ [b]) := h2.imp (fun e => by rw [e]) (fun e => e.snoc hbk)
    have h4 : Slt k (S.words.getD j [] ++ [b]) (S.words.getD i [] ++ [c]) := by
      rcases h3 with h3 | h3
      · rw [h3]; exact hlt
      · exact h3.trans hlt
    have hp : PLt j b i c := by
      rcases Nat.lt_trichotomy j i with h5 | h5 | h5
      · exact .inl h5
      · subst h5; exact .inr ⟨rfl, h4.of_last⟩
      · exact absurd ((h.lt _ i j (Nat.le_refl _) h5 hj).snoc hc) (fun h' => h'.asymm h4)
    obtain ⟨j', h5, h6⟩ := h.leads hs hj hbk hp
    refine ⟨j', by rw [run_snoc, h5, getD_of h1], ?_⟩
    rcases h6 with h6 | h6
    · rw [h6]; exact h3
    · rcases h3 with h3 | h3
      · rw [← h3]; exact .inr h6
      · exact .inr (h6.trans h3)
theorem fill_next {row : List Int} {k s : Nat} (hl : row.length = s) (hs : s < k) (x : Int) : (row ++ List.replicate (k - s) 0).set s x = (row ++ [x]) ++ List.replicate (k - (s + 1)) 0 := by
  rw [List.set_append_right _ _ (by omega), hl, Nat.sub_self, show k - s = (k - (s + 1)) + 1 by omega, List.replicate_succ]
  simp
theorem sym_none {k N : Nat} {t : List Nat} {stop : Bool} {i s : Nat} {S : St} {row : List Int} (h : nodesOf (beh k N t (S.sets.getD i []) s) = []) (hs : stop = false) : sym k N t stop i S row s = .go S (row ++ [-1]) := by
  unfold sym; rw [if_pos h, if_neg (by rw [hs]; simp)]
theorem sym_orph {k N : Nat} {t : List Nat} {stop : Bool} {i s : Nat} {S : St} {row : List Int} (h : nodesOf (beh k N t (S.sets.getD i []) s) = []) (hs : stop = true) : sym k N t stop i S row s = .orphan (S.words.getD i [] ++ [s]) := by
  unfold sym; rw [if_pos h, if_pos hs]
theorem sym_old {k N : Nat} {t : List Nat} {stop : Bool} {i s : Nat} {S : St} {row : List Int} (h : nodesOf (beh k N t (S.sets.getD i []) s) ≠ []) (hm : beh k N t (S.sets.getD i []) s ∈ S.sets) : sym k N t stop i S row s = .go S (row ++ [((S.sets.idxOf (beh k N t (S.sets.getD i []) s) : Nat) : Int)]) := by
  unfold sym; rw [if_neg h, if_pos hm]
theorem sym_full {k N : Nat} {t : List Nat} {stop : Bool} {i s : Nat} {S : St} {row : List Int} (h : nodesOf (beh k N t (S.sets.getD i []) s) ≠ []) (hm : beh k N t (S.sets.getD i []) s ∉ S.sets) (hl : 4096 ≤ S.sets.length) : sym k N t stop i S row s = .over := by
  unfold sym; rw [if_neg h, if_neg hm, if_pos hl]
theorem sym_new {k N : Nat} {t : List Nat} {stop : Bool} {i s : Nat} {S : St} {row : List Int} (h : nodesOf (beh k N t (S.sets.getD i []) s) ≠ []) (hm : beh k N t (S.sets.getD i []) s ∉ S.sets) (hl : S.sets.length < 4096) :
    sym k N t stop i S row s = .go ⟨S.sets ++ [beh k N t (S.sets.getD i []) s], S.words ++ [S.words.getD i [] ++ [s]], S.next⟩ (row ++ [((S.sets.length : Nat) : Int)]) := by
  unfold sym; rw [if_neg h, if_neg hm, if_neg (by omega)]

theorem Inv2_wlen {k N : Nat} {t : List Nat} {stop : Bool} {P Q : Nat → Nat} {i c : Nat} {S : St} {row : List Int} (h : Inv2 k N t stop P Q i S row c) : ∀ n j, j ≤ n → j < S.sets.length → (S.words.getD j []).length ≤ j := by
  intro n
  induction n with
  | zero =>
    intro j hj hl
    obtain rfl : j = 0 := by omega
    rw [getD_of h.zerow]
    exact Nat.le_refl _
  | succ n ih =>
    intro j hj hl
    rcases Nat.eq_zero_or_pos j with rfl | h0
    · rw [getD_of h.zerow]; exact Nat.le_refl _
    · obtain ⟨a, b, _, d, _, _⟩ := h.src j h0 hl
      have := ih (P j) (by omega) (by omega)
      rw [getD_of d, List.length_append, List.length_singleton]
      omega
/-- What holds ahead of symbol s of round i. -/
theorem row_inv {k N : Nat} {t : List Nat} {stop : Bool} {i s : Nat} {S S' : St} {row : List Int} (hN : 0 < N) (hr : roundTo k N t stop i = .go S []) (hI : Inv N i S) (hi : i < S.sets.length) (hs : s ≤ k) (h : rowTo k N t stop i S s = .go S' row) :
    Inv N i S' ∧ row.length = s ∧ i < S'.sets.length ∧ (S'.words.getD i []).length ≤ 4096 := by
  obtain ⟨P, Q, h2⟩ := Inv2.round hN hr
  rw [hI.next] at h2
  obtain ⟨h3, P', Q', h4⟩ := h2.rowTo hi hs h
  have h5 := Inv2_wlen h4 i i (Nat.le_refl _) (by omega)
  have := h4.inv.big
  exact ⟨h4.inv, h4.rlen, by omega, by omega⟩

end SubP
end Go.Proofs.YtibplgpolmplpaaGreatDoor

namespace Go.Proofs.YtibplgpolmplpaaGreatDoor
open BagP RuleP
namespace SubP
variable {k N : Nat} {t : List Nat}

structure RowsOk (k N : Nat) (t : List Nat) (S : St) : Prop where
  len : S.next.length = S.sets.length
  row : ∀ (i : Nat) r, S.next[i]? = some r → r.length = k
  set : ∀ B ∈ S.sets, B.length = N ∧ nodesOf B ≠ []
  zero : S.sets[0]? = some (List.replicate N true)
  to : ∀ (i s : Nat) r x, S.next[i]? = some r → r[s]? = some x → (x = -1 ∧ nodesOf (beh k N t (S.sets.getD i []) s) = []) ∨ ∃ j : Nat, x = (j : Int) ∧ j < S.sets.length ∧ S.sets[j]? = some (beh k N t (S.sets.getD i []) s)
  src : ∀ j, 0 < j → j < S.sets.length → ∃ i s r, i < j ∧ s < k ∧ S.next[i]? = some r ∧ r[s]? = some (j : Int)
theorem RowsOk.pos {S : St} (h : RowsOk k N t S) : 0 < S.sets.length := (List.getElem?_eq_some_iff.1 h.zero).1
/-- Marked are state 0 and all to which the rows ahead of row i lead, and row i's first s symbols. -/
structure Seen (S : St) (i s : Nat) (L : List Bool) : Prop where
  len : L.length = S.sets.length
  zero : L[0]? = some true
  all : ∀ (i' s' : Nat) r (j : Nat), (i' < i ∨ (i' = i ∧ s' < s)) → S.next[i']? = some r → r[s']? = some (j : Int) → L[j]? = some true
theorem Seen.start {S : St} (h : RowsOk k N t S) : Seen S 0 0 ((List.replicate S.sets.length false).set 0 true) where
  len := by simp
  zero := by
    rw [List.getElem?_set_self (by have := h.pos; simpa using this)]
  all := fun i' s' r j hp => by omega
theorem Seen.at_ {S : St} {i : Nat} {L : List Bool} (h : RowsOk k N t S) (hs : Seen S i 0 L) (hi : i < S.sets.length) : L[i]? = some true := by
  rcases Nat.eq_zero_or_pos i with rfl | h0
  · exact hs.zero
  · obtain ⟨i', s, r, h1, _, h3, h4⟩ := h.src i h0 hi
    exact hs.all i' s r i (.inl h1) h3 h4
theorem Seen.none {S : St} {i s : Nat} {L : List Bool} {r : List Int} {x : Int} (hs : Seen S i s L) (hr : S.next[i]? = some r) (hx : r[s]? = some x) (hn : x < 0) : Seen S i (s + 1) L where
  len := hs.len
  zero := hs.zero
  all := fun i' s' r' j hp hr' hx' => by
    by_cases e : i' = i ∧ s' = s
    · obtain ⟨rfl, rfl⟩ := e
      rw [hr] at hr'
      cases hr'
      rw [hx] at hx'
      cases hx'
      omega
    · exact hs.all i' s' r' j (by omega) hr' hx'
theorem Seen.put {S : St} {i s q : Nat} {L : List Bool} {r : List Int} (hs : Seen S i s L) (hr : S.next[i]? = some r) (hx : r[s]? = some (q : Int)) (hq : q < S.sets.length) : Seen S i (s + 1) (L.set q true) where
  len := by simp [hs.len]
  zero := by
    by_cases e : q = 0
    · subst e; rw [List.getElem?_set_self (by rw [hs.len]; exact hq)]
    · rw [List.getElem?_set_ne e]; exact hs.zero
  all := fun i' s' r' j hp hr' hx' => by
    by_cases e : q = j
    · subst e; rw [List.getElem?_set_self (by rw [hs.len]; exact hq)]
    · rw [List.getElem?_set_ne e]
      refine hs.all i' s' r' j ?_ hr' hx'
      by_cases e' : i' = i ∧ s' = s
      · obtain ⟨rfl, rfl⟩ := e'
        rw [hr] at hr'
        cases hr'
        rw [hx] at hx'
        cases hx'
        exact absurd rfl e
      · omega
theorem Seen.row {S : St} {i : Nat} {L : List Bool} (h : RowsOk k N t S) (hs : Seen S i k L) : Seen S (i + 1) 0 L where
  len := hs.len
  zero := hs.zero
  all := fun i' s' r' j hp hr' hx' => by
    refine hs.all i' s' r' j ?_ hr' hx'
    have h1 := h.row i' r' hr'
    have h2 := (List.getElem?_eq_some_iff.1 hx').1
    omega
end SubP
end Go.Proofs.YtibplgpolmplpaaGreatDoor

namespace Go.Proofs.YtibplgpolmplpaaGreatDoor
namespace RuleP

theorem image_cons {k r : Nat} {t y : List Nat} (h : 2 * r < y.length) : image k r t y = t.getD (wval k (y.take (2 * r + 1))) 0 :: image k r t (y.drop 1) := by
  unfold image
  rw [List.length_drop, show y.length - 2 * r = (y.length - 1 - 2 * r) + 1 from by omega, List.range_succ_eq_map, List.map_cons, List.map_map]
  congr 1
  apply List.map_congr_left
  intro i _
  simp only [Function.comp, win, List.drop_drop]
  rw [show 1 + i = i.succ from by omega]
theorem image_few {k r : Nat} {t y : List Nat} (h : y.length ≤ 2 * r) : image k r t y = [] := by
  unfold image
  rw [show y.length - 2 * r = 0 from by omega]
  rfl
/-- The node behind a symbol. -/
theorem node_next {k r u s : Nat} (hk : 0 < k) (hu : u < k ^ (2 * r)) (hs : s < k) : (digB k (2 * r) u ++ [s]).drop 1 = digB k (2 * r) ((u * k + s) % k ^ (2 * r)) := by
  have hsy : ∀ x ∈ digB k (2 * r) u ++ [s], x < k := by
    intro x hx
    rcases List.mem_append.1 hx with h | h
    · exact digB_sym hk _ _ x h
    · simp at h; subst h; exact hs
  have hl : ((digB k (2 * r) u ++ [s]).drop 1).length = 2 * r := by simp [digB_len]
  have h2 := wval_mod (k := k) ((digB k (2 * r) u ++ [s]).take 1) (b := (digB k (2 * r) u ++ [s]).drop 1) (fun x hx => hsy x (List.mem_of_mem_drop hx))
  rw [List.take_append_drop, wval_snoc, wval_digB hk hu, hl] at h2
  rw [h2, digB_wval hk (2 * r) _ hl (fun x hx => hsy x (List.mem_of_mem_drop hx))]
theorem sols_mem {k N : Nat} {t : List Nat} {u c : Nat} {w z : List Nat} : z ∈ sols k N t u (c :: w) ↔ ∃ s z', s < k ∧ t.getD (u * k + s) 0 = c ∧ z' ∈ sols k N t ((u * k + s) % N) w ∧ z = s :: z' := by
  simp only [sols, List.mem_flatMap, List.mem_range]
  constructor
  · rintro ⟨s, hs, h⟩
    split at h
    · rename_i hc
      obtain ⟨z', h1, rfl⟩ := List.mem_map.1 h
      exact ⟨s, z', hs, hc, h1, rfl⟩
    · cases h
  · rintro ⟨s, z', hs, hc, h1, rfl⟩
    exact ⟨s, hs, by rw [if_pos hc]; exact List.mem_map.2 ⟨z', h1, rfl⟩⟩
theorem image_step {k r u s : Nat} {t z : List Nat} (hk : 0 < k) (hu : u < k ^ (2 * r)) (hs : s < k) :
    image k r t (digB k (2 * r) u ++ s :: z) = t.getD (u * k + s) 0 :: image k r t (digB k (2 * r) ((u * k + s) % k ^ (2 * r)) ++ z) := by
  have e : digB k (2 * r) u ++ s :: z = (digB k (2 * r) u ++ [s]) ++ z := by simp
  have hl : (digB k (2 * r) u ++ [s]).length = 2 * r + 1 := by simp [digB_len]
  rw [e, image_cons (by simp [digB_len]), List.take_append_of_le_length (by omega), List.take_of_length_le (by omega), wval_snoc, wval_digB hk hu, List.drop_append_of_le_length (by omega), node_next hk hu hs]
theorem sols_iff {k r : Nat} {t : List Nat} (hk : 0 < k) : ∀ {w : List Nat} {u : Nat} {z : List Nat}, u < k ^ (2 * r) → (z ∈ sols k (k ^ (2 * r)) t u w ↔ z.length = w.length ∧ (∀ x ∈ z, x < k) ∧ image k r t (digB k (2 * r) u ++ z) = w)
  | [], u, z, hu => by
    constructor
    · intro h
      simp [sols] at h
      subst h
      exact ⟨rfl, by simp, image_few (by simp [digB_len])⟩
    · rintro ⟨h, _, _⟩
      have : z = [] := List.eq_nil_of_length_eq_zero h
      subst this
      simp [sols]
  | c :: w, u, z, hu => by
    have hN : ∀ s, (u * k + s) % k ^ (2 * r) < k ^ (2 * r) := fun s => Nat.mod_lt _ (Nat.pow_pos hk)
    rw [sols_mem]
    constructor
    · rintro ⟨s, z', hs, hc, h1, rfl⟩
      obtain ⟨a, b, d⟩ := (sols_iff hk (hN s)).1 h1
      refine ⟨by simp [a], fun x hx => ?_, ?_⟩
      · rcases List.mem_cons.1 hx with rfl | hx
        · exact hs
        · exact b x hx
      · rw [image_step hk hu hs, hc, d]
    · rintro ⟨h1, h2, h3⟩
      cases z with
      | nil => simp at h1
      | cons s z' =>
        have hs := h2 s (by simp)
        rw [image_step hk hu hs] at h3
        injection h3 with h4 h5
        exact ⟨s, z', hs, h4, (sols_iff hk (hN s)).2 ⟨by simpa using h1, fun x hx => h2 x (by simp [hx]), h5⟩, rfl⟩
theorem before_mem {k r : Nat} {t w y : List Nat} : y ∈ before k r t w ↔ ∃ u z, u < k ^ (2 * r) ∧ z ∈ sols k (k ^ (2 * r)) t u w ∧ y = digB k (2 * r) u ++ z := by
  unfold before befTo
  simp only [List.mem_flatMap, List.mem_range, List.mem_map]
  constructor
  · rintro ⟨u, hu, z, hz, rfl⟩
    exact ⟨u, z, hu, hz, rfl⟩
  · rintro ⟨u, z, hu, hz, rfl⟩
    exact ⟨u, hu, z, hz, rfl⟩
end RuleP
end Go.Proofs.YtibplgpolmplpaaGreatDoor

namespace Go.Proofs.YtibplgpolmplpaaGreatDoor
namespace RuleP

/-- A window's symbol by a table. -/
def sy (k : Nat) (t v : List Nat) : Nat := t.getD (wval k v) 0
/-- The table whose symbols are told window by window. -/
def tab (k n : Nat) (f : List Nat → Nat) : List Nat := (List.range (k ^ n)).map fun i => f (digB k n i)
theorem tab_len (k n : Nat) (f : List Nat → Nat) : (tab k n f).length = k ^ n := by simp [tab]
theorem dig_wval {k : Nat} (hk : 0 < k) : ∀ {n u : Nat}, u < k ^ n → wval k (digB k n u) = u
  | 0, u, h => by simp at h; subst h; rfl
  | n + 1, u, h => by
    have h1 : u / k < k ^ n := by
      rw [Nat.pow_succ] at h
      exact Nat.div_lt_of_lt_mul (by rw [Nat.mul_comm]; exact h)
    rw [digB, wval_snoc, dig_wval hk h1, Nat.mul_comm]
    exact Nat.div_add_mod u k
theorem tab_at {k n : Nat} (hk : 0 < k) (f : List Nat → Nat) {v : List Nat} (hl : v.length = n) (hs : ∀ x ∈ v, x < k) : (tab k n f)[wval k v]? = some (f v) := by
  have h := wval_lt hs
  rw [hl] at h
  unfold tab
  rw [List.getElem?_map, List.getElem?_range h]
  simp only [Option.map_some]
  rw [digB_wval hk n v hl hs]
theorem tab_get {k n i : Nat} (f : List Nat → Nat) (h : i < k ^ n) : (tab k n f)[i]? = some (f (digB k n i)) := by
  unfold tab
  rw [List.getElem?_map, List.getElem?_range h]
  rfl
theorem sy_tab {k n : Nat} (hk : 0 < k) (f : List Nat → Nat) {v : List Nat} (hl : v.length = n) (hs : ∀ x ∈ v, x < k) : sy k (tab k n f) v = f v := by
  unfold sy
  rw [List.getD_eq_getElem?_getD, tab_at hk f hl hs]
  rfl
theorem tab_sym {k n : Nat} (hk : 0 < k) {f : List Nat → Nat} (hf : ∀ v : List Nat, v.length = n → (∀ x ∈ v, x < k) → f v < k) : ∀ x ∈ tab k n f, x < k := by
  intro x hx
  unfold tab at hx
  obtain ⟨i, _, rfl⟩ := List.mem_map.1 hx
  exact hf _ (digB_len _ _ _) (digB_sym hk _ _)
theorem tab_rule {k r : Nat} (k1 : 1 ≤ k) (k4 : k ≤ 4) (r3 : r ≤ 3) {f : List Nat → Nat} (hf : ∀ v : List Nat, v.length = 2 * r + 1 → (∀ x ∈ v, x < k) → f v < k) : IsRule k r (tab k (2 * r + 1) f) :=
  ⟨k1, k4, r3, tab_len _ _ _, tab_sym k1 hf⟩
theorem tab_congr {k n : Nat} (hk : 0 < k) {f g : List Nat → Nat} (h : ∀ v : List Nat, v.length = n → (∀ x ∈ v, x < k) → f v = g v) : tab k n f = tab k n g := by
  unfold tab
  exact List.map_congr_left fun i _ => h _ (digB_len _ _ _) (digB_sym hk _ _)
theorem sy_lt {k r : Nat} {t v : List Nat} (hr : IsRule k r t) (hl : v.length = 2 * r + 1) (hs : ∀ x ∈ v, x < k) : sy k t v < k := by
  have h := wval_lt hs
  rw [hl, ← hr.len] at h
  unfold sy
  rw [List.getD_eq_getElem?_getD, List.getElem?_eq_getElem h]
  exact hr.sym _ (List.getElem_mem _)
theorem tab_sy {k r : Nat} {t : List Nat} (hr : IsRule k r t) : tab k (2 * r + 1) (sy k t) = t := by
  apply List.ext_getElem (by rw [tab_len, hr.len])
  intro i h1 h2
  have h3 : i < k ^ (2 * r + 1) := by rwa [tab_len] at h1
  have h4 := tab_get (sy k t) h3
  rw [List.getElem?_eq_getElem h1] at h4
  rw [Option.some.inj h4]
  unfold sy
  rw [dig_wval hr.k1 h3, List.getD_eq_getElem?_getD, List.getElem?_eq_getElem h2]
  rfl

/-! ### one behind the other -/
def comp (k ra : Nat) (ta : List Nat) (rb : Nat) (tb : List Nat) : List Nat := tab k (2 * (ra + rb) + 1) fun v => sy k ta (image k rb tb v)
end RuleP
end Go.Proofs.YtibplgpolmplpaaGreatDoor

namespace Go.Proofs.YtibplgpolmplpaaGreatDoor
namespace RuleP

/-- With a radius d greater: the outer symbols tell nothing. -/
def wide (k r d : Nat) (t : List Nat) : List Nat := tab k (2 * (r + d) + 1) fun v => sy k t (win v d (2 * r + 1))
theorem wide_rule {k r d : Nat} {t : List Nat} (hr : IsRule k r t) (h : r + d ≤ 3) : IsRule k (r + d) (wide k r d t) :=
  tab_rule hr.k1 hr.k4 h fun v hl hs => sy_lt hr (win_len (by omega)) (win_sym hs _ _)
theorem getD_sym {k p : Nat} {v : List Nat} (hp : p < v.length) (hs : ∀ x ∈ v, x < k) : v.getD p 0 < k := by
  rw [List.getD_eq_getElem?_getD, List.getElem?_eq_getElem hp]
  exact hs _ (List.getElem_mem _)
/-! ### read from the other end -/
def mir (k r : Nat) (t : List Nat) : List Nat := tab k (2 * r + 1) fun v => sy k t v.reverse
theorem rev_sym {k : Nat} {v : List Nat} (hs : ∀ x ∈ v, x < k) : ∀ x ∈ v.reverse, x < k := fun x hx => hs x (List.mem_reverse.1 hx)
theorem mir_rule {k r : Nat} {t : List Nat} (hr : IsRule k r t) : IsRule k r (mir k r t) :=
  tab_rule hr.k1 hr.k4 hr.r3 fun v hl hs => sy_lt hr (by rw [List.length_reverse, hl]) (rev_sym hs)
theorem mir_mir {k r : Nat} {t : List Nat} (hr : IsRule k r t) : mir k r (mir k r t) = t := by
  have : mir k r (mir k r t) = tab k (2 * r + 1) (sy k t) := tab_congr hr.k1 fun v hl hs => by
    show sy k (tab k (2 * r + 1) fun v => sy k t v.reverse) v.reverse = sy k t v
    rw [sy_tab hr.k1 _ (by rw [List.length_reverse, hl]) (rev_sym hs), List.reverse_reverse]
  rw [this, tab_sy hr]
theorem win_rev {w : List Nat} {i m : Nat} (h : i + m ≤ w.length) : win w.reverse i m = (win w (w.length - i - m) m).reverse := by
  unfold win
  rw [List.drop_reverse, List.take_reverse, List.reverse_inj]
  rw [List.length_take, Nat.min_eq_left (by omega), List.drop_take]
  congr 1
  omega
theorem image_mir {k r : Nat} {t w : List Nat} (hr : IsRule k r t) (hs : ∀ x ∈ w, x < k) : image k r (mir k r t) w.reverse = (image k r t w).reverse := by
  apply List.ext_getElem?
  intro i
  by_cases hi : i + 2 * r < w.length
  · have hl : w.reverse.length = w.length := List.length_reverse
    rw [image_at (by omega), List.getElem?_reverse (by rw [image_len]; omega), image_len, image_at (by omega)]
    have h1 : i + (2 * r + 1) ≤ w.length := by omega
    have h2 := sy_tab hr.k1 (fun v => sy k t v.reverse) (win_len (w := w.reverse) (i := i) (m := 2 * r + 1) (by omega)) (win_sym (rev_sym hs) i (2 * r + 1))
    refine congrArg some (h2.trans ?_)
    show sy k t (win w.reverse i (2 * r + 1)).reverse = sy k t (win w (w.length - 2 * r - 1 - i) (2 * r + 1))
    rw [win_rev h1, List.reverse_reverse, show w.length - i - (2 * r + 1) = w.length - 2 * r - 1 - i by omega]
  · rw [List.getElem?_eq_none (by rw [image_len, List.length_reverse]; omega), List.getElem?_eq_none (by rw [List.length_reverse, image_len]; omega)]
end RuleP
end Go.Proofs.YtibplgpolmplpaaGreatDoor

namespace Go.Proofs.YtibplgpolmplpaaGreatDoor
namespace RuleP

/-! ### the words themselves -/
/-- All words of n symbols, in order. -/
def allW (k : Nat) : Nat → List (List Nat)
  | 0 => [[]]
  | n + 1 => (List.range k).flatMap fun c => (allW k n).map fun w => c :: w
theorem allW_sym {k : Nat} : ∀ {n : Nat} {w : List Nat}, w ∈ allW k n → w.length = n ∧ ∀ c ∈ w, c < k
  | 0, w, h => by rw [allW, List.mem_singleton] at h; subst h; exact ⟨rfl, fun c hc => by simp at hc⟩
  | n + 1, w, h => by
    rw [allW, List.mem_flatMap] at h
    obtain ⟨c, hc, h⟩ := h
    obtain ⟨v, hv, rfl⟩ := List.mem_map.1 h
    obtain ⟨h1, h2⟩ := allW_sym hv
    exact ⟨by rw [List.length_cons, h1], fun x hx => (List.mem_cons.1 hx).elim (fun e => by rw [e]; exact List.mem_range.1 hc) (h2 x)⟩
end RuleP
end Go.Proofs.YtibplgpolmplpaaGreatDoor

namespace Go.Proofs.YtibplgpolmplpaaGreatDoor
open BagP RuleP SubP

namespace SubP
theorem RowsOk.auto {k N : Nat} {t : List Nat} {S : St} (h : RowsOk k N t S) : IsAuto k S.next where
  pos := by rw [h.len]; exact h.pos
  len := fun r hr => by
    obtain ⟨i, hi⟩ := List.getElem?_of_mem hr
    exact h.row i r hi
  ok := fun r hr x hx => by
    obtain ⟨i, hi⟩ := List.getElem?_of_mem hr
    obtain ⟨s, hs⟩ := List.getElem?_of_mem hx
    rcases h.to i s r x hi hs with ⟨h1, _⟩ | ⟨j, h1, h2, _⟩
    · exact .inl h1
    · exact .inr ⟨j, h1, by rw [h.len]; exact h2⟩
theorem RowsOk.at_ {k N : Nat} {t : List Nat} {S : St} (h : RowsOk k N t S) {i s : Nat} (hi : i < S.sets.length) (hs : s < k) :
    (nxt S.next i s = -1 ∧ nodesOf (beh k N t (S.sets.getD i []) s) = []) ∨ ∃ j : Nat, nxt S.next i s = (j : Int) ∧ j < S.sets.length ∧ S.sets[j]? = some (beh k N t (S.sets.getD i []) s) := by
  have hi' : i < S.next.length := by rw [h.len]; exact hi
  exact h.to i s _ _ (h.auto.row hi').2 (h.auto.at_ hi' hs).1
theorem RowsOk.runs {k N : Nat} {t : List Nat} {S : St} (h : RowsOk k N t S) : ∀ (w : List Nat) (i : Nat), i < S.sets.length → (∀ c ∈ w, c < k) → ((runA S.next i w).isSome = true ↔ nodesOf (w.foldl (fun B c => beh k N t B c) (S.sets.getD i [])) ≠ [])
  | [], i, hi, _ => by
    rw [runA_nil]
    refine ⟨fun _ => ?_, fun _ => rfl⟩
    have e : S.sets.getD i [] = S.sets[i] := by rw [List.getD_eq_getElem?_getD, List.getElem?_eq_getElem hi]; rfl
    rw [List.foldl_nil, e]
    exact (h.set _ (List.getElem_mem hi)).2
  | c :: w, i, hi, hw => by
    have hck := hw c (by simp)
    have hwk : ∀ x ∈ w, x < k := fun x hx => hw x (by simp [hx])
    rw [runA_cons, List.foldl_cons]
    rcases h.at_ hi hck with ⟨h1, h2⟩ | ⟨j, h1, h2, h3⟩
    · rw [if_pos (by omega)]
      refine ⟨fun e => (by cases e), fun e => absurd ?_ e⟩
      have key : ∀ (w : List Nat) (B : List Bool), nodesOf B = [] → nodesOf (w.foldl (fun B c => beh k N t B c) B) = [] := by
        intro w
        induction w with
        | nil => intro B hB; exact hB
        | cons x w ih =>
          intro B hB
          rw [List.foldl_cons]
          refine ih _ ?_
          unfold beh
          rw [hB, behF_nil]
          exact nodes_eq_nil.2 fun u hu => by
            rw [mark_len] at hu
            rw [mark_get N [] hu]
            simp
      exact key w _ h2
    · rw [if_neg (by omega), h1]
      have e : S.sets.getD j [] = beh k N t (S.sets.getD i []) c := by rw [List.getD_eq_getElem?_getD, h3]; rfl
      have h4 := h.runs w j h2 hwk
      rw [e] at h4
      exact h4
/-- A word runs through the automaton of the subsets just if it has a preimage. -/
theorem RowsOk.has {k r : Nat} {t : List Nat} {S : St} (hk : 0 < k) (h : RowsOk k (k ^ (2 * r)) t S) {w : List Nat} (hw : ∀ c ∈ w, c < k) : (runA S.next 0 w).isSome = true ↔ before k r t w ≠ [] := by
  have hN : 0 < k ^ (2 * r) := Nat.pow_pos hk
  have e : S.sets.getD 0 [] = List.replicate (k ^ (2 * r)) true := by rw [List.getD_eq_getElem?_getD, h.zero]; rfl
  have h1 := h.runs w 0 h.pos hw
  rw [e] at h1
  rw [h1]
  show nodesOf (run k (k ^ (2 * r)) t w) ≠ [] ↔ _
  rw [run_sols hN]
  constructor
  · rintro ⟨u, hu, hs⟩ hb
    obtain ⟨z, hz⟩ := List.exists_mem_of_ne_nil _ hs
    have h2 := before_mem.2 ⟨u, z, hu, hz, rfl⟩
    rw [hb] at h2
    simp at h2
  · intro hb
    obtain ⟨y, hy⟩ := List.exists_mem_of_ne_nil _ hb
    obtain ⟨u, z, hu, hz, _⟩ := before_mem.1 hy
    exact ⟨u, hu, fun e => by rw [e] at hz; simp at hz⟩
end SubP

namespace RuleP
end RuleP
end Go.Proofs.YtibplgpolmplpaaGreatDoor

namespace Go.Proofs.YtibplgpolmplpaaGreatDoor
namespace RuleP

/-! ### the words in order -/
theorem range_mul {α : Type} (f : Nat → α) (m : Nat) : ∀ k : Nat, (List.range (k * m)).map f = (List.range k).flatMap fun c => (List.range m).map fun j => f (c * m + j)
  | 0 => by rw [Nat.zero_mul]; rfl
  | k + 1 => by
    rw [Nat.succ_mul, List.range_add, List.map_append, range_mul f m k, List.range_succ, List.flatMap_append, List.flatMap_cons, List.flatMap_nil, List.append_nil, List.map_map]
    rfl
theorem digB_head {k : Nat} (hk : 0 < k) : ∀ (n c j : Nat), c < k → j < k ^ n → digB k (n + 1) (c * k ^ n + j) = c :: digB k n j
  | 0, c, j, hc, hj => by
    simp at hj
    subst hj
    show digB k 0 _ ++ [(c * k ^ 0 + 0) % k] = [c]
    rw [Nat.pow_zero, Nat.mul_one, Nat.add_zero, Nat.mod_eq_of_lt hc]
    rfl
  | n + 1, c, j, hc, hj => by
    have h1 : j / k < k ^ n := by
      rw [Nat.pow_succ] at hj
      exact Nat.div_lt_of_lt_mul (by rw [Nat.mul_comm]; exact hj)
    have e1 : (c * k ^ (n + 1) + j) / k = c * k ^ n + j / k := by
      rw [Nat.pow_succ, ← Nat.mul_assoc, Nat.add_comm, Nat.add_mul_div_right _ _ hk, Nat.add_comm]
    have e2 : (c * k ^ (n + 1) + j) % k = j % k := by
      rw [Nat.pow_succ, ← Nat.mul_assoc, Nat.add_comm, Nat.add_mul_mod_self_right]
    show digB k (n + 1) ((c * k ^ (n + 1) + j) / k) ++ [(c * k ^ (n + 1) + j) % k] = c :: (digB k n (j / k) ++ [j % k])
    rw [e1, e2, digB_head hk n c (j / k) hc h1]
    rfl
theorem allW_dig {k : Nat} (hk : 0 < k) : ∀ n, (List.range (k ^ n)).map (digB k n) = allW k n
  | 0 => rfl
  | n + 1 => by
    rw [Nat.pow_succ, Nat.mul_comm, range_mul, allW]
    rw [List.flatMap_def, List.flatMap_def]
    refine congrArg List.flatten (List.map_congr_left fun c hc => ?_)
    rw [← allW_dig hk n, List.map_map]
    exact List.map_congr_left fun j hj => digB_head hk n c j (List.mem_range.1 hc) (List.mem_range.1 hj)
end RuleP
end Go.Proofs.YtibplgpolmplpaaGreatDoor
