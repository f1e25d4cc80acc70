/- The walk over the subsets of nodes: plain lists, no program. What comes behind a set by a label; the walk, round by round; sets as words, as members, as texts. No condition. -/
import Derived.Test.YtibplgpolmplpaaGreatDoorX1
import Derived.Test.YtibplgpolmplpaaGreatDoorX4
namespace Go.Proofs.YtibplgpolmplpaaGreatDoor
open BagP RuleP
namespace SubP

theorem getD_app {α : Type} {l m : List α} {i : Nat} {d : α} (h : i < l.length) : (l ++ m).getD i d = l.getD i d := by
  rw [List.getD_eq_getElem?_getD, List.getElem?_append_left h, ← List.getD_eq_getElem?_getD]
theorem getD_of {α : Type} {l : List α} {i : Nat} {d x : α} (h : l[i]? = some x) : l.getD i d = x := by rw [List.getD_eq_getElem?_getD, h]; rfl
theorem get_app {α : Type} {l m : List α} {i : Nat} {x : α} (h : l[i]? = some x) : (l ++ m)[i]? = some x := by
  rw [List.getElem?_append_left (List.getElem?_eq_some_iff.1 h).1]; exact h
theorem get_last {α : Type} (l : List α) (x : α) : (l ++ [x])[l.length]? = some x := by simp
theorem get_snoc {α : Type} {l : List α} {y x : α} {i : Nat} (h : (l ++ [y])[i]? = some x) : l[i]? = some x ∨ (i = l.length ∧ x = y) := by
  rcases Nat.lt_or_ge i l.length with hlt | hge
  · rw [List.getElem?_append_left hlt] at h
    exact .inl h
  · rw [List.getElem?_append_right hge] at h
    rcases Nat.eq_zero_or_pos (i - l.length) with h0 | h0
    · rw [h0] at h; simp at h; exact .inr ⟨by omega, h.symm⟩
    · rw [List.getElem?_eq_none (by simp; omega)] at h; cases h

/-! ### sets of nodes -/
/-- The members below m. -/
def nodesTo (B : List Bool) (m : Nat) : List Nat := (List.range m).filter fun u => B.getD u false
def nodesOf (B : List Bool) : List Nat := nodesTo B B.length
theorem mem_nodesTo {B : List Bool} {m u : Nat} : u ∈ nodesTo B m ↔ u < m ∧ B.getD u false = true := by simp [nodesTo]
theorem mem_nodesOf {B : List Bool} {u : Nat} : u ∈ nodesOf B ↔ u < B.length ∧ B.getD u false = true := mem_nodesTo
/-- Edges of label s from node u, by the symbols below c. -/
def outTo (k N : Nat) (t : List Nat) (s u c : Nat) : List Nat := ((List.range c).filter fun c => decide (t.getD (u * k + c) 0 = s)).map fun c => (u * k + c) % N
theorem outTo_zero (k N : Nat) (t : List Nat) (s u : Nat) : outTo k N t s u 0 = [] := rfl
theorem outTo_succ (k N : Nat) (t : List Nat) (s u c : Nat) : outTo k N t s u (c + 1) = outTo k N t s u c ++ if t.getD (u * k + c) 0 = s then [(u * k + c) % N] else [] := by
  unfold outTo
  rw [List.range_succ, List.filter_append, List.map_append]
  congr 1
  rw [List.filter_cons, List.filter_nil]
  by_cases h : t.getD (u * k + c) 0 = s
  · rw [if_pos h, if_pos (decide_eq_true h)]; rfl
  · rw [if_neg h, if_neg (by rw [decide_eq_true_eq]; exact h)]; rfl
/-- Where the edges of label s lead, from these nodes. -/
def behF (k N : Nat) (t : List Nat) (s : Nat) (M : List Nat) : List Nat := M.flatMap fun u => outTo k N t s u k
theorem behF_nil (k N : Nat) (t : List Nat) (s : Nat) : behF k N t s [] = [] := rfl
theorem behF_snoc (k N : Nat) (t : List Nat) (s : Nat) (M : List Nat) (u : Nat) : behF k N t s (M ++ [u]) = behF k N t s M ++ outTo k N t s u k := by simp [behF]
theorem mem_behF {k N : Nat} {t : List Nat} {s : Nat} {M : List Nat} {v : Nat} : v ∈ behF k N t s M ↔ ∃ u ∈ M, ∃ c, c < k ∧ t.getD (u * k + c) 0 = s ∧ (u * k + c) % N = v := by
  simp only [behF, outTo, List.mem_flatMap, List.mem_map, List.mem_filter, List.mem_range, decide_eq_true_eq, and_assoc]
theorem behF_lt {k N : Nat} (hN : 0 < N) {t : List Nat} {s : Nat} {M : List Nat} : ∀ v ∈ behF k N t s M, v < N := fun v hv => by
  obtain ⟨u, _, c, _, _, rfl⟩ := mem_behF.1 hv
  exact Nat.mod_lt _ hN
theorem outTo_len (k N : Nat) (t : List Nat) (s u c : Nat) : (outTo k N t s u c).length ≤ c := by
  unfold outTo
  rw [List.length_map]
  exact Nat.le_trans (List.length_filter_le _ _) (by simp)
theorem behF_len (k N : Nat) (t : List Nat) (s : Nat) (M : List Nat) : (behF k N t s M).length ≤ k * M.length := by
  induction M with
  | nil => simp [behF]
  | cons u M ih =>
    have h1 := outTo_len k N t s u k
    simp only [behF, List.flatMap_cons, List.length_append, List.length_cons] at ih ⊢
    rw [Nat.mul_succ]
    omega
theorem nodesTo_len (B : List Bool) (m : Nat) : (nodesTo B m).length ≤ m := Nat.le_trans (List.length_filter_le _ _) (by simp)

/-- N places, those of the list marked. -/
def mark (N : Nat) (L : List Nat) : List Bool := L.foldl (fun o v => o.set v true) (List.replicate N false)
theorem mark_len (N : Nat) (L : List Nat) : (mark N L).length = N := by
  have : ∀ (L : List Nat) (o : List Bool), (L.foldl (fun o v => o.set v true) o).length = o.length := by
    intro L
    induction L with
    | nil => intro o; rfl
    | cons v L ih => intro o; simp only [List.foldl_cons]; rw [ih]; simp
  rw [mark, this]; simp
theorem mark_get (N : Nat) (L : List Nat) {v : Nat} (hv : v < N) : (mark N L).getD v false = decide (v ∈ L) := by
  have : ∀ (L : List Nat) (o : List Bool), v < o.length → (L.foldl (fun o v => o.set v true) o).getD v false = (o.getD v false || decide (v ∈ L)) := by
    intro L
    induction L with
    | nil => intro o _; simp
    | cons x L ih =>
      intro o ho
      simp only [List.foldl_cons]
      rw [ih _ (by simpa using ho), List.getD_eq_getElem?_getD, List.getElem?_set]
      by_cases h : x = v
      · subst h
        rw [if_pos rfl, if_pos ho]
        simp
      · rw [if_neg h, ← List.getD_eq_getElem?_getD]
        congr 1
        rw [decide_eq_decide]
        simp [Ne.symm h]
  rw [mark, this L _ (by simpa using hv), List.getD_eq_getElem?_getD, List.getElem?_replicate, if_pos hv]
  simp
/-- What comes behind a set by label s. -/
def beh (k N : Nat) (t : List Nat) (B : List Bool) (s : Nat) : List Bool := mark N (behF k N t s (nodesOf B))
theorem beh_len (k N : Nat) (t : List Nat) (B : List Bool) (s : Nat) : (beh k N t B s).length = N := mark_len _ _
theorem bools_ext {A B : List Bool} {N : Nat} (ha : A.length = N) (hb : B.length = N) (h : ∀ v, v < N → A.getD v false = B.getD v false) : A = B := by
  apply List.ext_getElem (by rw [ha, hb])
  intro i h1 h2
  have := h i (by omega)
  rw [List.getD_eq_getElem?_getD, List.getD_eq_getElem?_getD, List.getElem?_eq_getElem h1, List.getElem?_eq_getElem h2] at this
  simpa using this
theorem mem_nodes_mark {N : Nat} {L : List Nat} (hL : ∀ v ∈ L, v < N) {v : Nat} : v ∈ nodesOf (mark N L) ↔ v ∈ L := by
  rw [mem_nodesOf, mark_len]
  constructor
  · rintro ⟨h1, h2⟩
    rw [mark_get N L h1] at h2
    exact of_decide_eq_true h2
  · intro h
    exact ⟨hL v h, by rw [mark_get N L (hL v h)]; exact decide_eq_true h⟩
theorem mem_beh {k N : Nat} (hN : 0 < N) {t : List Nat} {B : List Bool} {s v : Nat} : v ∈ nodesOf (beh k N t B s) ↔ v ∈ behF k N t s (nodesOf B) := mem_nodes_mark (behF_lt hN)
theorem nodes_eq_nil {B : List Bool} : nodesOf B = [] ↔ ∀ u, u < B.length → B.getD u false = false := by
  constructor
  · intro h u hu
    cases hb : B.getD u false with
    | false => rfl
    | true => exact absurd (mem_nodesOf.2 ⟨hu, hb⟩) (by rw [h]; simp)
  · intro h
    refine List.eq_nil_iff_forall_not_mem.2 fun u hu => ?_
    obtain ⟨h1, h2⟩ := mem_nodesOf.1 hu
    rw [h u h1] at h2
    cases h2
theorem behF_nil_iff {k N : Nat} (hN : 0 < N) {t : List Nat} {B : List Bool} {s : Nat} : behF k N t s (nodesOf B) = [] ↔ nodesOf (beh k N t B s) = [] := by
  rw [List.eq_nil_iff_forall_not_mem, List.eq_nil_iff_forall_not_mem]
  exact ⟨fun h v hv => h v ((mem_beh hN).1 hv), fun h v hv => h v ((mem_beh hN).2 hv)⟩

/-! ### a set as words -/
def wordsOf (N : Nat) (B : List Bool) : List Nat := bitsOf N (ints (nodesOf B))
theorem ints_mem {l : List Nat} {y : Nat} : (y : Int) ∈ ints l ↔ y ∈ l := by
  unfold ints
  rw [List.mem_map]
  exact ⟨fun ⟨a, h, e⟩ => by rwa [← Int.ofNat.inj e], fun h => ⟨y, h, rfl⟩⟩
theorem ints_range {l : List Nat} {N : Nat} (h : ∀ v ∈ l, v < N) : ∀ x ∈ ints l, 0 ≤ x ∧ x < (N : Int) := fun x hx => by
  obtain ⟨y, hy, rfl⟩ := List.mem_map.1 hx
  have := h y hy
  omega
theorem nodes_range {B : List Bool} {N : Nat} (h : B.length = N) : ∀ v ∈ nodesOf B, v < N := fun v hv => by have := (mem_nodesOf.1 hv).1; omega
theorem bits_same {N : Nat} {l m : List Nat} (hl : ∀ v ∈ l, v < N) (hm : ∀ v ∈ m, v < N) (h : ∀ v, v ∈ l ↔ v ∈ m) : bitsOf N (ints l) = bitsOf N (ints m) := by
  refine ext_words (by rw [length_bitsOf, length_bitsOf]) (ok_bitsOf _ _) (ok_bitsOf _ _) fun y _ => ?_
  rw [has_bitsOf (ints_range hl), has_bitsOf (ints_range hm), decide_eq_decide, ints_mem, ints_mem, h y]
theorem bits_beh {k N : Nat} (hN : 0 < N) {t : List Nat} {B : List Bool} {s : Nat} : bitsOf N (ints (behF k N t s (nodesOf B))) = wordsOf N (beh k N t B s) :=
  bits_same (behF_lt hN) (nodes_range (beh_len _ _ _ _ _)) (fun _ => (mem_beh hN).symm)
theorem has_words {N : Nat} {B : List Bool} (h : B.length = N) {y : Nat} (hy : y < N) : BagP.hasB (wordsOf N B) y = B.getD y false := by
  rw [wordsOf, has_bitsOf (ints_range (nodes_range h))]
  cases hb : B.getD y false with
  | true => exact decide_eq_true (ints_mem.2 (mem_nodesOf.2 ⟨by omega, hb⟩))
  | false => exact decide_eq_false (fun hm => by have := (mem_nodesOf.1 (ints_mem.1 hm)).2; rw [hb] at this; cases this)
theorem words_inj {N : Nat} {A B : List Bool} (ha : A.length = N) (hb : B.length = N) (h : wordsOf N A = wordsOf N B) : A = B :=
  bools_ext ha hb fun v hv => by rw [← has_words ha hv, ← has_words hb hv, h]
theorem getL_words {N : Nat} {B : List Bool} (h : B.length = N) : getL N (wordsOf N B) = ints (nodesOf B) := by
  unfold getL nodesOf nodesTo ints
  rw [h]
  congr 1
  refine List.filter_congr fun y hy => ?_
  exact has_words h (List.mem_range.1 hy)
theorem mem_words {N : Nat} {S : List (List Bool)} (hS : ∀ B ∈ S, B.length = N) {B : List Bool} (h : B.length = N) : wordsOf N B ∈ S.map (wordsOf N) ↔ B ∈ S := by
  constructor
  · intro hm
    obtain ⟨A, hA, e⟩ := List.mem_map.1 hm
    rw [← words_inj (hS A hA) h e]
    exact hA
  · exact fun hm => List.mem_map_of_mem hm
/-! ### the walk -/
structure St where
  sets : List (List Bool)
  words : List (List Nat)
  next : List (List Int)
inductive Out
  | go (S : St) (row : List Int)
  | orphan (x : List Nat)
  | over

/-- One symbol: the set behind set i by symbol s. -/
def sym (k N : Nat) (t : List Nat) (stop : Bool) (i : Nat) (S : St) (row : List Int) (s : Nat) : Out :=
  if nodesOf (beh k N t (S.sets.getD i []) s) = [] then
    (if stop then .orphan (S.words.getD i [] ++ [s]) else .go S (row ++ [-1]))
  else if beh k N t (S.sets.getD i []) s ∈ S.sets then .go S (row ++ [((S.sets.idxOf (beh k N t (S.sets.getD i []) s) : Nat) : Int)])
  else if 4096 ≤ S.sets.length then .over
  else .go ⟨S.sets ++ [beh k N t (S.sets.getD i []) s], S.words ++ [S.words.getD i [] ++ [s]], S.next⟩ (row ++ [((S.sets.length : Nat) : Int)])
/-- The first s symbols of set i. -/
def rowTo (k N : Nat) (t : List Nat) (stop : Bool) (i : Nat) (S : St) : Nat → Out
  | 0 => .go S []
  | s + 1 => match rowTo k N t stop i S s with
    | .go S' row => sym k N t stop i S' row s
    | .orphan x => .orphan x
    | .over => .over
def init (N : Nat) : St := ⟨[List.replicate N true], [[]], []⟩
/-- Ahead of round i. -/
def roundTo (k N : Nat) (t : List Nat) (stop : Bool) : Nat → Out
  | 0 => .go (init N) []
  | i + 1 => match roundTo k N t stop i with
    | .go S row => if i < S.sets.length then
        (match rowTo k N t stop i S k with
         | .go S' row => .go ⟨S'.sets, S'.words, S'.next ++ [row]⟩ []
         | .orphan x => .orphan x
         | .over => .over)
      else .go S row
    | .orphan x => .orphan x
    | .over => .over
/-- What the walk comes to. -/
def fin (k N : Nat) (t : List Nat) (stop : Bool) : Out := roundTo k N t stop 4097

/-- What holds ahead of round i. -/
structure Inv (N i : Nat) (S : St) : Prop where
  len : S.words.length = S.sets.length
  ok : ∀ B ∈ S.sets, B.length = N
  some : ∀ B ∈ S.sets, nodesOf B ≠ []
  nd : S.sets.Nodup
  big : S.sets.length ≤ 4096
  next : S.next.length = i
  le : i ≤ S.sets.length
theorem Inv.init {N : Nat} (h : 0 < N) : Inv N 0 (init N) where
  len := rfl
  ok := fun B hB => by simp [SubP.init] at hB; simp [hB]
  some := fun B hB => by
    simp [SubP.init] at hB
    subst hB
    intro e
    have := nodes_eq_nil.1 e 0 (by simpa using h)
    rw [List.getD_eq_getElem?_getD, List.getElem?_replicate, if_pos h] at this
    cases this
  nd := by simp [SubP.init]
  big := by show 1 ≤ 4096; decide
  next := rfl
  le := Nat.zero_le _
theorem Inv.sym {k N : Nat} {t : List Nat} {stop : Bool} {i j s : Nat} {S S' : St} {row row' : List Int} (h : Inv N j S) (e : sym k N t stop i S row s = .go S' row') : Inv N j S' ∧ row'.length = row.length + 1 ∧ S.sets.length ≤ S'.sets.length := by
  unfold SubP.sym at e
  split at e
  · split at e
    · cases e
    · injection e with e1 e2; subst e1 e2; exact ⟨h, by simp, Nat.le_refl _⟩
  · rename_i h1
    split at e
    · injection e with e1 e2; subst e1 e2; exact ⟨h, by simp, Nat.le_refl _⟩
    · rename_i h2
      split at e
      · cases e
      · rename_i h3
        injection e with e1 e2
        subst e1 e2
        refine ⟨⟨?_, ?_, ?_, ?_, ?_, h.next, ?_⟩, by simp, by simp⟩
        · simp [h.len]
        · intro B hB
          rcases List.mem_append.1 hB with hB | hB
          · exact h.ok B hB
          · simp at hB; subst hB; exact beh_len _ _ _ _ _
        · intro B hB
          rcases List.mem_append.1 hB with hB | hB
          · exact h.some B hB
          · simp at hB; subst hB; exact h1
        · rw [List.nodup_append]
          exact ⟨h.nd, by simp, fun a ha b hb e => by simp at hb; subst hb; subst e; exact h2 ha⟩
        · simp; omega
        · have := h.le; simp; omega
theorem Inv.rowTo {k N : Nat} {t : List Nat} {stop : Bool} {i j : Nat} {S : St} (h : Inv N j S) : ∀ {s : Nat} {S' : St} {row : List Int}, rowTo k N t stop i S s = .go S' row → Inv N j S' ∧ row.length = s ∧ S.sets.length ≤ S'.sets.length
  | 0, S', row, e => by injection e with e1 e2; subst e1 e2; exact ⟨h, rfl, Nat.le_refl _⟩
  | s + 1, S', row, e => by
    unfold SubP.rowTo at e
    split at e
    · rename_i S1 row1 e1
      obtain ⟨h1, h2, h3⟩ := Inv.rowTo h e1
      obtain ⟨h4, h5, h6⟩ := h1.sym e
      exact ⟨h4, by omega, by omega⟩
    · cases e
    · cases e
theorem Inv.round {k N : Nat} {t : List Nat} {stop : Bool} (hN : 0 < N) : ∀ {i : Nat} {S : St} {row : List Int}, roundTo k N t stop i = .go S row → row = [] ∧ ∃ j, Inv N j S ∧ j ≤ i ∧ (j < i → j = S.sets.length)
  | 0, S, row, e => by injection e with e1 e2; subst e1 e2; exact ⟨rfl, 0, Inv.init hN, Nat.le_refl _, fun h => by omega⟩
  | i + 1, S, row, e => by
    unfold roundTo at e
    split at e
    · rename_i S1 row1 e1
      obtain ⟨rfl, j, hj, hji, hjs⟩ := Inv.round hN e1
      split at e
      · rename_i hlt
        have hji' : j = i := by
          rcases Nat.lt_or_ge j i with h | h
          · have := hjs h; omega
          · omega
        subst hji'
        split at e
        · rename_i S2 row2 e2
          injection e with e3 e4
          subst e3 e4
          obtain ⟨h1, h2, h3⟩ := hj.rowTo e2
          exact ⟨rfl, j + 1, ⟨h1.len, h1.ok, h1.some, h1.nd, h1.big, by simp [h1.next], by show j + 1 ≤ S2.sets.length; omega⟩, Nat.le_refl _, fun h => by omega⟩
        · cases e
        · cases e
      · rename_i hlt
        injection e with e3 e4
        subst e3 e4
        refine ⟨rfl, j, hj, by omega, fun _ => ?_⟩
        have := hj.le
        rcases Nat.lt_or_ge j i with h | h
        · exact hjs h
        · omega
    · cases e
    · cases e

/-- Behind the last round nothing changes any more. -/
theorem round_stays {k N : Nat} {t : List Nat} {stop : Bool} {i : Nat} {S : St} (h : roundTo k N t stop i = .go S []) (hl : S.sets.length ≤ i) : ∀ j, roundTo k N t stop (i + j) = .go S []
  | 0 => h
  | j + 1 => by
    show roundTo k N t stop (i + j + 1) = _
    unfold roundTo
    rw [round_stays h hl j]
    simp only
    rw [if_neg (by omega)]
theorem fin_go {k N : Nat} {t : List Nat} {stop : Bool} {i : Nat} {S : St} (h : roundTo k N t stop i = .go S []) (hl : S.sets.length ≤ i) (hi : i ≤ 4097) : fin k N t stop = .go S [] := by
  have := round_stays h hl (4097 - i)
  rwa [show i + (4097 - i) = 4097 from by omega] at this
theorem round_over {k N : Nat} {t : List Nat} {stop : Bool} {i : Nat} {o : Out} (ho : (∃ x, o = .orphan x) ∨ o = .over) (h : roundTo k N t stop i = o) : ∀ j, roundTo k N t stop (i + j) = o
  | 0 => h
  | j + 1 => by
    show roundTo k N t stop (i + j + 1) = _
    unfold roundTo
    rw [round_over ho h j]
    rcases ho with ⟨x, rfl⟩ | rfl <;> rfl
theorem row_stays {k N : Nat} {t : List Nat} {stop : Bool} {i : Nat} {S : St} {o : Out} (ho : (∃ x, o = .orphan x) ∨ o = .over) {s : Nat} (h : rowTo k N t stop i S s = o) : ∀ j, rowTo k N t stop i S (s + j) = o
  | 0 => h
  | j + 1 => by
    show rowTo k N t stop i S (s + j + 1) = _
    unfold rowTo
    rw [row_stays ho h j]
    rcases ho with ⟨x, rfl⟩ | rfl <;> rfl
/-- Where a symbol ends the walk. -/
theorem fin_end {k N : Nat} {t : List Nat} {stop : Bool} {i : Nat} {S S' : St} {row : List Int} {s : Nat} {o : Out} (ho : (∃ x, o = .orphan x) ∨ o = .over) (h : roundTo k N t stop i = .go S []) (hl : i < S.sets.length) (hi : i < 4097) (hs : s < k)
    (hr : rowTo k N t stop i S s = .go S' row) (hy : sym k N t stop i S' row s = o) : fin k N t stop = o := by
  have h1 : rowTo k N t stop i S (s + 1) = o := by unfold rowTo; rw [hr]; exact hy
  have h2 := row_stays ho h1 (k - (s + 1))
  rw [show s + 1 + (k - (s + 1)) = k from by omega] at h2
  have h3 : roundTo k N t stop (i + 1) = o := by
    unfold roundTo
    rw [h]
    simp only
    rw [if_pos hl, h2]
    rcases ho with ⟨x, rfl⟩ | rfl <;> rfl
  have := round_over ho h3 (4097 - (i + 1))
  rwa [show i + 1 + (4097 - (i + 1)) = 4097 from by omega] at this
theorem rowTo_succ {k N : Nat} {t : List Nat} {stop : Bool} {i : Nat} {S S' : St} {row : List Int} {s : Nat} (hr : rowTo k N t stop i S s = .go S' row) : rowTo k N t stop i S (s + 1) = sym k N t stop i S' row s := by
  rw [rowTo, hr]
theorem round_succ {k N : Nat} {t : List Nat} {stop : Bool} {i : Nat} {S S' : St} {row : List Int} (h : roundTo k N t stop i = .go S []) (hl : i < S.sets.length) (hr : rowTo k N t stop i S k = .go S' row) : roundTo k N t stop (i + 1) = .go ⟨S'.sets, S'.words, S'.next ++ [row]⟩ [] := by
  rw [roundTo, h]
  simp only
  rw [if_pos hl, hr]
end SubP
end Go.Proofs.YtibplgpolmplpaaGreatDoor
