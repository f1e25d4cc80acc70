/- Sets of numbers as words of 64 bits: plain lists, no program. What a set holds, that two sets with the same members are one, that the text of a set tells it. No condition. The walk over the subsets of nodes: plain lists, no program. What comes behind a set by a label; the walk, round by round; sets as words, as members, as texts. No condition. -/
import Derived.Test.YtedmmmlahpmmoaaGreatDoorProg
import Derived.Maps.Own
import Derived.Maps.OwnOps
import Derived.Maps.OwnSet
import Derived.Maps.Views
import Derived.Test.YtedmmmlahpmmoaaGreatDoorV1
namespace Go.Proofs.YtedmmmlahpmmoaaGreatDoor
namespace BagP

def wlen (n : Nat) : Nat := (n + 63) / 64
def uv (x : Nat) : Value := .int .u64 (x : Int)
def iv (x : Int) : Value := .int .i64 x

def setB (l : List Nat) (x : Nat) : List Nat := l.set (x / 64) (l.getD (x / 64) 0 ||| 2 ^ (x % 64))
def hasB (l : List Nat) (x : Nat) : Bool := (l.getD (x / 64) 0).testBit (x % 64)
def bitsTo (l0 : List Nat) (xs : List Int) : List Nat := xs.foldl (fun l x => setB l x.toNat) l0
def zeros (n : Nat) : List Nat := List.replicate (wlen n) 0
def bitsOf (n : Nat) (xs : List Int) : List Nat := bitsTo (zeros n) xs
def Ok64 (l : List Nat) : Prop := ∀ x ∈ l, x < 2 ^ 64

theorem length_setB (l : List Nat) (x : Nat) : (setB l x).length = l.length := by simp [setB]
theorem length_bitsTo (xs : List Int) : ∀ l0, (bitsTo l0 xs).length = l0.length := by
  induction xs with
  | nil => intro l0; rfl
  | cons x xs ih => intro l0; show (bitsTo (setB l0 x.toNat) xs).length = _; rw [ih, length_setB]
theorem length_bitsOf (n : Nat) (xs : List Int) : (bitsOf n xs).length = wlen n := by rw [bitsOf, length_bitsTo, zeros, List.length_replicate]

theorem ok_getD {l : List Nat} (h : Ok64 l) (i : Nat) : l.getD i 0 < 2 ^ 64 := by
  rw [List.getD_eq_getElem?_getD]
  cases hi : l[i]? with
  | none => simp
  | some y => simpa using h y (List.mem_of_getElem? hi)
theorem ok_setB {l : List Nat} (h : Ok64 l) (x : Nat) : Ok64 (setB l x) := by
  intro y hy
  rcases List.mem_or_eq_of_mem_set hy with hy | rfl
  · exact h y hy
  · exact Nat.or_lt_two_pow (ok_getD h _) (Nat.pow_lt_pow_right (by decide) (Nat.mod_lt _ (by decide)))
theorem ok_zeros (n : Nat) : Ok64 (zeros n) := by
  intro y hy
  rw [List.eq_of_mem_replicate hy]
  decide
theorem ok_bitsTo (xs : List Int) : ∀ {l0}, Ok64 l0 → Ok64 (bitsTo l0 xs) := by
  induction xs with
  | nil => intro l0 h; exact h
  | cons x xs ih => intro l0 h; exact ih (ok_setB h _)
theorem ok_bitsOf (n : Nat) (xs : List Int) : Ok64 (bitsOf n xs) := ok_bitsTo xs (ok_zeros n)

theorem has_setB {l : List Nat} {x : Nat} (hx : x / 64 < l.length) (y : Nat) : hasB (setB l x) y = (hasB l y || decide (y = x)) := by
  unfold hasB setB
  rw [List.getD_eq_getElem?_getD, List.getElem?_set]
  by_cases h : x / 64 = y / 64
  · rw [if_pos h, if_pos (by omega)]
    simp only [Option.getD_some, Nat.testBit_or, Nat.testBit_two_pow, h]
    congr 1
    rw [decide_eq_decide]
    omega
  · rw [if_neg h]
    have : decide (y = x) = false := by rw [decide_eq_false_iff_not]; intro e; exact h (by rw [e])
    rw [this, Bool.or_false, ← List.getD_eq_getElem?_getD]

theorem wlen_lt {n x : Nat} (h : x < n) : x / 64 < wlen n := by unfold wlen; omega

theorem has_bitsTo {n : Nat} (xs : List Int) : ∀ {l0 : List Nat}, l0.length = wlen n → (∀ x ∈ xs, 0 ≤ x ∧ x < n) → ∀ y : Nat, hasB (bitsTo l0 xs) y = (hasB l0 y || decide ((y : Int) ∈ xs)) := by
  induction xs with
  | nil => intro l0 _ _ y; simp [bitsTo]
  | cons x xs ih =>
    intro l0 hl hx y
    have h0 := hx x (by simp)
    show hasB (bitsTo (setB l0 x.toNat) xs) y = _
    rw [ih (by rw [length_setB, hl]) (fun z hz => hx z (by simp [hz])) y, has_setB (by rw [hl]; exact wlen_lt (by omega)), Bool.or_assoc]
    congr 1
    rw [← Bool.decide_or, decide_eq_decide, List.mem_cons]
    constructor
    · rintro (h | h)
      · left; omega
      · right; exact h
    · rintro (h | h)
      · left; omega
      · right; exact h
theorem has_zeros (n y : Nat) : hasB (zeros n) y = false := by
  unfold hasB zeros
  rw [List.getD_eq_getElem?_getD, List.getElem?_replicate]
  split <;> simp
theorem has_bitsOf {n : Nat} {xs : List Int} (hx : ∀ x ∈ xs, 0 ≤ x ∧ x < n) (y : Nat) : hasB (bitsOf n xs) y = decide ((y : Int) ∈ xs) := by
  rw [bitsOf, has_bitsTo xs (by simp [zeros]) hx, has_zeros, Bool.false_or]

end BagP
end Go.Proofs.YtedmmmlahpmmoaaGreatDoor

namespace Go.Proofs.YtedmmmlahpmmoaaGreatDoor
open BagP RuleP
namespace SubP

theorem getD_app {α : Type} {l m : List α} {i : Nat} {d : α} (h : i < l.length) : (l ++ m).getD i d = l.getD i d := by
  rw [List.getD_eq_getElem?_getD, List.getElem?_append_left h, ← List.getD_eq_getElem?_getD]
theorem getD_of {α : Type} {l : List α} {i : Nat} {d x : α} (h : l[i]? = some x) : l.getD i d = x := by rw [List.getD_eq_getElem?_getD, h]; rfl
theorem get_app {α : Type} {l m : List α} {i : Nat} {x : α} (h : l[i]? = some x) : (l ++ m)[i]? = some x := by
  rw [List.getElem?_append_left (List.getElem?_eq_some_iff.1 h).1]; exact h
theorem get_last {α : Type} (l : List α) (x : α) : (l ++ [x])[l.length]? = some x := by simp
theorem get_snoc {α : Type} {l : List α} {y x : α} {i : Nat} (h : (l ++ [y])[i]? = some x) : l[i]? = some x ∨ (i = l.length ∧ x = y) := by
  rcases Nat.lt_or_ge i l.length with hlt | hge
  · rw [List.getElem?_append_left hlt] at h
    exact .inl h
  · rw [List.getElem?_append_right hge] at h
    rcases Nat.eq_zero_or_pos (i - l.length) with h0 | h0
    · rw [h0] at h; simp at h; exact .inr ⟨by omega, h.symm⟩
    · rw [List.getElem?_eq_none (by simp; omega)] at h; cases h

/-! ### sets of nodes -/
/-- The members below m. -/
def nodesTo (B : List Bool) (m : Nat) : List Nat := (List.range m).filter fun u => B.getD u false
def nodesOf (B : List Bool) : List Nat := nodesTo B B.length
theorem mem_nodesTo {B : List Bool} {m u : Nat} : u ∈ nodesTo B m ↔ u < m ∧ B.getD u false = true := by simp [nodesTo]
theorem mem_nodesOf {B : List Bool} {u : Nat} : u ∈ nodesOf B ↔ u < B.length ∧ B.getD u false = true := mem_nodesTo
/-- Edges of label s from node u, by the symbols below c. -/
def outTo (k N : Nat) (t : List Nat) (s u c : Nat) : List Nat := ((List.range c).filter fun c => decide (t.getD (u * k + c) 0 = s)).map fun c => (u * k + c) % N
/-- Where the edges of label s lead, from these nodes. -/
def behF (k N : Nat) (t : List Nat) (s : Nat) (M : List Nat) : List Nat := M.flatMap fun u => outTo k N t s u k
theorem behF_nil (k N : Nat) (t : List Nat) (s : Nat) : behF k N t s [] = [] := rfl
theorem mem_behF {k N : Nat} {t : List Nat} {s : Nat} {M : List Nat} {v : Nat} : v ∈ behF k N t s M ↔ ∃ u ∈ M, ∃ c, c < k ∧ t.getD (u * k + c) 0 = s ∧ (u * k + c) % N = v := by
  simp only [behF, outTo, List.mem_flatMap, List.mem_map, List.mem_filter, List.mem_range, decide_eq_true_eq, and_assoc]
theorem behF_lt {k N : Nat} (hN : 0 < N) {t : List Nat} {s : Nat} {M : List Nat} : ∀ v ∈ behF k N t s M, v < N := fun v hv => by
  obtain ⟨u, _, c, _, _, rfl⟩ := mem_behF.1 hv
  exact Nat.mod_lt _ hN
/-- N places, those of the list marked. -/
def mark (N : Nat) (L : List Nat) : List Bool := L.foldl (fun o v => o.set v true) (List.replicate N false)
theorem mark_len (N : Nat) (L : List Nat) : (mark N L).length = N := by
  have : ∀ (L : List Nat) (o : List Bool), (L.foldl (fun o v => o.set v true) o).length = o.length := by
    intro L
    induction L with
    | nil => intro o; rfl
    | cons v L ih => intro o; simp only [List.foldl_cons]; rw [ih]; simp
  rw [mark, this]; simp
theorem mark_get (N : Nat) (L : List Nat) {v : Nat} (hv : v < N) : (mark N L).getD v false = decide (v ∈ L) := by
  have : ∀ (L : List Nat) (o : List Bool), v < o.length → (L.foldl (fun o v => o.set v true) o).getD v false = (o.getD v false || decide (v ∈ L)) := by
    intro L
    induction L with
    | nil => intro o _; simp
    | cons x L ih =>
      intro o ho
      simp only [List.foldl_cons]
      rw [ih _ (by simpa using ho), List.getD_eq_getElem?_getD, List.getElem?_set]
      by_cases h : x = v
      · subst h
        rw [if_pos rfl, if_pos ho]
        simp
      · rw [if_neg h, ← List.getD_eq_getElem?_getD]
        congr 1
        rw [decide_eq_decide]
        simp [Ne.symm h]
  rw [mark, this L _ (by simpa using hv), List.getD_eq_getElem?_getD, List.getElem?_replicate, if_pos hv]
  simp
/-- What comes behind a set by label s. -/
def beh (k N : Nat) (t : List Nat) (B : List Bool) (s : Nat) : List Bool := mark N (behF k N t s (nodesOf B))
theorem beh_len (k N : Nat) (t : List Nat) (B : List Bool) (s : Nat) : (beh k N t B s).length = N := mark_len _ _
theorem mem_nodes_mark {N : Nat} {L : List Nat} (hL : ∀ v ∈ L, v < N) {v : Nat} : v ∈ nodesOf (mark N L) ↔ v ∈ L := by
  rw [mem_nodesOf, mark_len]
  constructor
  · rintro ⟨h1, h2⟩
    rw [mark_get N L h1] at h2
    exact of_decide_eq_true h2
  · intro h
    exact ⟨hL v h, by rw [mark_get N L (hL v h)]; exact decide_eq_true h⟩
theorem mem_beh {k N : Nat} (hN : 0 < N) {t : List Nat} {B : List Bool} {s v : Nat} : v ∈ nodesOf (beh k N t B s) ↔ v ∈ behF k N t s (nodesOf B) := mem_nodes_mark (behF_lt hN)
theorem nodes_eq_nil {B : List Bool} : nodesOf B = [] ↔ ∀ u, u < B.length → B.getD u false = false := by
  constructor
  · intro h u hu
    cases hb : B.getD u false with
    | false => rfl
    | true => exact absurd (mem_nodesOf.2 ⟨hu, hb⟩) (by rw [h]; simp)
  · intro h
    refine List.eq_nil_iff_forall_not_mem.2 fun u hu => ?_
    obtain ⟨h1, h2⟩ := mem_nodesOf.1 hu
    rw [h u h1] at h2
    cases h2
/-! ### the walk -/
structure St where
  sets : List (List Bool)
  words : List (List Nat)
  next : List (List Int)
inductive Out
  | go (S : St) (row : List Int)
  | orphan (x : List Nat)
  | over

/-- One symbol: the set behind set i by symbol s. -/
def sym (k N : Nat) (t : List Nat) (stop : Bool) (i : Nat) (S : St) (row : List Int) (s : Nat) : Out :=
  if nodesOf (beh k N t (S.sets.getD i []) s) = [] then
    (if stop then .orphan (S.words.getD i [] ++ [s]) else .go S (row ++ [-1]))
  else if beh k N t (S.sets.getD i []) s ∈ S.sets then .go S (row ++ [((S.sets.idxOf (beh k N t (S.sets.getD i []) s) : Nat) : Int)])
  else if 4096 ≤ S.sets.length then .over
  else .go ⟨S.sets ++ [beh k N t (S.sets.getD i []) s], S.words ++ [S.words.getD i [] ++ [s]], S.next⟩ (row ++ [((S.sets.length : Nat) : Int)])
/-- The first s symbols of set i. -/
def rowTo (k N : Nat) (t : List Nat) (stop : Bool) (i : Nat) (S : St) : Nat → Out
  | 0 => .go S []
  | s + 1 => match rowTo k N t stop i S s with
    | .go S' row => sym k N t stop i S' row s
    | .orphan x => .orphan x
    | .over => .over
def init (N : Nat) : St := ⟨[List.replicate N true], [[]], []⟩
/-- Ahead of round i. -/
def roundTo (k N : Nat) (t : List Nat) (stop : Bool) : Nat → Out
  | 0 => .go (init N) []
  | i + 1 => match roundTo k N t stop i with
    | .go S row => if i < S.sets.length then
        (match rowTo k N t stop i S k with
         | .go S' row => .go ⟨S'.sets, S'.words, S'.next ++ [row]⟩ []
         | .orphan x => .orphan x
         | .over => .over)
      else .go S row
    | .orphan x => .orphan x
    | .over => .over
/-- What the walk comes to. -/
def fin (k N : Nat) (t : List Nat) (stop : Bool) : Out := roundTo k N t stop 4097

/-- What holds ahead of round i. -/
structure Inv (N i : Nat) (S : St) : Prop where
  len : S.words.length = S.sets.length
  ok : ∀ B ∈ S.sets, B.length = N
  some : ∀ B ∈ S.sets, nodesOf B ≠ []
  nd : S.sets.Nodup
  big : S.sets.length ≤ 4096
  next : S.next.length = i
  le : i ≤ S.sets.length
theorem Inv.init {N : Nat} (h : 0 < N) : Inv N 0 (init N) where
  len := rfl
  ok := fun B hB => by simp [SubP.init] at hB; simp [hB]
  some := fun B hB => by
    simp [SubP.init] at hB
    subst hB
    intro e
    have := nodes_eq_nil.1 e 0 (by simpa using h)
    rw [List.getD_eq_getElem?_getD, List.getElem?_replicate, if_pos h] at this
    cases this
  nd := by simp [SubP.init]
  big := by show 1 ≤ 4096; decide
  next := rfl
  le := Nat.zero_le _
theorem Inv.sym {k N : Nat} {t : List Nat} {stop : Bool} {i j s : Nat} {S S' : St} {row row' : List Int} (h : Inv N j S) (e : sym k N t stop i S row s = .go S' row') : Inv N j S' ∧ row'.length = row.length + 1 ∧ S.sets.length ≤ S'.sets.length := by
  unfold SubP.sym at e
  split at e
  · split at e
    · cases e
    · injection e with e1 e2; subst e1 e2; exact ⟨h, by simp, Nat.le_refl _⟩
  · rename_i h1
    split at e
    · injection e with e1 e2; subst e1 e2; exact ⟨h, by simp, Nat.le_refl _⟩
    · rename_i h2
      split at e
      · cases e
      · rename_i h3
        injection e with e1 e2
        subst e1 e2
        refine ⟨⟨?_, ?_, ?_, ?_, ?_, h.next, ?_⟩, by simp, by simp⟩
        · simp [h.len]
        · intro B hB
          rcases List.mem_append.1 hB with hB | hB
          · exact h.ok B hB
          · simp at hB; subst hB; exact beh_len _ _ _ _ _
        · intro B hB
          rcases List.mem_append.1 hB with hB | hB
          · exact h.some B hB
          · simp at hB; subst hB; exact h1
        · rw [List.nodup_append]
          exact ⟨h.nd, by simp, fun a ha b hb e => by simp at hb; subst hb; subst e; exact h2 ha⟩
        · simp; omega
        · have := h.le; simp; omega
theorem Inv.rowTo {k N : Nat} {t : List Nat} {stop : Bool} {i j : Nat} {S : St} (h : Inv N j S) : ∀ {s : Nat} {S' : St} {row : List Int}, rowTo k N t stop i S s = .go S' row → Inv N j S' ∧ row.length = s ∧ S.sets.length ≤ S'.sets.length
  | 0, S', row, e => by injection e with e1 e2; subst e1 e2; exact ⟨h, rfl, Nat.le_refl _⟩
  | s + 1, S', row, e => by
    unfold SubP.rowTo at e
    split at e
    · rename_i S1 row1 e1
      obtain ⟨h1, h2, h3⟩ := Inv.rowTo h e1
      obtain ⟨h4, h5, h6⟩ := h1.sym e
      exact ⟨h4, by omega, by omega⟩
    · cases e
    · cases e
theorem Inv.round {k N : Nat} {t : List Nat} {stop : Bool} (hN : 0 < N) : ∀ {i : Nat} {S : St} {row : List Int}, roundTo k N t stop i = .go S row → row = [] ∧ ∃ j, Inv N j S ∧ j ≤ i ∧ (j < i → j = S.sets.length)
  | 0, S, row, e => by injection e with e1 e2; subst e1 e2; exact ⟨rfl, 0, Inv.init hN, Nat.le_refl _, fun h => by omega⟩
  | i + 1, S, row, e => by
    unfold roundTo at e
    split at e
    · rename_i S1 row1 e1
      obtain ⟨rfl, j, hj, hji, hjs⟩ := Inv.round hN e1
      split at e
      · rename_i hlt
        have hji' : j = i := by
          rcases Nat.lt_or_ge j i with h | h
          · have := hjs h; omega
          · omega
        subst hji'
        split at e
        · rename_i S2 row2 e2
          injection e with e3 e4
          subst e3 e4
          obtain ⟨h1, h2, h3⟩ := hj.rowTo e2
          exact ⟨rfl, j + 1, ⟨h1.len, h1.ok, h1.some, h1.nd, h1.big, by simp [h1.next], by show j + 1 ≤ S2.sets.length; omega⟩, Nat.le_refl _, fun h => by omega⟩
        · cases e
        · cases e
      · rename_i hlt
        injection e with e3 e4
        subst e3 e4
        refine ⟨rfl, j, hj, by omega, fun _ => ?_⟩
        have := hj.le
        rcases Nat.lt_or_ge j i with h | h
        · exact hjs h
        · omega
    · cases e
    · cases e

end SubP
end Go.Proofs.YtedmmmlahpmmoaaGreatDoor
