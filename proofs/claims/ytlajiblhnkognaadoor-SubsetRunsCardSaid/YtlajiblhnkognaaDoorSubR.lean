/- The rows of the walk over the subsets, as SubsetRuns asks of them: lengths, sources, runs along a word. Plain lists, no program. No condition. -/
import Derived.Test.YtlajiblhnkognaaDoorSubQ
namespace Go.Proofs.YtlajiblhnkognaaDoor
open BagP RuleP
namespace SubP
variable {k N : Nat} {t : List Nat}

structure RowsOk (k N : Nat) (t : List Nat) (S : St) : Prop where
  len : S.next.length = S.sets.length
  row : ∀ (i : Nat) r, S.next[i]? = some r → r.length = k
  set : ∀ B ∈ S.sets, B.length = N ∧ nodesOf B ≠ []
  zero : S.sets[0]? = some (List.replicate N true)
  to : ∀ (i s : Nat) r x, S.next[i]? = some r → r[s]? = some x → (x = -1 ∧ nodesOf (beh k N t (S.sets.getD i []) s) = []) ∨ ∃ j : Nat, x = (j : Int) ∧ j < S.sets.length ∧ S.sets[j]? = some (beh k N t (S.sets.getD i []) s)
  src : ∀ j, 0 < j → j < S.sets.length → ∃ i s r, i < j ∧ s < k ∧ S.next[i]? = some r ∧ r[s]? = some (j : Int)
theorem fin_rows (hN : 0 < N) {S : St} {row : List Int} (h : fin k N t false = .go S row) : RowsOk k N t S := by
  obtain ⟨_, hl, P, Q, h2⟩ := fin_inv hN h
  refine ⟨hl, fun i r hr => (h2.done i r hr).1, fun B hB => ⟨h2.inv.ok B hB, h2.inv.some B hB⟩, h2.zero, fun i s r x hr hx => ?_, fun j h0 hj => ?_⟩
  · rcases (h2.done i r hr).2 s x hx with ⟨a, b, _⟩ | ⟨j, a, b, _⟩
    · exact .inl ⟨b, a⟩
    · exact .inr ⟨j, a, (List.getElem?_eq_some_iff.1 b).1, b⟩
  · obtain ⟨a, b, _, _, _, f⟩ := h2.src j h0 hj
    rcases f with ⟨r, f1, f2⟩ | ⟨_, f2⟩
    · exact ⟨P j, Q j, r, b, a, f1, f2⟩
    · simp at f2
theorem RowsOk.pos {S : St} (h : RowsOk k N t S) : 0 < S.sets.length := (List.getElem?_eq_some_iff.1 h.zero).1
/-- Marked are state 0 and all to which the rows ahead of row i lead, and row i's first s symbols. -/
structure Seen (S : St) (i s : Nat) (L : List Bool) : Prop where
  len : L.length = S.sets.length
  zero : L[0]? = some true
  all : ∀ (i' s' : Nat) r (j : Nat), (i' < i ∨ (i' = i ∧ s' < s)) → S.next[i']? = some r → r[s']? = some (j : Int) → L[j]? = some true
theorem Seen.start {S : St} (h : RowsOk k N t S) : Seen S 0 0 ((List.replicate S.sets.length false).set 0 true) where
  len := by simp
  zero := by
    rw [List.getElem?_set_self (by have := h.pos; simpa using this)]
  all := fun i' s' r j hp => by omega
theorem Seen.at_ {S : St} {i : Nat} {L : List Bool} (h : RowsOk k N t S) (hs : Seen S i 0 L) (hi : i < S.sets.length) : L[i]? = some true := by
  rcases Nat.eq_zero_or_pos i with rfl | h0
  · exact hs.zero
  · obtain ⟨i', s, r, h1, _, h3, h4⟩ := h.src i h0 hi
    exact hs.all i' s r i (.inl h1) h3 h4
theorem Seen.none {S : St} {i s : Nat} {L : List Bool} {r : List Int} {x : Int} (hs : Seen S i s L) (hr : S.next[i]? = some r) (hx : r[s]? = some x) (hn : x < 0) : Seen S i (s + 1) L where
  len := hs.len
  zero := hs.zero
  all := fun i' s' r' j hp hr' hx' => by
    by_cases e : i' = i ∧ s' = s
    · obtain ⟨rfl, rfl⟩ := e
      rw [hr] at hr'
      cases hr'
      rw [hx] at hx'
      cases hx'
      omega
    · exact hs.all i' s' r' j (by omega) hr' hx'
theorem Seen.put {S : St} {i s q : Nat} {L : List Bool} {r : List Int} (hs : Seen S i s L) (hr : S.next[i]? = some r) (hx : r[s]? = some (q : Int)) (hq : q < S.sets.length) : Seen S i (s + 1) (L.set q true) where
  len := by simp [hs.len]
  zero := by
    by_cases e : q = 0
    · subst e; rw [List.getElem?_set_self (by rw [hs.len]; exact hq)]
    · rw [List.getElem?_set_ne e]; exact hs.zero
  all := fun i' s' r' j hp hr' hx' => by
    by_cases e : q = j
    · subst e; rw [List.getElem?_set_self (by rw [hs.len]; exact hq)]
    · rw [List.getElem?_set_ne e]
      refine hs.all i' s' r' j ?_ hr' hx'
      by_cases e' : i' = i ∧ s' = s
      · obtain ⟨rfl, rfl⟩ := e'
        rw [hr] at hr'
        cases hr'
        rw [hx] at hx'
        cases hx'
        exact absurd rfl e
      · omega
theorem Seen.row {S : St} {i : Nat} {L : List Bool} (h : RowsOk k N t S) (hs : Seen S i k L) : Seen S (i + 1) 0 L where
  len := hs.len
  zero := hs.zero
  all := fun i' s' r' j hp hr' hx' => by
    refine hs.all i' s' r' j ?_ hr' hx'
    have h1 := h.row i' r' hr'
    have h2 := (List.getElem?_eq_some_iff.1 hx').1
    omega
end SubP
end Go.Proofs.YtlajiblhnkognaaDoor
