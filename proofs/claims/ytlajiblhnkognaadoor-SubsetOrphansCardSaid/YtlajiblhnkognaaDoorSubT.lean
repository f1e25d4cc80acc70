/- What SubsetOrphans says, of lists alone: which words have preimages, by the walk over the subsets; words in their order. Plain lists, no program. No condition. -/
import Derived.Test.YtlajiblhnkognaaDoorSubQ
import Derived.Test.YtlajiblhnkognaaDoorWordG
namespace Go.Proofs.YtlajiblhnkognaaDoor
open BagP RuleP
namespace SubP
variable {k N : Nat} {t : List Nat}

theorem before_ne {k r : Nat} {t w : List Nat} : before k r t w ≠ [] ↔ ∃ u, u < k ^ (2 * r) ∧ sols k (k ^ (2 * r)) t u w ≠ [] := by
  constructor
  · intro h
    obtain ⟨y, hy⟩ := List.exists_mem_of_ne_nil _ h
    simp only [before, befTo, List.mem_flatMap, List.mem_range, List.mem_map] at hy
    obtain ⟨u, hu, z, hz, _⟩ := hy
    exact ⟨u, hu, List.ne_nil_of_mem hz⟩
  · rintro ⟨u, hu, h⟩
    obtain ⟨z, hz⟩ := List.exists_mem_of_ne_nil _ h
    refine List.ne_nil_of_mem (a := digB k (2 * r) u ++ z) ?_
    simp only [before, befTo, List.mem_flatMap, List.mem_range, List.mem_map]
    exact ⟨u, hu, z, hz, rfl⟩
theorem before_run {k r : Nat} {t w : List Nat} (hk : 1 ≤ k) : before k r t w ≠ [] ↔ nodesOf (run k (k ^ (2 * r)) t w) ≠ [] :=
  before_ne.trans (run_sols (Nat.pow_pos hk) w).symm
theorem cmpL_neg {k : Nat} : ∀ {a b : List Nat}, a.length = b.length → (∀ x ∈ a, x < k) → (∀ x ∈ b, x < k) → cmpL a b = -1 → wval k a < wval k b
  | [], [], _, _, _, h => by simp [cmpL] at h
  | [], _ :: _, h, _, _, _ => by simp at h
  | _ :: _, [], h, _, _, _ => by simp at h
  | x :: a, y :: b, hl, ha, hb, h => by
    have hl' : a.length = b.length := by simpa using hl
    have h1 := wval_lt (k := k) (w := a) (fun z hz => ha z (by simp [hz]))
    rw [wval_cons, wval_cons, hl']
    rw [hl'] at h1
    rw [cmpL] at h
    rcases Nat.lt_trichotomy x y with hxy | hxy | hxy
    · have : (x + 1) * k ^ b.length ≤ y * k ^ b.length := Nat.mul_le_mul_right _ hxy
      rw [Nat.add_mul, Nat.one_mul] at this
      omega
    · subst hxy
      rw [if_neg (by omega), if_neg (by omega)] at h
      have := cmpL_neg hl' (fun z hz => ha z (by simp [hz])) (fun z hz => hb z (by simp [hz])) h
      omega
    · rw [if_neg (by omega), if_pos hxy] at h
      cases h
theorem cmpW_pos {k : Nat} {a b : List Nat} (ha : ∀ x ∈ a, x < k) (hb : ∀ x ∈ b, x < k) (h : ¬ Slt k a b) : 0 ≤ cmpW a b := by
  unfold cmpW
  have h1 : ¬ a.length < b.length := fun e => h (.inl e)
  rw [if_neg h1]
  split
  · decide
  · rcases cmpL_range a b with e | e | e
    · exact absurd (.inr ⟨by omega, cmpL_neg (by omega) ha hb e⟩) h
    · omega
    · omega
theorem Slt.take {x : List Nat} {i y : Nat} (hi : i < x.length) (hy : y < x.getD i 0) : Slt k (x.take i ++ [y]) x := by
  have hgd : x.getD i 0 = x[i] := by rw [List.getD_eq_getElem?_getD, List.getElem?_eq_getElem hi]; rfl
  rw [hgd] at hy
  by_cases h : i + 1 < x.length
  · exact .inl (by rw [List.length_append, List.length_take, List.length_singleton]; omega)
  · have e : x = x.take i ++ [x[i]] := by
      rw [← List.take_succ_eq_append_getElem hi, List.take_of_length_le (by omega)]
    have := Slt.last (k := k) (x := x.take i) hy
    rwa [← e] at this
theorem orphan_len2 {x : List Nat} {stop : Bool} (hN : 0 < N) (h : fin k N t stop = .orphan x) : x.length ≤ 4096 := by
  unfold fin at h
  obtain ⟨i, c, S, row, P, Q, h2, hi, _, e⟩ := round_orphan hN h
  have h3 := Inv2_wlen h2 i i (Nat.le_refl _) hi
  have h4 := h2.inv.big
  have h5 := (sym_orphan e).2.2
  rw [h5, List.length_append, List.length_singleton]
  omega
theorem Slt.shorter {x y : List Nat} (h : y.length < x.length) : Slt k y x := .inl h
end SubP
end Go.Proofs.YtlajiblhnkognaaDoor
