/- The preimages of a word in the order of words: plain lists, no program. No condition. -/
import Derived.Test.YtfgjcdfmlpdkaaaDoorRuleS
namespace Go.Proofs.YtfgjcdfmlpdkaaaDoor
namespace RuleP

/-- The words along which the labels w stand, from node u on (N nodes). -/
def sols (k N : Nat) (t : List Nat) : Nat → List Nat → List (List Nat)
  | _, [] => [[]]
  | u, c :: w => (List.range k).flatMap fun s => if t.getD (u * k + s) 0 = c then (sols k N t ((u * k + s) % N) w).map (s :: ·) else []
/-- What the first s symbols give. -/
def solsTo (k N : Nat) (t : List Nat) (u c : Nat) (w : List Nat) (s : Nat) : List (List Nat) :=
  (List.range s).flatMap fun s => if t.getD (u * k + s) 0 = c then (sols k N t ((u * k + s) % N) w).map (s :: ·) else []
theorem solsTo_zero (k N : Nat) (t : List Nat) (u c : Nat) (w : List Nat) : solsTo k N t u c w 0 = [] := rfl
theorem solsTo_all (k N : Nat) (t : List Nat) (u c : Nat) (w : List Nat) : solsTo k N t u c w k = sols k N t u (c :: w) := rfl
theorem solsTo_hit {k N : Nat} {t : List Nat} {u c s : Nat} (w : List Nat) (h : t.getD (u * k + s) 0 = c) : solsTo k N t u c w (s + 1) = solsTo k N t u c w s ++ (sols k N t ((u * k + s) % N) w).map (s :: ·) := by
  simp only [solsTo, List.range_succ, List.flatMap_append, List.flatMap_cons, List.flatMap_nil, List.append_nil, if_pos h]
theorem solsTo_miss {k N : Nat} {t : List Nat} {u c s : Nat} (w : List Nat) (h : t.getD (u * k + s) 0 ≠ c) : solsTo k N t u c w (s + 1) = solsTo k N t u c w s := by
  simp only [solsTo, List.range_succ, List.flatMap_append, List.flatMap_cons, List.flatMap_nil, List.append_nil, if_neg h]
theorem sols_len {k N : Nat} {t : List Nat} : ∀ {w : List Nat} {u : Nat} {y : List Nat}, y ∈ sols k N t u w → y.length = w.length
  | [], _, y, h => by simp [sols] at h; subst h; rfl
  | c :: w, u, y, h => by
    simp only [sols, List.mem_flatMap] at h
    obtain ⟨s, _, h⟩ := h
    split at h
    · obtain ⟨z, hz, rfl⟩ := List.mem_map.1 h
      simp [sols_len hz]
    · cases h
/-- The words that have the image w, in order: those from the first n nodes on. -/
def befTo (k r : Nat) (t w : List Nat) (n : Nat) : List (List Nat) := (List.range n).flatMap fun u => (sols k (k ^ (2 * r)) t u w).map (digB k (2 * r) u ++ ·)
def before (k r : Nat) (t w : List Nat) : List (List Nat) := befTo k r t w (k ^ (2 * r))
theorem befTo_zero (k r : Nat) (t w : List Nat) : befTo k r t w 0 = [] := rfl
theorem befTo_succ (k r : Nat) (t w : List Nat) (n : Nat) : befTo k r t w (n + 1) = befTo k r t w n ++ (sols k (k ^ (2 * r)) t n w).map (digB k (2 * r) n ++ ·) := by
  simp only [befTo, List.range_succ, List.flatMap_append, List.flatMap_cons, List.flatMap_nil, List.append_nil]
theorem befTo_len {k r : Nat} {t w : List Nat} {n : Nat} {y : List Nat} (h : y ∈ befTo k r t w n) : y.length = 2 * r + w.length := by
  simp only [befTo, List.mem_flatMap, List.mem_map] at h
  obtain ⟨u, _, z, hz, rfl⟩ := h
  rw [List.length_append, digB_len, sols_len hz]

/-- The first most of what has been found, and whether that was not all. -/
structure Found (most : Nat) (P L : List (List Nat)) (more : Bool) : Prop where
  list : L = P.take most
  more : more = decide (most < P.length)
theorem Found.start (most : Nat) : Found most [] [] false := ⟨by simp, by simp⟩
theorem Found.stay {most : Nat} {P L : List (List Nat)} (h : Found most P L true) (Q : List (List Nat)) : Found most (P ++ Q) L true := by
  have h1 : most < P.length := of_decide_eq_true h.more.symm
  exact ⟨by rw [List.take_append_of_le_length (by omega)]; exact h.list, (decide_eq_true (by simp; omega)).symm⟩
theorem Found.all {most : Nat} {P L : List (List Nat)} (h : Found most P L false) : L = P ∧ P.length ≤ most := by
  have h1 : ¬ most < P.length := of_decide_eq_false h.more.symm
  exact ⟨by rw [h.list, List.take_of_length_le (by omega)], by omega⟩
theorem Found.put {most : Nat} {P L : List (List Nat)} (h : Found most P L false) (hl : L.length < most) (x : List Nat) : Found most (P ++ [x]) (L ++ [x]) false := by
  obtain ⟨rfl, h2⟩ := h.all
  exact ⟨by rw [List.take_of_length_le (by simp; omega)], (decide_eq_false (by simp; omega)).symm⟩
theorem Found.full {most : Nat} {P L : List (List Nat)} (h : Found most P L false) (hl : ¬ L.length < most) (x : List Nat) : Found most (P ++ [x]) L true := by
  obtain ⟨rfl, h2⟩ := h.all
  exact ⟨by rw [List.take_append_of_le_length (by omega), List.take_of_length_le (by omega)], (decide_eq_true (by simp; omega)).symm⟩

/-- The word's place is that of its digits. -/
theorem node_step {k N : Nat} (hN : 0 < N) (u s : Nat) : (u * k + s) % N < N := Nat.mod_lt _ hN
end RuleP
end Go.Proofs.YtfgjcdfmlpdkaaaDoor
