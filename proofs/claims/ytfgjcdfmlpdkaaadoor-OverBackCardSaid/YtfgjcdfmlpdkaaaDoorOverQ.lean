/- What a search among preimages has found, step by step: plain lists, no program. No condition. -/
import Derived.Test.YtfgjcdfmlpdkaaaDoorOverP
namespace Go.Proofs.YtfgjcdfmlpdkaaaDoor
namespace RuleP

/-- What the search has found behind the first s symbols, and the rest. -/
theorem solsTo_rest {k N : Nat} {t : List Nat} {u c : Nat} {w : List Nat} {s : Nat} (h : s ≤ k) : ∃ Q, sols k N t u (c :: w) = solsTo k N t u c w s ++ Q := by
  refine ⟨((List.range (k - s)).map (s + ·)).flatMap fun s => if t.getD (u * k + s) 0 = c then (sols k N t ((u * k + s) % N) w).map (s :: ·) else [], ?_⟩
  unfold solsTo
  rw [sols, show k = s + (k - s) from by omega, List.range_add, List.flatMap_append]
  simp
/-- The words found ahead, and those from this place on behind x. -/
def onP (P : List (List Nat)) (x : List Nat) (S : List (List Nat)) : List (List Nat) := P ++ S.map (x ++ ·)
theorem onP_nil (P : List (List Nat)) (x : List Nat) : onP P x [] = P := by simp [onP]
theorem onP_append (P : List (List Nat)) (x : List Nat) (S S' : List (List Nat)) : onP P x (S ++ S') = onP (onP P x S) x S' := by simp [onP, List.append_assoc]
theorem onP_hit (P : List (List Nat)) (x : List Nat) (S S' : List (List Nat)) (s : Nat) : onP (onP P x S) (x ++ [s]) S' = onP P x (S ++ S'.map (s :: ·)) := by
  simp [onP, List.append_assoc]
theorem onP_stay {most : Nat} {P L : List (List Nat)} {x : List Nat} {k N u c s : Nat} {t w : List Nat} (h : Found most (onP P x (solsTo k N t u c w s)) L true) (hs : s ≤ k) : Found most (onP P x (sols k N t u (c :: w))) L true := by
  obtain ⟨Q, hQ⟩ := solsTo_rest (k := k) (N := N) (t := t) (u := u) (c := c) (w := w) hs
  rw [hQ, onP_append]
  exact h.stay _
theorem sols_some {k N : Nat} {t : List Nat} {u c : Nat} {w : List Nat} {s : Nat} (hs : s ≤ k) (h : solsTo k N t u c w s ≠ []) : sols k N t u (c :: w) ≠ [] := by
  obtain ⟨Q, hQ⟩ := solsTo_rest (k := k) (N := N) (t := t) (u := u) (c := c) (w := w) hs
  rw [hQ]
  intro e
  exact h (List.append_eq_nil_iff.1 e).1
theorem any_hit {S S' : List (List Nat)} {s : Nat} {b : Bool} (h : b = decide (S ≠ [])) (h' : S' ≠ []) : true = decide (S ++ S'.map (s :: ·) ≠ []) := by
  symm
  refine decide_eq_true (fun e => h' ?_)
  have := (List.append_eq_nil_iff.1 e).2
  simpa using this
theorem any_miss {S S' : List (List Nat)} {s : Nat} {b : Bool} (h : b = decide (S ≠ [])) (h' : S' = []) : b = decide (S ++ S'.map (s :: ·) ≠ []) := by
  subst h'
  simpa using h
/-- More than could be kept were found: something was found. -/
theorem Found.any {most : Nat} {P L : List (List Nat)} {x : List Nat} {S : List (List Nat)} (h : Found most (onP P x S) L true) (h' : P.length ≤ most) : S ≠ [] := by
  have h1 : most < (onP P x S).length := of_decide_eq_true h.more.symm
  intro e
  subst e
  simp [onP] at h1
  omega
theorem drop_cons {w : List Nat} {i : Nat} (h : i < w.length) : w.drop i = w.getD i 0 :: w.drop (i + 1) := by
  rw [List.drop_eq_getElem_cons h, List.getD_eq_getElem?_getD, List.getElem?_eq_getElem h]
  rfl
end RuleP
end Go.Proofs.YtfgjcdfmlpdkaaaDoor
