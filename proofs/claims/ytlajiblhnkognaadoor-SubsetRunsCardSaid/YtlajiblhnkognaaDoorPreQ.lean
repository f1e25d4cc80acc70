/- The preimages of a word in the order of words: plain lists, no program. No condition. What a search among preimages has found, step by step: plain lists, no program. No condition. From which nodes on labels can be written, step by step: plain lists, no program. No condition. -/
import Derived.Test.YtlajiblhnkognaaDoorRuleS
import Derived.Test.YtlajiblhnkognaaDoorBase
namespace Go.Proofs.YtlajiblhnkognaaDoor
namespace RuleP

/-- The words along which the labels w stand, from node u on (N nodes). -/
def sols (k N : Nat) (t : List Nat) : Nat → List Nat → List (List Nat)
  | _, [] => [[]]
  | u, c :: w => (List.range k).flatMap fun s => if t.getD (u * k + s) 0 = c then (sols k N t ((u * k + s) % N) w).map (s :: ·) else []
/-- What the first s symbols give. -/
def solsTo (k N : Nat) (t : List Nat) (u c : Nat) (w : List Nat) (s : Nat) : List (List Nat) :=
  (List.range s).flatMap fun s => if t.getD (u * k + s) 0 = c then (sols k N t ((u * k + s) % N) w).map (s :: ·) else []
theorem solsTo_zero (k N : Nat) (t : List Nat) (u c : Nat) (w : List Nat) : solsTo k N t u c w 0 = [] := rfl
theorem solsTo_all (k N : Nat) (t : List Nat) (u c : Nat) (w : List Nat) : solsTo k N t u c w k = sols k N t u (c :: w) := rfl
theorem solsTo_hit {k N : Nat} {t : List Nat} {u c s : Nat} (w : List Nat) (h : t.getD (u * k + s) 0 = c) : solsTo k N t u c w (s + 1) = solsTo k N t u c w s ++ (sols k N t ((u * k + s) % N) w).map (s :: ·) := by
  simp only [solsTo, List.range_succ, List.flatMap_append, List.flatMap_cons, List.flatMap_nil, List.append_nil, if_pos h]
theorem solsTo_miss {k N : Nat} {t : List Nat} {u c s : Nat} (w : List Nat) (h : t.getD (u * k + s) 0 ≠ c) : solsTo k N t u c w (s + 1) = solsTo k N t u c w s := by
  simp only [solsTo, List.range_succ, List.flatMap_append, List.flatMap_cons, List.flatMap_nil, List.append_nil, if_neg h]
theorem sols_len {k N : Nat} {t : List Nat} : ∀ {w : List Nat} {u : Nat} {y : List Nat}, y ∈ sols k N t u w → y.length = w.length
  | [], _, y, h => by simp [sols] at h; subst h; rfl
  | c :: w, u, y, h => by
    simp only [sols, List.mem_flatMap] at h
    obtain ⟨s, _, h⟩ := h
    split at h
    · obtain ⟨z, hz, rfl⟩ := List.mem_map.1 h
      simp [sols_len hz]
    · cases h
/-- The words that have the image w, in order: those from the first n nodes on. -/
def befTo (k r : Nat) (t w : List Nat) (n : Nat) : List (List Nat) := (List.range n).flatMap fun u => (sols k (k ^ (2 * r)) t u w).map (digB k (2 * r) u ++ ·)
def before (k r : Nat) (t w : List Nat) : List (List Nat) := befTo k r t w (k ^ (2 * r))
theorem befTo_zero (k r : Nat) (t w : List Nat) : befTo k r t w 0 = [] := rfl
theorem befTo_succ (k r : Nat) (t w : List Nat) (n : Nat) : befTo k r t w (n + 1) = befTo k r t w n ++ (sols k (k ^ (2 * r)) t n w).map (digB k (2 * r) n ++ ·) := by
  simp only [befTo, List.range_succ, List.flatMap_append, List.flatMap_cons, List.flatMap_nil, List.append_nil]
theorem befTo_len {k r : Nat} {t w : List Nat} {n : Nat} {y : List Nat} (h : y ∈ befTo k r t w n) : y.length = 2 * r + w.length := by
  simp only [befTo, List.mem_flatMap, List.mem_map] at h
  obtain ⟨u, _, z, hz, rfl⟩ := h
  rw [List.length_append, digB_len, sols_len hz]

/-- The first most of what has been found, and whether that was not all. -/
structure Found (most : Nat) (P L : List (List Nat)) (more : Bool) : Prop where
  list : L = P.take most
  more : more = decide (most < P.length)
theorem Found.start (most : Nat) : Found most [] [] false := ⟨by simp, by simp⟩
theorem Found.stay {most : Nat} {P L : List (List Nat)} (h : Found most P L true) (Q : List (List Nat)) : Found most (P ++ Q) L true := by
  have h1 : most < P.length := of_decide_eq_true h.more.symm
  exact ⟨by rw [List.take_append_of_le_length (by omega)]; exact h.list, (decide_eq_true (by simp; omega)).symm⟩
theorem Found.all {most : Nat} {P L : List (List Nat)} (h : Found most P L false) : L = P ∧ P.length ≤ most := by
  have h1 : ¬ most < P.length := of_decide_eq_false h.more.symm
  exact ⟨by rw [h.list, List.take_of_length_le (by omega)], by omega⟩
theorem Found.put {most : Nat} {P L : List (List Nat)} (h : Found most P L false) (hl : L.length < most) (x : List Nat) : Found most (P ++ [x]) (L ++ [x]) false := by
  obtain ⟨rfl, h2⟩ := h.all
  exact ⟨by rw [List.take_of_length_le (by simp; omega)], (decide_eq_false (by simp; omega)).symm⟩
theorem Found.full {most : Nat} {P L : List (List Nat)} (h : Found most P L false) (hl : ¬ L.length < most) (x : List Nat) : Found most (P ++ [x]) L true := by
  obtain ⟨rfl, h2⟩ := h.all
  exact ⟨by rw [List.take_append_of_le_length (by omega), List.take_of_length_le (by omega)], (decide_eq_true (by simp; omega)).symm⟩

/-- The word's place is that of its digits. -/
theorem node_step {k N : Nat} (hN : 0 < N) (u s : Nat) : (u * k + s) % N < N := Nat.mod_lt _ hN
end RuleP
end Go.Proofs.YtlajiblhnkognaaDoor

namespace Go.Proofs.YtlajiblhnkognaaDoor
namespace RuleP

/-- What the search has found behind the first s symbols, and the rest. -/
theorem solsTo_rest {k N : Nat} {t : List Nat} {u c : Nat} {w : List Nat} {s : Nat} (h : s ≤ k) : ∃ Q, sols k N t u (c :: w) = solsTo k N t u c w s ++ Q := by
  refine ⟨((List.range (k - s)).map (s + ·)).flatMap fun s => if t.getD (u * k + s) 0 = c then (sols k N t ((u * k + s) % N) w).map (s :: ·) else [], ?_⟩
  unfold solsTo
  rw [sols, show k = s + (k - s) from by omega, List.range_add, List.flatMap_append]
  simp
/-- The words found ahead, and those from this place on behind x. -/
def onP (P : List (List Nat)) (x : List Nat) (S : List (List Nat)) : List (List Nat) := P ++ S.map (x ++ ·)
theorem onP_nil (P : List (List Nat)) (x : List Nat) : onP P x [] = P := by simp [onP]
theorem onP_append (P : List (List Nat)) (x : List Nat) (S S' : List (List Nat)) : onP P x (S ++ S') = onP (onP P x S) x S' := by simp [onP, List.append_assoc]
theorem onP_hit (P : List (List Nat)) (x : List Nat) (S S' : List (List Nat)) (s : Nat) : onP (onP P x S) (x ++ [s]) S' = onP P x (S ++ S'.map (s :: ·)) := by
  simp [onP, List.append_assoc]
theorem onP_stay {most : Nat} {P L : List (List Nat)} {x : List Nat} {k N u c s : Nat} {t w : List Nat} (h : Found most (onP P x (solsTo k N t u c w s)) L true) (hs : s ≤ k) : Found most (onP P x (sols k N t u (c :: w))) L true := by
  obtain ⟨Q, hQ⟩ := solsTo_rest (k := k) (N := N) (t := t) (u := u) (c := c) (w := w) hs
  rw [hQ, onP_append]
  exact h.stay _
theorem sols_some {k N : Nat} {t : List Nat} {u c : Nat} {w : List Nat} {s : Nat} (hs : s ≤ k) (h : solsTo k N t u c w s ≠ []) : sols k N t u (c :: w) ≠ [] := by
  obtain ⟨Q, hQ⟩ := solsTo_rest (k := k) (N := N) (t := t) (u := u) (c := c) (w := w) hs
  rw [hQ]
  intro e
  exact h (List.append_eq_nil_iff.1 e).1
theorem any_hit {S S' : List (List Nat)} {s : Nat} {b : Bool} (_ : b = decide (S ≠ [])) (h' : S' ≠ []) : true = decide (S ++ S'.map (s :: ·) ≠ []) := by
  symm
  refine decide_eq_true (fun e => h' ?_)
  have := (List.append_eq_nil_iff.1 e).2
  simpa using this
theorem any_miss {S S' : List (List Nat)} {s : Nat} {b : Bool} (h : b = decide (S ≠ [])) (h' : S' = []) : b = decide (S ++ S'.map (s :: ·) ≠ []) := by
  subst h'
  simpa using h
/-- More than could be kept were found: something was found. -/
theorem Found.any {most : Nat} {P L : List (List Nat)} {x : List Nat} {S : List (List Nat)} (h : Found most (onP P x S) L true) (h' : P.length ≤ most) : S ≠ [] := by
  have h1 : most < (onP P x S).length := of_decide_eq_true h.more.symm
  intro e
  subst e
  simp [onP] at h1
  omega
theorem drop_cons {w : List Nat} {i : Nat} (h : i < w.length) : w.drop i = w.getD i 0 :: w.drop (i + 1) := by
  rw [List.drop_eq_getElem_cons h, List.getD_eq_getElem?_getD, List.getElem?_eq_getElem h]
  rfl
end RuleP
end Go.Proofs.YtlajiblhnkognaaDoor

namespace Go.Proofs.YtlajiblhnkognaaDoor
namespace RuleP

/-- Can the labels be written from node u on? -/
def wayB (k N : Nat) (t : List Nat) (u : Nat) (w : List Nat) : Bool := decide (sols k N t u w ≠ [])
/-- By one of the first s symbols? -/
def wayTo (k N : Nat) (t : List Nat) (u c : Nat) (w : List Nat) (s : Nat) : Bool := decide (solsTo k N t u c w s ≠ [])
theorem wayB_nil (k N : Nat) (t : List Nat) (u : Nat) : wayB k N t u [] = true := by simp [wayB, sols]
theorem wayTo_zero (k N : Nat) (t : List Nat) (u c : Nat) (w : List Nat) : wayTo k N t u c w 0 = false := by simp [wayTo, solsTo]
theorem wayTo_all (k N : Nat) (t : List Nat) (u c : Nat) (w : List Nat) : wayTo k N t u c w k = wayB k N t u (c :: w) := rfl
theorem wayTo_hit {k N : Nat} {t : List Nat} {u c s : Nat} {w : List Nat} (h : t.getD (u * k + s) 0 = c) (hw : wayB k N t ((u * k + s) % N) w = true) : wayTo k N t u c w (s + 1) = true := by
  have h' := of_decide_eq_true hw
  refine decide_eq_true (fun e => h' ?_)
  rw [solsTo_hit w h] at e
  simpa using (List.append_eq_nil_iff.1 e).2
theorem wayTo_dead {k N : Nat} {t : List Nat} {u c s : Nat} {w : List Nat} (hw : wayB k N t ((u * k + s) % N) w = false) : wayTo k N t u c w (s + 1) = wayTo k N t u c w s := by
  have h' : sols k N t ((u * k + s) % N) w = [] := by simpa [wayB] using hw
  unfold wayTo
  by_cases h : t.getD (u * k + s) 0 = c
  · rw [solsTo_hit w h, h']; simp
  · rw [solsTo_miss w h]
theorem wayTo_miss {k N : Nat} {t : List Nat} {u c s : Nat} {w : List Nat} (h : t.getD (u * k + s) 0 ≠ c) : wayTo k N t u c w (s + 1) = wayTo k N t u c w s := by
  unfold wayTo
  rw [solsTo_miss w h]
/-- The row of a place. -/
def wayRow (k N : Nat) (t w : List Nat) : List Bool := (List.range N).map fun u => wayB k N t u w
theorem wayRow_len (k N : Nat) (t w : List Nat) : (wayRow k N t w).length = N := by simp [wayRow]
theorem wayRow_at {k N : Nat} {t w : List Nat} {u : Nat} (h : u < N) : (wayRow k N t w)[u]? = some (wayB k N t u w) := by
  unfold wayRow
  rw [List.getElem?_map, List.getElem?_range h]
  rfl
/-- The row of a place while the first u nodes are done. -/
def wayPart (k N : Nat) (t w : List Nat) (u : Nat) : List Bool := fillTo (wayRow k N t w) N false u
theorem wayPart_zero (k N : Nat) (t w : List Nat) : wayPart k N t w 0 = List.replicate N false := fillTo_zero _ _ _
theorem wayPart_all (k N : Nat) (t w : List Nat) : wayPart k N t w N = wayRow k N t w := fillTo_all _ (wayRow_len k N t w)
theorem wayPart_len {k N : Nat} {t w : List Nat} {u : Nat} (h : u ≤ N) : (wayPart k N t w u).length = N := fillTo_len h (wayRow_len k N t w)
theorem wayPart_at {k N : Nat} {t w : List Nat} {u : Nat} (h : u < N) : (wayPart k N t w u)[u]? = some false := by
  unfold wayPart fillTo
  have hl : ((wayRow k N t w).take u).length = u := by rw [List.length_take, wayRow_len]; omega
  rw [List.getElem?_append_right (by omega), hl, Nat.sub_self, List.getElem?_replicate]
  simp; omega
theorem wayPart_set {k N : Nat} {t w : List Nat} {u : Nat} (h : u < N) : (wayPart k N t w u).set u (wayB k N t u w) = wayPart k N t w (u + 1) := fillTo_set h (wayRow_at h)
theorem list_set_same {α : Type} {l : List α} {i : Nat} {x : α} (h : l[i]? = some x) : l.set i x = l := by
  apply List.ext_getElem?
  intro j
  by_cases hj : i = j
  · subst hj
    rw [List.getElem?_set_self (List.getElem?_eq_some_iff.1 h).1, h]
  · rw [List.getElem?_set_ne hj]
theorem list_set_set {α : Type} {l : List α} {i : Nat} {x y : α} : (l.set i x).set i y = l.set i y := by simp
end RuleP
end Go.Proofs.YtlajiblhnkognaaDoor
