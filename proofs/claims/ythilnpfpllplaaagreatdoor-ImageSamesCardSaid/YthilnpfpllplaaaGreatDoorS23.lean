/- Automata, as plain lists: how many words of a length run. No program. No condition. The automaton of the subsets, as a plain automaton: the words that run are those that have preimages; one language of narrow, wide and shifted rules. No program. No condition. -/
import Derived.Test.YthilnpfpllplaaaGreatDoorS3
import Derived.Test.YthilnpfpllplaaaGreatDoorS22
namespace Go.Proofs.YthilnpfpllplaaaGreatDoor
namespace RuleP

/-- One more symbol ahead: of each state how many words go on from it. -/
def rowB (U : List Nat) (r : List Int) : Nat := r.foldl (fun n t => if t < 0 then n else n + U.getD t.toNat 0) 0
def stepB (F : List (List Int)) (U : List Nat) : List Nat := F.map (rowB U)
def waysB (F : List (List Int)) : Nat → List Nat
  | 0 => List.replicate F.length 1
  | n + 1 => stepB F (waysB F n)
theorem waysB_len (F : List (List Int)) : ∀ n, (waysB F n).length = F.length
  | 0 => by rw [waysB, List.length_replicate]
  | n + 1 => by rw [waysB, stepB, List.length_map]
/-- One more symbol behind: how many words lead to each state. -/
def addTo (c : Nat) (V : List Nat) (t : Int) : List Nat := if t < 0 then V else V.set t.toNat (V.getD t.toNat 0 + c)
theorem addTo_len (c : Nat) (V : List Nat) (t : Int) : (addTo c V t).length = V.length := by
  unfold addTo
  split
  · rfl
  · rw [List.length_set]
def rowV (c : Nat) (V : List Nat) (r : List Int) : List Nat := r.foldl (addTo c) V
theorem rowV_nil (c : Nat) (V : List Nat) : rowV c V [] = V := rfl
theorem rowV_snoc (c : Nat) (V : List Nat) (r : List Int) (t : Int) : rowV c V (r ++ [t]) = addTo c (rowV c V r) t := by simp [rowV]
theorem rowV_len (c : Nat) (V : List Nat) : ∀ (r : List Int), (rowV c V r).length = V.length := by
  intro r
  induction r generalizing V with
  | nil => rfl
  | cons t r ih => show (rowV c (addTo c V t) r).length = _; rw [ih, addTo_len]
theorem rowV_zero (V : List Nat) : ∀ (r : List Int), rowV 0 V r = V := by
  intro r
  induction r generalizing V with
  | nil => rfl
  | cons t r ih =>
    show rowV 0 (addTo 0 V t) r = V
    have e : addTo 0 V t = V := by
      unfold addTo
      split
      · rfl
      · by_cases h : t.toNat < V.length
        · rw [List.getD_eq_getElem?_getD, List.getElem?_eq_getElem h]
          show V.set t.toNat (V[t.toNat] + 0) = V
          rw [Nat.add_zero, List.set_getElem_self]
        · exact List.set_eq_of_length_le (by omega)
    rw [e, ih]
def stepTo (F : List (List Int)) (V : List Nat) : Nat → List Nat
  | 0 => List.replicate V.length 0
  | i + 1 => rowV (V.getD i 0) (stepTo F V i) (F.getD i [])
theorem stepTo_len (F : List (List Int)) (V : List Nat) : ∀ i, (stepTo F V i).length = V.length
  | 0 => by rw [stepTo, List.length_replicate]
  | i + 1 => by rw [stepTo, rowV_len, stepTo_len F V i]
def waysV (F : List (List Int)) : Nat → List Nat
  | 0 => (List.replicate F.length 0).set 0 1
  | n + 1 => stepTo F (waysV F n) F.length
theorem waysV_len (F : List (List Int)) : ∀ n, (waysV F n).length = F.length
  | 0 => by rw [waysV, List.length_set, List.length_replicate]
  | n + 1 => by rw [waysV, stepTo_len, waysV_len F n]
/-- Both together. -/
def dot : List Nat → List Nat → Nat
  | a :: V, b :: U => a * b + dot V U
  | _, _ => 0
theorem dot_nil (U : List Nat) : dot [] U = 0 := by rw [dot]; simp
theorem dot_set : ∀ (V U : List Nat) (i c : Nat), i < V.length → i < U.length → dot (V.set i (V.getD i 0 + c)) U = dot V U + c * U.getD i 0
  | [], _, _, _, h, _ => by simp at h
  | _ :: _, [], _, _, _, h => by simp at h
  | a :: V, b :: U, 0, c, _, _ => by
    show (a + c) * b + dot V U = a * b + dot V U + c * b
    rw [Nat.add_mul]; omega
  | a :: V, b :: U, i + 1, c, h1, h2 => by
    have h := dot_set V U i c (by simpa using h1) (by simpa using h2)
    show a * b + dot (V.set i (V.getD i 0 + c)) U = a * b + dot V U + c * U.getD i 0
    rw [h]; omega
theorem dot_zero : ∀ (n : Nat) (U : List Nat), dot (List.replicate n 0) U = 0
  | 0, U => dot_nil U
  | n + 1, [] => by rw [List.replicate_succ, dot]; simp
  | n + 1, b :: U => by rw [List.replicate_succ, dot, dot_zero n U]; simp
theorem dot_one : ∀ (V : List Nat) (n : Nat), V.length = n → dot V (List.replicate n 1) = V.sum
  | [], n, h => by rw [dot_nil]; rfl
  | a :: V, n, h => by
    match n, h with
    | n + 1, h =>
      rw [List.replicate_succ, dot, dot_one V n (by simpa using h), List.sum_cons]
      omega
theorem dot_row {n : Nat} (U : List Nat) (hU : U.length = n) (c : Nat) : ∀ (r : List Int) (V : List Nat), V.length = n → (∀ x ∈ r, x = -1 ∨ ∃ j : Nat, x = (j : Int) ∧ j < n) → dot (rowV c V r) U = dot V U + c * rowB U r := by
  have key : ∀ (r : List Int) (V : List Nat) (b : Nat), V.length = n → (∀ x ∈ r, x = -1 ∨ ∃ j : Nat, x = (j : Int) ∧ j < n) → dot (rowV c V r) U + c * b = dot V U + c * r.foldl (fun n t => if t < 0 then n else n + U.getD t.toNat 0) b := by
    intro r
    induction r with
    | nil => intro V b _ _; rfl
    | cons t r ih =>
      intro V b hV hr
      show dot (rowV c (addTo c V t) r) U + c * b = dot V U + c * r.foldl (fun n t => if t < 0 then n else n + U.getD t.toNat 0) (if t < 0 then b else b + U.getD t.toNat 0)
      have hr' : ∀ x ∈ r, x = -1 ∨ ∃ j : Nat, x = (j : Int) ∧ j < n := fun x hx => hr x (by simp [hx])
      rcases hr t (by simp) with h | ⟨j, rfl, hj⟩
      · have h0 : t < 0 := by omega
        have e : addTo c V t = V := by unfold addTo; rw [if_pos h0]
        rw [e, if_pos h0]
        exact ih V b hV hr'
      · have h0 : ¬ (j : Int) < 0 := by omega
        have e : addTo c V (j : Int) = V.set j (V.getD j 0 + c) := by unfold addTo; rw [if_neg h0]; rfl
        rw [e, if_neg h0]
        have h1 := ih (V.set j (V.getD j 0 + c)) (b + U.getD j 0) (by rw [List.length_set, hV]) hr'
        rw [dot_set V U j c (by omega) (by omega)] at h1
        show dot (rowV c (V.set j (V.getD j 0 + c)) r) U + c * b = dot V U + c * r.foldl (fun n t => if t < 0 then n else n + U.getD t.toNat 0) (b + U.getD j 0)
        rw [Nat.mul_add] at h1
        omega
  intro r V hV hr
  have := key r V 0 hV hr
  rw [Nat.mul_zero, Nat.add_zero] at this
  exact this
theorem dot_split : ∀ (V U : List Nat) (f : Nat → Nat), V.length = U.length → (∀ i, i < V.length → U.getD i 0 = f i) → dot V U = ((List.range V.length).map fun i => V.getD i 0 * f i).sum
  | [], _, _, _, _ => by rw [dot_nil]; rfl
  | a :: V, [], _, h, _ => by simp at h
  | a :: V, b :: U, f, h, hf => by
    have h1 := dot_split V U (fun i => f (i + 1)) (by simpa using h) (fun i hi => hf (i + 1) (by simpa using hi))
    have h2 : b = f 0 := hf 0 (by simp)
    rw [dot, h1, List.length_cons, List.range_succ_eq_map, List.map_cons, List.sum_cons, List.map_map, h2]
    rfl
theorem sum_range_succ (f : Nat → Nat) (n : Nat) : ((List.range (n + 1)).map f).sum = ((List.range n).map f).sum + f n := by
  rw [List.range_succ, List.map_append, List.sum_append]
  simp
theorem dot_step {k : Nat} {F : List (List Int)} (hA : IsAuto k F) {V U : List Nat} (hV : V.length = F.length) (hU : U.length = F.length) : dot (stepTo F V F.length) U = dot V (stepB F U) := by
  have key : ∀ i, i ≤ F.length → dot (stepTo F V i) U = ((List.range i).map fun j => V.getD j 0 * rowB U (F.getD j [])).sum := by
    intro i
    induction i with
    | zero => intro _; rw [stepTo, dot_zero]; rfl
    | succ i ih =>
      intro hi
      have hr := hA.row (show i < F.length by omega)
      rw [stepTo, dot_row (n := F.length) U hU _ _ _ (by rw [stepTo_len, hV]) (hA.ok _ (List.mem_of_getElem? hr.2)), ih (by omega), sum_range_succ]
  rw [key F.length (Nat.le_refl _), dot_split V (stepB F U) (fun i => rowB U (F.getD i [])) (by rw [stepB, List.length_map, hV]) (fun i hi => by
    have hr := hA.row (show i < F.length by omega)
    unfold stepB
    rw [List.getD_eq_getElem?_getD, List.getElem?_map, hr.2]
    rfl), hV]
theorem ways_dot {k : Nat} {F : List (List Int)} (hA : IsAuto k F) : ∀ (m j : Nat), dot (waysV F m) (waysB F j) = dot (waysV F 0) (waysB F (m + j))
  | 0, j => by rw [Nat.zero_add]
  | m + 1, j => by
    show dot (stepTo F (waysV F m) F.length) (waysB F j) = _
    rw [dot_step hA (waysV_len F m) (waysB_len F j)]
    show dot (waysV F m) (waysB F (j + 1)) = _
    rw [ways_dot hA m (j + 1), show m + (j + 1) = m + 1 + j by omega]
theorem ways_same {k : Nat} {F : List (List Int)} (hA : IsAuto k F) (n : Nat) : (waysV F n).sum = (waysB F n).getD 0 0 := by
  have h1 := ways_dot hA n 0
  rw [Nat.add_zero] at h1
  have h2 : dot (waysV F n) (waysB F 0) = (waysV F n).sum := dot_one _ _ (waysV_len F n)
  have h3 : dot (waysV F 0) (waysB F n) = (waysB F n).getD 0 0 := by
    have h4 := dot_set (List.replicate F.length 0) (waysB F n) 0 1 (by rw [List.length_replicate]; exact hA.pos) (by rw [waysB_len]; exact hA.pos)
    have e : (List.replicate F.length 0).getD 0 0 = 0 := by
      rw [List.getD_eq_getElem?_getD, List.getElem?_replicate]
      split <;> rfl
    rw [e, dot_zero, Nat.zero_add, Nat.zero_add, Nat.one_mul] at h4
    exact h4
  rw [← h2, h1, h3]

/-! ### the words themselves -/
/-- All words of n symbols, in order. -/
def allW (k : Nat) : Nat → List (List Nat)
  | 0 => [[]]
  | n + 1 => (List.range k).flatMap fun c => (allW k n).map fun w => c :: w
def okW (F : List (List Int)) (i : Nat) (w : List Nat) : Bool := (runA F i w).isSome
theorem allW_sym {k : Nat} : ∀ {n : Nat} {w : List Nat}, w ∈ allW k n → w.length = n ∧ ∀ c ∈ w, c < k
  | 0, w, h => by rw [allW, List.mem_singleton] at h; subst h; exact ⟨rfl, fun c hc => by simp at hc⟩
  | n + 1, w, h => by
    rw [allW, List.mem_flatMap] at h
    obtain ⟨c, hc, h⟩ := h
    obtain ⟨v, hv, rfl⟩ := List.mem_map.1 h
    obtain ⟨h1, h2⟩ := allW_sym hv
    exact ⟨by rw [List.length_cons, h1], fun x hx => (List.mem_cons.1 hx).elim (fun e => by rw [e]; exact List.mem_range.1 hc) (h2 x)⟩
theorem count_flat {α : Type} (p : α → Bool) : ∀ (l : List Nat) (f : Nat → List α), (l.flatMap f).countP p = (l.map fun c => (f c).countP p).sum
  | [], f => rfl
  | c :: l, f => by rw [List.flatMap_cons, List.countP_append, count_flat p l f, List.map_cons, List.sum_cons]
theorem rowB_sum {k : Nat} (U : List Nat) : ∀ (r : List Int), rowB U r = (r.map fun t => if t < 0 then 0 else U.getD t.toNat 0).sum := by
  have key : ∀ (r : List Int) (b : Nat), r.foldl (fun n t => if t < 0 then n else n + U.getD t.toNat 0) b = b + (r.map fun t => if t < 0 then 0 else U.getD t.toNat 0).sum := by
    intro r
    induction r with
    | nil => intro b; rfl
    | cons t r ih =>
      intro b
      rw [List.foldl_cons, ih, List.map_cons, List.sum_cons]
      by_cases h : t < 0
      · rw [if_pos h, if_pos h]; omega
      · rw [if_neg h, if_neg h]; omega
  intro r
  have := key r 0
  rw [Nat.zero_add] at this
  exact this
theorem ways_words {k : Nat} {F : List (List Int)} (hA : IsAuto k F) : ∀ (n i : Nat), i < F.length → (waysB F n).getD i 0 = (allW k n).countP (okW F i)
  | 0, i, hi => by
    show (List.replicate F.length 1).getD i 0 = _
    rw [List.getD_eq_getElem?_getD, List.getElem?_replicate, if_pos hi]
    simp [allW, okW, runA_nil]
  | n + 1, i, hi => by
    have hr := hA.row hi
    show (stepB F (waysB F n)).getD i 0 = _
    unfold stepB
    rw [List.getD_eq_getElem?_getD, List.getElem?_map, hr.2]
    show rowB (waysB F n) (F.getD i []) = _
    rw [rowB_sum (k := k), allW, count_flat]
    have e : F.getD i [] = (List.range k).map fun c => nxt F i c := by
      apply List.ext_getElem?
      intro c
      by_cases hc : c < k
      · rw [(hA.at_ hi hc).1, List.getElem?_map, List.getElem?_range hc]; rfl
      · rw [List.getElem?_eq_none (by rw [hr.1]; omega), List.getElem?_eq_none (by rw [List.length_map, List.length_range]; omega)]
    rw [e, List.map_map]
    congr 1
    refine List.map_congr_left fun c hc => ?_
    have hck := List.mem_range.1 hc
    show (if nxt F i c < 0 then 0 else (waysB F n).getD (nxt F i c).toNat 0) = ((allW k n).map fun w => c :: w).countP (okW F i)
    rw [List.countP_map]
    by_cases h0 : nxt F i c < 0
    · rw [if_pos h0]
      symm
      rw [List.countP_eq_zero]
      intro w _
      show ¬ (okW F i (c :: w) = true)
      unfold okW
      rw [runA_cons, if_pos h0]
      simp
    · rw [if_neg h0]
      obtain ⟨q, hq, hql⟩ := (hA.at_ hi hck).2.resolve_left (by omega)
      rw [hq]
      show (waysB F n).getD q 0 = _
      rw [ways_words hA n q hql]
      refine List.countP_congr fun w _ => ?_
      show okW F q w = true ↔ okW F i (c :: w) = true
      unfold okW
      rw [runA_cons, if_neg h0, hq]
      exact Iff.rfl
end RuleP
end Go.Proofs.YthilnpfpllplaaaGreatDoor

namespace Go.Proofs.YthilnpfpllplaaaGreatDoor
open BagP RuleP SubP

namespace SubP
theorem RowsOk.auto {k N : Nat} {t : List Nat} {S : St} (h : RowsOk k N t S) : IsAuto k S.next where
  pos := by rw [h.len]; exact h.pos
  len := fun r hr => by
    obtain ⟨i, hi⟩ := List.getElem?_of_mem hr
    exact h.row i r hi
  ok := fun r hr x hx => by
    obtain ⟨i, hi⟩ := List.getElem?_of_mem hr
    obtain ⟨s, hs⟩ := List.getElem?_of_mem hx
    rcases h.to i s r x hi hs with ⟨h1, _⟩ | ⟨j, h1, h2, _⟩
    · exact .inl h1
    · exact .inr ⟨j, h1, by rw [h.len]; exact h2⟩
theorem RowsOk.at_ {k N : Nat} {t : List Nat} {S : St} (h : RowsOk k N t S) {i s : Nat} (hi : i < S.sets.length) (hs : s < k) :
    (nxt S.next i s = -1 ∧ nodesOf (beh k N t (S.sets.getD i []) s) = []) ∨ ∃ j : Nat, nxt S.next i s = (j : Int) ∧ j < S.sets.length ∧ S.sets[j]? = some (beh k N t (S.sets.getD i []) s) := by
  have hi' : i < S.next.length := by rw [h.len]; exact hi
  exact h.to i s _ _ (h.auto.row hi').2 (h.auto.at_ hi' hs).1
theorem RowsOk.runs {k N : Nat} {t : List Nat} {S : St} (h : RowsOk k N t S) : ∀ (w : List Nat) (i : Nat), i < S.sets.length → (∀ c ∈ w, c < k) → ((runA S.next i w).isSome = true ↔ nodesOf (w.foldl (fun B c => beh k N t B c) (S.sets.getD i [])) ≠ [])
  | [], i, hi, _ => by
    rw [runA_nil]
    refine ⟨fun _ => ?_, fun _ => rfl⟩
    have e : S.sets.getD i [] = S.sets[i] := by rw [List.getD_eq_getElem?_getD, List.getElem?_eq_getElem hi]; rfl
    rw [List.foldl_nil, e]
    exact (h.set _ (List.getElem_mem hi)).2
  | c :: w, i, hi, hw => by
    have hck := hw c (by simp)
    have hwk : ∀ x ∈ w, x < k := fun x hx => hw x (by simp [hx])
    rw [runA_cons, List.foldl_cons]
    rcases h.at_ hi hck with ⟨h1, h2⟩ | ⟨j, h1, h2, h3⟩
    · rw [if_pos (by omega)]
      refine ⟨fun e => (by cases e), fun e => absurd ?_ e⟩
      have key : ∀ (w : List Nat) (B : List Bool), nodesOf B = [] → nodesOf (w.foldl (fun B c => beh k N t B c) B) = [] := by
        intro w
        induction w with
        | nil => intro B hB; exact hB
        | cons x w ih =>
          intro B hB
          rw [List.foldl_cons]
          refine ih _ ?_
          unfold beh
          rw [hB, behF_nil]
          exact nodes_eq_nil.2 fun u hu => by
            rw [mark_len] at hu
            rw [mark_get N [] hu]
            simp
      exact key w _ h2
    · rw [if_neg (by omega), h1]
      have e : S.sets.getD j [] = beh k N t (S.sets.getD i []) c := by rw [List.getD_eq_getElem?_getD, h3]; rfl
      have h4 := h.runs w j h2 hwk
      rw [e] at h4
      exact h4
/-- A word runs through the automaton of the subsets just if it has a preimage. -/
theorem RowsOk.has {k r : Nat} {t : List Nat} {S : St} (hk : 0 < k) (h : RowsOk k (k ^ (2 * r)) t S) {w : List Nat} (hw : ∀ c ∈ w, c < k) : (runA S.next 0 w).isSome = true ↔ before k r t w ≠ [] := by
  have hN : 0 < k ^ (2 * r) := Nat.pow_pos hk
  have e : S.sets.getD 0 [] = List.replicate (k ^ (2 * r)) true := by rw [List.getD_eq_getElem?_getD, h.zero]; rfl
  have h1 := h.runs w 0 h.pos hw
  rw [e] at h1
  rw [h1]
  show nodesOf (run k (k ^ (2 * r)) t w) ≠ [] ↔ _
  rw [run_sols hN]
  constructor
  · rintro ⟨u, hu, hs⟩ hb
    obtain ⟨z, hz⟩ := List.exists_mem_of_ne_nil _ hs
    have h2 := before_mem.2 ⟨u, z, hu, hz, rfl⟩
    rw [hb] at h2
    simp at h2
  · intro hb
    obtain ⟨y, hy⟩ := List.exists_mem_of_ne_nil _ hb
    obtain ⟨u, z, hu, hz, _⟩ := before_mem.1 hy
    exact ⟨u, hu, fun e => by rw [e] at hz; simp at hz⟩
/-- Each state goes on. -/
theorem RowsOk.live {k r : Nat} {t : List Nat} {S : St} (hr : IsRule k r t) (h : RowsOk k (k ^ (2 * r)) t S) {i : Nat} (hi : i < S.next.length) : ∃ c, c < k ∧ ¬ nxt S.next i c < 0 := by
  have hN : 0 < k ^ (2 * r) := Nat.pow_pos hr.k1
  have hi' : i < S.sets.length := by rw [← h.len]; exact hi
  have e : S.sets.getD i [] = S.sets[i] := by rw [List.getD_eq_getElem?_getD, List.getElem?_eq_getElem hi']; rfl
  have h1 := h.set _ (List.getElem_mem hi')
  rw [← e] at h1
  obtain ⟨u, hu⟩ := List.exists_mem_of_ne_nil _ h1.2
  have hul := (mem_nodesOf.1 hu).1
  rw [h1.1] at hul
  have hlt : u * k + 0 < t.length := by
    rw [hr.len, Nat.pow_succ]
    have := Nat.mul_lt_mul_of_pos_right hul hr.k1
    omega
  have hc : t.getD (u * k + 0) 0 < k := by
    rw [List.getD_eq_getElem?_getD, List.getElem?_eq_getElem hlt]
    exact hr.sym _ (List.getElem_mem _)
  refine ⟨_, hc, fun hneg => ?_⟩
  rcases h.at_ hi' hc with ⟨_, h2⟩ | ⟨j, h2, _, _⟩
  · have h3 := (mem_beh (t := t) (s := t.getD (u * k + 0) 0) hN).2 (mem_behF.2 ⟨u, hu, 0, hr.k1, rfl, rfl⟩)
    rw [h2] at h3
    simp at h3
  · omega
end SubP

namespace RuleP
theorem image_wide {k r d : Nat} {t v : List Nat} (hr : IsRule k r t) (hs : ∀ x ∈ v, x < k) (hl : 2 * (r + d) ≤ v.length) : image k (r + d) (wide k r d t) v = image k r t (win v d (v.length - 2 * d)) := by
  apply List.ext_getElem?
  intro i
  by_cases hi : i + 2 * (r + d) < v.length
  · rw [image_at hi, image_at (by rw [win_len (by omega)]; omega)]
    have h1 := sy_tab hr.k1 (fun v => sy k t (win v d (2 * r + 1))) (win_len (w := v) (i := i) (m := 2 * (r + d) + 1) (by omega)) (win_sym hs i (2 * (r + d) + 1))
    refine congrArg some (h1.trans ?_)
    show sy k t (win (win v i (2 * (r + d) + 1)) d (2 * r + 1)) = t.getD (wval k (win (win v d (v.length - 2 * d)) i (2 * r + 1))) 0
    rw [win_win (by omega), win_win (by omega), Nat.add_comm d i]
    rfl
  · rw [List.getElem?_eq_none (by rw [image_len]; omega), List.getElem?_eq_none (by rw [image_len, win_len (by omega)]; omega)]
/-- A word has a preimage. -/
def HasP (k r : Nat) (t w : List Nat) : Prop := ∃ v : List Nat, v.length = w.length + 2 * r ∧ (∀ x ∈ v, x < k) ∧ image k r t v = w
theorem has_before {k r : Nat} {t w : List Nat} (hk : 0 < k) : before k r t w ≠ [] ↔ HasP k r t w := by
  constructor
  · intro hb
    obtain ⟨y, hy⟩ := List.exists_mem_of_ne_nil _ hb
    obtain ⟨u, z, hu, hz, rfl⟩ := before_mem.1 hy
    obtain ⟨h1, h2, h3⟩ := (sols_iff hk hu).1 hz
    refine ⟨_, by rw [List.length_append, digB_len, h1]; omega, fun x hx => ?_, h3⟩
    rcases List.mem_append.1 hx with hx | hx
    · exact digB_sym hk _ _ x hx
    · exact h2 x hx
  · rintro ⟨v, h1, h2, h3⟩ hb
    have e : v = v.take (2 * r) ++ v.drop (2 * r) := (List.take_append_drop _ _).symm
    have ht : (v.take (2 * r)).length = 2 * r := by rw [List.length_take]; omega
    have hts : ∀ x ∈ v.take (2 * r), x < k := fun x hx => h2 x (List.mem_of_mem_take hx)
    have hu := wval_lt hts
    rw [ht] at hu
    have hd := digB_wval hk (2 * r) (v.take (2 * r)) ht hts
    have hz := (sols_iff (t := t) (w := w) (z := v.drop (2 * r)) hk hu).2 ⟨by rw [List.length_drop]; omega, fun x hx => h2 x (List.mem_of_mem_drop hx), by rw [hd, ← e]; exact h3⟩
    have h4 := before_mem.2 ⟨_, _, hu, hz, rfl⟩
    rw [hb] at h4
    simp at h4
theorem has_wide {k r d : Nat} {t w : List Nat} (hr : IsRule k r t) : HasP k (r + d) (wide k r d t) w ↔ HasP k r t w := by
  constructor
  · rintro ⟨v, h1, h2, h3⟩
    refine ⟨win v d (v.length - 2 * d), by rw [win_len (by omega)]; omega, win_sym h2 _ _, ?_⟩
    rw [← image_wide hr h2 (by omega)]
    exact h3
  · rintro ⟨v, h1, h2, h3⟩
    obtain ⟨x, hx⟩ : ∃ x, List.replicate d 0 ++ v ++ List.replicate d 0 = x := ⟨_, rfl⟩
    have hxl : x.length = v.length + 2 * d := by rw [← hx, List.length_append, List.length_append, List.length_replicate]; omega
    have hxs : ∀ y ∈ x, y < k := by
      intro y hy
      rw [← hx] at hy
      rcases List.mem_append.1 hy with hy | hy
      · rcases List.mem_append.1 hy with hy | hy
        · rw [(List.mem_replicate.1 hy).2]; exact hr.k1
        · exact h2 y hy
      · rw [(List.mem_replicate.1 hy).2]; exact hr.k1
    refine ⟨x, by omega, hxs, ?_⟩
    rw [image_wide hr hxs (by omega)]
    have e : win x d (x.length - 2 * d) = v := by
      unfold win
      rw [hxl, ← hx, List.append_assoc, List.drop_append_of_le_length (by rw [List.length_replicate]; exact Nat.le_refl _), List.drop_eq_nil_of_le (by rw [List.length_replicate]; exact Nat.le_refl _), List.nil_append, show v.length + 2 * d - 2 * d = v.length by omega, List.take_append_of_le_length (Nat.le_refl _), List.take_length]
    rw [e, h3]
theorem image_shift {k : Nat} {v : List Nat} (hk : 0 < k) (hs : ∀ x ∈ v, x < k) (hl : 2 ≤ v.length) : image k 1 (shT k 1 (2 * 1)) v = v.drop 2 := by
  apply List.ext_getElem?
  intro i
  by_cases hi : i + 2 * 1 < v.length
  · rw [image_at hi]
    have h1 := sy_tab hk (fun v => v.getD (2 * 1) 0) (win_len (w := v) (i := i) (m := 2 * 1 + 1) (by omega)) (win_sym hs i (2 * 1 + 1))
    refine (congrArg some h1).trans ?_
    show some ((win v i (2 * 1 + 1)).getD (2 * 1) 0) = _
    rw [List.getD_eq_getElem?_getD, win_at (by omega), List.getElem?_drop, Nat.add_comm 2 i, List.getElem?_eq_getElem (by omega)]
    rfl
  · rw [List.getElem?_eq_none (by rw [image_len]; omega), List.getElem?_eq_none (by rw [List.length_drop]; omega)]
theorem has_shift {k r : Nat} {t w : List Nat} (hr : IsRule k r t) (h3 : r + 1 ≤ 3) : HasP k (r + 1) (comp k r t 1 (shT k 1 (2 * 1))) w ↔ HasP k r t w := by
  have hsr := shT_rule (k := k) (r := 1) (p := 2 * 1) hr.k1 hr.k4 (by decide) (by decide)
  constructor
  · rintro ⟨v, h1, h2, h3⟩
    rw [image_comp hr hsr h2, image_shift hr.k1 h2 (by omega)] at h3
    exact ⟨v.drop 2, by rw [List.length_drop]; omega, fun x hx => h2 x (List.mem_of_mem_drop hx), h3⟩
  · rintro ⟨v, h1, h2, h3⟩
    have hs : ∀ x ∈ 0 :: 0 :: v, x < k := by
      intro x hx
      rcases List.mem_cons.1 hx with rfl | hx
      · exact hr.k1
      · rcases List.mem_cons.1 hx with rfl | hx
        · exact hr.k1
        · exact h2 x hx
    refine ⟨0 :: 0 :: v, by simp; omega, hs, ?_⟩
    rw [image_comp hr hsr hs, image_shift hr.k1 hs (by simp)]
    exact h3
end RuleP
end Go.Proofs.YthilnpfpllplaaaGreatDoor
