/- The words that have an image, in their order: which they are. Plain lists, no program. No condition. Rules out of rules, as plain lists: tables told window by window; widened, narrowed, mirrored, shifted, one behind the other. No program. No condition. Rules out of rules, as plain lists: widened, narrowed, shifted, mirrored. No program. No condition. Automata, as plain lists: how many words of a length run. No program. No condition. The automaton of the subsets, as a plain automaton: the words that run are those that have preimages; one language of narrow, wide and shifted rules. No program. No condition. Automata, as plain lists: with one more symbol no fewer words and at most k times as many; the words in order, by their numbers. No program. No condition. How many preimages words have, as plain lists: if every word has one, every word has its fair share. No program. No condition. The garden of Eden, as plain lists: every word has a preimage just if there are no twins. No program. No condition. -/
import Derived.Test.YtibplgpolmplpaaGreatDoorW3
import Derived.Test.YtibplgpolmplpaaGreatDoorW6
import Derived.Test.YtibplgpolmplpaaGreatDoorW7
namespace Go.Proofs.YtibplgpolmplpaaGreatDoor
namespace RuleP

theorem image_cons {k r : Nat} {t y : List Nat} (h : 2 * r < y.length) : image k r t y = t.getD (wval k (y.take (2 * r + 1))) 0 :: image k r t (y.drop 1) := by
  unfold image
  rw [List.length_drop, show y.length - 2 * r = (y.length - 1 - 2 * r) + 1 from by omega, List.range_succ_eq_map, List.map_cons, List.map_map]
  congr 1
  apply List.map_congr_left
  intro i _
  simp only [Function.comp, win, List.drop_drop]
  rw [show 1 + i = i.succ from by omega]
theorem image_few {k r : Nat} {t y : List Nat} (h : y.length ≤ 2 * r) : image k r t y = [] := by
  unfold image
  rw [show y.length - 2 * r = 0 from by omega]
  rfl
/-- The node behind a symbol. -/
theorem node_next {k r u s : Nat} (hk : 0 < k) (hu : u < k ^ (2 * r)) (hs : s < k) : (digB k (2 * r) u ++ [s]).drop 1 = digB k (2 * r) ((u * k + s) % k ^ (2 * r)) := by
  have hsy : ∀ x ∈ digB k (2 * r) u ++ [s], x < k := by
    intro x hx
    rcases List.mem_append.1 hx with h | h
    · exact digB_sym hk _ _ x h
    · simp at h; subst h; exact hs
  have hl : ((digB k (2 * r) u ++ [s]).drop 1).length = 2 * r := by simp [digB_len]
  have h2 := wval_mod (k := k) ((digB k (2 * r) u ++ [s]).take 1) (b := (digB k (2 * r) u ++ [s]).drop 1) (fun x hx => hsy x (List.mem_of_mem_drop hx))
  rw [List.take_append_drop, wval_snoc, wval_digB hk hu, hl] at h2
  rw [h2, digB_wval hk (2 * r) _ hl (fun x hx => hsy x (List.mem_of_mem_drop hx))]
theorem sols_mem {k N : Nat} {t : List Nat} {u c : Nat} {w z : List Nat} : z ∈ sols k N t u (c :: w) ↔ ∃ s z', s < k ∧ t.getD (u * k + s) 0 = c ∧ z' ∈ sols k N t ((u * k + s) % N) w ∧ z = s :: z' := by
  simp only [sols, List.mem_flatMap, List.mem_range]
  constructor
  · rintro ⟨s, hs, h⟩
    split at h
    · rename_i hc
      obtain ⟨z', h1, rfl⟩ := List.mem_map.1 h
      exact ⟨s, z', hs, hc, h1, rfl⟩
    · cases h
  · rintro ⟨s, z', hs, hc, h1, rfl⟩
    exact ⟨s, hs, by rw [if_pos hc]; exact List.mem_map.2 ⟨z', h1, rfl⟩⟩
theorem image_step {k r u s : Nat} {t z : List Nat} (hk : 0 < k) (hu : u < k ^ (2 * r)) (hs : s < k) :
    image k r t (digB k (2 * r) u ++ s :: z) = t.getD (u * k + s) 0 :: image k r t (digB k (2 * r) ((u * k + s) % k ^ (2 * r)) ++ z) := by
  have e : digB k (2 * r) u ++ s :: z = (digB k (2 * r) u ++ [s]) ++ z := by simp
  have hl : (digB k (2 * r) u ++ [s]).length = 2 * r + 1 := by simp [digB_len]
  rw [e, image_cons (by simp [digB_len]), List.take_append_of_le_length (by omega), List.take_of_length_le (by omega), wval_snoc, wval_digB hk hu, List.drop_append_of_le_length (by omega), node_next hk hu hs]
theorem sols_iff {k r : Nat} {t : List Nat} (hk : 0 < k) : ∀ {w : List Nat} {u : Nat} {z : List Nat}, u < k ^ (2 * r) → (z ∈ sols k (k ^ (2 * r)) t u w ↔ z.length = w.length ∧ (∀ x ∈ z, x < k) ∧ image k r t (digB k (2 * r) u ++ z) = w)
  | [], u, z, hu => by
    constructor
    · intro h
      simp [sols] at h
      subst h
      exact ⟨rfl, by simp, image_few (by simp [digB_len])⟩
    · rintro ⟨h, _, _⟩
      have : z = [] := List.eq_nil_of_length_eq_zero h
      subst this
      simp [sols]
  | c :: w, u, z, hu => by
    have hN : ∀ s, (u * k + s) % k ^ (2 * r) < k ^ (2 * r) := fun s => Nat.mod_lt _ (Nat.pow_pos hk)
    rw [sols_mem]
    constructor
    · rintro ⟨s, z', hs, hc, h1, rfl⟩
      obtain ⟨a, b, d⟩ := (sols_iff hk (hN s)).1 h1
      refine ⟨by simp [a], fun x hx => ?_, ?_⟩
      · rcases List.mem_cons.1 hx with rfl | hx
        · exact hs
        · exact b x hx
      · rw [image_step hk hu hs, hc, d]
    · rintro ⟨h1, h2, h3⟩
      cases z with
      | nil => simp at h1
      | cons s z' =>
        have hs := h2 s (by simp)
        rw [image_step hk hu hs] at h3
        injection h3 with h4 h5
        exact ⟨s, z', hs, h4, (sols_iff hk (hN s)).2 ⟨by simpa using h1, fun x hx => h2 x (by simp [hx]), h5⟩, rfl⟩
theorem before_mem {k r : Nat} {t w y : List Nat} : y ∈ before k r t w ↔ ∃ u z, u < k ^ (2 * r) ∧ z ∈ sols k (k ^ (2 * r)) t u w ∧ y = digB k (2 * r) u ++ z := by
  unfold before befTo
  simp only [List.mem_flatMap, List.mem_range, List.mem_map]
  constructor
  · rintro ⟨u, hu, z, hz, rfl⟩
    exact ⟨u, z, hu, hz, rfl⟩
  · rintro ⟨u, z, hu, hz, rfl⟩
    exact ⟨u, hu, z, hz, rfl⟩
end RuleP
end Go.Proofs.YtibplgpolmplpaaGreatDoor

namespace Go.Proofs.YtibplgpolmplpaaGreatDoor
namespace RuleP

/-- A window's symbol by a table. -/
def sy (k : Nat) (t v : List Nat) : Nat := t.getD (wval k v) 0
/-- The table whose symbols are told window by window. -/
def tab (k n : Nat) (f : List Nat → Nat) : List Nat := (List.range (k ^ n)).map fun i => f (digB k n i)
theorem tab_len (k n : Nat) (f : List Nat → Nat) : (tab k n f).length = k ^ n := by simp [tab]
theorem dig_wval {k : Nat} (hk : 0 < k) : ∀ {n u : Nat}, u < k ^ n → wval k (digB k n u) = u
  | 0, u, h => by simp at h; subst h; rfl
  | n + 1, u, h => by
    have h1 : u / k < k ^ n := by
      rw [Nat.pow_succ] at h
      exact Nat.div_lt_of_lt_mul (by rw [Nat.mul_comm]; exact h)
    rw [digB, wval_snoc, dig_wval hk h1, Nat.mul_comm]
    exact Nat.div_add_mod u k
theorem tab_get {k n i : Nat} (f : List Nat → Nat) (h : i < k ^ n) : (tab k n f)[i]? = some (f (digB k n i)) := by
  unfold tab
  rw [List.getElem?_map, List.getElem?_range h]
  rfl
theorem tab_sym {k n : Nat} (hk : 0 < k) {f : List Nat → Nat} (hf : ∀ v : List Nat, v.length = n → (∀ x ∈ v, x < k) → f v < k) : ∀ x ∈ tab k n f, x < k := by
  intro x hx
  unfold tab at hx
  obtain ⟨i, _, rfl⟩ := List.mem_map.1 hx
  exact hf _ (digB_len _ _ _) (digB_sym hk _ _)
theorem tab_rule {k r : Nat} (k1 : 1 ≤ k) (k4 : k ≤ 4) (r3 : r ≤ 3) {f : List Nat → Nat} (hf : ∀ v : List Nat, v.length = 2 * r + 1 → (∀ x ∈ v, x < k) → f v < k) : IsRule k r (tab k (2 * r + 1) f) :=
  ⟨k1, k4, r3, tab_len _ _ _, tab_sym k1 hf⟩
theorem sy_lt {k r : Nat} {t v : List Nat} (hr : IsRule k r t) (hl : v.length = 2 * r + 1) (hs : ∀ x ∈ v, x < k) : sy k t v < k := by
  have h := wval_lt hs
  rw [hl, ← hr.len] at h
  unfold sy
  rw [List.getD_eq_getElem?_getD, List.getElem?_eq_getElem h]
  exact hr.sym _ (List.getElem_mem _)
/-! ### windows of windows -/
theorem win_win {w : List Nat} {i m j n : Nat} (h : j + n ≤ m) : win (win w i m) j n = win w (i + j) n := by
  unfold win
  rw [List.drop_take, List.take_take, List.drop_drop, Nat.min_eq_left (by omega)]
theorem win_at {w : List Nat} {i n j : Nat} (h : j < n) : (win w i n)[j]? = w[i + j]? := by
  unfold win
  rw [List.getElem?_take, if_pos h, List.getElem?_drop]
theorem image_part {k r : Nat} {t w : List Nat} {i m : Nat} (h : i + m ≤ w.length) (hm : 2 * r ≤ m) : image k r t (win w i m) = win (image k r t w) i (m - 2 * r) := by
  have hl : (win w i m).length = m := win_len h
  apply List.ext_getElem?
  intro j
  by_cases hj : j + 2 * r < m
  · rw [image_at (by rw [hl]; exact hj), win_at (by omega), image_at (by omega), win_win (by omega)]
  · rw [List.getElem?_eq_none (by rw [image_len, hl]; omega), List.getElem?_eq_none]
    rw [win_len (by rw [image_len]; omega)]
    omega
/-! ### one behind the other -/
def comp (k ra : Nat) (ta : List Nat) (rb : Nat) (tb : List Nat) : List Nat := tab k (2 * (ra + rb) + 1) fun v => sy k ta (image k rb tb v)
end RuleP
end Go.Proofs.YtibplgpolmplpaaGreatDoor

namespace Go.Proofs.YtibplgpolmplpaaGreatDoor
namespace RuleP

/-- With a radius d greater: the outer symbols tell nothing. -/
def wide (k r d : Nat) (t : List Nat) : List Nat := tab k (2 * (r + d) + 1) fun v => sy k t (win v d (2 * r + 1))
theorem wide_rule {k r d : Nat} {t : List Nat} (hr : IsRule k r t) (h : r + d ≤ 3) : IsRule k (r + d) (wide k r d t) :=
  tab_rule hr.k1 hr.k4 h fun v hl hs => sy_lt hr (win_len (by omega)) (win_sym hs _ _)
end RuleP
end Go.Proofs.YtibplgpolmplpaaGreatDoor

namespace Go.Proofs.YtibplgpolmplpaaGreatDoor
namespace RuleP

/-! ### the words themselves -/
/-- All words of n symbols, in order. -/
def allW (k : Nat) : Nat → List (List Nat)
  | 0 => [[]]
  | n + 1 => (List.range k).flatMap fun c => (allW k n).map fun w => c :: w
theorem allW_sym {k : Nat} : ∀ {n : Nat} {w : List Nat}, w ∈ allW k n → w.length = n ∧ ∀ c ∈ w, c < k
  | 0, w, h => by rw [allW, List.mem_singleton] at h; subst h; exact ⟨rfl, fun c hc => by simp at hc⟩
  | n + 1, w, h => by
    rw [allW, List.mem_flatMap] at h
    obtain ⟨c, hc, h⟩ := h
    obtain ⟨v, hv, rfl⟩ := List.mem_map.1 h
    obtain ⟨h1, h2⟩ := allW_sym hv
    exact ⟨by rw [List.length_cons, h1], fun x hx => (List.mem_cons.1 hx).elim (fun e => by rw [e]; exact List.mem_range.1 hc) (h2 x)⟩
end RuleP
end Go.Proofs.YtibplgpolmplpaaGreatDoor

namespace Go.Proofs.YtibplgpolmplpaaGreatDoor
open BagP RuleP SubP

namespace SubP
theorem RowsOk.auto {k N : Nat} {t : List Nat} {S : St} (h : RowsOk k N t S) : IsAuto k S.next where
  pos := by rw [h.len]; exact h.pos
  len := fun r hr => by
    obtain ⟨i, hi⟩ := List.getElem?_of_mem hr
    exact h.row i r hi
  ok := fun r hr x hx => by
    obtain ⟨i, hi⟩ := List.getElem?_of_mem hr
    obtain ⟨s, hs⟩ := List.getElem?_of_mem hx
    rcases h.to i s r x hi hs with ⟨h1, _⟩ | ⟨j, h1, h2, _⟩
    · exact .inl h1
    · exact .inr ⟨j, h1, by rw [h.len]; exact h2⟩
theorem RowsOk.at_ {k N : Nat} {t : List Nat} {S : St} (h : RowsOk k N t S) {i s : Nat} (hi : i < S.sets.length) (hs : s < k) :
    (nxt S.next i s = -1 ∧ nodesOf (beh k N t (S.sets.getD i []) s) = []) ∨ ∃ j : Nat, nxt S.next i s = (j : Int) ∧ j < S.sets.length ∧ S.sets[j]? = some (beh k N t (S.sets.getD i []) s) := by
  have hi' : i < S.next.length := by rw [h.len]; exact hi
  exact h.to i s _ _ (h.auto.row hi').2 (h.auto.at_ hi' hs).1
theorem RowsOk.runs {k N : Nat} {t : List Nat} {S : St} (h : RowsOk k N t S) : ∀ (w : List Nat) (i : Nat), i < S.sets.length → (∀ c ∈ w, c < k) → ((runA S.next i w).isSome = true ↔ nodesOf (w.foldl (fun B c => beh k N t B c) (S.sets.getD i [])) ≠ [])
  | [], i, hi, _ => by
    rw [runA_nil]
    refine ⟨fun _ => ?_, fun _ => rfl⟩
    have e : S.sets.getD i [] = S.sets[i] := by rw [List.getD_eq_getElem?_getD, List.getElem?_eq_getElem hi]; rfl
    rw [List.foldl_nil, e]
    exact (h.set _ (List.getElem_mem hi)).2
  | c :: w, i, hi, hw => by
    have hck := hw c (by simp)
    have hwk : ∀ x ∈ w, x < k := fun x hx => hw x (by simp [hx])
    rw [runA_cons, List.foldl_cons]
    rcases h.at_ hi hck with ⟨h1, h2⟩ | ⟨j, h1, h2, h3⟩
    · rw [if_pos (by omega)]
      refine ⟨fun e => (by cases e), fun e => absurd ?_ e⟩
      have key : ∀ (w : List Nat) (B : List Bool), nodesOf B = [] → nodesOf (w.foldl (fun B c => beh k N t B c) B) = [] := by
        intro w
        induction w with
        | nil => intro B hB; exact hB
        | cons x w ih =>
          intro B hB
          rw [List.foldl_cons]
          refine ih _ ?_
          unfold beh
          rw [hB, behF_nil]
          exact nodes_eq_nil.2 fun u hu => by
            rw [mark_len] at hu
            rw [mark_get N [] hu]
            simp
      exact key w _ h2
    · rw [if_neg (by omega), h1]
      have e : S.sets.getD j [] = beh k N t (S.sets.getD i []) c := by rw [List.getD_eq_getElem?_getD, h3]; rfl
      have h4 := h.runs w j h2 hwk
      rw [e] at h4
      exact h4
/-- A word runs through the automaton of the subsets just if it has a preimage. -/
theorem RowsOk.has {k r : Nat} {t : List Nat} {S : St} (hk : 0 < k) (h : RowsOk k (k ^ (2 * r)) t S) {w : List Nat} (hw : ∀ c ∈ w, c < k) : (runA S.next 0 w).isSome = true ↔ before k r t w ≠ [] := by
  have hN : 0 < k ^ (2 * r) := Nat.pow_pos hk
  have e : S.sets.getD 0 [] = List.replicate (k ^ (2 * r)) true := by rw [List.getD_eq_getElem?_getD, h.zero]; rfl
  have h1 := h.runs w 0 h.pos hw
  rw [e] at h1
  rw [h1]
  show nodesOf (run k (k ^ (2 * r)) t w) ≠ [] ↔ _
  rw [run_sols hN]
  constructor
  · rintro ⟨u, hu, hs⟩ hb
    obtain ⟨z, hz⟩ := List.exists_mem_of_ne_nil _ hs
    have h2 := before_mem.2 ⟨u, z, hu, hz, rfl⟩
    rw [hb] at h2
    simp at h2
  · intro hb
    obtain ⟨y, hy⟩ := List.exists_mem_of_ne_nil _ hb
    obtain ⟨u, z, hu, hz, _⟩ := before_mem.1 hy
    exact ⟨u, hu, fun e => by rw [e] at hz; simp at hz⟩
end SubP

namespace RuleP
/-- A word has a preimage. -/
def HasP (k r : Nat) (t w : List Nat) : Prop := ∃ v : List Nat, v.length = w.length + 2 * r ∧ (∀ x ∈ v, x < k) ∧ image k r t v = w
end RuleP
end Go.Proofs.YtibplgpolmplpaaGreatDoor

namespace Go.Proofs.YtibplgpolmplpaaGreatDoor
namespace RuleP

/-! ### the words in order -/
theorem range_mul {α : Type} (f : Nat → α) (m : Nat) : ∀ k : Nat, (List.range (k * m)).map f = (List.range k).flatMap fun c => (List.range m).map fun j => f (c * m + j)
  | 0 => by rw [Nat.zero_mul]; rfl
  | k + 1 => by
    rw [Nat.succ_mul, List.range_add, List.map_append, range_mul f m k, List.range_succ, List.flatMap_append, List.flatMap_cons, List.flatMap_nil, List.append_nil, List.map_map]
    rfl
theorem digB_head {k : Nat} (hk : 0 < k) : ∀ (n c j : Nat), c < k → j < k ^ n → digB k (n + 1) (c * k ^ n + j) = c :: digB k n j
  | 0, c, j, hc, hj => by
    simp at hj
    subst hj
    show digB k 0 _ ++ [(c * k ^ 0 + 0) % k] = [c]
    rw [Nat.pow_zero, Nat.mul_one, Nat.add_zero, Nat.mod_eq_of_lt hc]
    rfl
  | n + 1, c, j, hc, hj => by
    have h1 : j / k < k ^ n := by
      rw [Nat.pow_succ] at hj
      exact Nat.div_lt_of_lt_mul (by rw [Nat.mul_comm]; exact hj)
    have e1 : (c * k ^ (n + 1) + j) / k = c * k ^ n + j / k := by
      rw [Nat.pow_succ, ← Nat.mul_assoc, Nat.add_comm, Nat.add_mul_div_right _ _ hk, Nat.add_comm]
    have e2 : (c * k ^ (n + 1) + j) % k = j % k := by
      rw [Nat.pow_succ, ← Nat.mul_assoc, Nat.add_comm, Nat.add_mul_mod_self_right]
    show digB k (n + 1) ((c * k ^ (n + 1) + j) / k) ++ [(c * k ^ (n + 1) + j) % k] = c :: (digB k n (j / k) ++ [j % k])
    rw [e1, e2, digB_head hk n c (j / k) hc h1]
    rfl
theorem allW_dig {k : Nat} (hk : 0 < k) : ∀ n, (List.range (k ^ n)).map (digB k n) = allW k n
  | 0 => rfl
  | n + 1 => by
    rw [Nat.pow_succ, Nat.mul_comm, range_mul, allW]
    rw [List.flatMap_def, List.flatMap_def]
    refine congrArg List.flatten (List.map_congr_left fun c hc => ?_)
    rw [← allW_dig hk n, List.map_map]
    exact List.map_congr_left fun j hj => digB_head hk n c j (List.mem_range.1 hc) (List.mem_range.1 hj)
end RuleP
end Go.Proofs.YtibplgpolmplpaaGreatDoor

namespace Go.Proofs.YtibplgpolmplpaaGreatDoor
namespace RuleP

/-! ### counting without repetition -/
theorem nodupL_le {α : Type} [BEq α] [LawfulBEq α] {a b : List α} (ha : a.Nodup) (h : ∀ x ∈ a, x ∈ b) : a.length ≤ b.length := by
  induction a generalizing b with
  | nil => exact Nat.zero_le _
  | cons x a ih =>
    have hx := h x (by simp)
    have h1 : ∀ y ∈ a, y ∈ b.erase x := fun y hy => (List.mem_erase_of_ne (fun (e : y = x) => (List.nodup_cons.1 ha).1 (by rw [← e]; exact hy))).2 (h y (by simp [hy]))
    have h2 := ih (List.nodup_cons.1 ha).2 h1
    rw [List.length_erase_of_mem hx] at h2
    have h3 := List.length_pos_of_mem hx
    rw [List.length_cons]
    omega
theorem inj_le {α β : Type} [BEq β] [LawfulBEq β] {a : List α} {b : List β} (f : α → β) (ha : a.Nodup) (hf : ∀ x ∈ a, f x ∈ b) (hi : ∀ x ∈ a, ∀ y ∈ a, f x = f y → x = y) : a.length ≤ b.length := by
  have h1 : (a.map f).Nodup := by
    rw [List.nodup_iff_pairwise_ne, List.pairwise_map]
    exact ha.imp_of_mem fun {x y} hx hy hne e => hne (hi x hx y hy e)
  have h2 := nodupL_le h1 (b := b) (fun x hx => by
    obtain ⟨y, hy, rfl⟩ := List.mem_map.1 hx
    exact hf y hy)
  rwa [List.length_map] at h2
theorem allW_len (k : Nat) : ∀ n, (allW k n).length = k ^ n
  | 0 => rfl
  | n + 1 => by
    rw [allW, List.length_flatMap, Nat.pow_succ, Nat.mul_comm]
    have e : (List.range k).map (fun c => ((allW k n).map fun w => c :: w).length) = List.replicate k (k ^ n) := by
      apply List.ext_getElem?
      intro i
      rw [List.getElem?_map, List.getElem?_replicate]
      by_cases h : i < k
      · rw [List.getElem?_range h, if_pos h]
        simp [allW_len k n]
      · rw [List.getElem?_eq_none (by rw [List.length_range]; omega), if_neg h]
        rfl
    rw [e, List.sum_replicate_nat]
theorem mem_allW {k : Nat} : ∀ {n : Nat} {w : List Nat}, w.length = n → (∀ c ∈ w, c < k) → w ∈ allW k n
  | 0, [], _, _ => by rw [allW]; simp
  | 0, _ :: _, h, _ => by simp at h
  | n + 1, [], h, _ => by simp at h
  | n + 1, c :: w, h, hw => by
    rw [allW, List.mem_flatMap]
    exact ⟨c, List.mem_range.2 (hw c (by simp)), List.mem_map.2 ⟨w, mem_allW (by simpa using h) (fun x hx => hw x (by simp [hx])), rfl⟩⟩
theorem allW_nodup {k : Nat} (hk : 0 < k) (n : Nat) : (allW k n).Nodup := by
  rw [← allW_dig hk n, List.nodup_iff_pairwise_ne, List.pairwise_map]
  refine List.nodup_range.imp_of_mem fun {a b} ha hb hne e => hne ?_
  have h1 := dig_wval hk (List.mem_range.1 ha)
  have h2 := dig_wval hk (List.mem_range.1 hb)
  rw [← h1, ← h2, e]

/-- The preimages. -/
def preL (k r : Nat) (t w : List Nat) : List (List Nat) := (allW k (w.length + 2 * r)).filter fun v => decide (image k r t v = w)
theorem mem_preL {k r : Nat} {t w v : List Nat} : v ∈ preL k r t w ↔ v.length = w.length + 2 * r ∧ (∀ x ∈ v, x < k) ∧ image k r t v = w := by
  unfold preL
  rw [List.mem_filter, decide_eq_true_eq]
  constructor
  · rintro ⟨h1, h2⟩
    exact ⟨(allW_sym h1).1, (allW_sym h1).2, h2⟩
  · rintro ⟨h1, h2, h3⟩
    exact ⟨mem_allW h1 h2, h3⟩
theorem preL_nodup {k r : Nat} {t w : List Nat} (hk : 0 < k) : (preL k r t w).Nodup := List.Nodup.sublist List.filter_sublist (allW_nodup hk _)
theorem preL_has {k r : Nat} {t w : List Nat} : preL k r t w ≠ [] ↔ HasP k r t w := by
  constructor
  · intro h
    obtain ⟨v, hv⟩ := List.exists_mem_of_ne_nil _ h
    exact ⟨v, mem_preL.1 hv⟩
  · rintro ⟨v, h⟩ e
    have := mem_preL.2 h
    rw [e] at this
    simp at this
/-- All of one length share all. -/
theorem preL_sum {k r : Nat} {t : List Nat} (hr : IsRule k r t) (n : Nat) : ((allW k n).map fun w => (preL k r t w).length).sum = k ^ (n + 2 * r) := by
  have key : ∀ (l : List (List Nat)), (∀ v ∈ l, v.length = n + 2 * r ∧ ∀ x ∈ v, x < k) → ((allW k n).map fun w => (l.filter fun v => decide (image k r t v = w)).length).sum = l.length := by
    intro l
    induction l with
    | nil =>
      intro _
      have e : ((allW k n).map fun w => (([] : List (List Nat)).filter fun v => decide (image k r t v = w)).length) = List.replicate (allW k n).length 0 := by
        rw [← List.map_const]
        rfl
      rw [e, List.sum_replicate_nat, Nat.mul_zero]
      rfl
    | cons v l ih =>
      intro hl
      obtain ⟨h1, h2⟩ := hl v (by simp)
      have hm : image k r t v ∈ allW k n := mem_allW (by rw [image_len]; omega) (image_sym hr h2)
      have hone : ∀ (m : List (List Nat)), m.Nodup → (m.map fun w => if image k r t v = w then 1 else 0).sum = if image k r t v ∈ m then 1 else 0 := by
        intro m
        induction m with
        | nil => intro _; rfl
        | cons a m ih2 =>
          intro hm
          obtain ⟨n1, n2⟩ := List.nodup_cons.1 hm
          rw [List.map_cons, List.sum_cons, ih2 n2]
          by_cases e : image k r t v = a
          · rw [if_pos e, if_neg (by rw [e]; exact n1), if_pos (by rw [e]; simp)]
          · rw [if_neg e]
            by_cases e2 : image k r t v ∈ m
            · rw [if_pos e2, if_pos (by simp [e2])]
            · rw [if_neg e2, if_neg (by simp [e, e2])]
      have e : ((allW k n).map fun w => ((v :: l).filter fun v => decide (image k r t v = w)).length) = (allW k n).map fun w => (if image k r t v = w then 1 else 0) + (l.filter fun v => decide (image k r t v = w)).length := by
        refine List.map_congr_left fun w _ => ?_
        rw [List.filter_cons]
        by_cases e : image k r t v = w
        · rw [if_pos (decide_eq_true e), if_pos e, List.length_cons]; omega
        · rw [if_neg (by simp [e]), if_neg e]; omega
      have hadd : ∀ (m : List (List Nat)) (f g : List Nat → Nat), (m.map fun w => f w + g w).sum = (m.map f).sum + (m.map g).sum := by
        intro m f g
        induction m with
        | nil => rfl
        | cons a m ih3 => rw [List.map_cons, List.sum_cons, ih3, List.map_cons, List.sum_cons, List.map_cons, List.sum_cons]; omega
      rw [e, hadd, ih (fun x hx => hl x (by simp [hx])), hone _ (allW_nodup hr.k1 n), if_pos hm, List.length_cons]
      omega
  have h := key (allW k (n + 2 * r)) (fun v hv => allW_sym hv)
  rw [allW_len] at h
  rw [← h]
  congr 1
  refine List.map_congr_left fun w hw => ?_
  unfold preL
  rw [(allW_sym hw).1]

/-! ### words woven of one word and fillers -/
/-- w, then for each filler: the filler and w again. -/
def weave (w : List Nat) : List (List Nat) → List Nat
  | [] => w
  | f :: fs => w ++ f ++ weave w fs
theorem weave_inj {w : List Nat} {m : Nat} : ∀ {fs gs : List (List Nat)}, (∀ f ∈ fs, f.length = m) → (∀ f ∈ gs, f.length = m) → fs.length = gs.length → weave w fs = weave w gs → fs = gs
  | [], [], _, _, _, _ => rfl
  | [], _ :: _, _, _, h, _ => by simp at h
  | _ :: _, [], _, _, h, _ => by simp at h
  | f :: fs, g :: gs, hf, hg, h, e => by
    rw [weave, weave, List.append_assoc, List.append_assoc] at e
    have e1 := List.append_cancel_left e
    have e2 := List.append_inj e1 (by rw [hf f (by simp), hg g (by simp)])
    rw [e2.1, weave_inj (fun x hx => hf x (by simp [hx])) (fun x hx => hg x (by simp [hx])) (by simpa using h) e2.2]
theorem weave_sym {k : Nat} {w : List Nat} (hw : ∀ x ∈ w, x < k) : ∀ {fs : List (List Nat)}, (∀ f ∈ fs, ∀ x ∈ f, x < k) → ∀ x ∈ weave w fs, x < k
  | [], _, x, hx => hw x hx
  | f :: fs, h, x, hx => by
    rw [weave] at hx
    rcases List.mem_append.1 hx with hx | hx
    · rcases List.mem_append.1 hx with hx | hx
      · exact hw x hx
      · exact h f (by simp) x hx
    · exact weave_sym hw (fun g hg => h g (by simp [hg])) x hx
/-- A preimage of a woven word is made of preimages of the word. -/
theorem weave_cut {k r : Nat} {t w : List Nat} : ∀ (fs : List (List Nat)) (v : List Nat), (∀ f ∈ fs, f.length = 2 * r) → v.length = (weave w fs).length + 2 * r → (∀ x ∈ v, x < k) → image k r t v = weave w fs →
    ∃ ps : List (List Nat), ps.length = fs.length + 1 ∧ (∀ p ∈ ps, p ∈ preL k r t w) ∧ ps.flatten = v
  | [], v, _, hl, hs, hi => ⟨[v], rfl, fun p hp => by rw [List.mem_singleton] at hp; rw [hp]; exact mem_preL.2 ⟨hl, hs, hi⟩, by simp⟩
  | f :: fs, v, hf, hl, hs, hi => by
    have hfl := hf f (by simp)
    have hwl : (weave w (f :: fs)).length = w.length + 2 * r + (weave w fs).length := by rw [weave, List.length_append, List.length_append, hfl]
    rw [hwl] at hl
    have h1 : image k r t (win v 0 (w.length + 2 * r)) = w := by
      rw [image_part (by omega) (by omega), hi, weave]
      unfold win
      rw [List.drop_zero, List.append_assoc, List.take_append_of_le_length (by omega), List.take_of_length_le (by omega)]
    have h2 : image k r t (win v (w.length + 2 * r) ((weave w fs).length + 2 * r)) = weave w fs := by
      rw [image_part (by omega) (by omega), hi, weave]
      unfold win
      rw [List.drop_append, List.drop_eq_nil_of_le (by rw [List.length_append, hfl]; exact Nat.le_refl _), List.nil_append, List.length_append, hfl, Nat.sub_self, List.drop_zero, List.take_of_length_le (by omega)]
    obtain ⟨ps, p1, p2, p3⟩ := weave_cut fs (win v (w.length + 2 * r) ((weave w fs).length + 2 * r)) (fun g hg => hf g (by simp [hg])) (by rw [win_len (by omega)]) (win_sym hs _ _) h2
    refine ⟨win v 0 (w.length + 2 * r) :: ps, by rw [List.length_cons, p1, List.length_cons], fun p hp => ?_, ?_⟩
    · rcases List.mem_cons.1 hp with rfl | hp
      · exact mem_preL.2 ⟨by rw [win_len (by omega)], win_sym hs _ _, h1⟩
      · exact p2 p hp
    · rw [List.flatten_cons, p3]
      unfold win
      rw [List.drop_zero, List.take_of_length_le (show (v.drop (w.length + 2 * r)).length ≤ _ by rw [List.length_drop]; omega), List.take_append_drop]
/-- Words of blocks. -/
def blocks (B : List (List Nat)) : Nat → List (List (List Nat))
  | 0 => [[]]
  | n + 1 => B.flatMap fun b => (blocks B n).map fun w => b :: w
theorem blocks_len (B : List (List Nat)) : ∀ n, (blocks B n).length = B.length ^ n
  | 0 => rfl
  | n + 1 => by
    rw [blocks, List.length_flatMap, Nat.pow_succ, Nat.mul_comm]
    have e : B.map (fun b => ((blocks B n).map fun w => b :: w).length) = List.replicate B.length (B.length ^ n) := by
      rw [← List.map_const]
      exact List.map_congr_left fun b _ => by rw [List.length_map, blocks_len B n]; rfl
    rw [e, List.sum_replicate_nat]
theorem mem_blocks {B : List (List Nat)} : ∀ {n : Nat} {ps : List (List Nat)}, ps.length = n → (∀ p ∈ ps, p ∈ B) → ps ∈ blocks B n
  | 0, [], _, _ => by rw [blocks]; simp
  | 0, _ :: _, h, _ => by simp at h
  | n + 1, [], h, _ => by simp at h
  | n + 1, p :: ps, h, hp => by
    rw [blocks, List.mem_flatMap]
    exact ⟨p, hp p (by simp), List.mem_map.2 ⟨ps, mem_blocks (by simpa using h) (fun x hx => hp x (by simp [hx])), rfl⟩⟩
theorem blocks_of {B : List (List Nat)} : ∀ {n : Nat} {ps : List (List Nat)}, ps ∈ blocks B n → ps.length = n ∧ ∀ p ∈ ps, p ∈ B
  | 0, ps, h => by rw [blocks, List.mem_singleton] at h; subst h; exact ⟨rfl, fun p hp => by simp at hp⟩
  | n + 1, ps, h => by
    rw [blocks, List.mem_flatMap] at h
    obtain ⟨b, hb, h⟩ := h
    obtain ⟨qs, hq, rfl⟩ := List.mem_map.1 h
    obtain ⟨h1, h2⟩ := blocks_of hq
    exact ⟨by rw [List.length_cons, h1], fun p hp => (List.mem_cons.1 hp).elim (fun e => by rw [e]; exact hb) (h2 p)⟩
theorem blocks_nodup {B : List (List Nat)} (hB : B.Nodup) : ∀ n, (blocks B n).Nodup
  | 0 => by rw [blocks]; simp
  | n + 1 => by
    rw [blocks, List.nodup_iff_pairwise_ne, List.flatMap_def, List.pairwise_flatten]
    constructor
    · intro l hl
      obtain ⟨b, _, rfl⟩ := List.mem_map.1 hl
      rw [List.pairwise_map]
      exact (blocks_nodup hB n).imp fun {a c} hne e => hne (List.cons.inj e).2
    · rw [List.pairwise_map]
      refine hB.imp fun {a c} hne x hx y hy e => ?_
      obtain ⟨p, _, rfl⟩ := List.mem_map.1 hx
      obtain ⟨q, _, rfl⟩ := List.mem_map.1 hy
      exact hne (List.cons.inj e).1
/-- If every word has a preimage, the woven words cannot be more than their preimages. -/
theorem weave_count {k r : Nat} {t w : List Nat} (hk : 0 < k) (hw : ∀ x ∈ w, x < k) (hall : ∀ v : List Nat, (∀ x ∈ v, x < k) → HasP k r t v) (n : Nat) : (k ^ (2 * r)) ^ n ≤ (preL k r t w).length ^ (n + 1) := by
  have hF : ∀ fs, fs ∈ blocks (allW k (2 * r)) n → (∀ f ∈ fs, f.length = 2 * r) ∧ (∀ f ∈ fs, ∀ x ∈ f, x < k) := fun fs hfs => by
    have h := (blocks_of hfs).2
    exact ⟨fun f hf => (allW_sym (h f hf)).1, fun f hf => (allW_sym (h f hf)).2⟩
  have hch : ∀ fs, fs ∈ blocks (allW k (2 * r)) n → ∃ ps, ps ∈ blocks (preL k r t w) (n + 1) ∧ image k r t ps.flatten = weave w fs := fun fs hfs => by
    obtain ⟨h1, h2⟩ := hF fs hfs
    obtain ⟨v, v1, v2, v3⟩ := hall (weave w fs) (weave_sym hw h2)
    obtain ⟨ps, p1, p2, p3⟩ := weave_cut fs v h1 v1 v2 v3
    exact ⟨ps, mem_blocks (by rw [p1, (blocks_of hfs).1]) p2, by rw [p3]; exact v3⟩
  have h := inj_le (a := blocks (allW k (2 * r)) n) (b := blocks (preL k r t w) (n + 1)) (fun fs => if h : fs ∈ blocks (allW k (2 * r)) n then Classical.choose (hch fs h) else []) (blocks_nodup (allW_nodup hk _) n)
    (fun fs hfs => by rw [dif_pos hfs]; exact (Classical.choose_spec (hch fs hfs)).1)
    (fun fs hfs gs hgs e => by
      rw [dif_pos hfs, dif_pos hgs] at e
      have e1 := (Classical.choose_spec (hch fs hfs)).2
      have e2 := (Classical.choose_spec (hch gs hgs)).2
      rw [e, e2] at e1
      exact (weave_inj (hF gs hgs).1 (hF fs hfs).1 (by rw [(blocks_of hgs).1, (blocks_of hfs).1]) e1).symm)
  rw [blocks_len, blocks_len, allW_len] at h
  exact h
theorem bern (a : Nat) : ∀ n, a ^ (n + 1) + (n + 1) * a ^ n ≤ (a + 1) ^ (n + 1)
  | 0 => by simp
  | n + 1 => by
    have ih := bern a n
    have h1 : (a + 1) ^ (n + 1 + 1) = (a + 1) ^ (n + 1) * a + (a + 1) ^ (n + 1) := by rw [Nat.pow_succ, Nat.mul_add, Nat.mul_one]
    have h2 : (a ^ (n + 1) + (n + 1) * a ^ n) * a ≤ (a + 1) ^ (n + 1) * a := Nat.mul_le_mul_right a ih
    have h3 : a ^ (n + 1) ≤ (a + 1) ^ (n + 1) := Nat.pow_le_pow_left (by omega) _
    have h4 : (a ^ (n + 1) + (n + 1) * a ^ n) * a = a ^ (n + 1 + 1) + (n + 1) * a ^ (n + 1) := by rw [Nat.add_mul, Nat.mul_assoc, ← Nat.pow_succ, ← Nat.pow_succ]
    rw [h1, Nat.succ_mul (n + 1)]
    omega
theorem few_small {P N : Nat} (h : ∀ n, N ^ n ≤ P ^ (n + 1)) : N ≤ P := by
  rcases Nat.lt_or_ge P N with hlt | hge
  · exfalso
    have h0 := h 0
    rw [Nat.pow_zero, Nat.pow_one] at h0
    obtain ⟨n, hn⟩ : ∃ n, P * P = n := ⟨_, rfl⟩
    have h1 := h (n + 1)
    have h2 : (P + 1) ^ (n + 1) ≤ N ^ (n + 1) := Nat.pow_le_pow_left (by omega) _
    have h3 := bern P n
    have h4 : P ^ (n + 1 + 1) = n * P ^ n := by rw [Nat.pow_succ, Nat.pow_succ, Nat.mul_assoc, hn, Nat.mul_comm]
    have h5 : 0 < P ^ n := Nat.pow_pos (by omega)
    rw [Nat.succ_mul] at h3
    have h6 : 0 < P ^ (n + 1) := Nat.pow_pos (by omega)
    omega
  · exact hge
/-- If every word has a preimage, each has its fair share. -/
theorem onto_fair {k r : Nat} {t w : List Nat} (hr : IsRule k r t) (hall : ∀ v : List Nat, (∀ x ∈ v, x < k) → HasP k r t v) (hw : ∀ x ∈ w, x < k) : (preL k r t w).length = k ^ (2 * r) := by
  have hlow : ∀ u : List Nat, (∀ x ∈ u, x < k) → k ^ (2 * r) ≤ (preL k r t u).length := fun u hu => few_small (weave_count hr.k1 hu hall)
  have hs := preL_sum hr w.length
  have key : ∀ (l : List (List Nat)), (∀ u ∈ l, ∀ x ∈ u, x < k) → l.length * k ^ (2 * r) ≤ (l.map fun u => (preL k r t u).length).sum ∧ ((l.map fun u => (preL k r t u).length).sum = l.length * k ^ (2 * r) → ∀ u ∈ l, (preL k r t u).length = k ^ (2 * r)) := by
    intro l
    induction l with
    | nil => intro _; exact ⟨by simp, fun _ u hu => by simp at hu⟩
    | cons a l ih =>
      intro hl
      obtain ⟨i1, i2⟩ := ih (fun u hu => hl u (by simp [hu]))
      have h1 := hlow a (hl a (by simp))
      rw [List.map_cons, List.sum_cons, List.length_cons, Nat.succ_mul]
      refine ⟨by omega, fun e u hu => ?_⟩
      rcases List.mem_cons.1 hu with rfl | hu
      · omega
      · exact i2 (by omega) u hu
  refine (key (allW k w.length) (fun u hu => (allW_sym hu).2)).2 ?_ w (mem_allW rfl hw)
  rw [hs, allW_len, Nat.pow_add]
/-- The preimages are as many as the search finds. -/
theorem before_len {k r : Nat} {t w : List Nat} (hk : 0 < k) (hb : (before k r t w).Nodup) : (before k r t w).length = (preL k r t w).length := by
  have hiff : ∀ v, v ∈ before k r t w ↔ v ∈ preL k r t w := by
    intro v
    constructor
    · intro hy
      obtain ⟨u, z, hu, hz, rfl⟩ := before_mem.1 hy
      obtain ⟨h1, h2, h3⟩ := (sols_iff hk hu).1 hz
      refine mem_preL.2 ⟨by rw [List.length_append, digB_len, h1]; omega, fun x hx => ?_, h3⟩
      rcases List.mem_append.1 hx with hx | hx
      · exact digB_sym hk _ _ x hx
      · exact h2 x hx
    · intro hv
      obtain ⟨h1, h2, h3⟩ := mem_preL.1 hv
      have e : v = v.take (2 * r) ++ v.drop (2 * r) := (List.take_append_drop _ _).symm
      have ht : (v.take (2 * r)).length = 2 * r := by rw [List.length_take]; omega
      have hts : ∀ x ∈ v.take (2 * r), x < k := fun x hx => h2 x (List.mem_of_mem_take hx)
      have hu := wval_lt hts
      rw [ht] at hu
      have hd := digB_wval hk (2 * r) (v.take (2 * r)) ht hts
      have hz := (sols_iff (t := t) (w := w) (z := v.drop (2 * r)) hk hu).2 ⟨by rw [List.length_drop]; omega, fun x hx => h2 x (List.mem_of_mem_drop hx), by rw [hd, ← e]; exact h3⟩
      exact before_mem.2 ⟨_, _, hu, hz, by rw [hd]; exact e⟩
  exact Nat.le_antisymm (nodupL_le hb fun v hv => (hiff v).1 hv) (nodupL_le (preL_nodup hk) fun v hv => (hiff v).2 hv)
end RuleP
end Go.Proofs.YtibplgpolmplpaaGreatDoor

namespace Go.Proofs.YtibplgpolmplpaaGreatDoor
namespace RuleP

/-- Two words that differ, with the same ends and the same image. -/
structure Twin (k r : Nat) (t a b : List Nat) : Prop where
  len : a.length = b.length
  long : 2 * r ≤ a.length
  sa : ∀ x ∈ a, x < k
  sb : ∀ x ∈ b, x < k
  ne : a ≠ b
  fst : a.take (2 * r) = b.take (2 * r)
  lst : a.drop (a.length - 2 * r) = b.drop (b.length - 2 * r)
  img : image k r t a = image k r t b
theorem image_app_l {k r : Nat} {t x y : List Nat} (h : 2 * r ≤ y.length) : image k r t (x ++ y) = image k r t (x ++ y.take (2 * r)) ++ image k r t y := by
  have h1 := image_part (k := k) (r := r) (t := t) (w := x ++ y) (i := 0) (m := x.length + 2 * r) (by rw [List.length_append]; omega) (by omega)
  have h2 := image_part (k := k) (r := r) (t := t) (w := x ++ y) (i := x.length) (m := y.length) (by rw [List.length_append]; omega) h
  have e1 : win (x ++ y) 0 (x.length + 2 * r) = x ++ y.take (2 * r) := by
    unfold win
    rw [List.drop_zero, List.take_length_add_append]
  have e2 : win (x ++ y) x.length y.length = y := by
    unfold win
    rw [List.drop_left, List.take_length]
  rw [e1] at h1
  rw [e2] at h2
  rw [h1, h2]
  unfold win
  rw [List.drop_zero, List.take_of_length_le (show ((image k r t (x ++ y)).drop x.length).length ≤ y.length - 2 * r by rw [List.length_drop, image_len, List.length_append]; omega), show x.length + 2 * r - 2 * r = x.length by omega, List.take_append_drop]
theorem image_app_r {k r : Nat} {t x y : List Nat} (h : 2 * r ≤ x.length) : image k r t (x ++ y) = image k r t x ++ image k r t (x.drop (x.length - 2 * r) ++ y) := by
  have h1 := image_part (k := k) (r := r) (t := t) (w := x ++ y) (i := 0) (m := x.length) (by rw [List.length_append]; omega) h
  have h2 := image_part (k := k) (r := r) (t := t) (w := x ++ y) (i := x.length - 2 * r) (m := 2 * r + y.length) (by rw [List.length_append]; omega) (by omega)
  have e1 : win (x ++ y) 0 x.length = x := by
    unfold win
    rw [List.drop_zero, List.take_left]
  have e2 : win (x ++ y) (x.length - 2 * r) (2 * r + y.length) = x.drop (x.length - 2 * r) ++ y := by
    unfold win
    rw [List.drop_append_of_le_length (by omega), List.take_of_length_le (by rw [List.length_append, List.length_drop]; omega)]
  rw [e1] at h1
  rw [e2] at h2
  rw [h1, h2]
  unfold win
  rw [List.drop_zero, List.take_of_length_le (show ((image k r t (x ++ y)).drop (x.length - 2 * r)).length ≤ _ by rw [List.length_drop, image_len, List.length_append]; omega), List.take_append_drop]
theorem image_swap {k r : Nat} {t a b x y : List Nat} (h : Twin k r t a b) : image k r t (x ++ (a ++ y)) = image k r t (x ++ (b ++ y)) := by
  have hb := h.long
  rw [h.len] at hb
  rw [image_app_l (by rw [List.length_append]; have := h.long; omega), image_app_l (x := x) (y := b ++ y) (by rw [List.length_append]; omega), List.take_append_of_le_length h.long, List.take_append_of_le_length hb, h.fst, image_app_r h.long, image_app_r hb, h.img, h.lst]
/-- With every part that is a put as b. -/
def swapB (a b : List Nat) (ps : List (List Nat)) : List (List Nat) := ps.map fun p => if p = a then b else p
theorem image_swaps {k r : Nat} {t a b : List Nat} (h : Twin k r t a b) : ∀ (ps : List (List Nat)) (x : List Nat), image k r t (x ++ (swapB a b ps).flatten) = image k r t (x ++ ps.flatten)
  | [], _ => rfl
  | p :: ps, x => by
    unfold swapB
    rw [List.map_cons, List.flatten_cons, List.flatten_cons]
    have ih := image_swaps h ps
    unfold swapB at ih
    by_cases e : p = a
    · rw [if_pos e, e, ← image_swap h, ← List.append_assoc, ih, List.append_assoc]
    · rw [if_neg e, ← List.append_assoc, ih, List.append_assoc]
theorem eden_count {P C n0 : Nat} (h : ∀ n, n0 ≤ n → (P + 1) ^ (n + 1) ≤ C * P ^ (n + 1)) : False := by
  obtain ⟨n, hn⟩ : ∃ n, n0 + C * P = n := ⟨_, rfl⟩
  have h1 := h n (by omega)
  have h2 := bern P n
  rcases Nat.eq_zero_or_pos P with rfl | hP
  · rw [Nat.pow_succ 0, Nat.mul_zero, Nat.mul_zero] at h1
    have := Nat.pow_pos (n := n + 1) (show 0 < 0 + 1 by omega)
    omega
  · have h3 : 0 < P ^ n := Nat.pow_pos hP
    have h4 : C * P ^ (n + 1) = C * P * P ^ n := by rw [Nat.pow_succ, Nat.mul_comm (P ^ n) P, ← Nat.mul_assoc]
    have h5 : C * P * P ^ n < (n + 1) * P ^ n := Nat.mul_lt_mul_of_pos_right (by omega) h3
    omega
/-- A word cut into parts of one length. -/
theorem cut_blocks {k m : Nat} : ∀ (n : Nat) (v : List Nat), v.length = n * m → (∀ x ∈ v, x < k) → ∃ ps, ps ∈ blocks (allW k m) n ∧ ps.flatten = v
  | 0, v, hl, _ => by
    have : v = [] := List.eq_nil_of_length_eq_zero (by omega)
    subst this
    exact ⟨[], by rw [blocks]; simp, rfl⟩
  | n + 1, v, hl, hs => by
    rw [Nat.succ_mul] at hl
    obtain ⟨ps, h1, h2⟩ := cut_blocks (m := m) n (v.drop m) (by rw [List.length_drop]; omega) (fun x hx => hs x (List.mem_of_mem_drop hx))
    obtain ⟨h3, h4⟩ := blocks_of h1
    refine ⟨v.take m :: ps, mem_blocks (by rw [List.length_cons, h3]) (fun p hp => ?_), by rw [List.flatten_cons, h2, List.take_append_drop]⟩
    rcases List.mem_cons.1 hp with rfl | hp
    · exact mem_allW (by rw [List.length_take]; omega) (fun x hx => hs x (List.mem_of_mem_take hx))
    · exact h4 p hp
/-- Every word has a preimage: there are no twins. -/
theorem onto_single {k r : Nat} {t a b : List Nat} (hr : IsRule k r t) (hall : ∀ v : List Nat, (∀ x ∈ v, x < k) → HasP k r t v) (h : Twin k r t a b) : False := by
  obtain ⟨m, hm⟩ : ∃ m, a.length = m := ⟨_, rfl⟩
  have hm1 : 1 ≤ m := by
    rcases Nat.eq_zero_or_pos m with h0 | h0
    · exfalso
      refine h.ne ?_
      rw [List.eq_nil_of_length_eq_zero (hm.trans h0), List.eq_nil_of_length_eq_zero (h.len.symm.trans (hm.trans h0))]
    · exact h0
  have ha : a ∈ allW k m := mem_allW hm h.sa
  have hb : b ∈ allW k m := mem_allW (h.len.symm.trans hm) h.sb
  have hB : ((allW k m).erase a).length = k ^ m - 1 := by rw [List.length_erase_of_mem ha, allW_len]
  have hpos : 0 < k ^ m := Nat.pow_pos hr.k1
  have hn := allW_nodup hr.k1 m
  refine eden_count (P := k ^ m - 1) (C := k ^ (2 * r)) (n0 := 2 * r) fun n hn0 => ?_
  have hlong : 2 * r ≤ (n + 1) * m := Nat.le_trans (by omega) (Nat.le_mul_of_pos_right (n + 1) hm1)
  have hch : ∀ w, w ∈ allW k ((n + 1) * m - 2 * r) → ∃ ps, ps ∈ blocks ((allW k m).erase a) (n + 1) ∧ image k r t ps.flatten = w := fun w hw => by
    obtain ⟨h1, h2⟩ := allW_sym hw
    obtain ⟨v, v1, v2, v3⟩ := hall w h2
    obtain ⟨ps, p1, p2⟩ := cut_blocks (k := k) (m := m) (n + 1) v (by omega) v2
    obtain ⟨p3, p4⟩ := blocks_of p1
    refine ⟨swapB a b ps, mem_blocks (by unfold swapB; rw [List.length_map, p3]) (fun p hp => ?_), ?_⟩
    · unfold swapB at hp
      obtain ⟨q, hq, rfl⟩ := List.mem_map.1 hp
      by_cases e : q = a
      · rw [if_pos e]
        exact (List.mem_erase_of_ne (fun e' => h.ne e'.symm)).2 hb
      · rw [if_neg e]
        exact (List.mem_erase_of_ne e).2 (p4 q hq)
    · have h5 := image_swaps h ps []
      rw [List.nil_append, List.nil_append, p2, v3] at h5
      exact h5
  have hle := inj_le (a := allW k ((n + 1) * m - 2 * r)) (b := blocks ((allW k m).erase a) (n + 1)) (fun w => if h : w ∈ allW k ((n + 1) * m - 2 * r) then Classical.choose (hch w h) else []) (allW_nodup hr.k1 _)
    (fun w hw => by rw [dif_pos hw]; exact (Classical.choose_spec (hch w hw)).1)
    (fun w hw w' hw' e => by
      rw [dif_pos hw, dif_pos hw'] at e
      rw [← (Classical.choose_spec (hch w hw)).2, e, (Classical.choose_spec (hch w' hw')).2])
  rw [allW_len, blocks_len, hB] at hle
  have e1 : k ^ ((n + 1) * m) = k ^ (2 * r) * k ^ ((n + 1) * m - 2 * r) := by rw [← Nat.pow_add]; congr 1; omega
  rw [show k ^ m - 1 + 1 = k ^ m by omega, ← Nat.pow_mul, Nat.mul_comm m (n + 1), e1]
  exact Nat.mul_le_mul_left _ hle
/-- There are no twins: every word has a preimage. -/
theorem single_onto {k r : Nat} {t : List Nat} (hr : IsRule k r t) (hno : ∀ a b, ¬ Twin k r t a b) {w : List Nat} (hw : ∀ x ∈ w, x < k) : HasP k r t w := by
  by_cases hP : HasP k r t w
  · exact hP
  exfalso
  obtain ⟨m, hm⟩ : ∃ m, w.length = m := ⟨_, rfl⟩
  have hm1 : 1 ≤ m := by
    rcases Nat.eq_zero_or_pos m with h0 | h0
    · exfalso
      have hw0 : w = [] := List.eq_nil_of_length_eq_zero (hm.trans h0)
      subst hw0
      exact hP ⟨List.replicate (2 * r) 0, by simp, fun x hx => by rw [(List.mem_replicate.1 hx).2]; exact hr.k1, List.eq_nil_of_length_eq_zero (by rw [image_len, List.length_replicate]; omega)⟩
    · exact h0
  have ha : w ∈ allW k m := mem_allW hm hw
  have hB : ((allW k m).erase w).length = k ^ m - 1 := by rw [List.length_erase_of_mem ha, allW_len]
  have hpos : 0 < k ^ m := Nat.pow_pos hr.k1
  refine eden_count (P := k ^ m - 1) (C := k ^ (2 * r)) (n0 := 2 * r) fun n hn0 => ?_
  have hlong : 2 * r ≤ (n + 1) * m := Nat.le_trans (by omega) (Nat.le_mul_of_pos_right (n + 1) hm1)
  obtain ⟨z, hz⟩ : ∃ z, List.replicate (2 * r) 0 = z := ⟨_, rfl⟩
  have hzl : z.length = 2 * r := by rw [← hz, List.length_replicate]
  have hzs : ∀ x ∈ z, x < k := fun x hx => by rw [← hz] at hx; rw [(List.mem_replicate.1 hx).2]; exact hr.k1
  have hsym : ∀ f, f ∈ allW k ((n + 1) * m - 2 * r) → ∀ x ∈ z ++ (f ++ z), x < k := fun f hf x hx => by
    rcases List.mem_append.1 hx with hx | hx
    · exact hzs x hx
    · rcases List.mem_append.1 hx with hx | hx
      · exact (allW_sym hf).2 x hx
      · exact hzs x hx
  have hlen : ∀ f, f ∈ allW k ((n + 1) * m - 2 * r) → (z ++ (f ++ z)).length = (n + 1) * m + 2 * r := fun f hf => by
    rw [List.length_append, List.length_append, hzl, (allW_sym hf).1]
    omega
  have hch : ∀ f, f ∈ allW k ((n + 1) * m - 2 * r) → ∃ ps, ps ∈ blocks ((allW k m).erase w) (n + 1) ∧ ps.flatten = image k r t (z ++ (f ++ z)) := fun f hf => by
    have hs := hsym f hf
    have hl := hlen f hf
    obtain ⟨ps, p1, p2⟩ := cut_blocks (k := k) (m := m) (n + 1) (image k r t (z ++ (f ++ z))) (by rw [image_len, hl]; omega) (image_sym hr hs)
    obtain ⟨p3, p4⟩ := blocks_of p1
    refine ⟨ps, mem_blocks p3 (fun p hp => (List.mem_erase_of_ne fun e => ?_).2 (p4 p hp)), p2⟩
    -- a part that is w would have a preimage
    subst e
    refine hP ?_
    obtain ⟨i, hi⟩ : ∃ i, i + p.length ≤ (image k r t (z ++ (f ++ z))).length ∧ win (image k r t (z ++ (f ++ z))) i p.length = p := by
      obtain ⟨s, s', hss⟩ := List.append_of_mem hp
      refine ⟨s.flatten.length, ?_, ?_⟩
      · rw [← p2, hss, List.flatten_append, List.flatten_cons, List.length_append, List.length_append]; omega
      · unfold win
        rw [← p2, hss, List.flatten_append, List.flatten_cons, List.drop_left, List.take_left]
    rw [image_len, hl] at hi
    refine ⟨win (z ++ (f ++ z)) i (p.length + 2 * r), win_len (by omega), win_sym hs _ _, ?_⟩
    rw [image_part (by omega) (by omega), show p.length + 2 * r - 2 * r = p.length by omega]
    exact hi.2
  have hle := inj_le (a := allW k ((n + 1) * m - 2 * r)) (b := blocks ((allW k m).erase w) (n + 1)) (fun f => if h : f ∈ allW k ((n + 1) * m - 2 * r) then Classical.choose (hch f h) else []) (allW_nodup hr.k1 _)
    (fun f hf => by rw [dif_pos hf]; exact (Classical.choose_spec (hch f hf)).1)
    (fun f hf g hg e => by
      rw [dif_pos hf, dif_pos hg] at e
      have e1 := (Classical.choose_spec (hch f hf)).2
      have e2 := (Classical.choose_spec (hch g hg)).2
      rw [e, e2] at e1
      by_cases hfg : f = g
      · exact hfg
      · exfalso
        have lf := hlen f hf
        have lg := hlen g hg
        refine hno (z ++ (f ++ z)) (z ++ (g ++ z)) ⟨by rw [lf, lg], by rw [lf]; omega, hsym f hf, hsym g hg, fun e' => hfg ?_, ?_, ?_, e1.symm⟩
        · exact List.append_cancel_right (List.append_cancel_left e')
        · rw [List.take_append_of_le_length (by omega), List.take_append_of_le_length (by omega)]
        · have key : ∀ x : List Nat, (z ++ (x ++ z)).drop ((z ++ (x ++ z)).length - 2 * r) = z := fun x => by
            rw [← List.append_assoc, List.length_append (bs := z), hzl, Nat.add_sub_cancel, List.drop_left]
          rw [key, key])
  rw [allW_len, blocks_len, hB] at hle
  have e1 : k ^ ((n + 1) * m) = k ^ (2 * r) * k ^ ((n + 1) * m - 2 * r) := by rw [← Nat.pow_add]; congr 1; omega
  rw [show k ^ m - 1 + 1 = k ^ m by omega, ← Nat.pow_mul, Nat.mul_comm m (n + 1), e1]
  exact Nat.mul_le_mul_left _ hle
end RuleP
end Go.Proofs.YtibplgpolmplpaaGreatDoor
