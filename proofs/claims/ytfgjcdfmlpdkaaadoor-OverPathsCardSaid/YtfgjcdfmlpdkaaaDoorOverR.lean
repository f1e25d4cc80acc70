/- The words that have an image, in their order: which they are. Plain lists, no program. No condition. -/
import Derived.Test.YtfgjcdfmlpdkaaaDoorPreQ
import Derived.Test.YtfgjcdfmlpdkaaaDoorWordN
import Derived.Test.YtfgjcdfmlpdkaaaDoorWordC
namespace Go.Proofs.YtfgjcdfmlpdkaaaDoor
namespace RuleP

theorem image_cons {k r : Nat} {t y : List Nat} (h : 2 * r < y.length) : image k r t y = t.getD (wval k (y.take (2 * r + 1))) 0 :: image k r t (y.drop 1) := by
  unfold image
  rw [List.length_drop, show y.length - 2 * r = (y.length - 1 - 2 * r) + 1 from by omega, List.range_succ_eq_map, List.map_cons, List.map_map]
  congr 1
  apply List.map_congr_left
  intro i _
  simp only [Function.comp, win, List.drop_drop]
  rw [show 1 + i = i.succ from by omega]
theorem image_few {k r : Nat} {t y : List Nat} (h : y.length ≤ 2 * r) : image k r t y = [] := by
  unfold image
  rw [show y.length - 2 * r = 0 from by omega]
  rfl
/-- The node behind a symbol. -/
theorem node_next {k r u s : Nat} (hk : 0 < k) (hu : u < k ^ (2 * r)) (hs : s < k) : (digB k (2 * r) u ++ [s]).drop 1 = digB k (2 * r) ((u * k + s) % k ^ (2 * r)) := by
  have hsy : ∀ x ∈ digB k (2 * r) u ++ [s], x < k := by
    intro x hx
    rcases List.mem_append.1 hx with h | h
    · exact digB_sym hk _ _ x h
    · simp at h; subst h; exact hs
  have hl : ((digB k (2 * r) u ++ [s]).drop 1).length = 2 * r := by simp [digB_len]
  have h2 := wval_mod (k := k) ((digB k (2 * r) u ++ [s]).take 1) (b := (digB k (2 * r) u ++ [s]).drop 1) (fun x hx => hsy x (List.mem_of_mem_drop hx))
  rw [List.take_append_drop, wval_snoc, wval_digB hk hu, hl] at h2
  rw [h2, digB_wval hk (2 * r) _ hl (fun x hx => hsy x (List.mem_of_mem_drop hx))]
theorem sols_mem {k N : Nat} {t : List Nat} {u c : Nat} {w z : List Nat} : z ∈ sols k N t u (c :: w) ↔ ∃ s z', s < k ∧ t.getD (u * k + s) 0 = c ∧ z' ∈ sols k N t ((u * k + s) % N) w ∧ z = s :: z' := by
  simp only [sols, List.mem_flatMap, List.mem_range]
  constructor
  · rintro ⟨s, hs, h⟩
    split at h
    · rename_i hc
      obtain ⟨z', h1, rfl⟩ := List.mem_map.1 h
      exact ⟨s, z', hs, hc, h1, rfl⟩
    · cases h
  · rintro ⟨s, z', hs, hc, h1, rfl⟩
    exact ⟨s, hs, by rw [if_pos hc]; exact List.mem_map.2 ⟨z', h1, rfl⟩⟩
theorem image_step {k r u s : Nat} {t z : List Nat} (hk : 0 < k) (hu : u < k ^ (2 * r)) (hs : s < k) :
    image k r t (digB k (2 * r) u ++ s :: z) = t.getD (u * k + s) 0 :: image k r t (digB k (2 * r) ((u * k + s) % k ^ (2 * r)) ++ z) := by
  have e : digB k (2 * r) u ++ s :: z = (digB k (2 * r) u ++ [s]) ++ z := by simp
  have hl : (digB k (2 * r) u ++ [s]).length = 2 * r + 1 := by simp [digB_len]
  rw [e, image_cons (by simp [digB_len]), List.take_append_of_le_length (by omega), List.take_of_length_le (by omega), wval_snoc, wval_digB hk hu, List.drop_append_of_le_length (by omega), node_next hk hu hs]
theorem sols_iff {k r : Nat} {t : List Nat} (hk : 0 < k) : ∀ {w : List Nat} {u : Nat} {z : List Nat}, u < k ^ (2 * r) → (z ∈ sols k (k ^ (2 * r)) t u w ↔ z.length = w.length ∧ (∀ x ∈ z, x < k) ∧ image k r t (digB k (2 * r) u ++ z) = w)
  | [], u, z, hu => by
    constructor
    · intro h
      simp [sols] at h
      subst h
      exact ⟨rfl, by simp, image_few (by simp [digB_len])⟩
    · rintro ⟨h, _, _⟩
      have : z = [] := List.eq_nil_of_length_eq_zero h
      subst this
      simp [sols]
  | c :: w, u, z, hu => by
    have hN : ∀ s, (u * k + s) % k ^ (2 * r) < k ^ (2 * r) := fun s => Nat.mod_lt _ (Nat.pow_pos hk)
    rw [sols_mem]
    constructor
    · rintro ⟨s, z', hs, hc, h1, rfl⟩
      obtain ⟨a, b, d⟩ := (sols_iff hk (hN s)).1 h1
      refine ⟨by simp [a], fun x hx => ?_, ?_⟩
      · rcases List.mem_cons.1 hx with rfl | hx
        · exact hs
        · exact b x hx
      · rw [image_step hk hu hs, hc, d]
    · rintro ⟨h1, h2, h3⟩
      cases z with
      | nil => simp at h1
      | cons s z' =>
        have hs := h2 s (by simp)
        rw [image_step hk hu hs] at h3
        injection h3 with h4 h5
        exact ⟨s, z', hs, h4, (sols_iff hk (hN s)).2 ⟨by simpa using h1, fun x hx => h2 x (by simp [hx]), h5⟩, rfl⟩
theorem before_mem {k r : Nat} {t w y : List Nat} : y ∈ before k r t w ↔ ∃ u z, u < k ^ (2 * r) ∧ z ∈ sols k (k ^ (2 * r)) t u w ∧ y = digB k (2 * r) u ++ z := by
  unfold before befTo
  simp only [List.mem_flatMap, List.mem_range, List.mem_map]
  constructor
  · rintro ⟨u, hu, z, hz, rfl⟩
    exact ⟨u, z, hu, hz, rfl⟩
  · rintro ⟨u, z, hu, hz, rfl⟩
    exact ⟨u, hu, z, hz, rfl⟩
theorem before_iff {k r : Nat} {t w y : List Nat} (hk : 0 < k) : y ∈ before k r t w ↔ y.length = 2 * r + w.length ∧ (∀ x ∈ y, x < k) ∧ image k r t y = w := by
  rw [before_mem]
  constructor
  · rintro ⟨u, z, hu, hz, rfl⟩
    obtain ⟨a, b, d⟩ := (sols_iff hk hu).1 hz
    refine ⟨by rw [List.length_append, digB_len, a], fun x hx => ?_, d⟩
    rcases List.mem_append.1 hx with h | h
    · exact digB_sym hk _ _ x h
    · exact b x h
  · rintro ⟨h1, h2, h3⟩
    have hl : (y.take (2 * r)).length = 2 * r := by simp; omega
    have hsy : ∀ x ∈ y.take (2 * r), x < k := fun x hx => h2 x (List.mem_of_mem_take hx)
    have hu := wval_lt hsy
    rw [hl] at hu
    have e : digB k (2 * r) (wval k (y.take (2 * r))) ++ y.drop (2 * r) = y := by rw [digB_wval hk _ _ hl hsy, List.take_append_drop]
    exact ⟨_, y.drop (2 * r), hu, (sols_iff hk hu).2 ⟨by simp; omega, fun x hx => h2 x (List.mem_of_mem_drop hx), by rw [e]; exact h3⟩, e.symm⟩
theorem sols_sym {k N : Nat} {t : List Nat} : ∀ {w : List Nat} {u : Nat} {z : List Nat}, z ∈ sols k N t u w → ∀ x ∈ z, x < k
  | [], u, z, h => by simp [sols] at h; subst h; simp
  | c :: w, u, z, h => by
    obtain ⟨s, z', hs, _, h1, rfl⟩ := sols_mem.1 h
    intro x hx
    rcases List.mem_cons.1 hx with rfl | hx
    · exact hs
    · exact sols_sym h1 x hx
theorem sols_sorted {k N : Nat} {t : List Nat} : ∀ (w : List Nat) (u : Nat), (sols k N t u w).Pairwise fun a b => wval k a < wval k b
  | [], u => by simp [sols]
  | c :: w, u => by
    rw [sols, List.pairwise_flatMap]
    refine ⟨fun s _ => ?_, List.Pairwise.imp ?_ (List.pairwise_lt_range (n := k))⟩
    · split
      · rw [List.pairwise_map]
        refine List.Pairwise.imp_of_mem ?_ (sols_sorted w ((u * k + s) % N))
        intro a b ha hb hab
        rw [wval_cons, wval_cons, sols_len ha, sols_len hb]
        omega
      · exact List.Pairwise.nil
    · intro s s' hss x hx y hy
      split at hx
      · split at hy
        · obtain ⟨a, ha, rfl⟩ := List.mem_map.1 hx
          obtain ⟨b, hb, rfl⟩ := List.mem_map.1 hy
          rw [wval_cons, wval_cons, sols_len ha, sols_len hb]
          have h1 := wval_lt (sols_sym ha)
          rw [sols_len ha] at h1
          have h2 : (s + 1) * k ^ w.length ≤ s' * k ^ w.length := Nat.mul_le_mul_right _ hss
          rw [Nat.add_mul, Nat.one_mul] at h2
          omega
        · cases hy
      · cases hx
theorem before_sorted {k r : Nat} {t w : List Nat} (hk : 0 < k) : (before k r t w).Pairwise fun a b => wval k a < wval k b := by
  unfold before befTo
  rw [List.pairwise_flatMap]
  refine ⟨fun u hu => ?_, List.Pairwise.imp_of_mem ?_ (List.pairwise_lt_range (n := k ^ (2 * r)))⟩
  · rw [List.pairwise_map]
    refine List.Pairwise.imp_of_mem ?_ (sols_sorted w u)
    intro a b ha hb hab
    rw [wval_append, wval_append, sols_len ha, sols_len hb]
    omega
  · intro u u' hu hu' huu x hx y hy
    obtain ⟨a, ha, rfl⟩ := List.mem_map.1 hx
    obtain ⟨b, hb, rfl⟩ := List.mem_map.1 hy
    rw [wval_append, wval_append, wval_digB hk (List.mem_range.1 hu), wval_digB hk (List.mem_range.1 hu'), sols_len ha, sols_len hb]
    have h1 := wval_lt (sols_sym ha)
    rw [sols_len ha] at h1
    have h2 : (u + 1) * k ^ w.length ≤ u' * k ^ w.length := Nat.mul_le_mul_right _ huu
    rw [Nat.add_mul, Nat.one_mul] at h2
    omega
/-- Two of them, one behind the other. -/
theorem before_cmp {k r : Nat} {t w : List Nat} (hk : 0 < k) {i j : Nat} {a b : List Nat} (ha : (before k r t w)[i]? = some a) (hb : (before k r t w)[j]? = some b) (hij : i < j) : cmpL a b = -1 := by
  obtain ⟨h1, rfl⟩ := List.getElem?_eq_some_iff.1 ha
  obtain ⟨h2, rfl⟩ := List.getElem?_eq_some_iff.1 hb
  have hs := List.pairwise_iff_getElem.1 (before_sorted (t := t) (w := w) (r := r) hk) i j h1 h2 hij
  obtain ⟨a1, a2, _⟩ := (before_iff hk).1 (List.getElem_mem h1)
  obtain ⟨b1, b2, _⟩ := (before_iff hk).1 (List.getElem_mem h2)
  exact cmpL_lt (by rw [a1, b1]) a2 b2 hs
end RuleP
end Go.Proofs.YtfgjcdfmlpdkaaaDoor
