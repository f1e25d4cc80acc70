/- A table that takes every image back is full, and is taken back itself: rings are as many as their images. No program. No condition. A ring's image: ring.image of a good rule. Condition: the table and the ring read from memory. -/
import Derived.Test.YtedmmmlahpmmoaaGreatDoorV6
import Derived.Test.YtedmmmlahpmmoaaGreatDoorV8
import Derived.Test.YtedmmmlahpmmoaaGreatDoorV14
import Derived.Test.YtedmmmlahpmmoaaGreatDoorV23
namespace Go.Proofs.YtedmmmlahpmmoaaGreatDoor
namespace RuleP

/-- m symbols from place z on, of symbols at all places. -/
def winZ (c : Int → Nat) (m : Nat) (z : Int) : List Nat := (List.range m).map fun (j : Nat) => c (z + (j : Int))
theorem winZ_len (c : Int → Nat) (m : Nat) (z : Int) : (winZ c m z).length = m := by simp [winZ]
theorem winZ_sym {k : Nat} {c : Int → Nat} (hc : ∀ z, c z < k) (m : Nat) (z : Int) : ∀ x ∈ winZ c m z, x < k := fun x hx => by
  obtain ⟨j, _, rfl⟩ := List.mem_map.1 hx
  exact hc _
theorem winZ_at (c : Int → Nat) {m i : Nat} (h : i < m) (z : Int) : (winZ c m z).getD i 0 = c (z + (i : Int)) := by
  unfold winZ
  rw [List.getD_eq_getElem?_getD, List.getElem?_map, List.getElem?_range h]
  rfl
theorem winZ_win (c : Int → Nat) {m i n : Nat} (h : i + n ≤ m) (z : Int) : win (winZ c m z) i n = winZ c n (z + (i : Int)) := by
  apply List.ext_getElem?
  intro j
  rcases Nat.lt_or_ge j n with hj | hj
  · unfold win winZ
    rw [List.getElem?_take, if_pos hj, List.getElem?_drop, List.getElem?_map, List.getElem?_map, List.getElem?_range (by omega), List.getElem?_range hj]
    simp only [Option.map_some]
    congr 2
    omega
  · rw [List.getElem?_eq_none (by rw [win_len (by rw [winZ_len]; exact h)]; exact hj), List.getElem?_eq_none (by rw [winZ_len]; exact hj)]
/-- The image at all places. -/
def stepZ (k r : Nat) (t : List Nat) (c : Int → Nat) : Int → Nat := fun z => sy k t (winZ c (2 * r + 1) (z - (r : Int)))
theorem sy_ltR {k r : Nat} {t v : List Nat} (hr : IsRule k r t) (hl : v.length = 2 * r + 1) (hs : ∀ x ∈ v, x < k) : sy k t v < k := by
  have h := wval_lt hs
  rw [hl, ← hr.len] at h
  unfold sy
  rw [List.getD_eq_getElem?_getD, List.getElem?_eq_getElem h]
  exact hr.sym _ (List.getElem_mem _)
theorem stepZ_lt {k r : Nat} {t : List Nat} (hr : IsRule k r t) {c : Int → Nat} (hc : ∀ z, c z < k) (z : Int) : stepZ k r t c z < k :=
  sy_ltR hr (winZ_len _ _ _) (winZ_sym hc _ _)
theorem image_winZ (k r : Nat) (t : List Nat) (c : Int → Nat) (m : Nat) (z : Int) : image k r t (winZ c (m + 2 * r) z) = winZ (stepZ k r t c) m (z + (r : Int)) := by
  unfold image
  rw [winZ_len, Nat.add_sub_cancel]
  show _ = (List.range m).map fun (j : Nat) => stepZ k r t c (z + (r : Int) + (j : Int))
  refine List.map_congr_left fun i hi => ?_
  have hi' := List.mem_range.1 hi
  rw [winZ_win c (by omega)]
  unfold stepZ sy
  congr 3
  omega
/-- A table that tells the middle symbol of each word from its image; -1 where nothing is known. -/
def LeftI (k r : Nat) (t : List Nat) (ρ : Nat) (T : List Int) : Prop := ∀ v : List Nat, v.length = 2 * (r + ρ) + 1 → (∀ x ∈ v, x < k) → T.getD (wval k (image k r t v)) (-1) = ((v.getD (r + ρ) 0 : Nat) : Int)
theorem LeftI.step {k r ρ : Nat} {t : List Nat} {T : List Int} (h : LeftI k r t ρ T) {c : Int → Nat} (hc : ∀ z, c z < k) (z : Int) : T.getD (wval k (winZ (stepZ k r t c) (2 * ρ + 1) (z - (ρ : Int)))) (-1) = ((c z : Nat) : Int) := by
  have h1 := h (winZ c (2 * (r + ρ) + 1) (z - (ρ : Int) - (r : Int))) (winZ_len _ _ _) (winZ_sym hc _ _)
  have h2 := image_winZ k r t c (2 * ρ + 1) (z - (ρ : Int) - (r : Int))
  rw [show 2 * ρ + 1 + 2 * r = 2 * (r + ρ) + 1 by omega, show z - (ρ : Int) - (r : Int) + (r : Int) = z - (ρ : Int) by omega] at h2
  rw [h2, winZ_at c (show r + ρ < 2 * (r + ρ) + 1 by omega)] at h1
  rw [h1]
  congr 2
  omega

/-- A ring's image. -/
def ringI (k r : Nat) (t s : List Nat) : List Nat := (List.range s.length).map fun (i : Nat) => stepZ k r t (cy s) (i : Int)
theorem ringI_len (k r : Nat) (t s : List Nat) : (ringI k r t s).length = s.length := by simp [ringI]
theorem cy_ringI {k r : Nat} {t s : List Nat} (h0 : 0 < s.length) : cy (ringI k r t s) = stepZ k r t (cy s) := by
  funext z
  refine cy_map h0 (stepZ k r t (cy s)) rfl (fun z q => ?_) z
  unfold stepZ winZ
  congr 1
  refine List.map_congr_left fun j _ => ?_
  rw [show z + (s.length : Int) * q - (r : Int) + (j : Int) = z - (r : Int) + (j : Int) + (s.length : Int) * q by omega]
  exact cy_add s _ q
theorem cy_sym {k : Nat} {s : List Nat} (hs : ∀ x ∈ s, x < k) (h0 : 0 < s.length) : ∀ z, cy s z < k := fun z => cy_lt hs (List.length_pos_iff.1 h0) z
theorem ringI_sym {k r : Nat} {t s : List Nat} (hr : IsRule k r t) (hs : ∀ x ∈ s, x < k) : ∀ x ∈ ringI k r t s, x < k := fun x hx => by
  obtain ⟨i, hi, rfl⟩ := List.mem_map.1 hx
  exact stepZ_lt hr (cy_sym hs (by have := List.mem_range.1 hi; omega)) _
theorem LeftI.inj {k r ρ : Nat} {t : List Nat} {T : List Int} (h : LeftI k r t ρ T) {a b : List Nat} (hl : a.length = b.length) (h0 : 0 < a.length) (ha : ∀ x ∈ a, x < k) (hb : ∀ x ∈ b, x < k) (e : ringI k r t a = ringI k r t b) : a = b := by
  refine cy_ext hl fun z => ?_
  have h1 := h.step (cy_sym ha h0) z
  have h2 := h.step (cy_sym hb (hl ▸ h0)) z
  rw [← cy_ringI h0, e, cy_ringI (hl ▸ h0), h2] at h1
  omega
/-- What maps a finite list into itself and parts its elements meets them all. -/
theorem onto_of {α : Type} [BEq α] [LawfulBEq α] {l : List α} (f : α → α) (hn : l.Nodup) (hf : ∀ x ∈ l, f x ∈ l) (hi : ∀ x ∈ l, ∀ y ∈ l, f x = f y → x = y) {y : α} (hy : y ∈ l) : ∃ x ∈ l, f x = y := by
  by_cases hm : y ∈ l.map f
  · obtain ⟨x, hx, e⟩ := List.mem_map.1 hm
    exact ⟨x, hx, e⟩
  · exfalso
    have hnm : (l.map f).Nodup := by
      rw [List.Nodup, List.pairwise_map]
      refine List.Pairwise.imp_of_mem ?_ hn
      intro a b ha hb hab e
      exact hab (hi a ha b hb e)
    have := nodupL_le (List.nodup_cons.2 ⟨hm, hnm⟩) (b := l) (fun x hx => by
      rcases List.mem_cons.1 hx with rfl | hx
      · exact hy
      · obtain ⟨z, hz, rfl⟩ := List.mem_map.1 hx
        exact hf z hz)
    rw [List.length_cons, List.length_map] at this
    omega
theorem LeftI.onto {k r ρ : Nat} {t : List Nat} {T : List Int} (hr : IsRule k r t) (h : LeftI k r t ρ T) {y : List Nat} (h0 : 0 < y.length) (hy : ∀ x ∈ y, x < k) : ∃ x : List Nat, x.length = y.length ∧ (∀ c ∈ x, c < k) ∧ ringI k r t x = y := by
  obtain ⟨x, hx, e⟩ := onto_of (ringI k r t) (allW_nodup hr.k1 y.length) (fun x hx => by
    obtain ⟨h1, h2⟩ := allW_sym hx
    exact mem_allW (by rw [ringI_len, h1]) (ringI_sym hr h2)) (fun a ha b hb e => by
    obtain ⟨h1, h2⟩ := allW_sym ha
    obtain ⟨h3, h4⟩ := allW_sym hb
    exact h.inj (by rw [h1, h3]) (by omega) h2 h4 e) (mem_allW rfl hy)
  exact ⟨x, (allW_sym hx).1, (allW_sym hx).2, e⟩
/-- The table is full. -/
theorem LeftI.full {k r ρ : Nat} {t : List Nat} {T : List Int} (hr : IsRule k r t) (h : LeftI k r t ρ T) {V : Nat} (hV : V < k ^ (2 * ρ + 1)) : ∃ c : Nat, c < k ∧ T.getD V (-1) = (c : Int) := by
  have hds := digB_sym hr.k1 (2 * ρ + 1) V
  have hdl := digB_len k (2 * ρ + 1) V
  have hdv := dig_wval hr.k1 hV
  obtain ⟨y, hy⟩ : ∃ y, digB k (2 * ρ + 1) V = y := ⟨_, rfl⟩
  rw [hy] at hds hdl hdv
  obtain ⟨x, h1, h2, h3⟩ := h.onto hr (y := y) (by omega) hds
  have hx0 : 0 < x.length := by omega
  have h4 := h.step (cy_sym h2 hx0) (ρ : Int)
  rw [← cy_ringI hx0, h3] at h4
  have e : winZ (cy y) (2 * ρ + 1) ((ρ : Int) - (ρ : Int)) = y := by
    apply List.ext_getElem?
    intro j
    rcases Nat.lt_or_ge j (2 * ρ + 1) with hj | hj
    · unfold winZ
      rw [List.getElem?_map, List.getElem?_range hj]
      simp only [Option.map_some]
      rw [show (ρ : Int) - (ρ : Int) + (j : Int) = (j : Int) by omega, cy_at (by omega), List.getD_eq_getElem?_getD, List.getElem?_eq_getElem (show j < y.length by omega)]
      rfl
    · rw [List.getElem?_eq_none (by rw [winZ_len]; exact hj), List.getElem?_eq_none (by omega)]
  rw [e, hdv] at h4
  exact ⟨_, cy_sym h2 hx0 _, h4⟩
/-- A rule that takes the images of another back. -/
def Left (k r : Nat) (t : List Nat) (ρ : Nat) (u : List Nat) : Prop := ∀ c : Int → Nat, (∀ z, c z < k) → ∀ z, stepZ k ρ u (stepZ k r t c) z = c z
theorem LeftI.rule {k r ρ : Nat} {t : List Nat} {T : List Int} (hr : IsRule k r t) (h : LeftI k r t ρ T) (hT : T.length = k ^ (2 * ρ + 1)) (hρ : ρ ≤ 3) : ∃ u : List Nat, T = ints u ∧ IsRule k ρ u ∧ Left k r t ρ u := by
  have hget : ∀ V, V < k ^ (2 * ρ + 1) → T.getD V (-1) = (((T.map Int.toNat).getD V 0 : Nat) : Int) ∧ (T.map Int.toNat).getD V 0 < k := by
    intro V hV
    obtain ⟨c, hc, e⟩ := h.full hr hV
    rw [List.getD_eq_getElem?_getD, List.getElem?_eq_getElem (by omega)] at e
    simp only [Option.getD_some] at e
    rw [List.getD_eq_getElem?_getD, List.getD_eq_getElem?_getD, List.getElem?_map, List.getElem?_eq_getElem (by omega)]
    simp only [Option.map_some, Option.getD_some]
    rw [e]
    exact ⟨by simp, by simpa using hc⟩
  have hu : IsRule k ρ (T.map Int.toNat) := ⟨hr.k1, hr.k4, hρ, by rw [List.length_map]; exact hT, fun x hx => by
    obtain ⟨V, hV, e⟩ := List.getElem_of_mem hx
    have h1 := (hget V (by rw [List.length_map] at hV; omega)).2
    rw [List.getD_eq_getElem?_getD, List.getElem?_eq_getElem hV] at h1
    simp only [Option.getD_some] at h1
    rw [e] at h1
    exact h1⟩
  refine ⟨T.map Int.toNat, ?_, hu, fun c hc z => ?_⟩
  · unfold ints
    apply List.ext_getElem?
    intro j
    rcases Nat.lt_or_ge j T.length with hj | hj
    · have h1 := (hget j (by omega)).1
      rw [List.getD_eq_getElem?_getD, List.getD_eq_getElem?_getD, List.getElem?_map, List.getElem?_eq_getElem hj] at h1
      rw [List.getElem?_map, List.getElem?_map, List.getElem?_eq_getElem hj]
      simp only [Option.map_some, Option.getD_some] at h1 ⊢
      exact congrArg some h1
    · rw [List.getElem?_eq_none hj, List.getElem?_eq_none (by simpa using hj)]
  · have h1 := h.step hc z
    have hlt : wval k (winZ (stepZ k r t c) (2 * ρ + 1) (z - (ρ : Int))) < k ^ (2 * ρ + 1) := by
      have := wval_lt (winZ_sym (stepZ_lt hr hc) (2 * ρ + 1) (z - (ρ : Int)))
      rwa [winZ_len] at this
    rw [(hget _ hlt).1] at h1
    have h2 : (T.map Int.toNat).getD (wval k (winZ (stepZ k r t c) (2 * ρ + 1) (z - (ρ : Int)))) 0 = c z := by omega
    exact h2
/-- The other way round. -/
theorem Left.back {k r ρ : Nat} {t u : List Nat} (hr : IsRule k r t) (hu : IsRule k ρ u) (h : Left k r t ρ u) : Left k ρ u r t := by
  -- on rings first
  have hring : ∀ y : List Nat, 0 < y.length → (∀ x ∈ y, x < k) → ringI k r t (ringI k ρ u y) = y := by
    intro y h0 hy
    have hinj : ∀ a b : List Nat, a.length = b.length → 0 < a.length → (∀ x ∈ a, x < k) → (∀ x ∈ b, x < k) → ringI k r t a = ringI k r t b → a = b := by
      intro a b hl h0 ha hb e
      refine cy_ext hl fun z => ?_
      have h1 := h _ (cy_sym ha h0) z
      have h2 := h _ (cy_sym hb (hl ▸ h0)) z
      rw [← cy_ringI h0, e, cy_ringI (hl ▸ h0), h2] at h1
      exact h1.symm
    obtain ⟨x, hx, e⟩ := onto_of (ringI k r t) (allW_nodup hr.k1 y.length) (fun x hx => by
      obtain ⟨h1, h2⟩ := allW_sym hx
      exact mem_allW (by rw [ringI_len, h1]) (ringI_sym hr h2)) (fun a ha b hb e => by
      obtain ⟨h1, h2⟩ := allW_sym ha
      obtain ⟨h3, h4⟩ := allW_sym hb
      exact hinj a b (by rw [h1, h3]) (by omega) h2 h4 e) (mem_allW rfl hy)
    obtain ⟨h1, h2⟩ := allW_sym hx
    have hx0 : 0 < x.length := by omega
    have e2 : ringI k ρ u y = x := by
      refine cy_ext (by rw [ringI_len, h1]) fun z => ?_
      rw [cy_ringI h0, ← e, cy_ringI hx0]
      exact h _ (cy_sym h2 hx0) z
    rw [e2, e]
  intro c hc z
  -- the ring of the window
  obtain ⟨y, hy⟩ : ∃ y, winZ c (2 * (r + ρ) + 1) (z - ((r + ρ : Nat) : Int)) = y := ⟨_, rfl⟩
  have hyl : y.length = 2 * (r + ρ) + 1 := by rw [← hy]; exact winZ_len _ _ _
  have hys : ∀ x ∈ y, x < k := by rw [← hy]; exact winZ_sym hc _ _
  have hy0 : 0 < y.length := by omega
  have hu0 : 0 < (ringI k ρ u y).length := by rw [ringI_len]; exact hy0
  have h1 := congrArg (fun s => cy s ((r + ρ : Nat) : Int)) (hring y hy0 hys)
  rw [cy_ringI hu0, cy_ringI hy0] at h1
  have hcy : ∀ i : Nat, i < 2 * (r + ρ) + 1 → cy y (i : Int) = c (z - ((r + ρ : Nat) : Int) + (i : Int)) := by
    intro i hi
    rw [cy_at (by omega), ← hy, winZ_at c hi]
  rw [hcy (r + ρ) (by omega)] at h1
  have h2 : stepZ k r t (stepZ k ρ u (cy y)) ((r + ρ : Nat) : Int) = stepZ k r t (stepZ k ρ u c) z := by
    unfold stepZ
    congr 1
    unfold winZ
    refine List.map_congr_left fun j hj => ?_
    have hj' := List.mem_range.1 hj
    dsimp only
    congr 1
    refine List.map_congr_left fun i hi => ?_
    have hi' := List.mem_range.1 hi
    have := hcy (j + i) (by omega)
    rw [show ((r + ρ : Nat) : Int) - (r : Int) + (j : Int) - (ρ : Int) + (i : Int) = ((j + i : Nat) : Int) by omega, this]
    congr 1
    omega
  rw [h2] at h1
  rw [h1]
  congr 1
  omega
/-- There and back, of rings. -/
theorem Left.ring {k r ρ : Nat} {t u : List Nat} (h : Left k r t ρ u) {s : List Nat} (h0 : 0 < s.length) (hs : ∀ x ∈ s, x < k) : ringI k ρ u (ringI k r t s) = s := by
  refine cy_ext (by rw [ringI_len, ringI_len]) fun z => ?_
  rw [cy_ringI (by rw [ringI_len]; exact h0), cy_ringI h0]
  exact h _ (cy_sym hs h0) z

/-! ### the table, filled word by word -/
def fillS (f : Nat → List Int → Bool × List Int) : List Nat → List Int → Bool × List Int
  | [], T => (true, T)
  | s :: l, T => if (f s T).1 = true then fillS f l (f s T).2 else (false, (f s T).2)
/-- fill: d symbols are still to come. -/
def fillP (k r : Nat) (t : List Nat) (h : Nat) : Nat → Nat → Nat → Nat → Nat → List Int → Bool × List Int
  | 0, _, _, im, mid, T => if 0 ≤ T.getD im (-1) ∧ T.getD im (-1) ≠ (mid : Int) then (false, T) else (true, T.set im (mid : Int))
  | d + 1, n, fr, im, mid, T => fillS (fun s T => fillP k r t h d (n + 1) ((fr * k + s) % k ^ (2 * r)) (if 2 * r ≤ n then im * k + t.getD (fr * k + s) 0 else im) (if n = h then s else mid) T) (List.range k) T
theorem fillS_ok {f : Nat → List Int → Bool × List Int} : ∀ (l : List Nat) (T : List Int), (fillS f l T).1 = true →
    (∀ s ∈ l, ∀ U, U.length = T.length → (f s U).1 = true → (f s U).2.length = U.length ∧ ∀ x, 0 ≤ U.getD x (-1) → (f s U).2.getD x (-1) = U.getD x (-1)) →
    (fillS f l T).2.length = T.length ∧ (∀ x, 0 ≤ T.getD x (-1) → (fillS f l T).2.getD x (-1) = T.getD x (-1)) ∧
    ∀ s ∈ l, ∃ U, U.length = T.length ∧ (f s U).1 = true ∧ ∀ x, 0 ≤ (f s U).2.getD x (-1) → (fillS f l T).2.getD x (-1) = (f s U).2.getD x (-1)
  | [], T, _, _ => ⟨rfl, fun _ _ => rfl, fun s hs => by cases hs⟩
  | s :: l, T, h, hf => by
    rw [fillS] at h ⊢
    by_cases hs : (f s T).1 = true
    · rw [if_pos hs] at h ⊢
      obtain ⟨h1, h2⟩ := hf s List.mem_cons_self T rfl hs
      obtain ⟨i1, i2, i3⟩ := fillS_ok l (f s T).2 h (fun s' hs' U hU hUt => hf s' (List.mem_cons_of_mem _ hs') U (by rw [hU, h1]) hUt)
      refine ⟨by rw [i1, h1], fun x hx => ?_, fun s' hs' => ?_⟩
      · have e := h2 x hx
        rw [i2 x (by rw [e]; exact hx), e]
      · rcases List.mem_cons.1 hs' with rfl | hs'
        · exact ⟨T, rfl, hs, i2⟩
        · obtain ⟨U, u1, u2, u3⟩ := i3 s' hs'
          exact ⟨U, by rw [u1, h1], u2, u3⟩
    · rw [if_neg hs] at h
      cases h
theorem image_snoc {k r : Nat} {t w : List Nat} (s : Nat) (h : 2 * r ≤ w.length) : image k r t (w ++ [s]) = image k r t w ++ [t.getD (wval k (w.drop (w.length - 2 * r) ++ [s])) 0] := by
  unfold image
  rw [List.length_append, List.length_singleton, show w.length + 1 - 2 * r = (w.length - 2 * r) + 1 by omega, List.range_succ, List.map_append, List.map_singleton]
  congr 1
  · refine List.map_congr_left fun i hi => ?_
    have hi' := List.mem_range.1 hi
    congr 2
    unfold win
    rw [List.drop_append_of_le_length (by omega), List.take_append_of_le_length (by rw [List.length_drop]; omega)]
  · congr 3
    unfold win
    rw [List.drop_append_of_le_length (by omega), List.take_of_length_le (by rw [List.length_append, List.length_drop, List.length_singleton]; omega)]
theorem image_short {k r : Nat} {t w : List Nat} (h : w.length ≤ 2 * r) : image k r t w = [] := by
  unfold image
  rw [Nat.sub_eq_zero_of_le h]
  rfl
theorem fill_next {k r : Nat} {t w : List Nat} (s : Nat) (hw : ∀ x ∈ w, x < k) :
    (wval k w % k ^ (2 * r) * k + s) % k ^ (2 * r) = wval k (w ++ [s]) % k ^ (2 * r) ∧
    (if 2 * r ≤ w.length then wval k (image k r t w) * k + t.getD (wval k w % k ^ (2 * r) * k + s) 0 else wval k (image k r t w)) = wval k (image k r t (w ++ [s])) := by
  refine ⟨(roll_snoc k (k ^ (2 * r)) w s).symm, ?_⟩
  by_cases h : 2 * r ≤ w.length
  · rw [if_pos h, image_snoc s h, wval_snoc]
    have e : w = w.take (w.length - 2 * r) ++ w.drop (w.length - 2 * r) := (List.take_append_drop _ _).symm
    have h2 := wval_mod (k := k) (w.take (w.length - 2 * r)) (b := w.drop (w.length - 2 * r)) (fun x hx => hw x (List.mem_of_mem_drop hx))
    rw [List.take_append_drop, List.length_drop, show w.length - (w.length - 2 * r) = 2 * r by omega] at h2
    rw [h2, wval_snoc]
  · rw [if_neg h, image_short (by omega), image_short (by rw [List.length_append, List.length_singleton]; omega)]
theorem fill_ok {k r ρ : Nat} {t : List Nat} (hr : IsRule k r t) : ∀ (d : Nat) (w : List Nat) (T : List Int), w.length + d = 2 * (r + ρ) + 1 → (∀ x ∈ w, x < k) → T.length = k ^ (2 * ρ + 1) →
    (fillP k r t (r + ρ) d w.length (wval k w % k ^ (2 * r)) (wval k (image k r t w)) (w.getD (r + ρ) 0) T).1 = true →
    (fillP k r t (r + ρ) d w.length (wval k w % k ^ (2 * r)) (wval k (image k r t w)) (w.getD (r + ρ) 0) T).2.length = T.length ∧
    (∀ x, 0 ≤ T.getD x (-1) → (fillP k r t (r + ρ) d w.length (wval k w % k ^ (2 * r)) (wval k (image k r t w)) (w.getD (r + ρ) 0) T).2.getD x (-1) = T.getD x (-1)) ∧
    ∀ v : List Nat, v.length = 2 * (r + ρ) + 1 → (∀ x ∈ v, x < k) → v.take w.length = w →
      (fillP k r t (r + ρ) d w.length (wval k w % k ^ (2 * r)) (wval k (image k r t w)) (w.getD (r + ρ) 0) T).2.getD (wval k (image k r t v)) (-1) = ((v.getD (r + ρ) 0 : Nat) : Int)
  | 0, w, T, hl, hw, hT, h => by
    have hlt : wval k (image k r t w) < T.length := by
      have h1 := wval_lt (image_sym hr hw)
      rw [image_len, show w.length - 2 * r = 2 * ρ + 1 by omega, ← hT] at h1
      exact h1
    rw [fillP] at h ⊢
    split at h
    · cases h
    · rename_i hc
      rw [if_neg hc]
      refine ⟨List.length_set .., fun x hx => ?_, fun v hv hvs hvw => ?_⟩
      · rw [List.getD_eq_getElem?_getD, List.getD_eq_getElem?_getD, List.getElem?_set]
        by_cases e : wval k (image k r t w) = x
        · rw [if_pos e, if_pos (e ▸ hlt)]
          by_cases e2 : T.getD (wval k (image k r t w)) (-1) = ((w.getD (r + ρ) 0 : Nat) : Int)
          · rw [← e, e2]
            rfl
          · exact absurd ⟨by rw [e]; exact hx, e2⟩ hc
        · rw [if_neg e, List.getD_eq_getElem?_getD]
      · rw [List.take_of_length_le (by omega)] at hvw
        subst hvw
        rw [List.getD_eq_getElem?_getD, List.getElem?_set, if_pos rfl, if_pos hlt]
        rfl
  | d + 1, w, T, hl, hw, hT, h => by
    have key : ∀ s, s < k → ∀ U : List Int, fillP k r t (r + ρ) d (w.length + 1) ((wval k w % k ^ (2 * r) * k + s) % k ^ (2 * r)) (if 2 * r ≤ w.length then wval k (image k r t w) * k + t.getD (wval k w % k ^ (2 * r) * k + s) 0 else wval k (image k r t w)) (if w.length = r + ρ then s else w.getD (r + ρ) 0) U =
        fillP k r t (r + ρ) d (w ++ [s]).length (wval k (w ++ [s]) % k ^ (2 * r)) (wval k (image k r t (w ++ [s]))) ((w ++ [s]).getD (r + ρ) 0) U := by
      intro s hs U
      obtain ⟨e1, e2⟩ := fill_next (t := t) (r := r) s hw
      rw [e1, e2, List.length_append, List.length_singleton]
      congr 1
      rw [List.getD_eq_getElem?_getD, List.getD_eq_getElem?_getD]
      by_cases e : w.length = r + ρ
      · rw [if_pos e, List.getElem?_append_right (by omega), e]
        simp
      · rw [if_neg e]
        rcases Nat.lt_or_ge (r + ρ) w.length with hlt | hge
        · rw [List.getElem?_append_left hlt]
        · rw [List.getElem?_eq_none (by omega), List.getElem?_eq_none (by rw [List.length_append, List.length_singleton]; omega)]
    have ih : ∀ s, s < k → ∀ U : List Int, U.length = T.length → _ := fun s hs U hU => fill_ok (ρ := ρ) hr d (w ++ [s]) U (by rw [List.length_append, List.length_singleton]; omega) (fun x hx => by
      rcases List.mem_append.1 hx with hx | hx
      · exact hw x hx
      · rw [List.mem_singleton.1 hx]; exact hs) (by rw [hU, hT])
    rw [fillP] at h ⊢
    obtain ⟨h1, h2, h3⟩ := fillS_ok (List.range k) T h (fun s hs U hU hUt => by
      have hs' := List.mem_range.1 hs
      have hUt' := hUt
      rw [key s hs' U] at hUt' ⊢
      obtain ⟨a, b, _⟩ := ih s hs' U hU hUt'
      exact ⟨a, b⟩)
    refine ⟨h1, h2, fun v hv hvs hvw => ?_⟩
    have hwv : w.length < v.length := by omega
    have hs : v.getD w.length 0 < k := by
      rw [List.getD_eq_getElem?_getD, List.getElem?_eq_getElem hwv]
      exact hvs _ (List.getElem_mem _)
    obtain ⟨s, hse⟩ : ∃ s, v.getD w.length 0 = s := ⟨_, rfl⟩
    rw [hse] at hs
    obtain ⟨U, u1, u2, u3⟩ := h3 s (List.mem_range.2 hs)
    rw [key s hs U] at u2
    rw [key s hs U] at u3
    obtain ⟨_, _, c⟩ := ih s hs U u1 u2
    have e := c v hv hvs (by
      rw [List.length_append, List.length_singleton, List.take_add_one, hvw, List.getElem?_eq_getElem hwv]
      rw [List.getD_eq_getElem?_getD, List.getElem?_eq_getElem hwv] at hse
      simp only [Option.getD_some] at hse
      rw [hse]
      rfl)
    rw [u3 _ (by rw [e]; omega), e]
/-- A table that could be filled takes every image back. -/
theorem fill_left {k r ρ : Nat} {t : List Nat} (hr : IsRule k r t) {n : Nat} (hn : n = k ^ (2 * ρ + 1)) (h : (fillP k r t (r + ρ) (2 * (r + ρ) + 1) 0 0 0 0 (List.replicate n (-1))).1 = true) :
    LeftI k r t ρ (fillP k r t (r + ρ) (2 * (r + ρ) + 1) 0 0 0 0 (List.replicate n (-1))).2 ∧ (fillP k r t (r + ρ) (2 * (r + ρ) + 1) 0 0 0 0 (List.replicate n (-1))).2.length = n := by
  have e0 : wval k ([] : List Nat) % k ^ (2 * r) = 0 := by rw [wval_nil, Nat.zero_mod]
  have e1 : wval k (image k r t []) = 0 := by rw [image_short (Nat.zero_le _), wval_nil]
  have h0 := fill_ok (ρ := ρ) hr (2 * (r + ρ) + 1) [] (List.replicate n (-1)) (by simp) (fun x hx => by cases hx) (by rw [List.length_replicate, hn])
  rw [e0, e1] at h0
  obtain ⟨h1, _, h2⟩ := h0 h
  rw [List.length_replicate] at h1
  exact ⟨fun v hv hvs => h2 v hv hvs rfl, h1⟩
end RuleP
end Go.Proofs.YtedmmmlahpmmoaaGreatDoor

namespace Go.Proofs.YtedmmmlahpmmoaaGreatDoor
open Go.RowKit RuleP

theorem modJ (z : Int) {n : Nat} (hn : 0 < n) : (z.tmod (n : Int) + (n : Int)).tmod (n : Int) = z % (n : Int) ∧ -(n : Int) < z.tmod (n : Int) ∧ z.tmod (n : Int) < (n : Int) := by
  have h1 : -(n : Int) < z.tmod (n : Int) ∧ z.tmod (n : Int) < (n : Int) := by
    have h2 := Int.lt_tmod_of_pos z (show (0 : Int) < (n : Int) by omega)
    have h3 := Int.tmod_lt_of_pos z (show (0 : Int) < (n : Int) by omega)
    exact ⟨h2, h3⟩
  refine ⟨?_, h1⟩
  rw [Int.tmod_eq_emod_of_nonneg (by omega)]
  have h4 := Int.tmod_add_mul_tdiv z (n : Int)
  have h5 : z % (n : Int) = z.tmod (n : Int) % (n : Int) := by
    conv => lhs; rw [← h4]
    rw [Int.add_mul_emod_self_left]
  rw [h5, Int.add_emod_right]
theorem winZ_snoc (c : Int → Nat) (j : Nat) (z : Int) : winZ c (j + 1) z = winZ c j z ++ [c (z + (j : Int))] := by
  unfold winZ
  rw [List.range_succ, List.map_append]
  rfl
theorem ring_window {k r : Nat} {c : Int → Nat} (hc : ∀ z, c z < k) {i j : Nat} (hj : j = i + 2 * r) : roll k (k ^ (2 * r + 1)) (winZ c (j + 1) (-(r : Int))) = wval k (winZ c (2 * r + 1) ((i : Int) - (r : Int))) := by
  have h := roll_win (r := r) (winZ_sym hc (j + 1) (-(r : Int))) (i := i) (by rw [winZ_len]; omega)
  rw [winZ_win c (by omega), List.take_of_length_le (by rw [winZ_len]; omega)] at h
  rw [h]
  congr 2
  omega

set_option maxRecDepth 100000 in
set_option maxHeartbeats 4000000 in
theorem ringImage_c (w : World) (k r : Nat) (A B : Option Addr) (n c m d : Nat) (t s : List Nat) (hr : IsRule k r t) (hT : Sl w A n ((ints t).map (Value.int .i64))) (hs : ∀ x ∈ s, x < k) (hS : Sl w B m ((ints s).map (Value.int .i64))) (hm0 : 0 < m) (hm : m ≤ 4096) :
    Calls Tryz.prog 17 #[ruleV (k : Int) (r : Int) A n c, .slice B m d] w fun e w' => ∃ g, e = .returned (.slice (some ⟨g, 0, none⟩) m m) ∧ w'.ownsRow w.heap.size 3 1 (.slice (some ⟨g, 0, none⟩) m m) m ((ints (ringI k r t s)).map (Value.int .i64)) ∧ Below w.heap.size w w' := by
  have hn : t.length = n := by simpa [ints] using hT.1
  have hsl : s.length = m := by simpa [ints] using hS.1
  have hk1 := hr.k1
  have hk4 := hr.k4
  have hr3 := hr.r3
  have hn16 := hr.le
  have hnp := hr.pos
  rw [hn] at hn16 hnp
  have hR1 := RuleAt.new w (.int .i64 (k : Int)) (.int .i64 (r : Int)) (.slice A n c)
  have b1 := (Below.refl w.heap.size w).alloc (Nat.le_refl _) (.cells #[.int .i64 (k : Int), .int .i64 (r : Int), .slice A n c] 24)
  have hmk := run_make_row' (P := Tryz.prog) 22 3 (.int .i64 0) 8 tInts.und tInts.info rfl .i64 .i64 m (by omega) (by omega) (w.alloc (.cells #[.int .i64 (k : Int), .int .i64 (r : Int), .slice A n c] 24))
  have hO := zerosAt (w.alloc (.cells #[.int .i64 (k : Int), .int .i64 (r : Int), .slice A n c] 24)) w.heap.size (w.heap.size + 1) m (by simp) (by omega) (by simp only [maxLen]; omega)
  have hR2 := hR1.alloc (.cells (madeCells #[.int .i64 0] m) 3)
  have b2 := b1.alloc (by simp) (.cells (madeCells #[.int .i64 0] m) 3)
  obtain ⟨q0, q1, q2, _⟩ := hR2.facts
  obtain ⟨w2, hw2⟩ : ∃ w2, (w.alloc (.cells #[.int .i64 (k : Int), .int .i64 (r : Int), .slice A n c] 24)).alloc (.cells (madeCells #[.int .i64 0] m) 3) = w2 := ⟨_, rfl⟩
  rw [hw2] at hO hR2 b2
  obtain ⟨g, hg⟩ : ∃ g, w.heap.size + 1 = g := ⟨_, rfl⟩
  rw [hg] at hO
  obtain ⟨i0, hi0⟩ : ∃ i0 : Int, -(2 * (r : Int)) = i0 := ⟨_, rfl⟩
  have e0 : IntKind.i64.wrap (-2 * (r : Int)) = i0 := by rw [show -2 * (r : Int) = i0 by omega]; exact IntWalk.i64_in _ (by omega)
  have e0' : IntKind.i64.wrap (-(2 * (r : Int))) = i0 := by rw [hi0]; exact IntWalk.i64_in _ (by omega)
  have HRI := Lib.hid (show (ringI k r t s).length = m by rw [ringI_len, hsl])
  have HO := Lib.hid (show w2.ownsRow w.heap.size 3 1 (.slice (some ⟨g, 0, none⟩) m m) m ((ints ((ringI k r t s).take (0 - 2 * r) ++ List.replicate (m - (0 - 2 * r)) 0)).map (Value.int .i64)) by
    rw [Nat.zero_sub, List.take_zero, List.nil_append, Nat.sub_zero]
    exact hO)
  have HR2 := Lib.hid hR2
  have B2 := Lib.hid b2
  have HW2 := Lib.hid hw2
  have HG := Lib.hid hg
  have HTT := Lib.hid (fun (wz : World) (hz : Below w.heap.size w wz) => (⟨hT.below hz, hS.below hz⟩ : _ ∧ _))
  have HRU := Lib.hid (And.intro hr (And.intro hs (And.intro hn hsl)))
  have HI0 := Lib.hid hi0
  have hgw : w.heap.size < g := by omega
  clear hT hS hr hs hn hsl hR1 hR2 b1 b2 hO hw2 hg hi0
  unfold ruleV
  go_enter Tryz.func17, Tryz.ntmps17
  go_wp2_with fail
  rw [HW2.out, HG.out]
  clear hmk q0 q1 q2
  go_loopw [7, 8] (fun xv iv wl => ∃ (j : Nat) (i : Int), j ≤ m + 2 * r ∧ iv = .int .i64 i ∧ Hid (i = (j : Int) - 2 * (r : Int)) ∧ xv = .int .i64 ((roll k (k ^ (2 * r + 1)) (winZ (cy s) j (-(r : Int))) : Nat) : Int) ∧ Hid (wl.ownsRow w.heap.size 3 1 (.slice (some ⟨g, 0, none⟩) m m) m ((ints ((ringI k r t s).take (j - 2 * r) ++ List.replicate (m - (j - 2 * r)) 0)).map (Value.int .i64))) ∧ Hid (RuleAt wl w.heap.size (.int .i64 (k : Int)) (.int .i64 (r : Int)) (.slice A n c)) ∧ Hid (Below w.heap.size w wl)) (fun _ iv _ => ((m : Int) - intOf iv).toNat)
  case atStart => exact ⟨0, i0, Nat.zero_le _, rfl, Lib.hid (by have := HI0.out; omega), rfl, HO, HR2, B2⟩
  case round =>
    clear HO HR2 B2
    obtain ⟨j, i, hj, rfl, HI, rfl, HO, HR, BB⟩ := hrel
    obtain ⟨r0, r1, r2, _⟩ := HR.out.facts
    have hil : i ≤ (m : Int) := by have := HI.out; omega
    have hig : -6 ≤ i := by have := HI.out; omega
    by_cases hlt : i < (m : Int)
    · obtain ⟨z, hz⟩ : ∃ z : Int, i + (r : Int) = z := ⟨_, rfl⟩
      obtain ⟨ht1, ht2⟩ := HTT.out wr BB.out
      obtain ⟨hr, hs, hn, hsl⟩ := HRU.out
      have hcy := cy_sym hs (show 0 < s.length by omega)
      obtain ⟨m1, m2, m3⟩ := modJ z hm0
      obtain ⟨y, hy⟩ : ∃ y : Int, z.tmod (m : Int) = y := ⟨_, rfl⟩
      rw [hy] at m1 m2 m3
      obtain ⟨y2, hy2⟩ : ∃ y2 : Int, y + (m : Int) = y2 := ⟨_, rfl⟩
      rw [hy2] at m1
      have hzm0 := Int.emod_nonneg z (show (m : Int) ≠ 0 by omega)
      have hzm1 := Int.emod_lt_of_pos z (show (0 : Int) < (m : Int) by omega)
      obtain ⟨ix, hix⟩ : ∃ ix : Nat, z % (m : Int) = (ix : Int) := ⟨(z % (m : Int)).toNat, by omega⟩
      rw [hix] at m1 hzm1
      have hixm : ix < m := by omega
      rw [ints_map] at ht2
      obtain ⟨bd, x, rfl, hx, hcx⟩ := ht2.word_ hixm
      have hcyz : cy s z = x := by
        unfold cy
        rw [hsl, hix, Int.toNat_natCast, List.getD_eq_getElem?_getD, hx]
        rfl
      have hx4 : x < k := by rw [← hcyz]; exact hcy z
      have ez : IntKind.i64.wrap (i + (r : Int)) = z := by rw [hz]; exact IntWalk.i64_in _ (by omega)
      have ey : IntKind.i64.wrap y = y := IntWalk.i64_in _ (by omega)
      have ey2 : IntKind.i64.wrap (y + (m : Int)) = y2 := by rw [hy2]; exact IntWalk.i64_in _ (by omega)
      have ey3 : wrap64 (y + (m : Int)) = y2 := by
        rw [Go.IntKind.wrap_i64] at ey2
        unfold wrap64
        exact ey2
      have eix : IntKind.i64.wrap (ix : Int) = (ix : Int) := IntWalk.i64_in _ (by omega)
      have k1 : (ix : Int) < (m : Int) := by omega
      have k2 : (0 : Int) ≤ (ix : Int) := by omega
      have k3 : ¬ (m : Int) = 0 := by omega
      have k4 : ¬ m = 0 := by omega
      have k5 : ¬ (n : Int) = 0 := by omega
      have k6 : ¬ n = 0 := by omega
      -- the window
      have hL : k ^ (2 * r + 1) = n := by rw [← hr.len, hn]
      have hzj : -(r : Int) + (j : Int) = z := by have := HI.out; omega
      have hsn : winZ (cy s) (j + 1) (-(r : Int)) = winZ (cy s) j (-(r : Int)) ++ [x] := by rw [winZ_snoc, hzj, hcyz]
      have hrs : roll k (k ^ (2 * r + 1)) (winZ (cy s) (j + 1) (-(r : Int))) = (roll k (k ^ (2 * r + 1)) (winZ (cy s) j (-(r : Int))) * k + x) % (k ^ (2 * r + 1)) := by rw [hsn, roll_snoc]
      have hw0 : roll k (k ^ (2 * r + 1)) (winZ (cy s) j (-(r : Int))) < n := by
        rw [← hL]
        exact Nat.mod_lt _ (Nat.pow_pos hk1)
      obtain ⟨W0, hW0⟩ : ∃ W0, roll k (k ^ (2 * r + 1)) (winZ (cy s) j (-(r : Int))) = W0 := ⟨_, rfl⟩
      obtain ⟨W1, hW1⟩ : ∃ W1, roll k (k ^ (2 * r + 1)) (winZ (cy s) (j + 1) (-(r : Int))) = W1 := ⟨_, rfl⟩
      rw [hW0, hW1, hL] at hrs
      rw [hW0] at hw0
      rw [hW0]
      have hw1 : W1 < n := by rw [hrs]; exact Nat.mod_lt _ hnp
      obtain ⟨Q, hQ⟩ : ∃ Q, W0 * k = Q := ⟨_, rfl⟩
      have hQb : Q ≤ 65536 := by
        rw [← hQ]
        exact Nat.le_trans (Nat.mul_le_mul (show W0 ≤ 16384 by omega) hk4) (by decide)
      rw [hQ] at hrs
      obtain ⟨S, hS⟩ : ∃ S, Q + x = S := ⟨_, rfl⟩
      rw [hS] at hrs
      have eQ : (W0 : Int) * (k : Int) = (Q : Int) := by rw [← hQ]; simp
      have eQw : IntKind.i64.wrap (Q : Int) = (Q : Int) := IntWalk.i64_in _ (by omega)
      have eS : IntKind.i64.wrap ((Q : Int) + (x : Int)) = (S : Int) := by rw [show (Q : Int) + (x : Int) = (S : Int) by omega]; exact IntWalk.i64_in _ (by omega)
      have eM : (S : Int).tmod (n : Int) = (W1 : Int) := by rw [hrs]; rfl
      have eMw : IntKind.i64.wrap (W1 : Int) = (W1 : Int) := IntWalk.i64_in _ (by omega)
      obtain ⟨ad, y1, rfl, hy1, hcy1⟩ := (show Sl wr A n (t.map fun (v : Nat) => Value.int .i64 (v : Int)) by rw [← ints_map]; exact ht1).word_ hw1
      have k7 : (W1 : Int) < (n : Int) := by omega
      have k8 : (0 : Int) ≤ (W1 : Int) := by omega
      have HW1 := Lib.hid hW1
      by_cases hi0 : 0 ≤ i
      · obtain ⟨iN, rfl⟩ : ∃ iN : Nat, i = (iN : Int) := ⟨i.toNat, by omega⟩
        have hjN : j = iN + 2 * r := by have := HI.out; omega
        have hjs : j - 2 * r = iN := by omega
        have hjs1 : j + 1 - 2 * r = iN + 1 := by omega
        have hiM : iN < m := by omega
        have hwin := ring_window (k := k) (r := r) hcy hjN
        rw [hW1] at hwin
        have hrx : (ringI k r t s)[iN]? = some y1 := by
          unfold ringI
          rw [List.getElem?_map, List.getElem?_range (by omega)]
          show some (stepZ k r t (cy s) (iN : Int)) = some y1
          unfold stepZ sy
          rw [← hwin, List.getD_eq_getElem?_getD, hy1]
          rfl
        have ho := HO.out
        rw [hjs] at ho
        have hput := putQ HRI.out hrx hiM
        have fa := ho.frozenAt iN
        have ca : wr.cell? ⟨g, iN, none⟩ = some (.int .i64 0) := by
          rw [ho.cellAt iN (by omega), ints_map, List.getElem?_map, putQ0 HRI.out hiM]
          rfl
        have o1 := (ho.stored iN (.int .i64 (y1 : Int))).1
        have e3 : ((ints ((ringI k r t s).take iN ++ List.replicate (m - iN) 0)).map (Value.int .i64)).set iN (.int .i64 (y1 : Int)) = (ints ((ringI k r t s).take (iN + 1) ++ List.replicate (m - (iN + 1)) 0)).map (Value.int .i64) := by
          rw [← hput, ints_map, ints_map, List.map_set]
        rw [e3, ← hjs1] at o1
        have hks := Keeps.of_setCell wr ⟨g, iN, none⟩ (.int .i64 (y1 : Int))
        have HO2 := Lib.hid o1
        have HR2 := Lib.hid (HR.out.keeps hks (show ¬ w.heap.size = g by omega))
        have HB2 := Lib.hid (BB.out.trans (hks.below BB.out.size (fun b hb => by rw [show b = g from hb]; omega)))
        have HI2 := Lib.hid (show ((iN + 1 : Nat) : Int) = ((j + 1 : Nat) : Int) - 2 * (r : Int) by omega)
        have hj2 : j + 1 ≤ m + 2 * r := by omega
        have k9 : (iN : Int) < (m : Int) := by omega
        clear hjN hjs hjs1 hwin hrx ho hput o1 e3 hks hz hy2 hix hzj hsn hrs hW0 hW1 hQ hS hx hcyz hL hy1 hr hs hn hsl hcy hzm0
        go_wp2_with fail
        exact ⟨⟨j + 1, ((iN + 1 : Nat) : Int), hj2, by go_num, HI2, by rw [HW1.out], HO2, HR2, HB2⟩, by simp [intOf]; omega⟩
      · have hi0' : ¬ (0 : Int) ≤ i := hi0
        obtain ⟨i1, hi1⟩ : ∃ i1 : Int, i + 1 = i1 := ⟨_, rfl⟩
        have ei1 : IntKind.i64.wrap (i + 1) = i1 := by rw [hi1]; exact IntWalk.i64_in _ (by omega)
        have HI2 := Lib.hid (show i1 = ((j + 1 : Nat) : Int) - 2 * (r : Int) by have := HI.out; omega)
        have hj2 : j + 1 ≤ m + 2 * r := by have := HI.out; omega
        have HO2 := Lib.hid (show wr.ownsRow w.heap.size 3 1 (.slice (some ⟨g, 0, none⟩) m m) m ((ints ((ringI k r t s).take (j + 1 - 2 * r) ++ List.replicate (m - (j + 1 - 2 * r)) 0)).map (Value.int .i64)) by
          have h1 : j + 1 - 2 * r = j - 2 * r := by have := HI.out; omega
          rw [h1]
          exact HO.out)
        have HLT := Lib.hid (show ((m : Int) - i1).toNat < ((m : Int) - i).toNat by omega)
        clear hz hy2 hix hzj hsn hrs hW0 hW1 hQ hS hx hcyz hL hy1 hr hs hn hsl hcy hzm0 hi1
        go_wp2_with fail
        exact ⟨⟨j + 1, i1, hj2, rfl, HI2, by rw [HW1.out], HO2, HR, BB⟩, HLT.out⟩
    · have hij : j - 2 * r = m := by have := HI.out; omega
      have ho := HO.out
      rw [hij, Nat.sub_self, List.replicate_zero, List.append_nil, List.take_of_length_le (by rw [HRI.out]; exact Nat.le_refl _)] at ho
      have HO2 := Lib.hid ho
      clear ho hij
      go_wp2_with fail
      go_ret
      exact ⟨g, rfl, HO2.out, BB.out⟩
end Go.Proofs.YtedmmmlahpmmoaaGreatDoor
