/- Mirrored, and with other names for the symbols, words and rings have as many preimages, and as many rings stay as they are. Plain lists, no program. No condition. By a rule that permutes at one end of the window each word has just its fair share of preimages. Plain lists, no program. No condition. What count tells of a rule and a word, and which windows fit: count.wrong, small, symbols, the closures. Condition: the lists read from memory; the error variables hold what E says. How great the numbers of ways can be: plain lists, no program. No condition. -/
import Derived.Test.YtibplgpolmplpaaGreatDoorX3
import Derived.Test.YtibplgpolmplpaaGreatDoorX9
import Derived.Test.YtibplgpolmplpaaGreatDoorX17
import Derived.Test.YtibplgpolmplpaaGreatDoorX22
namespace Go.Proofs.YtibplgpolmplpaaGreatDoor
namespace RuleP

theorem pre_le {k r r' : Nat} {t t' w w' : List Nat} (hk : 0 < k) (f : List Nat → List Nat) (hf : ∀ s ∈ preL k r t w, f s ∈ preL k r' t' w') (hi : ∀ x ∈ preL k r t w, ∀ y ∈ preL k r t w, f x = f y → x = y) : (preL k r t w).length ≤ (preL k r' t' w').length :=
  inj_le f (preL_nodup hk) hf hi
theorem words_mir {k r : Nat} {t w : List Nat} (hr : IsRule k r t) : (preL k r (mir k r t) w.reverse).length = (preL k r t w).length := by
  have key : ∀ {t w : List Nat}, IsRule k r t → (preL k r t w).length ≤ (preL k r (mir k r t) w.reverse).length := fun {t w} hr =>
    pre_le hr.k1 List.reverse (fun s hs => by
      obtain ⟨h1, h2, h3⟩ := mem_preL.1 hs
      exact mem_preL.2 ⟨by rw [List.length_reverse, List.length_reverse, h1], rev_sym h2, by rw [image_mir hr h2, h3]⟩) (fun x _ y _ e => by have := congrArg List.reverse e; simpa using this)
  refine Nat.le_antisymm ?_ (key hr)
  have := key (t := mir k r t) (w := w.reverse) (mir_rule hr)
  rwa [mir_mir hr, List.reverse_reverse] at this
theorem words_ren {k r : Nat} {t w p : List Nat} (hr : IsRule k r t) (hp : IsNames k p) (hw : ∀ x ∈ w, x < k) : (preL k r (renT k r t p) (nam p w)).length = (preL k r t w).length := by
  have key : ∀ {t w p : List Nat}, IsRule k r t → IsNames k p → (∀ x ∈ w, x < k) → (preL k r t w).length ≤ (preL k r (renT k r t p) (nam p w)).length := fun {t w p} hr hp _ =>
    pre_le hr.k1 (nam p) (fun s hs => by
      obtain ⟨h1, h2, h3⟩ := mem_preL.1 hs
      exact mem_preL.2 ⟨by rw [nam_len, nam_len, h1], nam_sym hp h2, by rw [image_ren hr hp h2, h3]⟩) (fun x hx y hy e => by
        have h1 := (mem_preL.1 hx).2.1
        have h2 := (mem_preL.1 hy).2.1
        rw [← old_nam hp h1, ← old_nam hp h2, e])
  refine Nat.le_antisymm ?_ (key hr hp hw)
  have h := key (t := renT k r t p) (w := nam p w) (p := inv k p) (renT_rule hr hp) (inv_names hp) (nam_sym hp hw)
  have e : nam (inv k p) (nam p w) = w := by
    have h1 : nam (inv k p) (nam p w) = old p (nam p w) := by
      unfold nam old
      rw [List.map_map, List.map_map]
      refine List.map_congr_left fun x hx => ?_
      exact inv_at (at_pos hp (hw x hx)).1
    rw [h1, old_nam hp hw]
  rwa [ren_back hr hp, e] at h

/-- A window's symbol is a place's. -/
def fitP (t w : List Nat) : Nat → Nat → Bool := fun i x => decide (t.getD x 0 = w.getD i 0)
/-- A window's symbol is its middle. -/
def fixP (k r : Nat) (t : List Nat) : Nat → Nat → Bool := fun _ x => decide (t.getD x 0 = x / k ^ r % k)
theorem middle {k r : Nat} {v : List Nat} (hl : v.length = 2 * r + 1) (hs : ∀ x ∈ v, x < k) : wval k v / k ^ r % k = v.getD r 0 := by
  have h1 : r < v.length := by omega
  have e : v = v.take r ++ ([v.getD r 0] ++ v.drop (r + 1)) := by
    conv => lhs; rw [← List.take_append_drop r v]
    congr 1
    rw [List.drop_eq_getElem_cons h1, List.getD_eq_getElem?_getD, List.getElem?_eq_getElem h1]
    rfl
  have hk : 0 < k := Nat.lt_of_le_of_lt (Nat.zero_le _) (hs _ (List.getElem_mem h1))
  have hb : ∀ x ∈ v.drop (r + 1), x < k := fun x hx => hs x (List.mem_of_mem_drop hx)
  have hbl : (v.drop (r + 1)).length = r := by rw [List.length_drop]; omega
  have hc : v.getD r 0 < k := getD_sym h1 hs
  have hlt := wval_lt hb
  rw [hbl] at hlt
  have e2 : wval k v = (wval k (v.take r) * k + v.getD r 0) * k ^ r + wval k (v.drop (r + 1)) := by
    conv => lhs; rw [e]
    rw [← List.append_assoc, wval_append, hbl, wval_append]
    simp [wval]
  rw [e2, Nat.mul_comm, Nat.mul_add_div (Nat.pow_pos hk), Nat.div_eq_of_lt hlt, Nat.add_zero, Nat.add_comm, Nat.add_mul_mod_self_right, Nat.mod_eq_of_lt hc]
/-- The ring read from its end. -/
def mirC (r : Nat) (s : List Nat) : List Nat := (List.range s.length).map fun (x : Nat) => cy s ((s.length : Int) - 1 - ((2 * r : Nat) : Int) - (x : Int))
theorem mirC_len (r : Nat) (s : List Nat) : (mirC r s).length = s.length := by simp [mirC]
theorem cy_mod (s : List Nat) (z : Int) : cy s (z % (s.length : Int)) = cy s z := by
  have := cy_add s z (-(z / (s.length : Int)))
  rw [← this]
  congr 1
  have := Int.emod_add_mul_ediv z (s.length : Int)
  rw [Int.mul_neg]
  omega
theorem cy_map {s : List Nat} {n : Nat} (hn : 0 < n) (f : Int → Nat) (hs : s = (List.range n).map fun (x : Nat) => f (x : Int)) (hf : ∀ z q : Int, f (z + (n : Int) * q) = f z) (z : Int) : cy s z = f z := by
  have hl : s.length = n := by rw [hs]; simp
  have h1 := Int.emod_nonneg z (show (n : Int) ≠ 0 by omega)
  have h2 := Int.emod_lt_of_pos z (show (0 : Int) < n by omega)
  rw [← cy_mod, hl]
  obtain ⟨x, hx⟩ : ∃ x : Nat, z % (n : Int) = (x : Int) := ⟨(z % (n : Int)).toNat, by omega⟩
  have hxn : x < n := by omega
  rw [hx, cy_at (by omega), hs, List.getD_eq_getElem?_getD, List.getElem?_map, List.getElem?_range hxn]
  show f (x : Int) = f z
  rw [← hx]
  have := hf (z % (n : Int)) (z / (n : Int))
  rw [Int.emod_add_mul_ediv] at this
  exact this.symm
theorem cy_mir {r : Nat} {s : List Nat} (h0 : s ≠ []) (z : Int) : cy (mirC r s) z = cy s ((s.length : Int) - 1 - ((2 * r : Nat) : Int) - z) := by
  have hl : 0 < s.length := List.length_pos_iff.2 h0
  refine cy_map hl (fun z => cy s ((s.length : Int) - 1 - ((2 * r : Nat) : Int) - z)) rfl (fun z q => ?_) z
  have := cy_add s ((s.length : Int) - 1 - ((2 * r : Nat) : Int) - z) (-q)
  rw [← this]
  congr 1
  rw [Int.mul_neg]
  omega
theorem mirC_mirC {r : Nat} {s : List Nat} (h0 : s ≠ []) : mirC r (mirC r s) = s := by
  have h1 : mirC r s ≠ [] := fun e => by have := mirC_len r s; rw [e] at this; exact h0 (List.eq_nil_of_length_eq_zero this.symm)
  refine cy_ext (by rw [mirC_len, mirC_len]) fun z => ?_
  rw [cy_mir h1, cy_mir h0, mirC_len]
  congr 1
  omega
theorem winC_mir {r : Nat} {s : List Nat} (h0 : s ≠ []) (i : Nat) : winC (mirC r s) (2 * r + 1) ((i : Int) - ((2 * r : Nat) : Int)) = (winC s (2 * r + 1) ((s.length : Int) - 1 - (i : Int) - ((2 * r : Nat) : Int))).reverse := by
  apply List.ext_getElem?
  intro j
  rcases Nat.lt_or_ge j (2 * r + 1) with hj | hj
  · rw [List.getElem?_reverse (by rw [winC_len]; exact hj), winC_len]
    unfold winC
    rw [List.getElem?_map, List.getElem?_range hj, List.getElem?_map, List.getElem?_range (by omega)]
    simp only [Option.map_some]
    rw [cy_mir h0]
    congr 2
    omega
  · rw [List.getElem?_eq_none (by rw [winC_len]; exact hj), List.getElem?_eq_none (by rw [List.length_reverse, winC_len]; exact hj)]
theorem mirC_in {k r n : Nat} {t w s : List Nat} (hr : IsRule k r t) (hn : 0 < n) (hw : w.length = n) (h : s ∈ ringL k r n (fitP t w)) : mirC r s ∈ ringL k r n (fitP (mir k r t) w.reverse) := by
  obtain ⟨h1, h2, h3⟩ := mem_ringL.1 h
  have h0 : s ≠ [] := fun e => by subst e; simp at h1; omega
  refine mem_ringL.2 ⟨by rw [mirC_len]; exact h1, fun x hx => ?_, fun j hj => ?_⟩
  · obtain ⟨y, _, rfl⟩ := List.mem_map.1 hx
    exact cy_lt h2 h0 _
  · have hh := h3 (n - 1 - j) (by omega)
    unfold fitP at hh ⊢
    rw [winC_mir h0, h1]
    rw [show ((n - 1 - j : Nat) : Int) = (n : Int) - 1 - (j : Int) by omega] at hh
    have hwl := winC_len s (2 * r + 1) ((n : Int) - 1 - (j : Int) - ((2 * r : Nat) : Int))
    have hws := winC_sym (k := k) h2 h0 (2 * r + 1) ((n : Int) - 1 - (j : Int) - ((2 * r : Nat) : Int))
    have e := sy_tab (f := fun v => sy k t v.reverse) hr.k1 (n := 2 * r + 1) (v := (winC s (2 * r + 1) ((n : Int) - 1 - (j : Int) - ((2 * r : Nat) : Int))).reverse) (by rw [List.length_reverse]; exact hwl) (rev_sym hws)
    rw [List.reverse_reverse] at e
    have e' : (mir k r t).getD (wval k (winC s (2 * r + 1) ((n : Int) - 1 - (j : Int) - ((2 * r : Nat) : Int))).reverse) 0 = t.getD (wval k (winC s (2 * r + 1) ((n : Int) - 1 - (j : Int) - ((2 * r : Nat) : Int)))) 0 := e
    rw [e', of_decide_eq_true hh]
    refine decide_eq_true ?_
    rw [List.getD_eq_getElem?_getD, List.getD_eq_getElem?_getD, List.getElem?_reverse (by omega), hw]
theorem rings_mir {k r n : Nat} {t w : List Nat} (hr : IsRule k r t) (hn : 0 < n) (hw : w.length = n) : (ringL k r n (fitP (mir k r t) w.reverse)).length = (ringL k r n (fitP t w)).length := by
  have hb : ∀ s ∈ ringL k r n (fitP (mir k r t) w.reverse), mirC r s ∈ ringL k r n (fitP t w) := fun s hs => by
    have := mirC_in (mir_rule hr) hn (by rw [List.length_reverse]; exact hw) hs
    rwa [mir_mir hr, List.reverse_reverse] at this
  have hne : ∀ {p : Nat → Nat → Bool}, ∀ s ∈ ringL k r n p, s ≠ [] := fun s hs e => by
    have := (mem_ringL.1 hs).1
    subst e
    simp at this
    omega
  exact rings_same hr.k1 (mirC r) (mirC r) hb (fun s hs => mirC_in hr hn hw hs) (fun s hs => mirC_mirC (hne s hs)) (fun s hs => mirC_mirC (hne s hs))
theorem fixC_in {k r n : Nat} {t s : List Nat} (hr : IsRule k r t) (hn : 0 < n) (h : s ∈ ringL k r n (fixP k r t)) : mirC r s ∈ ringL k r n (fixP k r (mir k r t)) := by
  obtain ⟨h1, h2, h3⟩ := mem_ringL.1 h
  have h0 : s ≠ [] := fun e => by subst e; simp at h1; omega
  refine mem_ringL.2 ⟨by rw [mirC_len]; exact h1, fun x hx => ?_, fun j hj => ?_⟩
  · obtain ⟨y, _, rfl⟩ := List.mem_map.1 hx
    exact cy_lt h2 h0 _
  · have hh := h3 (n - 1 - j) (by omega)
    unfold fixP at hh ⊢
    rw [winC_mir h0, h1]
    rw [show ((n - 1 - j : Nat) : Int) = (n : Int) - 1 - (j : Int) by omega] at hh
    have hwl := winC_len s (2 * r + 1) ((n : Int) - 1 - (j : Int) - ((2 * r : Nat) : Int))
    have hws := winC_sym (k := k) h2 h0 (2 * r + 1) ((n : Int) - 1 - (j : Int) - ((2 * r : Nat) : Int))
    obtain ⟨v, hv⟩ : ∃ v, winC s (2 * r + 1) ((n : Int) - 1 - (j : Int) - ((2 * r : Nat) : Int)) = v := ⟨_, rfl⟩
    rw [hv] at hh hwl hws ⊢
    have e := sy_tab (f := fun v => sy k t v.reverse) hr.k1 (n := 2 * r + 1) (v := v.reverse) (by rw [List.length_reverse]; exact hwl) (rev_sym hws)
    rw [List.reverse_reverse] at e
    have e' : (mir k r t).getD (wval k v.reverse) 0 = t.getD (wval k v) 0 := e
    have hh := of_decide_eq_true hh
    rw [middle hwl hws] at hh
    rw [e', hh, middle (by rw [List.length_reverse]; exact hwl) (rev_sym hws)]
    refine decide_eq_true ?_
    rw [List.getD_eq_getElem?_getD, List.getD_eq_getElem?_getD, List.getElem?_reverse (by omega), hwl, show 2 * r + 1 - 1 - r = r by omega]
theorem fixed_mir {k r n : Nat} {t : List Nat} (hr : IsRule k r t) (hn : 0 < n) : (ringL k r n (fixP k r (mir k r t))).length = (ringL k r n (fixP k r t)).length := by
  have hb : ∀ s ∈ ringL k r n (fixP k r (mir k r t)), mirC r s ∈ ringL k r n (fixP k r t) := fun s hs => by
    have := fixC_in (mir_rule hr) hn hs
    rwa [mir_mir hr] at this
  have hne : ∀ {p : Nat → Nat → Bool}, ∀ s ∈ ringL k r n p, s ≠ [] := fun s hs e => by
    have := (mem_ringL.1 hs).1
    subst e
    simp at this
    omega
  exact rings_same hr.k1 (mirC r) (mirC r) hb (fun s hs => fixC_in hr hn hs) (fun s hs => mirC_mirC (hne s hs)) (fun s hs => mirC_mirC (hne s hs))
/-! ### other names -/
theorem nam_get {p s : List Nat} {i : Nat} (h : i < s.length) : (nam p s).getD i 0 = p.getD (s.getD i 0) 0 := by
  unfold nam
  rw [List.getD_eq_getElem?_getD, List.getElem?_map, List.getD_eq_getElem?_getD (l := s), List.getElem?_eq_getElem h]
  rfl
theorem cy_nam {p s : List Nat} (h0 : s ≠ []) (z : Int) : cy (nam p s) z = p.getD (cy s z) 0 := by
  have hl : 0 < s.length := List.length_pos_iff.2 h0
  have h1 := Int.emod_nonneg z (show (s.length : Int) ≠ 0 by omega)
  have h2 := Int.emod_lt_of_pos z (show (0 : Int) < s.length by omega)
  unfold cy
  rw [nam_len]
  exact nam_get (by omega)
theorem winC_nam {p s : List Nat} (h0 : s ≠ []) (m : Nat) (z : Int) : winC (nam p s) m z = nam p (winC s m z) := by
  unfold winC nam
  rw [List.map_map]
  refine List.map_congr_left fun j _ => ?_
  exact cy_nam h0 _
theorem renC_in {k r n : Nat} {t w s p : List Nat} (hr : IsRule k r t) (hp : IsNames k p) (hn : 0 < n) (hw : w.length = n) (h : s ∈ ringL k r n (fitP t w)) : nam p s ∈ ringL k r n (fitP (renT k r t p) (nam p w)) := by
  obtain ⟨h1, h2, h3⟩ := mem_ringL.1 h
  have h0 : s ≠ [] := fun e => by subst e; simp at h1; omega
  refine mem_ringL.2 ⟨by rw [nam_len]; exact h1, nam_sym hp h2, fun j hj => ?_⟩
  have hh := h3 j hj
  unfold fitP at hh ⊢
  rw [winC_nam h0]
  have e := sy_ren hr hp (winC_len s (2 * r + 1) ((j : Int) - ((2 * r : Nat) : Int))) (winC_sym h2 h0 _ _)
  have hh := of_decide_eq_true hh
  unfold sy at e
  rw [e, hh, nam_get (by omega)]
  exact decide_eq_true rfl
theorem renF_in {k r n : Nat} {t s p : List Nat} (hr : IsRule k r t) (hp : IsNames k p) (hn : 0 < n) (h : s ∈ ringL k r n (fixP k r t)) : nam p s ∈ ringL k r n (fixP k r (renT k r t p)) := by
  obtain ⟨h1, h2, h3⟩ := mem_ringL.1 h
  have h0 : s ≠ [] := fun e => by subst e; simp at h1; omega
  refine mem_ringL.2 ⟨by rw [nam_len]; exact h1, nam_sym hp h2, fun j hj => ?_⟩
  have hh := h3 j hj
  unfold fixP at hh ⊢
  rw [winC_nam h0]
  have hwl := winC_len s (2 * r + 1) ((j : Int) - ((2 * r : Nat) : Int))
  have hws := winC_sym (k := k) h2 h0 (2 * r + 1) ((j : Int) - ((2 * r : Nat) : Int))
  have e := sy_ren hr hp hwl hws
  have hh := of_decide_eq_true hh
  rw [middle hwl hws] at hh
  unfold sy at e
  rw [e, hh, middle (by rw [nam_len]; exact hwl) (nam_sym hp hws), nam_get (by omega)]
  exact decide_eq_true rfl
theorem nam_inv {k : Nat} {p w : List Nat} (hp : IsNames k p) (hw : ∀ x ∈ w, x < k) : nam (inv k p) (nam p w) = w := by
  have h1 : nam (inv k p) (nam p w) = old p (nam p w) := by
    unfold nam old
    rw [List.map_map, List.map_map]
    refine List.map_congr_left fun x hx => ?_
    exact inv_at (at_pos hp (hw x hx)).1
  rw [h1, old_nam hp hw]
theorem inv_nam {k : Nat} {p w : List Nat} (hp : IsNames k p) (hw : ∀ x ∈ w, x < k) : nam p (nam (inv k p) w) = w := by
  have h1 : nam (inv k p) w = old p w := List.map_congr_left fun x hx => inv_at (hw x hx)
  rw [h1, nam_old hp hw]
theorem rings_ren {k r n : Nat} {t w p : List Nat} (hr : IsRule k r t) (hp : IsNames k p) (hn : 0 < n) (hw : w.length = n) (hws : ∀ x ∈ w, x < k) : (ringL k r n (fitP (renT k r t p) (nam p w))).length = (ringL k r n (fitP t w)).length :=
  rings_same hr.k1 (nam (inv k p)) (nam p) (fun s hs => by
      have := renC_in (renT_rule hr hp) (inv_names hp) hn (by rw [nam_len]; exact hw) hs
      rwa [ren_back hr hp, nam_inv hp hws] at this)
    (fun s hs => renC_in hr hp hn hw hs) (fun s hs => inv_nam hp (mem_ringL.1 hs).2.1) (fun s hs => nam_inv hp (mem_ringL.1 hs).2.1)
theorem fixed_ren {k r n : Nat} {t p : List Nat} (hr : IsRule k r t) (hp : IsNames k p) (hn : 0 < n) : (ringL k r n (fixP k r (renT k r t p))).length = (ringL k r n (fixP k r t)).length :=
  rings_same hr.k1 (nam (inv k p)) (nam p) (fun s hs => by
      have := renF_in (renT_rule hr hp) (inv_names hp) hn hs
      rwa [ren_back hr hp] at this)
    (fun s hs => renF_in hr hp hn hs) (fun s hs => inv_nam hp (mem_ringL.1 hs).2.1) (fun s hs => nam_inv hp (mem_ringL.1 hs).2.1)
end RuleP
end Go.Proofs.YtibplgpolmplpaaGreatDoor

namespace Go.Proofs.YtibplgpolmplpaaGreatDoor
namespace RuleP

/-- Are the symbols of the windows that differ at one place alone all unlike? -/
def permB (k : Nat) (t : List Nat) (weight : Nat) : Bool := (List.range t.length).all fun i => i / weight % k != 0 || (List.range k).all fun c => (List.range k).any fun s => t.getD (i + s * weight) 0 == c
theorem permB_at {k : Nat} {t : List Nat} {weight : Nat} (h : permB k t weight = true) {i : Nat} (hi : i < t.length) (hz : i / weight % k = 0) {c : Nat} (hc : c < k) : ∃ s, s < k ∧ t.getD (i + s * weight) 0 = c := by
  unfold permB at h
  rw [List.all_eq_true] at h
  have h1 := h i (List.mem_range.2 hi)
  rw [Bool.or_eq_true] at h1
  rcases h1 with h1 | h1
  · rw [hz] at h1; simp at h1
  · rw [List.all_eq_true] at h1
    have h2 := h1 c (List.mem_range.2 hc)
    rw [List.any_eq_true] at h2
    obtain ⟨s, hs, e⟩ := h2
    exact ⟨s, List.mem_range.1 hs, by simpa using e⟩
theorem sum_le {f : Nat → Nat} : ∀ {n : Nat}, (∀ i, i < n → f i ≤ 1) → ((List.range n).map f).sum ≤ n
  | 0, _ => by simp
  | n + 1, h => by
    rw [List.range_succ, List.map_append, List.sum_append]
    have := sum_le (n := n) fun i hi => h i (by omega)
    have := h n (by omega)
    simp
    omega
theorem sum_ge {f : Nat → Nat} : ∀ {n : Nat}, (∀ i, i < n → 1 ≤ f i) → n ≤ ((List.range n).map f).sum ∧ ∀ j, j < n → 2 ≤ f j → n + 1 ≤ ((List.range n).map f).sum
  | 0, _ => ⟨Nat.zero_le _, fun j hj => by omega⟩
  | n + 1, h => by
    obtain ⟨h1, h2⟩ := sum_ge (n := n) fun i hi => h i (by omega)
    have h3 := h n (by omega)
    rw [List.range_succ, List.map_append, List.sum_append]
    have e : ([n].map f).sum = f n := by simp
    rw [e]
    refine ⟨by omega, fun j hj hf => ?_⟩
    rcases Nat.lt_or_ge j n with hjn | hjn
    · have := h2 j hjn hf; omega
    · obtain rfl : j = n := by omega
      omega
/-- Where each of k answers is given, each is given once. -/
theorem hit_once {k : Nat} (f : Nat → Nat) (h : ∀ c, c < k → ∃ s, s < k ∧ f s = c) {c : Nat} (hc : c < k) : ((List.range k).map fun s => if f s = c then 1 else 0).sum = 1 := by
  have hge : ∀ c, c < k → 1 ≤ ((List.range k).map fun s => if f s = c then 1 else 0).sum := fun c hc => by
    obtain ⟨s, hs, e⟩ := h c hc
    have : ∀ (l : List Nat), s ∈ l → 1 ≤ (l.map fun s => if f s = c then 1 else 0).sum := by
      intro l
      induction l with
      | nil => intro hm; simp at hm
      | cons x l ih =>
        intro hm
        rw [List.map_cons, List.sum_cons]
        rcases List.mem_cons.1 hm with rfl | hm
        · rw [if_pos e]; omega
        · have := ih hm; omega
    exact this _ (List.mem_range.2 hs)
  have hsum : ((List.range k).map fun c => ((List.range k).map fun s => if f s = c then 1 else 0).sum).sum ≤ k := by
    rw [sum_swap]
    refine sum_le fun s hs => ?_
    by_cases hfs : f s < k
    · rw [sum_one (N := k) (h := f s) 1 hfs (fun c => if f s = c then 1 else 0) (fun c _ => by
        by_cases e : f s = c
        · rw [if_pos e, if_pos e.symm]
        · rw [if_neg e, if_neg (fun e' => e e'.symm)])]
      exact Nat.le_refl _
    · refine Nat.le_trans (Nat.le_of_eq ?_) (Nat.zero_le 1)
      refine Eq.trans ?_ (sum_nil0 (List.range k))
      congr 1
      refine List.map_congr_left fun c hc => ?_
      have := List.mem_range.1 hc
      rw [if_neg (by omega)]
  obtain ⟨_, h2⟩ := sum_ge (f := fun c => ((List.range k).map fun s => if f s = c then 1 else 0).sum) (n := k) hge
  have h3 := hge c hc
  rcases Nat.lt_or_ge 1 (((List.range k).map fun s => if f s = c then 1 else 0).sum) with h4 | h4
  · have := h2 c hc h4; omega
  · omega
theorem sols_one {k N : Nat} {t : List Nat} (hk : 0 < k) (hN : 0 < N) (hl : t.length = N * k) (h : permB k t 1 = true) : ∀ {w : List Nat} {u : Nat}, u < N → (∀ x ∈ w, x < k) → (sols k N t u w).length = 1
  | [], _, _, _ => by simp [sols]
  | c :: w, u, hu, hw => by
    rw [sols_sum]
    have e : ((List.range k).map fun s => if t.getD (u * k + s) 0 = c then (sols k N t ((u * k + s) % N) w).length else 0) = (List.range k).map fun s => if t.getD (u * k + s) 0 = c then 1 else 0 := by
      refine List.map_congr_left fun s _ => ?_
      rw [sols_one hk hN hl h (Nat.mod_lt _ hN) fun x hx => hw x (List.mem_cons_of_mem _ hx)]
    rw [e]
    refine hit_once (fun s => t.getD (u * k + s) 0) (fun c hc => ?_) (hw c (List.mem_cons_self ..))
    have h1 : u * k < t.length := by
      rw [hl]
      exact Nat.mul_lt_mul_of_pos_right hu hk
    obtain ⟨s, hs, e⟩ := permB_at h h1 (by rw [Nat.div_one, Nat.mul_mod_left]) hc
    exact ⟨s, hs, by rwa [Nat.mul_one] at e⟩
theorem sum_const {n : Nat} {f : Nat → Nat} (h : ∀ i, i < n → f i = 1) : ((List.range n).map f).sum = n := by
  have e : (List.range n).map f = (List.range n).map fun _ => 1 := List.map_congr_left fun i hi => h i (List.mem_range.1 hi)
  rw [e, List.map_const', List.sum_replicate_nat]
  simp
theorem before_one {k r : Nat} {t w : List Nat} (hr : IsRule k r t) (h : permB k t 1 = true) (hw : ∀ x ∈ w, x < k) : (before k r t w).length = k ^ (2 * r) := by
  have hN : 0 < k ^ (2 * r) := Nat.pow_pos hr.k1
  unfold before befTo
  rw [List.length_flatMap]
  refine sum_const fun u hu => ?_
  rw [List.length_map]
  exact sols_one hr.k1 hN (by rw [hr.len, Nat.pow_succ]) h hu hw
theorem perm_mir {k r : Nat} {t : List Nat} (hr : IsRule k r t) (h : permB k t (k ^ (2 * r)) = true) : permB k (mir k r t) 1 = true := by
  have hk := hr.k1
  have hN : 0 < k ^ (2 * r) := Nat.pow_pos hk
  unfold permB
  rw [List.all_eq_true]
  intro i hi
  have hi := List.mem_range.1 hi
  rw [(mir_rule hr).len] at hi
  rw [Bool.or_eq_true]
  by_cases hz : i % k = 0
  · refine .inr ?_
    rw [List.all_eq_true]
    intro c hc
    have hc := List.mem_range.1 hc
    rw [List.any_eq_true]
    have hu : i / k < k ^ (2 * r) := by
      rw [Nat.pow_succ] at hi
      exact Nat.div_lt_of_lt_mul (by rw [Nat.mul_comm]; exact hi)
    obtain ⟨v, hv⟩ : ∃ v, digB k (2 * r) (i / k) = v := ⟨_, rfl⟩
    have hvl : v.length = 2 * r := by rw [← hv]; exact digB_len _ _ _
    have hvs : ∀ x ∈ v, x < k := by rw [← hv]; exact digB_sym hk _ _
    have hvw : wval k v = i / k := by rw [← hv]; exact dig_wval hk hu
    have hj : wval k v.reverse < k ^ (2 * r) := by
      have := wval_lt (rev_sym hvs)
      rwa [List.length_reverse, hvl] at this
    obtain ⟨s, hs, e⟩ := permB_at h (i := wval k v.reverse) (by
      rw [hr.len, Nat.pow_succ]
      exact Nat.lt_of_lt_of_le hj (Nat.le_mul_of_pos_right _ hk)) (by rw [Nat.div_eq_of_lt hj, Nat.zero_mod]) hc
    refine ⟨s, List.mem_range.2 hs, ?_⟩
    have hsy := sy_tab (f := fun v => sy k t v.reverse) hk (n := 2 * r + 1) (v := v ++ [s]) (by simp [hvl]) (fun x hx => by
      rcases List.mem_append.1 hx with h | h
      · exact hvs x h
      · rw [List.mem_singleton.1 h]; exact hs)
    have e1 : wval k (v ++ [s]) = i + s * 1 := by
      rw [wval_snoc, hvw]
      have := Nat.div_add_mod i k
      rw [hz, Nat.mul_comm] at this
      omega
    have e2 : wval k (v ++ [s]).reverse = wval k v.reverse + s * k ^ (2 * r) := by
      rw [List.reverse_append, List.reverse_singleton, wval_append, List.length_reverse, hvl, Nat.add_comm]
      simp [wval]
    have e3 : (mir k r t).getD (wval k (v ++ [s])) 0 = t.getD (wval k (v ++ [s]).reverse) 0 := hsy
    rw [e1, e2, e] at e3
    rw [e3]
    simp
  · refine .inl ?_
    rw [Nat.div_one]
    simp [hz]
theorem nodup_flat {α β : Type} {f : α → List β} : ∀ {l : List α}, l.Nodup → (∀ x ∈ l, (f x).Nodup) → (∀ x ∈ l, ∀ y ∈ l, ∀ z, z ∈ f x → z ∈ f y → x = y) → (l.flatMap f).Nodup
  | [], _, _, _ => List.nodup_nil
  | x :: l, h, h1, h2 => by
    rw [List.nodup_cons] at h
    rw [List.flatMap_cons, List.nodup_append]
    refine ⟨h1 x (List.mem_cons_self ..), nodup_flat h.2 (fun y hy => h1 y (List.mem_cons_of_mem _ hy)) (fun y hy z hz => h2 y (List.mem_cons_of_mem _ hy) z (List.mem_cons_of_mem _ hz)), fun a ha b hb e => ?_⟩
    subst e
    obtain ⟨y, hy, hay⟩ := List.mem_flatMap.1 hb
    have := h2 x (List.mem_cons_self ..) y (List.mem_cons_of_mem _ hy) a ha hay
    exact h.1 (by rw [this]; exact hy)
theorem nodup_mapc {α β : Type} {f : α → β} (hf : ∀ x y, f x = f y → x = y) {l : List α} (h : l.Nodup) : (l.map f).Nodup := by
  rw [List.nodup_iff_pairwise_ne, List.pairwise_map]
  exact h.imp fun hne e => hne (hf _ _ e)
theorem sols_nodup {k N : Nat} {t : List Nat} : ∀ (w : List Nat) (u : Nat), (sols k N t u w).Nodup
  | [], _ => by simp [sols]
  | c :: w, u => by
    simp only [sols]
    refine nodup_flat List.nodup_range (fun s _ => ?_) (fun x _ y _ z hx hy => ?_)
    · split
      · exact nodup_mapc (fun a b e => by injection e) (sols_nodup w _)
      · exact List.nodup_nil
    · split at hx
      · split at hy
        · obtain ⟨a, _, rfl⟩ := List.mem_map.1 hx
          obtain ⟨b, _, e⟩ := List.mem_map.1 hy
          injection e with e _
          exact e.symm
        · simp at hy
      · simp at hx
theorem before_nodup {k r : Nat} (hk : 0 < k) (t w : List Nat) : (before k r t w).Nodup := by
  unfold before befTo
  refine nodup_flat List.nodup_range (fun u _ => nodup_mapc (fun a b e => List.append_cancel_left e) (sols_nodup w u)) (fun x hx y hy z h1 h2 => ?_)
  have hx := List.mem_range.1 hx
  have hy := List.mem_range.1 hy
  obtain ⟨a, _, rfl⟩ := List.mem_map.1 h1
  obtain ⟨b, _, e⟩ := List.mem_map.1 h2
  have e1 := congrArg (List.take (2 * r)) e
  rw [List.take_append_of_le_length (by rw [digB_len]; exact Nat.le_refl _), List.take_append_of_le_length (by rw [digB_len]; exact Nat.le_refl _), List.take_of_length_le (by rw [digB_len]; exact Nat.le_refl _), List.take_of_length_le (by rw [digB_len]; exact Nat.le_refl _)] at e1
  rw [← dig_wval hk hx, ← dig_wval hk hy, e1]
theorem before_pre {k r : Nat} (hk : 0 < k) {t w : List Nat} : (before k r t w).length = (preL k r t w).length := before_len hk (before_nodup hk t w)
/-- A permuting end: the fair share. -/
theorem words_perm {k r : Nat} {t w : List Nat} (hr : IsRule k r t) (h : permB k t 1 = true ∨ permB k t (k ^ (2 * r)) = true) (hw : ∀ x ∈ w, x < k) : (preL k r t w).length = k ^ (2 * r) := by
  rcases h with h | h
  · rw [← before_pre hr.k1]
    exact before_one hr h hw
  · rw [← words_mir hr, ← before_pre hr.k1]
    exact before_one (mir_rule hr) (perm_mir hr h) (rev_sym hw)
end RuleP
end Go.Proofs.YtibplgpolmplpaaGreatDoor

namespace Go.Proofs.YtibplgpolmplpaaGreatDoor
open Go.RowKit RuleP

def sCount : ByteArray := ⟨#[99, 111, 117, 110, 116]⟩
theorem cntWrong_c (w : World) (E : Nat → Addr) (hE : Errs w E) (at' : Int) (n : Nat) (h1 : 1 ≤ n) (h2 : n ≤ 11) :
    Calls Tryz.prog 50 #[.int .i64 at', .int .i64 (n : Int)] w fun e w' => e = .returned (errV w.heap.size) ∧ ErrIs w' E n [(sCount, at')] (errV w.heap.size) ∧ Below w.heap.size w w' := by
  have HE := Lib.hid hE
  clear hE
  go_enter Tryz.func50, Tryz.ntmps50
  go_wp2_with fail
  refine (new_c w E HE.out sCount at' n h1 h2).mono ?_
  rintro e w' ⟨rfl, rfl⟩
  go_wp2_with fail
  go_ret
  exact ⟨rfl, ⟨w.heap.size, _, rfl, heap_new _ _, rfl⟩, (Below.refl _ _).alloc (Nat.le_refl _) _⟩
/-- What count tells of a rule that is no small one. -/
def smallC (K R : Int) (T : List Int) : Option Tale := under sCount 0 (small K R T)
theorem smallC_none {K R : Int} {T : List Int} (h : smallC K R T = none) : ∃ (k r : Nat) (t : List Nat), K = (k : Int) ∧ R = (r : Int) ∧ T = ints t ∧ IsRule k r t ∧ t.length ≤ 256 := by
  have hs : small K R T = none := by
    unfold smallC under at h
    split at h
    · assumption
    · cases h
  exact smallO_none (by unfold smallO; rw [hs]; rfl)
theorem smallC_rule {k r : Nat} {t : List Nat} (h : IsRule k r t) (hl : t.length ≤ 256) : smallC k r (ints t) = none := by
  unfold smallC
  rw [small_rule h hl]
  rfl
set_option maxRecDepth 100000 in
theorem cntSmall_c (w : World) (E : Nat → Addr) (hE : Errs w E) (K R : Int) (A : Option Addr) (n c : Nat) (T : List Int) (hT : Sl w A n (T.map (Value.int .i64))) (hm : n ≤ 9223372036854775807) :
    Calls Tryz.prog 38 #[ruleV K R A n c] w fun e w' => ∃ v, e = .returned v ∧ ErrV w' E (smallC K R T) v ∧ Below w.heap.size w w' := by
  have hb0 := (Below.refl w.heap.size w).alloc (Nat.le_refl _) (.cells #[.int .i64 K, .int .i64 R, .slice A n c] 24)
  have hr0 := RuleAt.new w (.int .i64 K) (.int .i64 R) (.slice A n c)
  obtain ⟨r0, r1, r2, _⟩ := hr0.facts
  have HS := Lib.hid (small_c _ E (hE.below hb0) K R A n c T (hT.below hb0) hm)
  have HB := Lib.hid hb0
  clear hb0 hr0 hT hE
  unfold ruleV at *
  go_enter Tryz.func38, Tryz.ntmps38
  go_wp2_with fail
  refine (HS.out).mono ?_
  rintro e w1 ⟨v, rfl, he, hb⟩
  have HU := Lib.hid (under_c w1 E sCount 0 _ v he)
  have HB1 := Lib.hid (below_box hb)
  clear he hb
  go_wp2_with fail
  refine (HU.out).mono ?_
  rintro e w2 ⟨v', rfl, he, hb⟩
  have HE := Lib.hid he
  have HB2 := Lib.hid (HB1.out.trans (hb.mono HB1.out.size))
  clear he hb
  go_wp2_with fail
  go_ret
  exact ⟨_, rfl, HE.out, HB2.out⟩
set_option maxHeartbeats 400000 in
theorem cntOddF_c (w : World) (x k : Int) (b : Nat) (hb : w.cell? ⟨b, 0, none⟩ = some (.int .i64 k)) :
    Calls Tryz.prog 88 #[.int .i64 x, .pointer (some ⟨b, 0, none⟩)] w fun e w' => e = .returned (.bool (decide (x < 0 ∨ k ≤ x))) ∧ w = w' := by
  by_cases h : x < 0
  · have h1 : decide (x < 0) = true := decide_eq_true h
    have hd : Hid (decide (x < 0 ∨ k ≤ x) = true) := Lib.hid (decide_eq_true (.inl h))
    go_enter Tryz.func88, Tryz.ntmps88
    go_wp2_with fail
    go_ret
    exact ⟨by first | rfl | (rw [hd.out]; rfl), rfl⟩
  · have h1 : decide (x < 0) = false := decide_eq_false h
    have hd : Hid (decide (x < 0 ∨ k ≤ x) = decide (k ≤ x)) := Lib.hid (by simp [h])
    go_enter Tryz.func88, Tryz.ntmps88
    go_wp2_with fail
    go_ret
    exact ⟨by first | rfl | (rw [hd.out]; rfl), rfl⟩
/-- What count tells of a word of at most so many symbols. -/
def symT (K : Int) (W : List Int) (most : Nat) : Option Tale := if most < W.length then some (4, [(sCount, 1)]) else match odd K W with
    | some i => some (2, [(sCount, (i : Int))])
    | none => none
theorem symT_none {k : Nat} {W : List Int} {most : Nat} (h : symT (k : Int) W most = none) : ∃ v, W = ints v ∧ v.length ≤ most ∧ ∀ x ∈ v, x < k := by
  unfold symT at h
  split at h
  · cases h
  · rename_i hm
    split at h
    · cases h
    · rename_i ho
      obtain ⟨v, rfl, hv⟩ := odd_nat ho
      exact ⟨v, rfl, by rw [ints_len] at hm; omega, hv⟩
theorem symT_good {k : Nat} {v : List Nat} {most : Nat} (hv : ∀ x ∈ v, x < k) (hm : v.length ≤ most) : symT (k : Int) (ints v) most = none := by
  unfold symT
  rw [if_neg (by rw [ints_len]; omega), odd_ints hv]
set_option maxRecDepth 100000 in
set_option maxHeartbeats 2000000 in
theorem cntSymbols_c (w : World) (E : Nat → Addr) (hE : Errs w E) (K : Int) (B : Option Addr) (m d most : Nat) (W : List Int) (hW : Sl w B m (W.map (Value.int .i64))) (hm2 : m ≤ 9223372036854775807) (_ : most ≤ 100000) :
    Calls Tryz.prog 39 #[.int .i64 K, .slice B m d, .int .i64 (most : Int)] w fun e w' => ∃ v, e = .returned v ∧ ErrV w' E (symT K W most) v ∧ Below w.heap.size w w' := by
  have hl : W.length = m := by simpa using hW.1
  have HL := Lib.hid hl
  have hb0 := (Below.refl w.heap.size w).alloc (Nat.le_refl _) (.cells #[.int .i64 K] 3)
  have hc0 : (w.alloc (.cells #[.int .i64 K] 3)).cell? ⟨w.heap.size, 0, none⟩ = some (.int .i64 K) := by rw [cell_of_row _ _ _ _ _ _ (heap_new _ _)]; rfl
  obtain ⟨wb, hwb⟩ : ∃ wb, w.alloc (.cells #[.int .i64 K] 3) = wb := ⟨_, rfl⟩
  rw [hwb] at hb0 hc0
  have HWB := Lib.hid hwb
  have HB := Lib.hid hb0
  have HE := Lib.hid hE
  have HW := Lib.hid hW
  have HC := Lib.hid hc0
  clear hb0 hE hW hl hc0 hwb
  by_cases hmm : most < m
  · have hs : Hid (symT K W most = some (4, [(sCount, 1)])) := Lib.hid (by unfold symT; rw [if_pos (by rw [HL.out]; exact hmm)])
    have HW1 := Lib.hid (cntWrong_c _ E (HE.out.below HB.out) 1 4 (by decide) (by decide))
    go_enter Tryz.func39, Tryz.ntmps39
    go_wp2_with fail
    rw [HWB.out]
    refine (HW1.out).mono ?_
    rintro e w2 ⟨rfl, he, hb2⟩
    have hP := ErrV.some he
    rw [← hs.out] at hP
    have HP := Lib.hid hP
    have HB2 := Lib.hid (HB.out.trans (hb2.mono HB.out.size))
    clear he hb2 hP
    go_wp2_with fail
    go_ret
    exact ⟨_, rfl, HP.out, HB2.out⟩
  · have hi := indexFunc_c wb 88 ⟨w.heap.size, 0, none⟩ (fun x => decide (x < 0 ∨ K ≤ x)) B m d W (HW.out.below HB.out) hm2
      (fun x wz => run_enter Tryz.func88 (by kernel_rfl) (by kernel_rfl) _ _) (fun x => cntOddF_c _ x K _ HC.out)
    change Calls _ _ _ _ (fun e w' => e = .returned (.int .i64 (place (odd K W))) ∧ _ = w') at hi
    have HI := Lib.hid hi
    clear hi
    go_enter Tryz.func39, Tryz.ntmps39
    go_wp2_with fail
    rw [HWB.out]
    refine (HI.out).mono ?_
    rintro e w2 ⟨rfl, rfl⟩
    cases hod : odd K W with
    | none =>
      have hs : Hid (symT K W most = none) := Lib.hid (by unfold symT; rw [if_neg (by rw [HL.out]; exact hmm), hod])
      have hpl : place none = -1 := rfl
      rw [hpl]
      clear hod hpl
      go_wp2_with fail
      go_ret
      exact ⟨_, rfl, by rw [hs.out]; rfl, HB.out⟩
    | some i =>
      have hs : Hid (symT K W most = some (2, [(sCount, (i : Int))])) := Lib.hid (by unfold symT; rw [if_neg (by rw [HL.out]; exact hmm), hod])
      have hpl : place (some i) = (i : Int) := rfl
      have hi0 : (0 : Int) ≤ (i : Int) := by omega
      rw [hpl]
      clear hod hpl
      have HW1 := Lib.hid (cntWrong_c _ E (HE.out.below HB.out) (i : Int) 2 (by decide) (by decide))
      go_wp2_with fail
      refine (HW1.out).mono ?_
      rintro e w2 ⟨rfl, he, hb2⟩
      have hP := ErrV.some he
      rw [← hs.out] at hP
      have HP := Lib.hid hP
      have HB2 := Lib.hid (HB.out.trans (hb2.mono HB.out.size))
      clear he hb2 hP
      go_wp2_with fail
      go_ret
      exact ⟨_, rfl, HP.out, HB2.out⟩

set_option maxRecDepth 100000 in
set_option maxHeartbeats 1000000 in
theorem fitsW_c (w : World) (rb wb k r n c m d : Nat) (A B : Option Addr) (t x : List Nat) (hr : RuleAt w rb (.int .i64 (k : Int)) (.int .i64 (r : Int)) (.slice A n c)) (hw : w.cell? ⟨wb, 0, none⟩ = some (.slice B m d)) (hT : Sl w A n ((ints t).map (Value.int .i64)))
    (hX : Sl w B m ((ints x).map (Value.int .i64))) (p q : Nat) (hp : p < m) (hq : q < n) :
    Calls Tryz.prog 91 #[.int .i64 (p : Int), .int .i64 (q : Int), .pointer (some ⟨rb, 0, none⟩), .pointer (some ⟨wb, 0, none⟩)] w fun e w' => e = .returned (.bool (fitP t x p q)) ∧ Below w.heap.size w w' := by
  obtain ⟨r0, r1, r2, _⟩ := hr.facts
  obtain ⟨aA, y, rfl, hy, hcy⟩ := hT.int_ hq
  obtain ⟨aB, z, rfl, hz, hcz⟩ := hX.int_ hp
  have hp' : (p : Int) < (m : Int) := by omega
  have hq' : (q : Int) < (n : Int) := by omega
  have hp0 : (0 : Int) ≤ (p : Int) := by omega
  have hq0 : (0 : Int) ≤ (q : Int) := by omega
  obtain ⟨y', hy', rfl⟩ : ∃ y' : Nat, t[q]? = some y' ∧ (y' : Int) = y := by
    rw [ints, List.getElem?_map] at hy
    cases h : t[q]? with
    | none => rw [h] at hy; cases hy
    | some v => rw [h] at hy; exact ⟨v, rfl, Option.some.inj hy⟩
  obtain ⟨z', hz', rfl⟩ : ∃ z' : Nat, x[p]? = some z' ∧ (z' : Int) = z := by
    rw [ints, List.getElem?_map] at hz
    cases h : x[p]? with
    | none => rw [h] at hz; cases hz
    | some v => rw [h] at hz; exact ⟨v, rfl, Option.some.inj hz⟩
  have HK : Hid (fitP t x p q = decide ((y' : Int) = (z' : Int))) := Lib.hid (by
    unfold fitP
    rw [List.getD_eq_getElem?_getD, List.getD_eq_getElem?_getD, hy', hz']
    simp
    omega)
  rw [HK.out]
  clear hr hT hX hy hz hy' hz'
  go_enter Tryz.func91, Tryz.ntmps91
  go_wp2_with (go_quiet (fail))
  go_ret
  exact ⟨rfl, below_drewN (Below.refl _ _) _⟩
set_option maxRecDepth 100000 in
set_option maxHeartbeats 1000000 in
theorem fitsR_c (w : World) (rb wb k r n c m d : Nat) (A B : Option Addr) (t x : List Nat) (hr : RuleAt w rb (.int .i64 (k : Int)) (.int .i64 (r : Int)) (.slice A n c)) (hw : w.cell? ⟨wb, 0, none⟩ = some (.slice B m d)) (hT : Sl w A n ((ints t).map (Value.int .i64)))
    (hX : Sl w B m ((ints x).map (Value.int .i64))) (p q : Nat) (hp : p < m) (hq : q < n) :
    Calls Tryz.prog 52 #[.int .i64 (p : Int), .int .i64 (q : Int), .pointer (some ⟨rb, 0, none⟩), .pointer (some ⟨wb, 0, none⟩)] w fun e w' => e = .returned (.bool (fitP t x p q)) ∧ Below w.heap.size w w' := by
  obtain ⟨r0, r1, r2, _⟩ := hr.facts
  obtain ⟨aA, y, rfl, hy, hcy⟩ := hT.int_ hq
  obtain ⟨aB, z, rfl, hz, hcz⟩ := hX.int_ hp
  have hp' : (p : Int) < (m : Int) := by omega
  have hq' : (q : Int) < (n : Int) := by omega
  have hp0 : (0 : Int) ≤ (p : Int) := by omega
  have hq0 : (0 : Int) ≤ (q : Int) := by omega
  obtain ⟨y', hy', rfl⟩ : ∃ y' : Nat, t[q]? = some y' ∧ (y' : Int) = y := by
    rw [ints, List.getElem?_map] at hy
    cases h : t[q]? with
    | none => rw [h] at hy; cases hy
    | some v => rw [h] at hy; exact ⟨v, rfl, Option.some.inj hy⟩
  obtain ⟨z', hz', rfl⟩ : ∃ z' : Nat, x[p]? = some z' ∧ (z' : Int) = z := by
    rw [ints, List.getElem?_map] at hz
    cases h : x[p]? with
    | none => rw [h] at hz; cases hz
    | some v => rw [h] at hz; exact ⟨v, rfl, Option.some.inj hz⟩
  have HK : Hid (fitP t x p q = decide ((y' : Int) = (z' : Int))) := Lib.hid (by
    unfold fitP
    rw [List.getD_eq_getElem?_getD, List.getD_eq_getElem?_getD, hy', hz']
    simp
    omega)
  rw [HK.out]
  clear hr hT hX hy hz hy' hz'
  go_enter Tryz.func52, Tryz.ntmps52
  go_wp2_with (go_quiet (fail))
  go_ret
  exact ⟨rfl, below_drewN (Below.refl _ _) _⟩
end Go.Proofs.YtibplgpolmplpaaGreatDoor

namespace Go.Proofs.YtibplgpolmplpaaGreatDoor
namespace RuleP
open NatP

theorem sumW_le {k N : Nat} (p : Nat → Bool) {V : List Nat} {B : Nat} (hV : ∀ u, V.getD u 0 ≤ B) (u : Nat) : ∀ s, sumW k N p V u s ≤ s * B
  | 0 => by rw [sumW_zero]; exact Nat.zero_le _
  | s + 1 => by
    rw [sumW_succ, Nat.succ_mul]
    refine Nat.add_le_add (sumW_le p hV u s) ?_
    split
    · exact hV _
    · exact Nat.zero_le _
theorem stepW_le {k N : Nat} (hk : 0 < k) (p : Nat → Bool) {V : List Nat} {B : Nat} (hV : ∀ u, V.getD u 0 ≤ B) {i : Nat} (hi : i ≤ N * k) (u : Nat) : (stepW k N p V i).getD u 0 ≤ k * B := by
  rcases Nat.lt_or_ge u N with hu | hu
  · rw [stepW_at hk p V i hi u hu]
    exact Nat.le_trans (sumW_le p hV u _) (Nat.mul_le_mul_right B (Nat.min_le_right _ _))
  · rw [List.getD_eq_getElem?_getD, List.getElem?_eq_none (by rw [stepW_len]; exact hu)]
    exact Nat.zero_le _
theorem waysW_le {k N : Nat} (hk : 0 < k) (p : Nat → Nat → Bool) (n : Nat) {ends : List Nat} (he : ∀ u, ends.getD u 0 ≤ 1) : ∀ j u, (waysW k N p n ends j).getD u 0 ≤ k ^ j
  | 0, u => by rw [waysW, Nat.pow_zero]; exact he u
  | j + 1, u => by
    rw [waysW, Nat.pow_succ]
    exact Nat.le_trans (stepW_le hk _ (waysW_le hk p n he j) (Nat.le_refl _) u) (Nat.le_of_eq (Nat.mul_comm _ _))
theorem getD_set_self : ∀ (l : List Nat) (i : Nat), l.set i (l.getD i 0) = l
  | [], _ => rfl
  | a :: l, 0 => rfl
  | a :: l, i + 1 => by
    have := getD_set_self l i
    simp only [List.getD_cons_succ, List.set_cons_succ, this]
theorem pow_fitW0 (e f g : Nat) (h : 2 * e < f * g) : 4 ^ e < (2 ^ f) ^ g := by
  rw [← Nat.pow_mul, show (4 : Nat) = 2 ^ 2 from rfl, ← Nat.pow_mul]
  exact Nat.pow_lt_pow_right (by decide) h
theorem pow_fitW {e : Nat} (h : e ≤ 257) : 4 ^ e < W32 ^ 17 := pow_fitW0 e 32 17 (by omega)
theorem small17 {x k m : Nat} (hk : k ≤ 4) (hm : m ≤ 257) (h : x ≤ k ^ m) : (limbs x).length ≤ 17 :=
  limbs_len_of_lt _ _ (Nat.lt_of_le_of_lt h (Nat.lt_of_le_of_lt (Nat.pow_le_pow_left hk m) (pow_fitW hm)))
end RuleP
end Go.Proofs.YtibplgpolmplpaaGreatDoor
