/- Rules out of rules, as plain lists: tables told window by window; widened, narrowed, mirrored, shifted, one behind the other. No program. No condition. Rules out of rules, as plain lists: widened, narrowed, shifted, mirrored. No program. No condition. -/
import Derived.Test.YtfgnghgmffaepaaDoorRuleS
namespace Go.Proofs.YtfgnghgmffaepaaDoor
namespace RuleP

/-- A window's symbol by a table. -/
def sy (k : Nat) (t v : List Nat) : Nat := t.getD (wval k v) 0
/-- The table whose symbols are told window by window. -/
def tab (k n : Nat) (f : List Nat → Nat) : List Nat := (List.range (k ^ n)).map fun i => f (digB k n i)
theorem tab_len (k n : Nat) (f : List Nat → Nat) : (tab k n f).length = k ^ n := by simp [tab]
theorem dig_wval {k : Nat} (hk : 0 < k) : ∀ {n u : Nat}, u < k ^ n → wval k (digB k n u) = u
  | 0, u, h => by simp at h; subst h; rfl
  | n + 1, u, h => by
    have h1 : u / k < k ^ n := by
      rw [Nat.pow_succ] at h
      exact Nat.div_lt_of_lt_mul (by rw [Nat.mul_comm]; exact h)
    rw [digB, wval_snoc, dig_wval hk h1, Nat.mul_comm]
    exact Nat.div_add_mod u k
theorem tab_at {k n : Nat} (hk : 0 < k) (f : List Nat → Nat) {v : List Nat} (hl : v.length = n) (hs : ∀ x ∈ v, x < k) : (tab k n f)[wval k v]? = some (f v) := by
  have h := wval_lt hs
  rw [hl] at h
  unfold tab
  rw [List.getElem?_map, List.getElem?_range h]
  simp only [Option.map_some]
  rw [digB_wval hk n v hl hs]
theorem tab_get {k n i : Nat} (f : List Nat → Nat) (h : i < k ^ n) : (tab k n f)[i]? = some (f (digB k n i)) := by
  unfold tab
  rw [List.getElem?_map, List.getElem?_range h]
  rfl
theorem sy_tab {k n : Nat} (hk : 0 < k) (f : List Nat → Nat) {v : List Nat} (hl : v.length = n) (hs : ∀ x ∈ v, x < k) : sy k (tab k n f) v = f v := by
  unfold sy
  rw [List.getD_eq_getElem?_getD, tab_at hk f hl hs]
  rfl
theorem tab_sym {k n : Nat} (hk : 0 < k) {f : List Nat → Nat} (hf : ∀ v : List Nat, v.length = n → (∀ x ∈ v, x < k) → f v < k) : ∀ x ∈ tab k n f, x < k := by
  intro x hx
  unfold tab at hx
  obtain ⟨i, _, rfl⟩ := List.mem_map.1 hx
  exact hf _ (digB_len _ _ _) (digB_sym hk _ _)
theorem tab_rule {k r : Nat} (k1 : 1 ≤ k) (k4 : k ≤ 4) (r3 : r ≤ 3) {f : List Nat → Nat} (hf : ∀ v : List Nat, v.length = 2 * r + 1 → (∀ x ∈ v, x < k) → f v < k) : IsRule k r (tab k (2 * r + 1) f) :=
  ⟨k1, k4, r3, tab_len _ _ _, tab_sym k1 hf⟩
theorem tab_congr {k n : Nat} (hk : 0 < k) {f g : List Nat → Nat} (h : ∀ v : List Nat, v.length = n → (∀ x ∈ v, x < k) → f v = g v) : tab k n f = tab k n g := by
  unfold tab
  exact List.map_congr_left fun i _ => h _ (digB_len _ _ _) (digB_sym hk _ _)
theorem tab_inj {k n : Nat} (hk : 0 < k) {f g : List Nat → Nat} (h : tab k n f = tab k n g) {v : List Nat} (hl : v.length = n) (hs : ∀ x ∈ v, x < k) : f v = g v := by
  have h1 := tab_at hk f hl hs
  rw [h, tab_at hk g hl hs] at h1
  exact (Option.some.inj h1).symm
theorem sy_lt {k r : Nat} {t v : List Nat} (hr : IsRule k r t) (hl : v.length = 2 * r + 1) (hs : ∀ x ∈ v, x < k) : sy k t v < k := by
  have h := wval_lt hs
  rw [hl, ← hr.len] at h
  unfold sy
  rw [List.getD_eq_getElem?_getD, List.getElem?_eq_getElem h]
  exact hr.sym _ (List.getElem_mem _)
theorem sy_at {k r : Nat} {t v : List Nat} (hr : IsRule k r t) (hl : v.length = 2 * r + 1) (hs : ∀ x ∈ v, x < k) : t[wval k v]? = some (sy k t v) := by
  have h := wval_lt hs
  rw [hl, ← hr.len] at h
  unfold sy
  rw [List.getD_eq_getElem?_getD, List.getElem?_eq_getElem h]
  rfl
theorem tab_sy {k r : Nat} {t : List Nat} (hr : IsRule k r t) : tab k (2 * r + 1) (sy k t) = t := by
  apply List.ext_getElem (by rw [tab_len, hr.len])
  intro i h1 h2
  have h3 : i < k ^ (2 * r + 1) := by rwa [tab_len] at h1
  have h4 := tab_get (sy k t) h3
  rw [List.getElem?_eq_getElem h1] at h4
  rw [Option.some.inj h4]
  unfold sy
  rw [dig_wval hr.k1 h3, List.getD_eq_getElem?_getD, List.getElem?_eq_getElem h2]
  rfl

/-! ### windows of windows -/
theorem win_win {w : List Nat} {i m j n : Nat} (h : j + n ≤ m) : win (win w i m) j n = win w (i + j) n := by
  unfold win
  rw [List.drop_take, List.take_take, List.drop_drop, Nat.min_eq_left (by omega)]
theorem win_all {w : List Nat} {n : Nat} (h : w.length = n) : win w 0 n = w := by
  unfold win
  rw [List.drop_zero, List.take_of_length_le (by omega)]
theorem win_at {w : List Nat} {i n j : Nat} (h : j < n) : (win w i n)[j]? = w[i + j]? := by
  unfold win
  rw [List.getElem?_take, if_pos h, List.getElem?_drop]
theorem image_part {k r : Nat} {t w : List Nat} {i m : Nat} (h : i + m ≤ w.length) (hm : 2 * r ≤ m) : image k r t (win w i m) = win (image k r t w) i (m - 2 * r) := by
  have hl : (win w i m).length = m := win_len h
  apply List.ext_getElem?
  intro j
  by_cases hj : j + 2 * r < m
  · rw [image_at (by rw [hl]; exact hj), win_at (by omega), image_at (by omega), win_win (by omega)]
  · rw [List.getElem?_eq_none (by rw [image_len, hl]; omega), List.getElem?_eq_none]
    rw [win_len (by rw [image_len]; omega)]
    omega
theorem image_one {k r : Nat} {t v : List Nat} (h : v.length = 2 * r + 1) : image k r t v = [sy k t v] := by
  unfold image
  rw [h, show 2 * r + 1 - 2 * r = 1 by omega]
  simp [win_all h, sy]

/-! ### one behind the other -/
def comp (k ra : Nat) (ta : List Nat) (rb : Nat) (tb : List Nat) : List Nat := tab k (2 * (ra + rb) + 1) fun v => sy k ta (image k rb tb v)
theorem comp_rule {k ra rb : Nat} {ta tb : List Nat} (ha : IsRule k ra ta) (hb : IsRule k rb tb) (h3 : ra + rb ≤ 3) : IsRule k (ra + rb) (comp k ra ta rb tb) :=
  tab_rule ha.k1 ha.k4 h3 fun v hl hs => sy_lt ha (by rw [image_len, hl]; omega) (image_sym hb hs)
theorem image_comp {k ra rb : Nat} {ta tb w : List Nat} (ha : IsRule k ra ta) (hb : IsRule k rb tb) (hs : ∀ x ∈ w, x < k) : image k (ra + rb) (comp k ra ta rb tb) w = image k ra ta (image k rb tb w) := by
  apply List.ext_getElem?
  intro i
  by_cases hi : i + 2 * (ra + rb) < w.length
  · rw [image_at hi, image_at (by rw [image_len]; omega)]
    have h1 : i + (2 * (ra + rb) + 1) ≤ w.length := by omega
    have h2 := sy_tab ha.k1 (fun v => sy k ta (image k rb tb v)) (win_len h1) (win_sym hs i (2 * (ra + rb) + 1))
    rw [image_part h1 (by omega), show 2 * (ra + rb) + 1 - 2 * rb = 2 * ra + 1 by omega] at h2
    exact congrArg some h2
  · rw [List.getElem?_eq_none (by rw [image_len]; omega), List.getElem?_eq_none (by rw [image_len, image_len]; omega)]
theorem comp_assoc {k ra rb rc : Nat} {ta tb tc : List Nat} (ha : IsRule k ra ta) (hb : IsRule k rb tb) (hc : IsRule k rc tc) :
    comp k (ra + rb) (comp k ra ta rb tb) rc tc = comp k ra ta (rb + rc) (comp k rb tb rc tc) := by
  unfold comp
  rw [show 2 * (ra + rb + rc) + 1 = 2 * (ra + (rb + rc)) + 1 by omega]
  refine tab_congr ha.k1 fun v hl hs => ?_
  have h1 := sy_tab ha.k1 (fun v => sy k ta (image k rb tb v)) (v := image k rc tc v) (n := 2 * (ra + rb) + 1) (by rw [image_len, hl]; omega) (image_sym hc hs)
  have h2 := image_comp hb hc hs
  unfold comp at h2
  rw [h2]
  exact h1
/-- Each cell stays. -/
def idT (k : Nat) : List Nat := tab k 1 fun v => v.getD 0 0
theorem one_of {v : List Nat} (h : v.length = 1) : v = [v.getD 0 0] := by
  match v, h with
  | [x], _ => rfl
theorem idT_rule {k : Nat} (k1 : 1 ≤ k) (k4 : k ≤ 4) : IsRule k 0 (idT k) :=
  tab_rule (r := 0) k1 k4 (by decide) fun v hl hs => by
    rw [one_of hl] at hs
    exact hs _ (by simp)
theorem sy_id {k : Nat} {v : List Nat} (hk : 0 < k) (hl : v.length = 1) (hs : ∀ x ∈ v, x < k) : sy k (idT k) v = v.getD 0 0 := sy_tab hk _ hl hs
theorem image_id {k : Nat} {w : List Nat} (hk : 0 < k) (hs : ∀ x ∈ w, x < k) : image k 0 (idT k) w = w := by
  apply List.ext_getElem?
  intro i
  by_cases hi : i < w.length
  · rw [image_at (by omega)]
    have h1 : (win w i 1).length = 1 := win_len (by omega)
    have h2 := sy_id hk h1 (win_sym hs i 1)
    have h3 := win_at (w := w) (i := i) (n := 1) (j := 0) (by omega)
    rw [List.getElem?_eq_getElem hi]
    refine congrArg some (h2.trans ?_)
    rw [List.getD_eq_getElem?_getD, h3, Nat.add_zero, List.getElem?_eq_getElem hi]
    rfl
  · rw [List.getElem?_eq_none (by rw [image_len]; omega), List.getElem?_eq_none (by omega)]
theorem comp_id {k r : Nat} {t : List Nat} (hr : IsRule k r t) : comp k r t 0 (idT k) = t := by
  have : comp k r t 0 (idT k) = tab k (2 * r + 1) (sy k t) := tab_congr hr.k1 fun v _ hs => by
    show sy k t (image k 0 (idT k) v) = sy k t v
    rw [image_id hr.k1 hs]
  rw [this, tab_sy hr]

/-! ### powers -/
def pw (k r : Nat) (t : List Nat) : Nat → List Nat
  | 0 => idT k
  | n + 1 => comp k r t (n * r) (pw k r t n)
theorem pw_rule {k r : Nat} {t : List Nat} (hr : IsRule k r t) : ∀ {n : Nat}, n * r ≤ 3 → IsRule k (n * r) (pw k r t n)
  | 0, _ => by rw [Nat.zero_mul]; exact idT_rule hr.k1 hr.k4
  | n + 1, h => by
    have h1 : (n + 1) * r = r + n * r := by rw [Nat.add_mul, Nat.one_mul, Nat.add_comm]
    rw [h1] at h ⊢
    exact comp_rule hr (pw_rule hr (by omega)) h
/-- The image, so often. -/
def imgs (k r : Nat) (t : List Nat) : Nat → List Nat → List Nat
  | 0, w => w
  | n + 1, w => image k r t (imgs k r t n w)
theorem imgs_sym {k r : Nat} {t w : List Nat} (hr : IsRule k r t) (hs : ∀ x ∈ w, x < k) : ∀ n, ∀ x ∈ imgs k r t n w, x < k
  | 0 => hs
  | n + 1 => image_sym hr (imgs_sym hr hs n)
theorem imgs_len {k r : Nat} {t w : List Nat} : ∀ n, (imgs k r t n w).length = w.length - 2 * (n * r)
  | 0 => by simp [imgs]
  | n + 1 => by rw [imgs, image_len, imgs_len n, Nat.add_mul]; omega
theorem image_pw {k r : Nat} {t w : List Nat} (hr : IsRule k r t) (hs : ∀ x ∈ w, x < k) : ∀ {n : Nat}, n * r ≤ 3 → image k (n * r) (pw k r t n) w = imgs k r t n w
  | 0, _ => by rw [Nat.zero_mul]; exact image_id hr.k1 hs
  | n + 1, h => by
    have h1 : (n + 1) * r = r + n * r := by rw [Nat.add_mul, Nat.one_mul, Nat.add_comm]
    rw [h1] at h ⊢
    rw [pw, image_comp hr (pw_rule hr (by omega)) hs, image_pw hr hs (by omega)]
    rfl
/-- Of the radius 0: powers add up. -/
theorem pw_add {k : Nat} {t : List Nat} (hr : IsRule k 0 t) (b : Nat) : ∀ a, pw k 0 t (a + b) = comp k 0 (pw k 0 t a) 0 (pw k 0 t b)
  | 0 => by
    have hb : IsRule k 0 (pw k 0 t b) := pw_rule hr (n := b) (by omega)
    rw [Nat.zero_add]
    have : comp k 0 (idT k) 0 (pw k 0 t b) = tab k 1 (sy k (pw k 0 t b)) := tab_congr hr.k1 fun v hl hs => by
      show sy k (idT k) (image k 0 (pw k 0 t b) v) = sy k (pw k 0 t b) v
      rw [image_one (r := 0) hl, sy_id hr.k1 rfl (by intro x hx; rw [List.mem_singleton] at hx; rw [hx]; exact sy_lt hb hl hs)]
      rfl
    have h2 := tab_sy hb
    rw [show pw k 0 t 0 = idT k from rfl, this]
    exact h2.symm
  | a + 1 => by
    have ha : IsRule k 0 (pw k 0 t a) := pw_rule hr (n := a) (by omega)
    have hb : IsRule k 0 (pw k 0 t b) := pw_rule hr (n := b) (by omega)
    rw [show a + 1 + b = (a + b) + 1 by omega, pw, pw, pw_add hr b a, Nat.mul_zero, Nat.mul_zero]
    exact (comp_assoc hr ha hb).symm
theorem pw_mul {k : Nat} {t : List Nat} (hr : IsRule k 0 t) (a : Nat) : ∀ b, pw k 0 (pw k 0 t a) b = pw k 0 t (b * a)
  | 0 => by rw [Nat.zero_mul]; rfl
  | b + 1 => by
    rw [Nat.add_mul, Nat.one_mul, Nat.add_comm (b * a), pw_add hr, pw, pw_mul hr a b, Nat.mul_zero]
end RuleP
end Go.Proofs.YtfgnghgmffaepaaDoor

namespace Go.Proofs.YtfgnghgmffaepaaDoor
namespace RuleP

/-- With a radius d greater: the outer symbols tell nothing. -/
def wide (k r d : Nat) (t : List Nat) : List Nat := tab k (2 * (r + d) + 1) fun v => sy k t (win v d (2 * r + 1))
theorem wide_rule {k r d : Nat} {t : List Nat} (hr : IsRule k r t) (h : r + d ≤ 3) : IsRule k (r + d) (wide k r d t) :=
  tab_rule hr.k1 hr.k4 h fun v hl hs => sy_lt hr (win_len (by omega)) (win_sym hs _ _)
theorem wide_zero {k r : Nat} {t : List Nat} (hr : IsRule k r t) : wide k r 0 t = t := by
  have : wide k r 0 t = tab k (2 * r + 1) (sy k t) := tab_congr hr.k1 fun v hl _ => by
    show sy k t (win v 0 (2 * r + 1)) = sy k t v
    rw [win_all (show v.length = 2 * r + 1 from hl)]
  rw [this, tab_sy hr]
/-- With a radius 1 less, noughts outside. -/
def inn (k r : Nat) (t : List Nat) : List Nat := tab k (2 * r + 1) fun v => sy k t (0 :: (v ++ [0]))
theorem out_sym {k : Nat} {v : List Nat} (hk : 0 < k) (hs : ∀ x ∈ v, x < k) : ∀ x ∈ 0 :: (v ++ [0]), x < k := by
  intro x hx
  simp only [List.mem_cons, List.mem_append, List.not_mem_nil, or_false] at hx
  rcases hx with rfl | hx | rfl
  · exact hk
  · exact hs x hx
  · exact hk
theorem out_len (v : List Nat) : (0 :: (v ++ [0])).length = v.length + 2 := by simp
theorem inn_rule {k r : Nat} {t : List Nat} (hr : IsRule k (r + 1) t) : IsRule k r (inn k r t) := by
  have h3 := hr.r3
  exact tab_rule hr.k1 hr.k4 (by omega) fun v hl hs => sy_lt hr (by rw [out_len, hl]; omega) (out_sym hr.k1 hs)
theorem win_out {v : List Nat} {d n : Nat} (h : d + n ≤ v.length) : win (0 :: (v ++ [0])) (d + 1) n = win v d n := by
  unfold win
  rw [List.drop_succ_cons, List.drop_append_of_le_length (by omega), List.take_append_of_le_length (by simp; omega)]
theorem inn_wide {k r d : Nat} {t : List Nat} (hr : IsRule k r t) : inn k (r + d) (wide k r (d + 1) t) = wide k r d t :=
  tab_congr hr.k1 fun v hl hs => by
    show sy k (tab k (2 * (r + (d + 1)) + 1) fun v => sy k t (win v (d + 1) (2 * r + 1))) (0 :: (v ++ [0])) = sy k t (win v d (2 * r + 1))
    rw [sy_tab hr.k1 _ (by rw [out_len, hl]; omega) (out_sym hr.k1 hs), win_out (by omega)]
theorem wide_one {k r d : Nat} {t : List Nat} (hr : IsRule k r t) : wide k (r + d) 1 (wide k r d t) = wide k r (d + 1) t :=
  tab_congr hr.k1 fun v hl hs => by
    show sy k (tab k (2 * (r + d) + 1) fun v => sy k t (win v d (2 * r + 1))) (win v 1 (2 * (r + d) + 1)) = sy k t (win v (d + 1) (2 * r + 1))
    rw [sy_tab hr.k1 _ (win_len (by omega)) (win_sym hs _ _), win_win (by omega), Nat.add_comm 1 d]
/-- The least radius that makes the same. -/
def narrow (k : Nat) : Nat → List Nat → Nat × List Nat
  | 0, t => (0, t)
  | r + 1, t => if wide k r 1 (inn k r t) = t then narrow k r (inn k r t) else (r + 1, t)
theorem narrow_rule {k : Nat} : ∀ {r : Nat} {t : List Nat}, IsRule k r t → IsRule k (narrow k r t).1 (narrow k r t).2
  | 0, _, h => h
  | r + 1, t, h => by
    unfold narrow
    split
    · exact narrow_rule (inn_rule h)
    · exact h
theorem narrow_le {k : Nat} : ∀ {r : Nat} {t : List Nat}, (narrow k r t).1 ≤ r
  | 0, _ => Nat.le_refl _
  | r + 1, t => by
    unfold narrow
    split
    · exact Nat.le_succ_of_le narrow_le
    · exact Nat.le_refl _
theorem narrow_idem {k : Nat} : ∀ {r : Nat} {t : List Nat}, narrow k (narrow k r t).1 (narrow k r t).2 = narrow k r t
  | 0, _ => rfl
  | r + 1, t => by
    by_cases h : wide k r 1 (inn k r t) = t
    · have e : narrow k (r + 1) t = narrow k r (inn k r t) := by rw [narrow, if_pos h]
      rw [e]
      exact narrow_idem
    · have e : narrow k (r + 1) t = (r + 1, t) := by rw [narrow, if_neg h]
      rw [e]
      exact e
theorem narrow_wide {k r : Nat} {t : List Nat} (hr : IsRule k r t) : ∀ d, narrow k (r + d) (wide k r d t) = narrow k r t
  | 0 => by rw [wide_zero hr]; rfl
  | d + 1 => by
    show narrow k (r + d + 1) (wide k r (d + 1) t) = _
    rw [narrow, inn_wide hr, wide_one hr, if_pos rfl]
    exact narrow_wide hr d

/-- The row read at place p of each window. -/
def shT (k r p : Nat) : List Nat := tab k (2 * r + 1) fun v => v.getD p 0
theorem getD_sym {k p : Nat} {v : List Nat} (hp : p < v.length) (hs : ∀ x ∈ v, x < k) : v.getD p 0 < k := by
  rw [List.getD_eq_getElem?_getD, List.getElem?_eq_getElem hp]
  exact hs _ (List.getElem_mem _)
theorem shT_rule {k r p : Nat} (k1 : 1 ≤ k) (k4 : k ≤ 4) (r3 : r ≤ 3) (hp : p < 2 * r + 1) : IsRule k r (shT k r p) :=
  tab_rule k1 k4 r3 fun v hl hs => getD_sym (by omega) hs
/-- One way and the other: each cell stays. -/
theorem sh_there {k : Nat} (k1 : 1 ≤ k) (k4 : k ≤ 4) : comp k 1 (shT k 1 2) 1 (shT k 1 0) = wide k 0 2 (idT k) :=
  tab_congr k1 fun v hl hs => by
    have h0 : IsRule k 1 (shT k 1 0) := shT_rule k1 k4 (by decide) (by decide)
    have hi := image_sym h0 hs
    have hil : (image k 1 (shT k 1 0) v).length = 3 := by rw [image_len, hl]
    show sy k (tab k (2 * 1 + 1) fun v => v.getD 2 0) (image k 1 (shT k 1 0) v) = sy k (idT k) (win v 2 (2 * 0 + 1))
    rw [sy_tab k1 _ hil hi, sy_id k1 (win_len (by omega)) (win_sym hs _ _)]
    have h2 := sy_tab k1 (fun v => v.getD 0 0) (win_len (w := v) (i := 2) (m := 2 * 1 + 1) (by omega)) (win_sym hs 2 (2 * 1 + 1))
    have h3 : (image k 1 (shT k 1 0) v)[2]? = some (sy k (shT k 1 0) (win v 2 (2 * 1 + 1))) := image_at (by omega)
    have h4 : sy k (shT k 1 0) (win v 2 (2 * 1 + 1)) = (win v 2 (2 * 1 + 1)).getD 0 0 := h2
    rw [List.getD_eq_getElem?_getD, h3, Option.getD_some, h4, List.getD_eq_getElem?_getD, List.getD_eq_getElem?_getD, win_at (by omega), win_at (by omega)]
theorem sh_zero (k : Nat) : shT k 0 0 = idT k := rfl

/-! ### read from the other end -/
def mir (k r : Nat) (t : List Nat) : List Nat := tab k (2 * r + 1) fun v => sy k t v.reverse
theorem rev_sym {k : Nat} {v : List Nat} (hs : ∀ x ∈ v, x < k) : ∀ x ∈ v.reverse, x < k := fun x hx => hs x (List.mem_reverse.1 hx)
theorem mir_rule {k r : Nat} {t : List Nat} (hr : IsRule k r t) : IsRule k r (mir k r t) :=
  tab_rule hr.k1 hr.k4 hr.r3 fun v hl hs => sy_lt hr (by rw [List.length_reverse, hl]) (rev_sym hs)
theorem mir_mir {k r : Nat} {t : List Nat} (hr : IsRule k r t) : mir k r (mir k r t) = t := by
  have : mir k r (mir k r t) = tab k (2 * r + 1) (sy k t) := tab_congr hr.k1 fun v hl hs => by
    show sy k (tab k (2 * r + 1) fun v => sy k t v.reverse) v.reverse = sy k t v
    rw [sy_tab hr.k1 _ (by rw [List.length_reverse, hl]) (rev_sym hs), List.reverse_reverse]
  rw [this, tab_sy hr]
theorem win_rev {w : List Nat} {i m : Nat} (h : i + m ≤ w.length) : win w.reverse i m = (win w (w.length - i - m) m).reverse := by
  unfold win
  rw [List.drop_reverse, List.take_reverse, List.reverse_inj]
  rw [List.length_take, Nat.min_eq_left (by omega), List.drop_take]
  congr 1
  omega
theorem image_mir {k r : Nat} {t w : List Nat} (hr : IsRule k r t) (hs : ∀ x ∈ w, x < k) : image k r (mir k r t) w.reverse = (image k r t w).reverse := by
  apply List.ext_getElem?
  intro i
  by_cases hi : i + 2 * r < w.length
  · have hl : w.reverse.length = w.length := List.length_reverse
    rw [image_at (by omega), List.getElem?_reverse (by rw [image_len]; omega), image_len, image_at (by omega)]
    have h1 : i + (2 * r + 1) ≤ w.length := by omega
    have h2 := sy_tab hr.k1 (fun v => sy k t v.reverse) (win_len (w := w.reverse) (i := i) (m := 2 * r + 1) (by omega)) (win_sym (rev_sym hs) i (2 * r + 1))
    refine congrArg some (h2.trans ?_)
    show sy k t (win w.reverse i (2 * r + 1)).reverse = sy k t (win w (w.length - 2 * r - 1 - i) (2 * r + 1))
    rw [win_rev h1, List.reverse_reverse, show w.length - i - (2 * r + 1) = w.length - 2 * r - 1 - i by omega]
  · rw [List.getElem?_eq_none (by rw [image_len, List.length_reverse]; omega), List.getElem?_eq_none (by rw [List.length_reverse, image_len]; omega)]
end RuleP
end Go.Proofs.YtfgnghgmffaepaaDoor
