/- Sums: rules whose table is a sum take sums of words to sums of images. Plain lists, no program. No condition. -/
import Derived.Test.YtfgnghgmffaepaaDoorRuleP
namespace Go.Proofs.YtfgnghgmffaepaaDoor
namespace RuleP

/-- A number's digits in base k, the highest first. -/
def digB : Nat → Nat → Nat → List Nat
  | _, 0, _ => []
  | k, n + 1, x => digB k n (x / k) ++ [x % k]
theorem digB_len (k n x : Nat) : (digB k n x).length = n := by
  induction n generalizing x with
  | zero => rfl
  | succ n ih => simp [digB, ih]
theorem digB_sym {k : Nat} (hk : 0 < k) (n x : Nat) : ∀ y ∈ digB k n x, y < k := by
  induction n generalizing x with
  | zero => intro y hy; simp [digB] at hy
  | succ n ih =>
    intro y hy
    rcases List.mem_append.1 hy with hy | hy
    · exact ih _ y hy
    · simp at hy; subst hy; exact Nat.mod_lt _ hk
theorem list_snoc {n : Nat} {w : List Nat} (h : w.length = n + 1) : ∃ v x, w = v ++ [x] ∧ v.length = n := by
  have hne : w ≠ [] := by intro e; subst e; simp at h
  exact ⟨w.dropLast, w.getLast hne, (List.dropLast_concat_getLast hne).symm, by simp [h]⟩
theorem digB_wval {k : Nat} (hk : 0 < k) : ∀ (n : Nat) (w : List Nat), w.length = n → (∀ x ∈ w, x < k) → digB k n (wval k w) = w := by
  intro n
  induction n with
  | zero => intro w h _; simp at h; subst h; rfl
  | succ n ih =>
    intro w h hs
    obtain ⟨v, x, rfl, hv⟩ := list_snoc h
    have hx : x < k := hs x (by simp)
    rw [wval_snoc, digB, Nat.mul_comm, Nat.mul_add_div hk, Nat.div_eq_of_lt hx, Nat.add_zero, Nat.mul_add_mod, Nat.mod_eq_of_lt hx, ih v hv (fun y hy => hs y (by simp [hy]))]

/-- The sum of the first j symbols, each times its factor. -/
def linP (k : Nat) (x f : List Nat) (j : Nat) : Nat := (List.zipWith (· * ·) (x.take j) (f.take j)).sum % k
def lin (k : Nat) (x f : List Nat) : Nat := (List.zipWith (· * ·) x f).sum % k
theorem linP_zero (k : Nat) (x f : List Nat) : linP k x f 0 = 0 := by simp [linP]
theorem linP_succ {k : Nat} {x f : List Nat} {j a b : Nat} (ha : x[j]? = some a) (hb : f[j]? = some b) : linP k x f (j + 1) = (linP k x f j + a * b) % k := by
  unfold linP
  have h1 : j < x.length := (List.getElem?_eq_some_iff.1 ha).1
  have h2 : j < f.length := (List.getElem?_eq_some_iff.1 hb).1
  rw [List.take_add_one, List.take_add_one, ha, hb, Option.toList_some, Option.toList_some, List.zipWith_append (by simp; omega)]
  simp
theorem linP_all {k : Nat} {x f : List Nat} {j : Nat} (h : x.length ≤ j ∨ f.length ≤ j) : linP k x f j = lin k x f := by
  unfold linP lin
  congr 2
  rcases h with h | h
  · rw [List.take_of_length_le h]
    apply List.ext_getElem?
    intro i
    simp only [List.getElem?_zipWith]
    rcases Nat.lt_or_ge i j with h1 | h1
    · rw [List.getElem?_take, if_pos h1]
    · rw [List.getElem?_eq_none (by omega : x.length ≤ i)]
  · rw [List.take_of_length_le h]
    apply List.ext_getElem?
    intro i
    simp only [List.getElem?_zipWith]
    rcases Nat.lt_or_ge i j with h1 | h1
    · rw [List.getElem?_take, if_pos h1]
    · rw [List.getElem?_eq_none (by omega : f.length ≤ i)]
      cases (List.take j x)[i]? <;> cases x[i]? <;> rfl
theorem lin_lt {k : Nat} (hk : 0 < k) (x f : List Nat) : lin k x f < k := Nat.mod_lt _ hk
theorem linP_lt {k : Nat} (hk : 0 < k) (x f : List Nat) (j : Nat) : linP k x f j < k := Nat.mod_lt _ hk

/-- The sum of two words, place by place. -/
def addW (k : Nat) (a b : List Nat) : List Nat := List.zipWith (fun x y => (x + y) % k) a b
theorem sum_add {k : Nat} : ∀ (a b f : List Nat), a.length = b.length → (List.zipWith (· * ·) (addW k a b) f).sum % k = ((List.zipWith (· * ·) a f).sum + (List.zipWith (· * ·) b f).sum) % k := by
  intro a
  induction a with
  | nil => intro b f h; cases b with
    | nil => simp [addW]
    | cons y b => simp at h
  | cons x a ih => intro b f h; cases b with
    | nil => simp at h
    | cons y b => cases f with
      | nil => simp [addW]
      | cons z f =>
        have hi := ih b f (by simpa using h)
        simp only [addW, List.zipWith_cons_cons, List.sum_cons] at hi ⊢
        have e1 : (x + y) % k * z % k = (x * z + y * z) % k := by rw [Nat.mod_mul_mod, Nat.add_mul]
        rw [Nat.add_mod, hi, e1, ← Nat.add_mod]
        congr 1
        omega
theorem lin_add {k : Nat} {a b : List Nat} (f : List Nat) (h : a.length = b.length) : lin k (addW k a b) f = (lin k a f + lin k b f) % k := by
  unfold lin
  rw [sum_add a b f h, Nat.add_mod]
theorem addW_len {k : Nat} {a b : List Nat} (h : a.length = b.length) : (addW k a b).length = a.length := by simp [addW, h]
theorem addW_sym {k : Nat} (hk : 0 < k) (a b : List Nat) : ∀ x ∈ addW k a b, x < k := by
  intro x hx
  obtain ⟨i, hi⟩ := List.getElem?_of_mem hx
  unfold addW at hi
  rw [List.getElem?_zipWith] at hi
  split at hi
  · cases hi; exact Nat.mod_lt _ hk
  · cases hi
theorem win_add (k : Nat) (a b : List Nat) (i m : Nat) : win (addW k a b) i m = addW k (win a i m) (win b i m) := by
  unfold win addW
  rw [List.drop_zipWith, List.take_zipWith]

/-- The table is a sum. -/
def SumT (k r : Nat) (t f : List Nat) : Prop := t.length = k ^ (2 * r + 1) ∧ ∀ (i : Nat), i < k ^ (2 * r + 1) → t[i]? = some (lin k (digB k (2 * r + 1) i) f)
theorem SumT.rule {k r : Nat} {t f : List Nat} (h : SumT k r t f) (k1 : 1 ≤ k) (k4 : k ≤ 4) (r3 : r ≤ 3) : IsRule k r t := ⟨k1, k4, r3, h.1, fun x hx => by
  obtain ⟨i, hi⟩ := List.getElem?_of_mem hx
  have := (List.getElem?_eq_some_iff.1 hi).1
  rw [h.1] at this
  rw [h.2 i this] at hi
  cases hi
  exact lin_lt k1 _ _⟩
theorem SumT.at_ {k r : Nat} {t f : List Nat} (h : SumT k r t f) (k1 : 1 ≤ k) {w : List Nat} (hl : w.length = 2 * r + 1) (hs : ∀ x ∈ w, x < k) : t.getD (wval k w) 0 = lin k w f := by
  have h1 := wval_lt hs
  rw [hl] at h1
  rw [List.getD_eq_getElem?_getD, h.2 _ h1, digB_wval k1 _ w hl hs]
  rfl
/-- The image of the sum is the sum of the images. -/
theorem image_add {k r : Nat} {t f : List Nat} (h : SumT k r t f) (k1 : 1 ≤ k) {a b : List Nat} (hl : a.length = b.length) (ha : ∀ x ∈ a, x < k) (hb : ∀ x ∈ b, x < k) {i x y : Nat} (hx : (image k r t a)[i]? = some x) (hy : (image k r t b)[i]? = some y) :
    (image k r t (addW k a b))[i]? = some ((x + y) % k) := by
  have hi := (List.getElem?_eq_some_iff.1 hx).1
  rw [image_len] at hi
  have hia : i + 2 * r < a.length := by omega
  have hib : i + 2 * r < b.length := by omega
  have hic : i + 2 * r < (addW k a b).length := by rw [addW_len hl]; exact hia
  rw [image_at hia] at hx
  rw [image_at hib] at hy
  rw [image_at hic, win_add]
  have wa := win_len (w := a) (i := i) (m := 2 * r + 1) (by omega)
  have wb := win_len (w := b) (i := i) (m := 2 * r + 1) (by omega)
  rw [h.at_ k1 wa (win_sym ha _ _)] at hx
  rw [h.at_ k1 wb (win_sym hb _ _)] at hy
  rw [h.at_ k1 (by rw [addW_len (by rw [wa, wb]), wa]) (addW_sym k1 _ _), lin_add f (by rw [wa, wb])]
  cases hx
  cases hy
  rfl
end RuleP
end Go.Proofs.YtfgnghgmffaepaaDoor
