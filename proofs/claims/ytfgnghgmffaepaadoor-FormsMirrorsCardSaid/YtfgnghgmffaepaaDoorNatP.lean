/- Numbers as digits, the lowest first: plain lists, no program. A list without a nought at its end is the digits of its value. No condition. -/
import Derived.Test.YtfgnghgmffaepaaDoorProg
namespace Go.Proofs.YtfgnghgmffaepaaDoor
/-- Of one number, told by these packages at these places, from the outermost on. -/
abbrev Tale := Nat × List (ByteArray × Int)
/-- The number is one of the errors'. -/
def TaleOk (t : Option Tale) : Prop := ∀ x, t = some x → 1 ≤ x.1 ∧ x.1 ≤ 11
namespace NatP

def valB (b : Nat) : List Nat → Nat
  | [] => 0
  | x :: l => x + b * valB b l
def digsF (b : Nat) : Nat → Nat → List Nat
  | 0, _ => []
  | f + 1, v => if v = 0 then [] else (v % b) :: digsF b f (v / b)
def digs (b v : Nat) : List Nat := digsF b v v
def OkB (b : Nat) (l : List Nat) : Prop := ∀ x ∈ l, x < b
/-- No nought at the end. -/
def Norm (l : List Nat) : Prop := ∀ x, l.getLast? = some x → x ≠ 0

theorem digsF_fuel {b : Nat} (hb : 2 ≤ b) : ∀ (f g v : Nat), v ≤ f → v ≤ g → digsF b f v = digsF b g v := by
  intro f
  induction f with
  | zero =>
    intro g v h1 h2
    have : v = 0 := by omega
    subst this
    cases g <;> simp [digsF]
  | succ f ih =>
    intro g v h1 h2
    cases g with
    | zero =>
      have : v = 0 := by omega
      subst this
      simp [digsF]
    | succ g =>
      by_cases hv : v = 0
      · simp [digsF, hv]
      · have hlt : v / b < v := Nat.div_lt_self (by omega) (by omega)
        simp only [digsF, if_neg hv]
        rw [ih g (v / b) (by omega) (by omega)]
theorem digs_zero (b : Nat) : digs b 0 = [] := rfl
theorem digs_pos {b v : Nat} (hb : 2 ≤ b) (hv : 0 < v) : digs b v = v % b :: digs b (v / b) := by
  obtain ⟨u, rfl⟩ : ∃ u, v = u + 1 := ⟨v - 1, by omega⟩
  have hlt : (u + 1) / b < u + 1 := Nat.div_lt_self (by omega) (by omega)
  show digsF b (u + 1) (u + 1) = _
  rw [digsF, if_neg (by omega)]
  unfold digs
  rw [digsF_fuel hb u ((u + 1) / b) _ (by omega) (Nat.le_refl _)]

theorem val_digs {b : Nat} (hb : 2 ≤ b) (v : Nat) : valB b (digs b v) = v := by
  induction v using Nat.strongRecOn with
  | _ v ih =>
    rcases Nat.eq_zero_or_pos v with rfl | hv
    · rfl
    · rw [digs_pos hb hv, valB, ih _ (Nat.div_lt_self hv (by omega))]
      exact Nat.mod_add_div v b
theorem ok_digs {b : Nat} (hb : 2 ≤ b) (v : Nat) : OkB b (digs b v) := by
  induction v using Nat.strongRecOn with
  | _ v ih =>
    rcases Nat.eq_zero_or_pos v with rfl | hv
    · intro x hx; simp [digs_zero] at hx
    · rw [digs_pos hb hv]
      intro x hx
      rcases List.mem_cons.1 hx with rfl | hx
      · exact Nat.mod_lt _ (by omega)
      · exact ih _ (Nat.div_lt_self hv (by omega)) x hx
theorem digs_eq_nil {b v : Nat} (hb : 2 ≤ b) (h : digs b v = []) : v = 0 := by
  have := val_digs hb v
  rw [h] at this
  exact this.symm
theorem norm_digs {b : Nat} (hb : 2 ≤ b) (v : Nat) : Norm (digs b v) := by
  induction v using Nat.strongRecOn with
  | _ v ih =>
    rcases Nat.eq_zero_or_pos v with rfl | hv
    · intro x hx; simp [digs_zero] at hx
    · rw [digs_pos hb hv]
      intro x hx
      by_cases hq : v / b = 0
      · rw [hq, digs_zero] at hx
        simp at hx
        subst hx
        have := Nat.mod_add_div v b
        rw [hq] at this
        omega
      · have hne : digs b (v / b) ≠ [] := fun h => hq (digs_eq_nil hb h)
        rw [List.getLast?_cons_of_ne_nil hne] at hx
        exact ih _ (Nat.div_lt_self hv (by omega)) x hx

theorem norm_tail {x : Nat} {l : List Nat} (h : Norm (x :: l)) : Norm l := by
  intro y hy
  cases l with
  | nil => simp at hy
  | cons z l => exact h y (by rw [List.getLast?_cons_of_ne_nil (by simp)]; exact hy)
theorem val_pos {b : Nat} (hb : 2 ≤ b) : ∀ {l : List Nat}, Norm l → l ≠ [] → 0 < valB b l := by
  intro l
  induction l with
  | nil => intro _ h; exact absurd rfl h
  | cons x l ih =>
    intro h _
    cases l with
    | nil =>
      have := h x (by simp)
      simp [valB]; omega
    | cons z l =>
      have := ih (norm_tail h) (by simp)
      have h2 : 0 < b * valB b (z :: l) := Nat.mul_pos (by omega) this
      simp only [valB] at h2 ⊢
      omega
theorem digs_val {b : Nat} (hb : 2 ≤ b) : ∀ {l : List Nat}, OkB b l → Norm l → digs b (valB b l) = l := by
  intro l
  induction l with
  | nil => intro _ _; rfl
  | cons x l ih =>
    intro ho hn
    have hx : x < b := ho x (by simp)
    have hpos := val_pos hb hn (by simp)
    rw [digs_pos hb hpos]
    have e1 : valB b (x :: l) % b = x := by
      simp only [valB]
      rw [Nat.add_mul_mod_self_left, Nat.mod_eq_of_lt hx]
    have e2 : valB b (x :: l) / b = valB b l := by
      simp only [valB]
      rw [Nat.add_mul_div_left _ _ (by omega), Nat.div_eq_of_lt hx, Nat.zero_add]
    rw [e1, e2, ih (fun y hy => ho y (by simp [hy])) (norm_tail hn)]

theorem val_append (b : Nat) (l m : List Nat) : valB b (l ++ m) = valB b l + b ^ l.length * valB b m := by
  induction l with
  | nil => simp [valB]
  | cons x l ih =>
    simp only [List.cons_append, valB, List.length_cons, ih, Nat.pow_succ]
    rw [Nat.mul_add, Nat.add_assoc, ← Nat.mul_assoc, Nat.mul_comm (b ^ l.length) b]
theorem val_zeros (b n : Nat) : valB b (List.replicate n 0) = 0 := by
  induction n with
  | zero => rfl
  | succ n ih => simp [List.replicate_succ, valB, ih]
theorem val_snoc (b : Nat) (l : List Nat) (x : Nat) : valB b (l ++ [x]) = valB b l + b ^ l.length * x := by
  rw [val_append]; simp [valB]
theorem val_lt {b : Nat} (_hb : 2 ≤ b) : ∀ {l : List Nat}, OkB b l → valB b l < b ^ l.length := by
  intro l
  induction l with
  | nil => intro _; simp [valB]
  | cons x l ih =>
    intro h
    have h1 := h x (by simp)
    have h2 := ih (fun y hy => h y (by simp [hy]))
    simp only [valB, List.length_cons, Nat.pow_succ]
    have : b * (valB b l + 1) ≤ b * b ^ l.length := Nat.mul_le_mul (Nat.le_refl b) (by omega)
    rw [Nat.mul_add, Nat.mul_one] at this
    rw [Nat.mul_comm (b ^ l.length) b]
    omega
theorem ok_take {b : Nat} {l : List Nat} (h : OkB b l) (k : Nat) : OkB b (l.take k) := fun x hx => h x (List.mem_of_mem_take hx)
theorem ok_append {b : Nat} {l m : List Nat} (h : OkB b l) (h' : OkB b m) : OkB b (l ++ m) := by
  intro x hx
  rcases List.mem_append.1 hx with hx | hx
  · exact h x hx
  · exact h' x hx

/-- Cut where the noughts at the end begin: the digits of the value. -/
theorem cut_eq {b : Nat} (hb : 2 ≤ b) {l : List Nat} (ho : OkB b l) {m : Nat} (hm : m ≤ l.length) (hz : ∀ j x, m ≤ j → l[j]? = some x → x = 0) (hl : ∀ x, 0 < m → l[m - 1]? = some x → x ≠ 0) :
    l.take m = digs b (valB b l) := by
  have hval : valB b l = valB b (l.take m) := by
    conv => lhs; rw [← List.take_append_drop m l]
    rw [val_append]
    have : l.drop m = List.replicate (l.length - m) 0 := by
      apply List.ext_getElem?
      intro i
      rw [List.getElem?_drop, List.getElem?_replicate]
      split
      · rename_i hi
        have hlt : m + i < l.length := by omega
        rw [List.getElem?_eq_getElem hlt, hz (m + i) _ (by omega) (List.getElem?_eq_getElem hlt)]
      · rw [List.getElem?_eq_none (by omega)]
    rw [this, val_zeros, Nat.mul_zero, Nat.add_zero]
  rw [hval, digs_val hb (ok_take ho m)]
  intro x hx
  rcases Nat.eq_zero_or_pos m with rfl | h0
  · simp at hx
  · refine hl x h0 ?_
    rw [List.getLast?_eq_getElem?, List.length_take, Nat.min_eq_left hm, List.getElem?_take, if_pos (by omega)] at hx
    exact hx
theorem length_digs_le {b : Nat} (hb : 2 ≤ b) {l : List Nat} (ho : OkB b l) : (digs b (valB b l)).length ≤ l.length := by
  rcases Nat.lt_or_ge l.length (digs b (valB b l)).length with h | h
  · exfalso
    have hv := val_lt hb ho
    have hd := val_digs hb (valB b l)
    have hn := norm_digs hb (valB b l)
    have hne : digs b (valB b l) ≠ [] := by intro e; rw [e] at h; simp at h
    -- a list of so many digits, the last one no nought, is no less than the power
    obtain ⟨pre, x, hx⟩ : ∃ pre x, digs b (valB b l) = pre ++ [x] := ⟨_, _, (List.dropLast_concat_getLast hne).symm⟩
    have hx0 : x ≠ 0 := hn x (by rw [hx]; simp)
    have h1 : valB b l = valB b pre + b ^ pre.length * x := by rw [← val_snoc, ← hx, hd]
    have h2 : b ^ l.length ≤ b ^ pre.length := Nat.pow_le_pow_right (by omega) (by rw [hx] at h; simp at h; omega)
    have h3 : b ^ pre.length * 1 ≤ b ^ pre.length * x := Nat.mul_le_mul (Nat.le_refl _) (by omega)
    omega
  · exact h

/-- Where the noughts at the end begin. -/
theorem cut_ex (xs : List Nat) : ∃ m, m ≤ xs.length ∧ (∀ (j x : Nat), m ≤ j → xs[j]? = some x → x = 0) ∧ (∀ x, 0 < m → xs[m - 1]? = some x → x ≠ 0) := by
  have key : ∀ m, m ≤ xs.length → (∀ (j x : Nat), m ≤ j → xs[j]? = some x → x = 0) → ∃ m, m ≤ xs.length ∧ (∀ (j x : Nat), m ≤ j → xs[j]? = some x → x = 0) ∧ (∀ x, 0 < m → xs[m - 1]? = some x → x ≠ 0) := by
    intro m
    induction m with
    | zero => intro h1 h2; exact ⟨0, h1, h2, fun x h => absurd h (by omega)⟩
    | succ m ih =>
      intro h1 h2
      by_cases h : xs[m]? = some 0
      · refine ih (by omega) (fun j x hj hx => ?_)
        rcases Nat.lt_or_ge m j with h3 | h3
        · exact h2 j x h3 hx
        · obtain rfl : j = m := by omega
          rw [h] at hx
          exact (Option.some.inj hx).symm
      · refine ⟨m + 1, h1, h2, fun x _ hx e => ?_⟩
        rw [Nat.add_sub_cancel] at hx
        subst e
        exact h hx
  exact key xs.length (Nat.le_refl _) (fun j x hj hx => by rw [List.getElem?_eq_none hj] at hx; cases hx)
theorem val_take_succ (b : Nat) (l : List Nat) (k : Nat) : valB b (l.take (k + 1)) = valB b (l.take k) + b ^ k * l.getD k 0 := by
  rw [List.take_add_one]
  cases h : l[k]? with
  | none => simp [List.getD_eq_getElem?_getD, h]
  | some x =>
    have hk : k < l.length := (List.getElem?_eq_some_iff.1 h).1
    simp only [Option.toList_some, List.getD_eq_getElem?_getD, h, Option.getD_some]
    rw [val_snoc, List.length_take, Nat.min_eq_left (by omega)]
theorem val_set {b : Nat} {l : List Nat} {k x v : Nat} (h : l[k]? = some x) : valB b (l.set k v) + b ^ k * x = valB b l + b ^ k * v := by
  induction l generalizing k with
  | nil => simp at h
  | cons y l ih =>
    cases k with
    | zero =>
      simp at h
      subst h
      simp [valB]
      omega
    | succ k =>
      simp only [List.getElem?_cons_succ] at h
      have := ih h
      simp only [List.set_cons_succ, valB, Nat.pow_succ]
      have e1 : b * (valB b (l.set k v) + b ^ k * x) = b * (valB b l + b ^ k * v) := by rw [this]
      rw [Nat.mul_add, Nat.mul_add, ← Nat.mul_assoc, ← Nat.mul_assoc, Nat.mul_comm b (b ^ k)] at e1
      omega
theorem ok_set {b : Nat} {l : List Nat} (h : OkB b l) {k v : Nat} (hv : v < b) : OkB b (l.set k v) := by
  intro y hy
  rcases List.mem_or_eq_of_mem_set hy with hy | rfl
  · exact h y hy
  · exact hv
theorem ok_getD {b : Nat} (hb : 0 < b) {l : List Nat} (h : OkB b l) (k : Nat) : l.getD k 0 < b := by
  rw [List.getD_eq_getElem?_getD]
  cases hk : l[k]? with
  | none => simpa using hb
  | some x => simpa using h x (List.mem_of_getElem? hk)
theorem ok_zeros {b : Nat} (hb : 0 < b) (n : Nat) : OkB b (List.replicate n 0) := by
  intro x hx; rw [List.eq_of_mem_replicate hx]; exact hb

end NatP
end Go.Proofs.YtfgnghgmffaepaaDoor
