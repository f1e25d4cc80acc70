/- Numbers as digits, the lowest first: plain lists, no program. A list without a nought at its end is the digits of its value. No condition. Rules as plain lists: what is a rule, windows' numbers, images. No program. No condition. Sums: rules whose table is a sum take sums of words to sums of images. Plain lists, no program. No condition. Rules out of rules, as plain lists: tables told window by window; widened, narrowed, mirrored, shifted, one behind the other. No program. No condition. Rules out of rules, as plain lists: widened, narrowed, shifted, mirrored. No program. No condition. -/
import Derived.Test.YtpllojpgpejfmaaGreatDoorProg
namespace Go.Proofs.YtpllojpgpejfmaaGreatDoor
/-- Of one number, told by these packages at these places, from the outermost on. -/
abbrev Tale := Nat × List (ByteArray × Int)
/-- The number is one of the errors'. -/
def TaleOk (t : Option Tale) : Prop := ∀ x, t = some x → 1 ≤ x.1 ∧ x.1 ≤ 11
namespace NatP

def valB (b : Nat) : List Nat → Nat
  | [] => 0
  | x :: l => x + b * valB b l
def digsF (b : Nat) : Nat → Nat → List Nat
  | 0, _ => []
  | f + 1, v => if v = 0 then [] else (v % b) :: digsF b f (v / b)
def digs (b v : Nat) : List Nat := digsF b v v
def OkB (b : Nat) (l : List Nat) : Prop := ∀ x ∈ l, x < b
/-- No nought at the end. -/
def Norm (l : List Nat) : Prop := ∀ x, l.getLast? = some x → x ≠ 0

theorem digsF_fuel {b : Nat} (hb : 2 ≤ b) : ∀ (f g v : Nat), v ≤ f → v ≤ g → digsF b f v = digsF b g v := by
  intro f
  induction f with
  | zero =>
    intro g v h1 h2
    have : v = 0 := by omega
    subst this
    cases g <;> simp [digsF]
  | succ f ih =>
    intro g v h1 h2
    cases g with
    | zero =>
      have : v = 0 := by omega
      subst this
      simp [digsF]
    | succ g =>
      by_cases hv : v = 0
      · simp [digsF, hv]
      · have hlt : v / b < v := Nat.div_lt_self (by omega) (by omega)
        simp only [digsF, if_neg hv]
        rw [ih g (v / b) (by omega) (by omega)]
theorem digs_zero (b : Nat) : digs b 0 = [] := rfl
theorem digs_pos {b v : Nat} (hb : 2 ≤ b) (hv : 0 < v) : digs b v = v % b :: digs b (v / b) := by
  obtain ⟨u, rfl⟩ : ∃ u, v = u + 1 := ⟨v - 1, by omega⟩
  have hlt : (u + 1) / b < u + 1 := Nat.div_lt_self (by omega) (by omega)
  show digsF b (u + 1) (u + 1) = _
  rw [digsF, if_neg (by omega)]
  unfold digs
  rw [digsF_fuel hb u ((u + 1) / b) _ (by omega) (Nat.le_refl _)]

theorem val_digs {b : Nat} (hb : 2 ≤ b) (v : Nat) : valB b (digs b v) = v := by
  induction v using Nat.strongRecOn with
  | _ v ih =>
    rcases Nat.eq_zero_or_pos v with rfl | hv
    · rfl
    · rw [digs_pos hb hv, valB, ih _ (Nat.div_lt_self hv (by omega))]
      exact Nat.mod_add_div v b
theorem ok_digs {b : Nat} (hb : 2 ≤ b) (v : Nat) : OkB b (digs b v) := by
  induction v using Nat.strongRecOn with
  | _ v ih =>
    rcases Nat.eq_zero_or_pos v with rfl | hv
    · intro x hx; simp [digs_zero] at hx
    · rw [digs_pos hb hv]
      intro x hx
      rcases List.mem_cons.1 hx with rfl | hx
      · exact Nat.mod_lt _ (by omega)
      · exact ih _ (Nat.div_lt_self hv (by omega)) x hx
theorem digs_eq_nil {b v : Nat} (hb : 2 ≤ b) (h : digs b v = []) : v = 0 := by
  have := val_digs hb v
  rw [h] at this
  exact this.symm
theorem norm_digs {b : Nat} (hb : 2 ≤ b) (v : Nat) : Norm (digs b v) := by
  induction v using Nat.strongRecOn with
  | _ v ih =>
    rcases Nat.eq_zero_or_pos v with rfl | hv
    · intro x hx; simp [digs_zero] at hx
    · rw [digs_pos hb hv]
      intro x hx
      by_cases hq : v / b = 0
      · rw [hq, digs_zero] at hx
        simp at hx
        subst hx
        have := Nat.mod_add_div v b
        rw [hq] at this
        omega
      · have hne : digs b (v / b) ≠ [] := fun h => hq (digs_eq_nil hb h)
        rw [List.getLast?_cons_of_ne_nil hne] at hx
        exact ih _ (Nat.div_lt_self hv (by omega)) x hx

theorem norm_tail {x : Nat} {l : List Nat} (h : Norm (x :: l)) : Norm l := by
  intro y hy
  cases l with
  | nil => simp at hy
  | cons z l => exact h y (by rw [List.getLast?_cons_of_ne_nil (by simp)]; exact hy)
theorem val_pos {b : Nat} (hb : 2 ≤ b) : ∀ {l : List Nat}, Norm l → l ≠ [] → 0 < valB b l := by
  intro l
  induction l with
  | nil => intro _ h; exact absurd rfl h
  | cons x l ih =>
    intro h _
    cases l with
    | nil =>
      have := h x (by simp)
      simp [valB]; omega
    | cons z l =>
      have := ih (norm_tail h) (by simp)
      have h2 : 0 < b * valB b (z :: l) := Nat.mul_pos (by omega) this
      simp only [valB] at h2 ⊢
      omega
theorem digs_val {b : Nat} (hb : 2 ≤ b) : ∀ {l : List Nat}, OkB b l → Norm l → digs b (valB b l) = l := by
  intro l
  induction l with
  | nil => intro _ _; rfl
  | cons x l ih =>
    intro ho hn
    have hx : x < b := ho x (by simp)
    have hpos := val_pos hb hn (by simp)
    rw [digs_pos hb hpos]
    have e1 : valB b (x :: l) % b = x := by
      simp only [valB]
      rw [Nat.add_mul_mod_self_left, Nat.mod_eq_of_lt hx]
    have e2 : valB b (x :: l) / b = valB b l := by
      simp only [valB]
      rw [Nat.add_mul_div_left _ _ (by omega), Nat.div_eq_of_lt hx, Nat.zero_add]
    rw [e1, e2, ih (fun y hy => ho y (by simp [hy])) (norm_tail hn)]

theorem val_append (b : Nat) (l m : List Nat) : valB b (l ++ m) = valB b l + b ^ l.length * valB b m := by
  induction l with
  | nil => simp [valB]
  | cons x l ih =>
    simp only [List.cons_append, valB, List.length_cons, ih, Nat.pow_succ]
    rw [Nat.mul_add, Nat.add_assoc, ← Nat.mul_assoc, Nat.mul_comm (b ^ l.length) b]
theorem val_zeros (b n : Nat) : valB b (List.replicate n 0) = 0 := by
  induction n with
  | zero => rfl
  | succ n ih => simp [List.replicate_succ, valB, ih]
theorem val_snoc (b : Nat) (l : List Nat) (x : Nat) : valB b (l ++ [x]) = valB b l + b ^ l.length * x := by
  rw [val_append]; simp [valB]
theorem val_lt {b : Nat} (_hb : 2 ≤ b) : ∀ {l : List Nat}, OkB b l → valB b l < b ^ l.length := by
  intro l
  induction l with
  | nil => intro _; simp [valB]
  | cons x l ih =>
    intro h
    have h1 := h x (by simp)
    have h2 := ih (fun y hy => h y (by simp [hy]))
    simp only [valB, List.length_cons, Nat.pow_succ]
    have : b * (valB b l + 1) ≤ b * b ^ l.length := Nat.mul_le_mul (Nat.le_refl b) (by omega)
    rw [Nat.mul_add, Nat.mul_one] at this
    rw [Nat.mul_comm (b ^ l.length) b]
    omega
theorem ok_take {b : Nat} {l : List Nat} (h : OkB b l) (k : Nat) : OkB b (l.take k) := fun x hx => h x (List.mem_of_mem_take hx)
theorem ok_append {b : Nat} {l m : List Nat} (h : OkB b l) (h' : OkB b m) : OkB b (l ++ m) := by
  intro x hx
  rcases List.mem_append.1 hx with hx | hx
  · exact h x hx
  · exact h' x hx

/-- Cut where the noughts at the end begin: the digits of the value. -/
theorem cut_eq {b : Nat} (hb : 2 ≤ b) {l : List Nat} (ho : OkB b l) {m : Nat} (hm : m ≤ l.length) (hz : ∀ j x, m ≤ j → l[j]? = some x → x = 0) (hl : ∀ x, 0 < m → l[m - 1]? = some x → x ≠ 0) :
    l.take m = digs b (valB b l) := by
  have hval : valB b l = valB b (l.take m) := by
    conv => lhs; rw [← List.take_append_drop m l]
    rw [val_append]
    have : l.drop m = List.replicate (l.length - m) 0 := by
      apply List.ext_getElem?
      intro i
      rw [List.getElem?_drop, List.getElem?_replicate]
      split
      · rename_i hi
        have hlt : m + i < l.length := by omega
        rw [List.getElem?_eq_getElem hlt, hz (m + i) _ (by omega) (List.getElem?_eq_getElem hlt)]
      · rw [List.getElem?_eq_none (by omega)]
    rw [this, val_zeros, Nat.mul_zero, Nat.add_zero]
  rw [hval, digs_val hb (ok_take ho m)]
  intro x hx
  rcases Nat.eq_zero_or_pos m with rfl | h0
  · simp at hx
  · refine hl x h0 ?_
    rw [List.getLast?_eq_getElem?, List.length_take, Nat.min_eq_left hm, List.getElem?_take, if_pos (by omega)] at hx
    exact hx
theorem length_digs_le {b : Nat} (hb : 2 ≤ b) {l : List Nat} (ho : OkB b l) : (digs b (valB b l)).length ≤ l.length := by
  rcases Nat.lt_or_ge l.length (digs b (valB b l)).length with h | h
  · exfalso
    have hv := val_lt hb ho
    have hd := val_digs hb (valB b l)
    have hn := norm_digs hb (valB b l)
    have hne : digs b (valB b l) ≠ [] := by intro e; rw [e] at h; simp at h
    -- a list of so many digits, the last one no nought, is no less than the power
    obtain ⟨pre, x, hx⟩ : ∃ pre x, digs b (valB b l) = pre ++ [x] := ⟨_, _, (List.dropLast_concat_getLast hne).symm⟩
    have hx0 : x ≠ 0 := hn x (by rw [hx]; simp)
    have h1 : valB b l = valB b pre + b ^ pre.length * x := by rw [← val_snoc, ← hx, hd]
    have h2 : b ^ l.length ≤ b ^ pre.length := Nat.pow_le_pow_right (by omega) (by rw [hx] at h; simp at h; omega)
    have h3 : b ^ pre.length * 1 ≤ b ^ pre.length * x := Nat.mul_le_mul (Nat.le_refl _) (by omega)
    omega
  · exact h

/-- Where the noughts at the end begin. -/
theorem cut_ex (xs : List Nat) : ∃ m, m ≤ xs.length ∧ (∀ (j x : Nat), m ≤ j → xs[j]? = some x → x = 0) ∧ (∀ x, 0 < m → xs[m - 1]? = some x → x ≠ 0) := by
  have key : ∀ m, m ≤ xs.length → (∀ (j x : Nat), m ≤ j → xs[j]? = some x → x = 0) → ∃ m, m ≤ xs.length ∧ (∀ (j x : Nat), m ≤ j → xs[j]? = some x → x = 0) ∧ (∀ x, 0 < m → xs[m - 1]? = some x → x ≠ 0) := by
    intro m
    induction m with
    | zero => intro h1 h2; exact ⟨0, h1, h2, fun x h => absurd h (by omega)⟩
    | succ m ih =>
      intro h1 h2
      by_cases h : xs[m]? = some 0
      · refine ih (by omega) (fun j x hj hx => ?_)
        rcases Nat.lt_or_ge m j with h3 | h3
        · exact h2 j x h3 hx
        · obtain rfl : j = m := by omega
          rw [h] at hx
          exact (Option.some.inj hx).symm
      · refine ⟨m + 1, h1, h2, fun x _ hx e => ?_⟩
        rw [Nat.add_sub_cancel] at hx
        subst e
        exact h hx
  exact key xs.length (Nat.le_refl _) (fun j x hj hx => by rw [List.getElem?_eq_none hj] at hx; cases hx)
theorem val_take_succ (b : Nat) (l : List Nat) (k : Nat) : valB b (l.take (k + 1)) = valB b (l.take k) + b ^ k * l.getD k 0 := by
  rw [List.take_add_one]
  cases h : l[k]? with
  | none => simp [List.getD_eq_getElem?_getD, h]
  | some x =>
    have hk : k < l.length := (List.getElem?_eq_some_iff.1 h).1
    simp only [Option.toList_some, List.getD_eq_getElem?_getD, h, Option.getD_some]
    rw [val_snoc, List.length_take, Nat.min_eq_left (by omega)]
theorem val_set {b : Nat} {l : List Nat} {k x v : Nat} (h : l[k]? = some x) : valB b (l.set k v) + b ^ k * x = valB b l + b ^ k * v := by
  induction l generalizing k with
  | nil => simp at h
  | cons y l ih =>
    cases k with
    | zero =>
      simp at h
      subst h
      simp [valB]
      omega
    | succ k =>
      simp only [List.getElem?_cons_succ] at h
      have := ih h
      simp only [List.set_cons_succ, valB, Nat.pow_succ]
      have e1 : b * (valB b (l.set k v) + b ^ k * x) = b * (valB b l + b ^ k * v) := by rw [this]
      rw [Nat.mul_add, Nat.mul_add, ← Nat.mul_assoc, ← Nat.mul_assoc, Nat.mul_comm b (b ^ k)] at e1
      omega
theorem ok_set {b : Nat} {l : List Nat} (h : OkB b l) {k v : Nat} (hv : v < b) : OkB b (l.set k v) := by
  intro y hy
  rcases List.mem_or_eq_of_mem_set hy with hy | rfl
  · exact h y hy
  · exact hv
theorem ok_getD {b : Nat} (hb : 0 < b) {l : List Nat} (h : OkB b l) (k : Nat) : l.getD k 0 < b := by
  rw [List.getD_eq_getElem?_getD]
  cases hk : l[k]? with
  | none => simpa using hb
  | some x => simpa using h x (List.mem_of_getElem? hk)
theorem ok_zeros {b : Nat} (hb : 0 < b) (n : Nat) : OkB b (List.replicate n 0) := by
  intro x hx; rw [List.eq_of_mem_replicate hx]; exact hb

end NatP
end Go.Proofs.YtpllojpgpejfmaaGreatDoor

namespace Go.Proofs.YtpllojpgpejfmaaGreatDoor
namespace RuleP

def sRule : ByteArray := ⟨#[114, 117, 108, 101]⟩
/-- The first place that holds no symbol below k. -/
def odd (k : Int) (w : List Int) : Option Nat := w.findIdx? fun x => decide (x < 0 ∨ k ≤ x)
def check (K R : Int) (T : List Int) : Option Tale :=
  if K < 1 ∨ 4 < K then some (1, [(sRule, 0)])
  else if R < 0 ∨ 3 < R then some (1, [(sRule, 1)])
  else if T.length ≠ K.toNat ^ (2 * R.toNat + 1) then some (1, [(sRule, 2)])
  else match odd K T with
  | some i => some (1, [(sRule, 3 + (i : Int))])
  | none => none
def small (K R : Int) (T : List Int) : Option Tale :=
  match check K R T with
  | some t => some t
  | none => if 256 < T.length then some (4, [(sRule, 0)]) else none
theorem check_ok (K R : Int) (T : List Int) : TaleOk (check K R T) := by
  intro x h
  unfold check at h
  split at h
  · cases h; decide
  split at h
  · cases h; decide
  split at h
  · cases h; decide
  split at h
  · cases h; exact ⟨by simp, by simp⟩
  · cases h
/-- It is a rule of k symbols and radius r. -/
structure IsRule (k r : Nat) (t : List Nat) : Prop where
  k1 : 1 ≤ k
  k4 : k ≤ 4
  r3 : r ≤ 3
  len : t.length = k ^ (2 * r + 1)
  sym : ∀ x ∈ t, x < k
def ints (l : List Nat) : List Int := l.map fun (x : Nat) => (x : Int)
theorem ints_len (l : List Nat) : (ints l).length = l.length := by simp [ints]
theorem ints_map {α : Type} (f : Int → α) (l : List Nat) : (ints l).map f = l.map fun (x : Nat) => f (x : Int) := by simp [ints]
theorem ints_inj : ∀ {a b : List Nat}, ints a = ints b → a = b := by
  intro a
  induction a with
  | nil => intro b h; cases b with
    | nil => rfl
    | cons y b => simp [ints] at h
  | cons x a ih => intro b h; cases b with
    | nil => simp [ints] at h
    | cons y b =>
      simp only [ints, List.map_cons, List.cons.injEq] at h
      rw [ih h.2, show x = y from by omega]
theorem odd_none {k : Int} {w : List Int} (h : odd k w = none) : ∀ x ∈ w, 0 ≤ x ∧ x < k := by
  intro x hx
  have := List.findIdx?_eq_none_iff.1 h x hx
  simp at this
  omega
theorem odd_nat {k : Nat} {w : List Int} (h : odd (k : Int) w = none) : ∃ v : List Nat, w = ints v ∧ ∀ x ∈ v, x < k := by
  have h' := odd_none h
  refine ⟨w.map Int.toNat, ?_, ?_⟩
  · rw [ints, List.map_map]
    conv => lhs; rw [← List.map_id w]
    apply List.map_congr_left
    intro x hx
    have := h' x hx
    simp; omega
  · intro x hx
    obtain ⟨y, hy, rfl⟩ := List.mem_map.1 hx
    have := h' y hy
    omega
theorem odd_ints {k : Nat} {v : List Nat} (h : ∀ x ∈ v, x < k) : odd (k : Int) (ints v) = none := by
  refine List.findIdx?_eq_none_iff.2 fun x hx => ?_
  obtain ⟨y, hy, rfl⟩ := List.mem_map.1 hx
  have := h y hy
  simp; omega
theorem odd_some {k : Int} {w : List Int} {i : Nat} (h : odd k w = some i) : i < w.length := by
  obtain ⟨h1, _⟩ := List.findIdx?_eq_some_iff_getElem.1 h
  exact h1

theorem check_none {K R : Int} {T : List Int} (h : check K R T = none) : ∃ (k r : Nat) (t : List Nat), K = (k : Int) ∧ R = (r : Int) ∧ T = ints t ∧ IsRule k r t := by
  unfold check at h
  split at h
  · cases h
  split at h
  · cases h
  split at h
  · cases h
  rename_i h1 h2 h3
  split at h
  · cases h
  rename_i h4
  have hk : K = (K.toNat : Int) := by omega
  rw [hk] at h4
  obtain ⟨v, hv, hs⟩ := odd_nat h4
  refine ⟨K.toNat, R.toNat, v, hk, by omega, hv, ⟨by omega, by omega, by omega, ?_, hs⟩⟩
  rw [← ints_len, ← hv]
  exact Decidable.not_not.1 h3
theorem check_rule {k r : Nat} {t : List Nat} (h : IsRule k r t) : check k r (ints t) = none := by
  have h1 := h.k1
  have h2 := h.k4
  have h3 := h.r3
  unfold check
  rw [if_neg (by omega), if_neg (by omega), if_neg (by rw [ints_len, h.len]; simp), odd_ints h.sym]
theorem pow_le {k r : Nat} (hk : k ≤ 4) (hr : r ≤ 3) : k ^ (2 * r + 1) ≤ 16384 := by
  have h1 : k ^ (2 * r + 1) ≤ 4 ^ (2 * r + 1) := Nat.pow_le_pow_left hk _
  have h2 : 4 ^ (2 * r + 1) ≤ 4 ^ 7 := Nat.pow_le_pow_right (by decide) (by omega)
  have h3 : 4 ^ 7 = 16384 := by decide
  omega
theorem IsRule.le {k r : Nat} {t : List Nat} (h : IsRule k r t) : t.length ≤ 16384 := by rw [h.len]; exact pow_le h.k4 h.r3
theorem IsRule.pos {k r : Nat} {t : List Nat} (h : IsRule k r t) : 0 < t.length := by rw [h.len]; exact Nat.pow_pos h.k1

/-- The number that symbols write in base k. -/
def wval (k : Nat) (w : List Nat) : Nat := w.foldl (fun n x => n * k + x) 0
theorem wval_snoc (k : Nat) (w : List Nat) (x : Nat) : wval k (w ++ [x]) = wval k w * k + x := by simp [wval]
theorem wval_nil (k : Nat) : wval k [] = 0 := rfl
theorem foldl_from (k : Nat) : ∀ (b : List Nat) (n : Nat), b.foldl (fun n x => n * k + x) n = n * k ^ b.length + wval k b := by
  intro b
  induction b with
  | nil => intro n; simp [wval]
  | cons y b ih =>
    intro n
    have e : wval k (y :: b) = y * k ^ b.length + wval k b := by
      show b.foldl _ (0 * k + y) = _
      rw [ih]; simp
    rw [List.foldl_cons, ih, e, List.length_cons, Nat.pow_succ, Nat.add_mul, Nat.mul_assoc, Nat.mul_comm (k ^ b.length) k, Nat.add_assoc]
theorem wval_append (k : Nat) (a b : List Nat) : wval k (a ++ b) = wval k a * k ^ b.length + wval k b := by
  show (a ++ b).foldl _ 0 = _
  rw [List.foldl_append, foldl_from]
  rfl
theorem wval_lt {k : Nat} : ∀ {w : List Nat}, (∀ x ∈ w, x < k) → wval k w < k ^ w.length := by
  intro w
  induction w with
  | nil => intro _; simp [wval]
  | cons x w ih =>
    intro h
    have h1 := h x (by simp)
    have h2 := ih (fun y hy => h y (by simp [hy]))
    rw [show x :: w = [x] ++ w from rfl, wval_append, show wval k [x] = x from by simp [wval], List.length_append, List.length_singleton, Nat.add_comm 1, Nat.pow_succ, Nat.mul_comm _ k]
    have : (x + 1) * k ^ w.length ≤ k * k ^ w.length := Nat.mul_le_mul_right _ h1
    rw [Nat.add_mul, Nat.one_mul] at this
    omega
/-- The last m symbols' number is the whole number's remainder. -/
theorem wval_mod {k : Nat} (a : List Nat) {b : List Nat} (hb : ∀ x ∈ b, x < k) : wval k (a ++ b) % k ^ b.length = wval k b := by
  rw [wval_append, Nat.add_comm, Nat.add_mul_mod_self_right, Nat.mod_eq_of_lt (wval_lt hb)]

/-- Window number i of a word, of m symbols. -/
def win (w : List Nat) (i m : Nat) : List Nat := (w.drop i).take m
theorem win_len {w : List Nat} {i m : Nat} (h : i + m ≤ w.length) : (win w i m).length = m := by simp [win]; omega
/-- The image of a word. -/
def image (k r : Nat) (t w : List Nat) : List Nat := (List.range (w.length - 2 * r)).map fun i => t.getD (wval k (win w i (2 * r + 1))) 0
theorem image_len (k r : Nat) (t w : List Nat) : (image k r t w).length = w.length - 2 * r := by simp [image]
theorem image_at {k r : Nat} {t w : List Nat} {i : Nat} (h : i + 2 * r < w.length) : (image k r t w)[i]? = some (t.getD (wval k (win w i (2 * r + 1))) 0) := by
  unfold image
  rw [List.getElem?_map, List.getElem?_range (by omega)]
  rfl
theorem win_sym {k : Nat} {w : List Nat} (h : ∀ x ∈ w, x < k) (i m : Nat) : ∀ x ∈ win w i m, x < k := fun x hx => h x (List.mem_of_mem_drop (List.mem_of_mem_take hx))
theorem win_lt {k r : Nat} {t w : List Nat} (hr : IsRule k r t) (h : ∀ x ∈ w, x < k) {i : Nat} (hi : i + 2 * r < w.length) : wval k (win w i (2 * r + 1)) < t.length := by
  have := wval_lt (win_sym h i (2 * r + 1))
  rwa [win_len (by omega), ← hr.len] at this
theorem image_sym {k r : Nat} {t w : List Nat} (hr : IsRule k r t) (h : ∀ x ∈ w, x < k) : ∀ x ∈ image k r t w, x < k := by
  intro x hx
  obtain ⟨i, hi, rfl⟩ := List.mem_map.1 hx
  have hi' : i + 2 * r < w.length := by have := List.mem_range.1 hi; omega
  have := win_lt hr h hi'
  rw [List.getD_eq_getElem?_getD, List.getElem?_eq_getElem this]
  exact hr.sym _ (List.getElem_mem _)

/-- The rolling number of the window that ends at a place. -/
def roll (k L : Nat) (w : List Nat) : Nat := wval k w % L
theorem roll_snoc (k L : Nat) (w : List Nat) (x : Nat) : roll k L (w ++ [x]) = (roll k L w * k + x) % L := by
  unfold roll
  rw [wval_snoc, Nat.add_mod (wval k w * k), Nat.add_mod (wval k w % L * k), Nat.mod_mul_mod]
theorem roll_win {k r : Nat} {w : List Nat} (h : ∀ x ∈ w, x < k) {i : Nat} (hi : i + 2 * r < w.length) : roll k (k ^ (2 * r + 1)) (w.take (i + 2 * r + 1)) = wval k (win w i (2 * r + 1)) := by
  have e : w.take (i + 2 * r + 1) = w.take i ++ win w i (2 * r + 1) := by
    unfold win
    rw [show i + 2 * r + 1 = i + (2 * r + 1) from by omega, List.take_add]
  unfold roll
  rw [e]
  have := wval_mod (k := k) (w.take i) (win_sym h i (2 * r + 1))
  rwa [win_len (by omega)] at this
end RuleP
end Go.Proofs.YtpllojpgpejfmaaGreatDoor

namespace Go.Proofs.YtpllojpgpejfmaaGreatDoor
namespace RuleP

/-- A number's digits in base k, the highest first. -/
def digB : Nat → Nat → Nat → List Nat
  | _, 0, _ => []
  | k, n + 1, x => digB k n (x / k) ++ [x % k]
theorem digB_len (k n x : Nat) : (digB k n x).length = n := by
  induction n generalizing x with
  | zero => rfl
  | succ n ih => simp [digB, ih]
theorem digB_sym {k : Nat} (hk : 0 < k) (n x : Nat) : ∀ y ∈ digB k n x, y < k := by
  induction n generalizing x with
  | zero => intro y hy; simp [digB] at hy
  | succ n ih =>
    intro y hy
    rcases List.mem_append.1 hy with hy | hy
    · exact ih _ y hy
    · simp at hy; subst hy; exact Nat.mod_lt _ hk
theorem list_snoc {n : Nat} {w : List Nat} (h : w.length = n + 1) : ∃ v x, w = v ++ [x] ∧ v.length = n := by
  have hne : w ≠ [] := by intro e; subst e; simp at h
  exact ⟨w.dropLast, w.getLast hne, (List.dropLast_concat_getLast hne).symm, by simp [h]⟩
theorem digB_wval {k : Nat} (hk : 0 < k) : ∀ (n : Nat) (w : List Nat), w.length = n → (∀ x ∈ w, x < k) → digB k n (wval k w) = w := by
  intro n
  induction n with
  | zero => intro w h _; simp at h; subst h; rfl
  | succ n ih =>
    intro w h hs
    obtain ⟨v, x, rfl, hv⟩ := list_snoc h
    have hx : x < k := hs x (by simp)
    rw [wval_snoc, digB, Nat.mul_comm, Nat.mul_add_div hk, Nat.div_eq_of_lt hx, Nat.add_zero, Nat.mul_add_mod, Nat.mod_eq_of_lt hx, ih v hv (fun y hy => hs y (by simp [hy]))]

def lin (k : Nat) (x f : List Nat) : Nat := (List.zipWith (· * ·) x f).sum % k
theorem lin_lt {k : Nat} (hk : 0 < k) (x f : List Nat) : lin k x f < k := Nat.mod_lt _ hk
/-- The table is a sum. -/
def SumT (k r : Nat) (t f : List Nat) : Prop := t.length = k ^ (2 * r + 1) ∧ ∀ (i : Nat), i < k ^ (2 * r + 1) → t[i]? = some (lin k (digB k (2 * r + 1) i) f)
theorem SumT.rule {k r : Nat} {t f : List Nat} (h : SumT k r t f) (k1 : 1 ≤ k) (k4 : k ≤ 4) (r3 : r ≤ 3) : IsRule k r t := ⟨k1, k4, r3, h.1, fun x hx => by
  obtain ⟨i, hi⟩ := List.getElem?_of_mem hx
  have := (List.getElem?_eq_some_iff.1 hi).1
  rw [h.1] at this
  rw [h.2 i this] at hi
  cases hi
  exact lin_lt k1 _ _⟩
theorem SumT.at_ {k r : Nat} {t f : List Nat} (h : SumT k r t f) (k1 : 1 ≤ k) {w : List Nat} (hl : w.length = 2 * r + 1) (hs : ∀ x ∈ w, x < k) : t.getD (wval k w) 0 = lin k w f := by
  have h1 := wval_lt hs
  rw [hl] at h1
  rw [List.getD_eq_getElem?_getD, h.2 _ h1, digB_wval k1 _ w hl hs]
  rfl
end RuleP
end Go.Proofs.YtpllojpgpejfmaaGreatDoor

namespace Go.Proofs.YtpllojpgpejfmaaGreatDoor
namespace RuleP

/-- A window's symbol by a table. -/
def sy (k : Nat) (t v : List Nat) : Nat := t.getD (wval k v) 0
/-- The table whose symbols are told window by window. -/
def tab (k n : Nat) (f : List Nat → Nat) : List Nat := (List.range (k ^ n)).map fun i => f (digB k n i)
theorem tab_len (k n : Nat) (f : List Nat → Nat) : (tab k n f).length = k ^ n := by simp [tab]
theorem dig_wval {k : Nat} (hk : 0 < k) : ∀ {n u : Nat}, u < k ^ n → wval k (digB k n u) = u
  | 0, u, h => by simp at h; subst h; rfl
  | n + 1, u, h => by
    have h1 : u / k < k ^ n := by
      rw [Nat.pow_succ] at h
      exact Nat.div_lt_of_lt_mul (by rw [Nat.mul_comm]; exact h)
    rw [digB, wval_snoc, dig_wval hk h1, Nat.mul_comm]
    exact Nat.div_add_mod u k
theorem tab_at {k n : Nat} (hk : 0 < k) (f : List Nat → Nat) {v : List Nat} (hl : v.length = n) (hs : ∀ x ∈ v, x < k) : (tab k n f)[wval k v]? = some (f v) := by
  have h := wval_lt hs
  rw [hl] at h
  unfold tab
  rw [List.getElem?_map, List.getElem?_range h]
  simp only [Option.map_some]
  rw [digB_wval hk n v hl hs]
theorem tab_get {k n i : Nat} (f : List Nat → Nat) (h : i < k ^ n) : (tab k n f)[i]? = some (f (digB k n i)) := by
  unfold tab
  rw [List.getElem?_map, List.getElem?_range h]
  rfl
theorem sy_tab {k n : Nat} (hk : 0 < k) (f : List Nat → Nat) {v : List Nat} (hl : v.length = n) (hs : ∀ x ∈ v, x < k) : sy k (tab k n f) v = f v := by
  unfold sy
  rw [List.getD_eq_getElem?_getD, tab_at hk f hl hs]
  rfl
theorem tab_sym {k n : Nat} (hk : 0 < k) {f : List Nat → Nat} (hf : ∀ v : List Nat, v.length = n → (∀ x ∈ v, x < k) → f v < k) : ∀ x ∈ tab k n f, x < k := by
  intro x hx
  unfold tab at hx
  obtain ⟨i, _, rfl⟩ := List.mem_map.1 hx
  exact hf _ (digB_len _ _ _) (digB_sym hk _ _)
theorem tab_rule {k r : Nat} (k1 : 1 ≤ k) (k4 : k ≤ 4) (r3 : r ≤ 3) {f : List Nat → Nat} (hf : ∀ v : List Nat, v.length = 2 * r + 1 → (∀ x ∈ v, x < k) → f v < k) : IsRule k r (tab k (2 * r + 1) f) :=
  ⟨k1, k4, r3, tab_len _ _ _, tab_sym k1 hf⟩
theorem tab_congr {k n : Nat} (hk : 0 < k) {f g : List Nat → Nat} (h : ∀ v : List Nat, v.length = n → (∀ x ∈ v, x < k) → f v = g v) : tab k n f = tab k n g := by
  unfold tab
  exact List.map_congr_left fun i _ => h _ (digB_len _ _ _) (digB_sym hk _ _)
theorem sy_lt {k r : Nat} {t v : List Nat} (hr : IsRule k r t) (hl : v.length = 2 * r + 1) (hs : ∀ x ∈ v, x < k) : sy k t v < k := by
  have h := wval_lt hs
  rw [hl, ← hr.len] at h
  unfold sy
  rw [List.getD_eq_getElem?_getD, List.getElem?_eq_getElem h]
  exact hr.sym _ (List.getElem_mem _)
theorem tab_sy {k r : Nat} {t : List Nat} (hr : IsRule k r t) : tab k (2 * r + 1) (sy k t) = t := by
  apply List.ext_getElem (by rw [tab_len, hr.len])
  intro i h1 h2
  have h3 : i < k ^ (2 * r + 1) := by rwa [tab_len] at h1
  have h4 := tab_get (sy k t) h3
  rw [List.getElem?_eq_getElem h1] at h4
  rw [Option.some.inj h4]
  unfold sy
  rw [dig_wval hr.k1 h3, List.getD_eq_getElem?_getD, List.getElem?_eq_getElem h2]
  rfl

/-! ### windows of windows -/
theorem win_win {w : List Nat} {i m j n : Nat} (h : j + n ≤ m) : win (win w i m) j n = win w (i + j) n := by
  unfold win
  rw [List.drop_take, List.take_take, List.drop_drop, Nat.min_eq_left (by omega)]
theorem win_all {w : List Nat} {n : Nat} (h : w.length = n) : win w 0 n = w := by
  unfold win
  rw [List.drop_zero, List.take_of_length_le (by omega)]
theorem win_at {w : List Nat} {i n j : Nat} (h : j < n) : (win w i n)[j]? = w[i + j]? := by
  unfold win
  rw [List.getElem?_take, if_pos h, List.getElem?_drop]
theorem image_part {k r : Nat} {t w : List Nat} {i m : Nat} (h : i + m ≤ w.length) (hm : 2 * r ≤ m) : image k r t (win w i m) = win (image k r t w) i (m - 2 * r) := by
  have hl : (win w i m).length = m := win_len h
  apply List.ext_getElem?
  intro j
  by_cases hj : j + 2 * r < m
  · rw [image_at (by rw [hl]; exact hj), win_at (by omega), image_at (by omega), win_win (by omega)]
  · rw [List.getElem?_eq_none (by rw [image_len, hl]; omega), List.getElem?_eq_none]
    rw [win_len (by rw [image_len]; omega)]
    omega
theorem image_one {k r : Nat} {t v : List Nat} (h : v.length = 2 * r + 1) : image k r t v = [sy k t v] := by
  unfold image
  rw [h, show 2 * r + 1 - 2 * r = 1 by omega]
  simp [win_all h, sy]

/-! ### one behind the other -/
def comp (k ra : Nat) (ta : List Nat) (rb : Nat) (tb : List Nat) : List Nat := tab k (2 * (ra + rb) + 1) fun v => sy k ta (image k rb tb v)
theorem comp_rule {k ra rb : Nat} {ta tb : List Nat} (ha : IsRule k ra ta) (hb : IsRule k rb tb) (h3 : ra + rb ≤ 3) : IsRule k (ra + rb) (comp k ra ta rb tb) :=
  tab_rule ha.k1 ha.k4 h3 fun v hl hs => sy_lt ha (by rw [image_len, hl]; omega) (image_sym hb hs)
theorem image_comp {k ra rb : Nat} {ta tb w : List Nat} (ha : IsRule k ra ta) (hb : IsRule k rb tb) (hs : ∀ x ∈ w, x < k) : image k (ra + rb) (comp k ra ta rb tb) w = image k ra ta (image k rb tb w) := by
  apply List.ext_getElem?
  intro i
  by_cases hi : i + 2 * (ra + rb) < w.length
  · rw [image_at hi, image_at (by rw [image_len]; omega)]
    have h1 : i + (2 * (ra + rb) + 1) ≤ w.length := by omega
    have h2 := sy_tab ha.k1 (fun v => sy k ta (image k rb tb v)) (win_len h1) (win_sym hs i (2 * (ra + rb) + 1))
    rw [image_part h1 (by omega), show 2 * (ra + rb) + 1 - 2 * rb = 2 * ra + 1 by omega] at h2
    exact congrArg some h2
  · rw [List.getElem?_eq_none (by rw [image_len]; omega), List.getElem?_eq_none (by rw [image_len, image_len]; omega)]
theorem comp_assoc {k ra rb rc : Nat} {ta tb tc : List Nat} (ha : IsRule k ra ta) (hb : IsRule k rb tb) (hc : IsRule k rc tc) :
    comp k (ra + rb) (comp k ra ta rb tb) rc tc = comp k ra ta (rb + rc) (comp k rb tb rc tc) := by
  unfold comp
  rw [show 2 * (ra + rb + rc) + 1 = 2 * (ra + (rb + rc)) + 1 by omega]
  refine tab_congr ha.k1 fun v hl hs => ?_
  have h1 := sy_tab ha.k1 (fun v => sy k ta (image k rb tb v)) (v := image k rc tc v) (n := 2 * (ra + rb) + 1) (by rw [image_len, hl]; omega) (image_sym hc hs)
  have h2 := image_comp hb hc hs
  unfold comp at h2
  rw [h2]
  exact h1
/-- Each cell stays. -/
def idT (k : Nat) : List Nat := tab k 1 fun v => v.getD 0 0
theorem one_of {v : List Nat} (h : v.length = 1) : v = [v.getD 0 0] := by
  match v, h with
  | [x], _ => rfl
theorem idT_rule {k : Nat} (k1 : 1 ≤ k) (k4 : k ≤ 4) : IsRule k 0 (idT k) :=
  tab_rule (r := 0) k1 k4 (by decide) fun v hl hs => by
    rw [one_of hl] at hs
    exact hs _ (by simp)
theorem sy_id {k : Nat} {v : List Nat} (hk : 0 < k) (hl : v.length = 1) (hs : ∀ x ∈ v, x < k) : sy k (idT k) v = v.getD 0 0 := sy_tab hk _ hl hs
theorem image_id {k : Nat} {w : List Nat} (hk : 0 < k) (hs : ∀ x ∈ w, x < k) : image k 0 (idT k) w = w := by
  apply List.ext_getElem?
  intro i
  by_cases hi : i < w.length
  · rw [image_at (by omega)]
    have h1 : (win w i 1).length = 1 := win_len (by omega)
    have h2 := sy_id hk h1 (win_sym hs i 1)
    have h3 := win_at (w := w) (i := i) (n := 1) (j := 0) (by omega)
    rw [List.getElem?_eq_getElem hi]
    refine congrArg some (h2.trans ?_)
    rw [List.getD_eq_getElem?_getD, h3, Nat.add_zero, List.getElem?_eq_getElem hi]
    rfl
  · rw [List.getElem?_eq_none (by rw [image_len]; omega), List.getElem?_eq_none (by omega)]
theorem comp_id {k r : Nat} {t : List Nat} (hr : IsRule k r t) : comp k r t 0 (idT k) = t := by
  have : comp k r t 0 (idT k) = tab k (2 * r + 1) (sy k t) := tab_congr hr.k1 fun v _ hs => by
    show sy k t (image k 0 (idT k) v) = sy k t v
    rw [image_id hr.k1 hs]
  rw [this, tab_sy hr]

/-! ### powers -/
def pw (k r : Nat) (t : List Nat) : Nat → List Nat
  | 0 => idT k
  | n + 1 => comp k r t (n * r) (pw k r t n)
theorem pw_rule {k r : Nat} {t : List Nat} (hr : IsRule k r t) : ∀ {n : Nat}, n * r ≤ 3 → IsRule k (n * r) (pw k r t n)
  | 0, _ => by rw [Nat.zero_mul]; exact idT_rule hr.k1 hr.k4
  | n + 1, h => by
    have h1 : (n + 1) * r = r + n * r := by rw [Nat.add_mul, Nat.one_mul, Nat.add_comm]
    rw [h1] at h ⊢
    exact comp_rule hr (pw_rule hr (by omega)) h
/-- Of the radius 0: powers add up. -/
theorem pw_add {k : Nat} {t : List Nat} (hr : IsRule k 0 t) (b : Nat) : ∀ a, pw k 0 t (a + b) = comp k 0 (pw k 0 t a) 0 (pw k 0 t b)
  | 0 => by
    have hb : IsRule k 0 (pw k 0 t b) := pw_rule hr (n := b) (by omega)
    rw [Nat.zero_add]
    have : comp k 0 (idT k) 0 (pw k 0 t b) = tab k 1 (sy k (pw k 0 t b)) := tab_congr hr.k1 fun v hl hs => by
      show sy k (idT k) (image k 0 (pw k 0 t b) v) = sy k (pw k 0 t b) v
      rw [image_one (r := 0) hl, sy_id hr.k1 rfl (by intro x hx; rw [List.mem_singleton] at hx; rw [hx]; exact sy_lt hb hl hs)]
      rfl
    have h2 := tab_sy hb
    rw [show pw k 0 t 0 = idT k from rfl, this]
    exact h2.symm
  | a + 1 => by
    have ha : IsRule k 0 (pw k 0 t a) := pw_rule hr (n := a) (by omega)
    have hb : IsRule k 0 (pw k 0 t b) := pw_rule hr (n := b) (by omega)
    rw [show a + 1 + b = (a + b) + 1 by omega, pw, pw, pw_add hr b a, Nat.mul_zero, Nat.mul_zero]
    exact (comp_assoc hr ha hb).symm
end RuleP
end Go.Proofs.YtpllojpgpejfmaaGreatDoor

namespace Go.Proofs.YtpllojpgpejfmaaGreatDoor
namespace RuleP

/-- With a radius d greater: the outer symbols tell nothing. -/
def wide (k r d : Nat) (t : List Nat) : List Nat := tab k (2 * (r + d) + 1) fun v => sy k t (win v d (2 * r + 1))
theorem wide_rule {k r d : Nat} {t : List Nat} (hr : IsRule k r t) (h : r + d ≤ 3) : IsRule k (r + d) (wide k r d t) :=
  tab_rule hr.k1 hr.k4 h fun v hl hs => sy_lt hr (win_len (by omega)) (win_sym hs _ _)
theorem wide_zero {k r : Nat} {t : List Nat} (hr : IsRule k r t) : wide k r 0 t = t := by
  have : wide k r 0 t = tab k (2 * r + 1) (sy k t) := tab_congr hr.k1 fun v hl _ => by
    show sy k t (win v 0 (2 * r + 1)) = sy k t v
    rw [win_all (show v.length = 2 * r + 1 from hl)]
  rw [this, tab_sy hr]
/-- With a radius 1 less, noughts outside. -/
def inn (k r : Nat) (t : List Nat) : List Nat := tab k (2 * r + 1) fun v => sy k t (0 :: (v ++ [0]))
theorem out_sym {k : Nat} {v : List Nat} (hk : 0 < k) (hs : ∀ x ∈ v, x < k) : ∀ x ∈ 0 :: (v ++ [0]), x < k := by
  intro x hx
  simp only [List.mem_cons, List.mem_append, List.not_mem_nil, or_false] at hx
  rcases hx with rfl | hx | rfl
  · exact hk
  · exact hs x hx
  · exact hk
theorem out_len (v : List Nat) : (0 :: (v ++ [0])).length = v.length + 2 := by simp
theorem inn_rule {k r : Nat} {t : List Nat} (hr : IsRule k (r + 1) t) : IsRule k r (inn k r t) := by
  have h3 := hr.r3
  exact tab_rule hr.k1 hr.k4 (by omega) fun v hl hs => sy_lt hr (by rw [out_len, hl]; omega) (out_sym hr.k1 hs)
theorem win_out {v : List Nat} {d n : Nat} (h : d + n ≤ v.length) : win (0 :: (v ++ [0])) (d + 1) n = win v d n := by
  unfold win
  rw [List.drop_succ_cons, List.drop_append_of_le_length (by omega), List.take_append_of_le_length (by simp; omega)]
theorem inn_wide {k r d : Nat} {t : List Nat} (hr : IsRule k r t) : inn k (r + d) (wide k r (d + 1) t) = wide k r d t :=
  tab_congr hr.k1 fun v hl hs => by
    show sy k (tab k (2 * (r + (d + 1)) + 1) fun v => sy k t (win v (d + 1) (2 * r + 1))) (0 :: (v ++ [0])) = sy k t (win v d (2 * r + 1))
    rw [sy_tab hr.k1 _ (by rw [out_len, hl]; omega) (out_sym hr.k1 hs), win_out (by omega)]
theorem wide_one {k r d : Nat} {t : List Nat} (hr : IsRule k r t) : wide k (r + d) 1 (wide k r d t) = wide k r (d + 1) t :=
  tab_congr hr.k1 fun v hl hs => by
    show sy k (tab k (2 * (r + d) + 1) fun v => sy k t (win v d (2 * r + 1))) (win v 1 (2 * (r + d) + 1)) = sy k t (win v (d + 1) (2 * r + 1))
    rw [sy_tab hr.k1 _ (win_len (by omega)) (win_sym hs _ _), win_win (by omega), Nat.add_comm 1 d]
/-- The least radius that makes the same. -/
def narrow (k : Nat) : Nat → List Nat → Nat × List Nat
  | 0, t => (0, t)
  | r + 1, t => if wide k r 1 (inn k r t) = t then narrow k r (inn k r t) else (r + 1, t)
theorem narrow_rule {k : Nat} : ∀ {r : Nat} {t : List Nat}, IsRule k r t → IsRule k (narrow k r t).1 (narrow k r t).2
  | 0, _, h => h
  | r + 1, t, h => by
    unfold narrow
    split
    · exact narrow_rule (inn_rule h)
    · exact h
theorem narrow_le {k : Nat} : ∀ {r : Nat} {t : List Nat}, (narrow k r t).1 ≤ r
  | 0, _ => Nat.le_refl _
  | r + 1, t => by
    unfold narrow
    split
    · exact Nat.le_succ_of_le narrow_le
    · exact Nat.le_refl _
theorem narrow_wide {k r : Nat} {t : List Nat} (hr : IsRule k r t) : ∀ d, narrow k (r + d) (wide k r d t) = narrow k r t
  | 0 => by rw [wide_zero hr]; rfl
  | d + 1 => by
    show narrow k (r + d + 1) (wide k r (d + 1) t) = _
    rw [narrow, inn_wide hr, wide_one hr, if_pos rfl]
    exact narrow_wide hr d

/-- The row read at place p of each window. -/
def shT (k r p : Nat) : List Nat := tab k (2 * r + 1) fun v => v.getD p 0
/-! ### read from the other end -/
def mir (k r : Nat) (t : List Nat) : List Nat := tab k (2 * r + 1) fun v => sy k t v.reverse
theorem rev_sym {k : Nat} {v : List Nat} (hs : ∀ x ∈ v, x < k) : ∀ x ∈ v.reverse, x < k := fun x hx => hs x (List.mem_reverse.1 hx)
end RuleP
end Go.Proofs.YtpllojpgpejfmaaGreatDoor
