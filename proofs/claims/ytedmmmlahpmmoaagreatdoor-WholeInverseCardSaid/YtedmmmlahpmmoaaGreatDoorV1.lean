/- Numbers as digits, the lowest first: plain lists, no program. A list without a nought at its end is the digits of its value. No condition. Rules as plain lists: what is a rule, windows' numbers, images. No program. No condition. -/
import Derived.Test.YtedmmmlahpmmoaaGreatDoorProg
namespace Go.Proofs.YtedmmmlahpmmoaaGreatDoor
/-- Of one number, told by these packages at these places, from the outermost on. -/
abbrev Tale := Nat × List (ByteArray × Int)
namespace NatP

def valB (b : Nat) : List Nat → Nat
  | [] => 0
  | x :: l => x + b * valB b l
def digsF (b : Nat) : Nat → Nat → List Nat
  | 0, _ => []
  | f + 1, v => if v = 0 then [] else (v % b) :: digsF b f (v / b)
def digs (b v : Nat) : List Nat := digsF b v v
def OkB (b : Nat) (l : List Nat) : Prop := ∀ x ∈ l, x < b
theorem digsF_fuel {b : Nat} (hb : 2 ≤ b) : ∀ (f g v : Nat), v ≤ f → v ≤ g → digsF b f v = digsF b g v := by
  intro f
  induction f with
  | zero =>
    intro g v h1 h2
    have : v = 0 := by omega
    subst this
    cases g <;> simp [digsF]
  | succ f ih =>
    intro g v h1 h2
    cases g with
    | zero =>
      have : v = 0 := by omega
      subst this
      simp [digsF]
    | succ g =>
      by_cases hv : v = 0
      · simp [digsF, hv]
      · have hlt : v / b < v := Nat.div_lt_self (by omega) (by omega)
        simp only [digsF, if_neg hv]
        rw [ih g (v / b) (by omega) (by omega)]
theorem digs_zero (b : Nat) : digs b 0 = [] := rfl
theorem digs_pos {b v : Nat} (hb : 2 ≤ b) (hv : 0 < v) : digs b v = v % b :: digs b (v / b) := by
  obtain ⟨u, rfl⟩ : ∃ u, v = u + 1 := ⟨v - 1, by omega⟩
  have hlt : (u + 1) / b < u + 1 := Nat.div_lt_self (by omega) (by omega)
  show digsF b (u + 1) (u + 1) = _
  rw [digsF, if_neg (by omega)]
  unfold digs
  rw [digsF_fuel hb u ((u + 1) / b) _ (by omega) (Nat.le_refl _)]

theorem val_append (b : Nat) (l m : List Nat) : valB b (l ++ m) = valB b l + b ^ l.length * valB b m := by
  induction l with
  | nil => simp [valB]
  | cons x l ih =>
    simp only [List.cons_append, valB, List.length_cons, ih, Nat.pow_succ]
    rw [Nat.mul_add, Nat.add_assoc, ← Nat.mul_assoc, Nat.mul_comm (b ^ l.length) b]
theorem val_zeros (b n : Nat) : valB b (List.replicate n 0) = 0 := by
  induction n with
  | zero => rfl
  | succ n ih => simp [List.replicate_succ, valB, ih]
theorem val_snoc (b : Nat) (l : List Nat) (x : Nat) : valB b (l ++ [x]) = valB b l + b ^ l.length * x := by
  rw [val_append]; simp [valB]
theorem val_lt {b : Nat} (_hb : 2 ≤ b) : ∀ {l : List Nat}, OkB b l → valB b l < b ^ l.length := by
  intro l
  induction l with
  | nil => intro _; simp [valB]
  | cons x l ih =>
    intro h
    have h1 := h x (by simp)
    have h2 := ih (fun y hy => h y (by simp [hy]))
    simp only [valB, List.length_cons, Nat.pow_succ]
    have : b * (valB b l + 1) ≤ b * b ^ l.length := Nat.mul_le_mul (Nat.le_refl b) (by omega)
    rw [Nat.mul_add, Nat.mul_one] at this
    rw [Nat.mul_comm (b ^ l.length) b]
    omega
theorem ok_take {b : Nat} {l : List Nat} (h : OkB b l) (k : Nat) : OkB b (l.take k) := fun x hx => h x (List.mem_of_mem_take hx)
theorem ok_append {b : Nat} {l m : List Nat} (h : OkB b l) (h' : OkB b m) : OkB b (l ++ m) := by
  intro x hx
  rcases List.mem_append.1 hx with hx | hx
  · exact h x hx
  · exact h' x hx

theorem val_take_succ (b : Nat) (l : List Nat) (k : Nat) : valB b (l.take (k + 1)) = valB b (l.take k) + b ^ k * l.getD k 0 := by
  rw [List.take_add_one]
  cases h : l[k]? with
  | none => simp [List.getD_eq_getElem?_getD, h]
  | some x =>
    have hk : k < l.length := (List.getElem?_eq_some_iff.1 h).1
    simp only [Option.toList_some, List.getD_eq_getElem?_getD, h, Option.getD_some]
    rw [val_snoc, List.length_take, Nat.min_eq_left (by omega)]
theorem val_set {b : Nat} {l : List Nat} {k x v : Nat} (h : l[k]? = some x) : valB b (l.set k v) + b ^ k * x = valB b l + b ^ k * v := by
  induction l generalizing k with
  | nil => simp at h
  | cons y l ih =>
    cases k with
    | zero =>
      simp at h
      subst h
      simp [valB]
      omega
    | succ k =>
      simp only [List.getElem?_cons_succ] at h
      have := ih h
      simp only [List.set_cons_succ, valB, Nat.pow_succ]
      have e1 : b * (valB b (l.set k v) + b ^ k * x) = b * (valB b l + b ^ k * v) := by rw [this]
      rw [Nat.mul_add, Nat.mul_add, ← Nat.mul_assoc, ← Nat.mul_assoc, Nat.mul_comm b (b ^ k)] at e1
      omega
theorem ok_set {b : Nat} {l : List Nat} (h : OkB b l) {k v : Nat} (hv : v < b) : OkB b (l.set k v) := by
  intro y hy
  rcases List.mem_or_eq_of_mem_set hy with hy | rfl
  · exact h y hy
  · exact hv
theorem ok_getD {b : Nat} (hb : 0 < b) {l : List Nat} (h : OkB b l) (k : Nat) : l.getD k 0 < b := by
  rw [List.getD_eq_getElem?_getD]
  cases hk : l[k]? with
  | none => simpa using hb
  | some x => simpa using h x (List.mem_of_getElem? hk)
theorem ok_zeros {b : Nat} (hb : 0 < b) (n : Nat) : OkB b (List.replicate n 0) := by
  intro x hx; rw [List.eq_of_mem_replicate hx]; exact hb

end NatP
end Go.Proofs.YtedmmmlahpmmoaaGreatDoor

namespace Go.Proofs.YtedmmmlahpmmoaaGreatDoor
namespace RuleP

def sRule : ByteArray := ⟨#[114, 117, 108, 101]⟩
/-- The first place that holds no symbol below k. -/
def odd (k : Int) (w : List Int) : Option Nat := w.findIdx? fun x => decide (x < 0 ∨ k ≤ x)
def check (K R : Int) (T : List Int) : Option Tale :=
  if K < 1 ∨ 4 < K then some (1, [(sRule, 0)])
  else if R < 0 ∨ 3 < R then some (1, [(sRule, 1)])
  else if T.length ≠ K.toNat ^ (2 * R.toNat + 1) then some (1, [(sRule, 2)])
  else match odd K T with
  | some i => some (1, [(sRule, 3 + (i : Int))])
  | none => none
def small (K R : Int) (T : List Int) : Option Tale :=
  match check K R T with
  | some t => some t
  | none => if 256 < T.length then some (4, [(sRule, 0)]) else none
/-- It is a rule of k symbols and radius r. -/
structure IsRule (k r : Nat) (t : List Nat) : Prop where
  k1 : 1 ≤ k
  k4 : k ≤ 4
  r3 : r ≤ 3
  len : t.length = k ^ (2 * r + 1)
  sym : ∀ x ∈ t, x < k
def ints (l : List Nat) : List Int := l.map fun (x : Nat) => (x : Int)
theorem ints_len (l : List Nat) : (ints l).length = l.length := by simp [ints]
theorem ints_map {α : Type} (f : Int → α) (l : List Nat) : (ints l).map f = l.map fun (x : Nat) => f (x : Int) := by simp [ints]
theorem ints_inj : ∀ {a b : List Nat}, ints a = ints b → a = b := by
  intro a
  induction a with
  | nil => intro b h; cases b with
    | nil => rfl
    | cons y b => simp [ints] at h
  | cons x a ih => intro b h; cases b with
    | nil => simp [ints] at h
    | cons y b =>
      simp only [ints, List.map_cons, List.cons.injEq] at h
      rw [ih h.2, show x = y from by omega]
theorem odd_none {k : Int} {w : List Int} (h : odd k w = none) : ∀ x ∈ w, 0 ≤ x ∧ x < k := by
  intro x hx
  have := List.findIdx?_eq_none_iff.1 h x hx
  simp at this
  omega
theorem odd_nat {k : Nat} {w : List Int} (h : odd (k : Int) w = none) : ∃ v : List Nat, w = ints v ∧ ∀ x ∈ v, x < k := by
  have h' := odd_none h
  refine ⟨w.map Int.toNat, ?_, ?_⟩
  · rw [ints, List.map_map]
    conv => lhs; rw [← List.map_id w]
    apply List.map_congr_left
    intro x hx
    have := h' x hx
    simp; omega
  · intro x hx
    obtain ⟨y, hy, rfl⟩ := List.mem_map.1 hx
    have := h' y hy
    omega
theorem odd_ints {k : Nat} {v : List Nat} (h : ∀ x ∈ v, x < k) : odd (k : Int) (ints v) = none := by
  refine List.findIdx?_eq_none_iff.2 fun x hx => ?_
  obtain ⟨y, hy, rfl⟩ := List.mem_map.1 hx
  have := h y hy
  simp; omega
theorem odd_some {k : Int} {w : List Int} {i : Nat} (h : odd k w = some i) : i < w.length := by
  obtain ⟨h1, _⟩ := List.findIdx?_eq_some_iff_getElem.1 h
  exact h1

theorem check_none {K R : Int} {T : List Int} (h : check K R T = none) : ∃ (k r : Nat) (t : List Nat), K = (k : Int) ∧ R = (r : Int) ∧ T = ints t ∧ IsRule k r t := by
  unfold check at h
  split at h
  · cases h
  split at h
  · cases h
  split at h
  · cases h
  rename_i h1 h2 h3
  split at h
  · cases h
  rename_i h4
  have hk : K = (K.toNat : Int) := by omega
  rw [hk] at h4
  obtain ⟨v, hv, hs⟩ := odd_nat h4
  refine ⟨K.toNat, R.toNat, v, hk, by omega, hv, ⟨by omega, by omega, by omega, ?_, hs⟩⟩
  rw [← ints_len, ← hv]
  exact Decidable.not_not.1 h3
theorem check_rule {k r : Nat} {t : List Nat} (h : IsRule k r t) : check k r (ints t) = none := by
  have h1 := h.k1
  have h2 := h.k4
  have h3 := h.r3
  unfold check
  rw [if_neg (by omega), if_neg (by omega), if_neg (by rw [ints_len, h.len]; simp), odd_ints h.sym]
theorem pow_le {k r : Nat} (hk : k ≤ 4) (hr : r ≤ 3) : k ^ (2 * r + 1) ≤ 16384 := by
  have h1 : k ^ (2 * r + 1) ≤ 4 ^ (2 * r + 1) := Nat.pow_le_pow_left hk _
  have h2 : 4 ^ (2 * r + 1) ≤ 4 ^ 7 := Nat.pow_le_pow_right (by decide) (by omega)
  have h3 : 4 ^ 7 = 16384 := by decide
  omega
theorem IsRule.le {k r : Nat} {t : List Nat} (h : IsRule k r t) : t.length ≤ 16384 := by rw [h.len]; exact pow_le h.k4 h.r3
theorem IsRule.pos {k r : Nat} {t : List Nat} (h : IsRule k r t) : 0 < t.length := by rw [h.len]; exact Nat.pow_pos h.k1

/-- The number that symbols write in base k. -/
def wval (k : Nat) (w : List Nat) : Nat := w.foldl (fun n x => n * k + x) 0
theorem wval_snoc (k : Nat) (w : List Nat) (x : Nat) : wval k (w ++ [x]) = wval k w * k + x := by simp [wval]
theorem wval_nil (k : Nat) : wval k [] = 0 := rfl
theorem foldl_from (k : Nat) : ∀ (b : List Nat) (n : Nat), b.foldl (fun n x => n * k + x) n = n * k ^ b.length + wval k b := by
  intro b
  induction b with
  | nil => intro n; simp [wval]
  | cons y b ih =>
    intro n
    have e : wval k (y :: b) = y * k ^ b.length + wval k b := by
      show b.foldl _ (0 * k + y) = _
      rw [ih]; simp
    rw [List.foldl_cons, ih, e, List.length_cons, Nat.pow_succ, Nat.add_mul, Nat.mul_assoc, Nat.mul_comm (k ^ b.length) k, Nat.add_assoc]
theorem wval_append (k : Nat) (a b : List Nat) : wval k (a ++ b) = wval k a * k ^ b.length + wval k b := by
  show (a ++ b).foldl _ 0 = _
  rw [List.foldl_append, foldl_from]
  rfl
theorem wval_lt {k : Nat} : ∀ {w : List Nat}, (∀ x ∈ w, x < k) → wval k w < k ^ w.length := by
  intro w
  induction w with
  | nil => intro _; simp [wval]
  | cons x w ih =>
    intro h
    have h1 := h x (by simp)
    have h2 := ih (fun y hy => h y (by simp [hy]))
    rw [show x :: w = [x] ++ w from rfl, wval_append, show wval k [x] = x from by simp [wval], List.length_append, List.length_singleton, Nat.add_comm 1, Nat.pow_succ, Nat.mul_comm _ k]
    have : (x + 1) * k ^ w.length ≤ k * k ^ w.length := Nat.mul_le_mul_right _ h1
    rw [Nat.add_mul, Nat.one_mul] at this
    omega
/-- The last m symbols' number is the whole number's remainder. -/
theorem wval_mod {k : Nat} (a : List Nat) {b : List Nat} (hb : ∀ x ∈ b, x < k) : wval k (a ++ b) % k ^ b.length = wval k b := by
  rw [wval_append, Nat.add_comm, Nat.add_mul_mod_self_right, Nat.mod_eq_of_lt (wval_lt hb)]

/-- Window number i of a word, of m symbols. -/
def win (w : List Nat) (i m : Nat) : List Nat := (w.drop i).take m
theorem win_len {w : List Nat} {i m : Nat} (h : i + m ≤ w.length) : (win w i m).length = m := by simp [win]; omega
/-- The image of a word. -/
def image (k r : Nat) (t w : List Nat) : List Nat := (List.range (w.length - 2 * r)).map fun i => t.getD (wval k (win w i (2 * r + 1))) 0
theorem image_len (k r : Nat) (t w : List Nat) : (image k r t w).length = w.length - 2 * r := by simp [image]
theorem image_at {k r : Nat} {t w : List Nat} {i : Nat} (h : i + 2 * r < w.length) : (image k r t w)[i]? = some (t.getD (wval k (win w i (2 * r + 1))) 0) := by
  unfold image
  rw [List.getElem?_map, List.getElem?_range (by omega)]
  rfl
theorem win_sym {k : Nat} {w : List Nat} (h : ∀ x ∈ w, x < k) (i m : Nat) : ∀ x ∈ win w i m, x < k := fun x hx => h x (List.mem_of_mem_drop (List.mem_of_mem_take hx))
theorem win_lt {k r : Nat} {t w : List Nat} (hr : IsRule k r t) (h : ∀ x ∈ w, x < k) {i : Nat} (hi : i + 2 * r < w.length) : wval k (win w i (2 * r + 1)) < t.length := by
  have := wval_lt (win_sym h i (2 * r + 1))
  rwa [win_len (by omega), ← hr.len] at this
theorem image_sym {k r : Nat} {t w : List Nat} (hr : IsRule k r t) (h : ∀ x ∈ w, x < k) : ∀ x ∈ image k r t w, x < k := by
  intro x hx
  obtain ⟨i, hi, rfl⟩ := List.mem_map.1 hx
  have hi' : i + 2 * r < w.length := by have := List.mem_range.1 hi; omega
  have := win_lt hr h hi'
  rw [List.getD_eq_getElem?_getD, List.getElem?_eq_getElem this]
  exact hr.sym _ (List.getElem_mem _)

/-- The rolling number of the window that ends at a place. -/
def roll (k L : Nat) (w : List Nat) : Nat := wval k w % L
theorem roll_snoc (k L : Nat) (w : List Nat) (x : Nat) : roll k L (w ++ [x]) = (roll k L w * k + x) % L := by
  unfold roll
  rw [wval_snoc, Nat.add_mod (wval k w * k), Nat.add_mod (wval k w % L * k), Nat.mod_mul_mod]
theorem roll_win {k r : Nat} {w : List Nat} (h : ∀ x ∈ w, x < k) {i : Nat} (hi : i + 2 * r < w.length) : roll k (k ^ (2 * r + 1)) (w.take (i + 2 * r + 1)) = wval k (win w i (2 * r + 1)) := by
  have e : w.take (i + 2 * r + 1) = w.take i ++ win w i (2 * r + 1) := by
    unfold win
    rw [show i + 2 * r + 1 = i + (2 * r + 1) from by omega, List.take_add]
  unfold roll
  rw [e]
  have := wval_mod (k := k) (w.take i) (win_sym h i (2 * r + 1))
  rwa [win_len (by omega)] at this
end RuleP
end Go.Proofs.YtedmmmlahpmmoaaGreatDoor
