/- Plain law of BagFull: the sets of the numbers below 12, one for each number below 4096. No condition. -/
import Derived.Test.YtmephmijeepcnaaDoorBagP
namespace Go.Proofs.YtmephmijeepcnaaDoor
open BagP

theorem hasB_one (i : Nat) {y : Nat} (h : y < 64) : hasB [i] y = i.testBit y := by
  unfold hasB
  rw [Nat.div_eq_of_lt h, Nat.mod_eq_of_lt h]
  rfl
def memB (i : Nat) : List Int := getL 12 [i]
theorem mem_getL {n : Nat} {l : List Nat} {x : Int} : x ∈ getL n l ↔ ∃ y : Nat, y < n ∧ hasB l y = true ∧ x = (y : Int) := by
  unfold getL
  simp only [List.mem_map, List.mem_filter, List.mem_range]
  constructor
  · rintro ⟨y, ⟨a, b⟩, c⟩; exact ⟨y, a, b, c.symm⟩
  · rintro ⟨y, a, b, c⟩; exact ⟨y, ⟨a, b⟩, c.symm⟩
theorem memB_lt {i : Nat} : ∀ x ∈ memB i, 0 ≤ x ∧ x < (16 : Nat) := by
  intro x hx
  obtain ⟨y, a, _, rfl⟩ := mem_getL.1 hx
  omega
theorem high_bit {i y : Nat} (h : i < 4096) (hy : 12 ≤ y) : i.testBit y = false :=
  Nat.testBit_lt_two_pow (Nat.lt_of_lt_of_le (show i < 2 ^ 12 from h) (Nat.pow_le_pow_right (by decide) hy))
theorem bits_memB {i : Nat} (h : i < 4096) : bitsOf 16 (memB i) = [i] := by
  have hl : (bitsOf 16 (memB i)).length = 1 := length_bitsOf 16 _
  refine ext_words (by rw [hl]; rfl) (ok_bitsOf _ _) (fun x hx => by simp at hx; subst hx; omega) ?_
  rw [hl]
  intro y hy
  rw [has_bitsOf memB_lt, hasB_one i (by omega)]
  by_cases hb : i.testBit y = true
  · rw [hb]
    refine decide_eq_true (mem_getL.2 ⟨y, ?_, by rw [hasB_one i (by omega)]; exact hb, rfl⟩)
    rcases Nat.lt_or_ge y 12 with h1 | h1
    · exact h1
    · rw [high_bit h h1] at hb; cases hb
  · rw [Bool.not_eq_true] at hb
    rw [hb]
    refine decide_eq_false fun hm => ?_
    obtain ⟨z, a, b, c⟩ := mem_getL.1 hm
    obtain rfl : y = z := by omega
    rw [hasB_one i (by omega), hb] at b
    cases b

/-- The bag's sets behind i of them. -/
def fullS (i : Nat) : List (List Nat) := (List.range i).map fun j => [j]
theorem fullS_len (i : Nat) : (fullS i).length = i := by simp [fullS]
theorem fullS_at {i j : Nat} (h : j < i) : (fullS i)[j]? = some [j] := by simp [fullS, h]
theorem fullS_succ (i : Nat) : fullS (i + 1) = fullS i ++ [[i]] := by simp [fullS, List.range_succ]
theorem fullS_mem {i : Nat} {l : List Nat} : l ∈ fullS i ↔ ∃ j, j < i ∧ l = [j] := by
  simp only [fullS, List.mem_map, List.mem_range]
  constructor
  · rintro ⟨j, a, b⟩; exact ⟨j, a, b.symm⟩
  · rintro ⟨j, a, b⟩; exact ⟨j, a, b.symm⟩
theorem fullS_out (i : Nat) : [i] ∉ fullS i := by
  rw [fullS_mem]
  rintro ⟨j, a, b⟩
  have : i = j := by simpa using b
  omega
theorem fullS_nodup : ∀ i, (fullS i).Nodup
  | 0 => by simp [fullS]
  | i + 1 => by
    rw [fullS_succ, List.nodup_append]
    refine ⟨fullS_nodup i, by simp, fun a ha b hb => ?_⟩
    simp at hb
    subst hb
    exact fun h => fullS_out i (h ▸ ha)
theorem fullS_idx {i j : Nat} (h : j < i) : (fullS i).idxOf [j] = j := idx_nodup (fullS_nodup i) (fullS_at h)
theorem get_full {x : Nat} (h : x < 4096) : getL 16 [x] = memB x := by
  unfold memB getL
  rw [show (16 : Nat) = 12 + 4 from rfl, List.range_add, List.filter_append, List.map_append]
  have : List.filter (hasB [x]) (List.map (fun x => 12 + x) (List.range 4)) = [] := by
    rw [List.filter_eq_nil_iff]
    intro y hy
    simp only [List.mem_map, List.mem_range] at hy
    obtain ⟨z, hz, rfl⟩ := hy
    rw [hasB_one x (by omega), high_bit h (by omega)]
    decide
  rw [this]
  simp
theorem out_13 {xs : List Int} (hx : ∀ x ∈ xs, 0 ≤ x ∧ x < (16 : Nat)) (h : (13 : Int) ∈ xs) : bitsOf 16 xs ∉ fullS 4096 := by
  rw [fullS_mem]
  rintro ⟨j, a, b⟩
  have h1 := has_bitsOf hx 13
  rw [b, hasB_one j (by omega), high_bit a (by omega)] at h1
  have : decide (((13 : Nat) : Int) ∈ xs) = true := decide_eq_true h
  rw [this] at h1
  cases h1
theorem bits_small {xs : List Int} (hx : ∀ x ∈ xs, 0 ≤ x ∧ x < (12 : Nat)) : ∃ m, m < 4096 ∧ bitsOf 16 xs = [m] ∧ (getL 16 [m] = [] ↔ xs = []) := by
  have hx' : ∀ x ∈ xs, 0 ≤ x ∧ x < (16 : Nat) := fun x h => by have := hx x h; omega
  have hl : (bitsOf 16 xs).length = 1 := length_bitsOf 16 _
  obtain ⟨m, hm⟩ : ∃ m, bitsOf 16 xs = [m] := List.length_eq_one_iff.1 hl
  have hb : ∀ y, y < 64 → m.testBit y = decide ((y : Int) ∈ xs) := fun y hy => by rw [← hasB_one m hy, ← hm, has_bitsOf hx']
  have hm64 : m < 2 ^ 64 := ok_bitsOf 16 xs m (by rw [hm]; simp)
  have hml : m < 4096 := by
    refine Nat.lt_pow_two_of_testBit (n := 12) m fun y hy => ?_
    rcases Nat.lt_or_ge y 64 with h | h
    · rw [hb y h]
      exact decide_eq_false fun hm => by have := hx _ hm; omega
    · exact Nat.testBit_lt_two_pow (Nat.lt_of_lt_of_le hm64 (Nat.pow_le_pow_right (by decide) h))
  refine ⟨m, hml, hm, ?_⟩
  constructor
  · intro h
    cases xs with
    | nil => rfl
    | cons a t =>
      have ha := hx a (by simp)
      have : a ∈ getL 16 [m] := mem_getL.2 ⟨a.toNat, by omega, by rw [hasB_one m (by omega), hb _ (by omega), decide_eq_true_iff]; simp; left; omega, by omega⟩
      rw [h] at this
      cases this
  · rintro rfl
    have : ∀ x, x ∉ getL 16 [m] := fun x hx => by
      obtain ⟨y, a, b, _⟩ := mem_getL.1 hx
      rw [hasB_one m (by omega), hb y (by omega)] at b
      simp at b
    exact List.eq_nil_iff_forall_not_mem.2 this
end Go.Proofs.YtmephmijeepcnaaDoor
