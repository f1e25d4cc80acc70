/- Digits to the base 65536 and limbs to the base 2^32: plain lists, no program. No condition. -/
import Derived.Test.YtfgjcdfmlpdkaaaDoorNatP
namespace Go.Proofs.YtfgjcdfmlpdkaaaDoor
namespace NatP

theorem h16 : 2 ≤ 65536 := by decide
theorem w32' : 2 ≤ 4294967296 := by decide
def flat (xs : List Nat) : List Nat := xs.flatMap fun x => [x % 65536, x / 65536]
theorem flat_cons (x : Nat) (l : List Nat) : flat (x :: l) = x % 65536 :: x / 65536 :: flat l := rfl
theorem flat_append (a b : List Nat) : flat (a ++ b) = flat a ++ flat b := by simp [flat]
theorem val_flat : ∀ xs : List Nat, valB 65536 (flat xs) = valB 4294967296 xs
  | [] => rfl
  | x :: l => by
    rw [flat_cons]
    simp only [valB]
    rw [val_flat l]
    have := Nat.mod_add_div x 65536
    omega
theorem ok_flat {xs : List Nat} (h : OkB 4294967296 xs) : OkB 65536 (flat xs) := by
  intro y hy
  simp only [flat, List.mem_flatMap, List.mem_cons, List.not_mem_nil, or_false] at hy
  obtain ⟨x, hx, rfl | rfl⟩ := hy
  · exact Nat.mod_lt _ (by decide)
  · have := h x hx; omega
theorem len_flat (xs : List Nat) : (flat xs).length = 2 * xs.length := by
  induction xs with
  | nil => rfl
  | cons x l ih => rw [flat_cons]; simp [ih]; omega
theorem flat_take {xs : List Nat} {k x : Nat} (h : xs[k]? = some x) : flat (xs.take (k + 1)) = flat (xs.take k) ++ [x % 65536, x / 65536] := by
  rw [List.take_add_one, h, flat_append]; rfl

/-- The first j limbs out of digits. -/
def pairTo (D : List Nat) (j : Nat) : List Nat := (List.range j).map fun q => D.getD (2 * q) 0 + 65536 * D.getD (2 * q + 1) 0
theorem pairTo_zero (D : List Nat) : pairTo D 0 = [] := rfl
theorem pairTo_len (D : List Nat) (j : Nat) : (pairTo D j).length = j := by simp [pairTo]
theorem pairTo_succ (D : List Nat) (j : Nat) : pairTo D (j + 1) = pairTo D j ++ [D.getD (2 * j) 0 + 65536 * D.getD (2 * j + 1) 0] := by
  simp [pairTo, List.range_succ]
theorem val_pairs (D : List Nat) : ∀ j, valB 4294967296 (pairTo D j) = valB 65536 (D.take (2 * j))
  | 0 => rfl
  | j + 1 => by
    rw [pairTo_succ, val_snoc, val_pairs D j, pairTo_len, show 2 * (j + 1) = 2 * j + 1 + 1 from by omega, val_take_succ, val_take_succ]
    have e : (4294967296 : Nat) ^ j = 65536 ^ (2 * j) := by rw [Nat.pow_mul]
    rw [e, Nat.pow_succ, Nat.mul_add, Nat.add_assoc, Nat.mul_assoc]
theorem ok_pairs {D : List Nat} (h : OkB 65536 D) (j : Nat) : OkB 4294967296 (pairTo D j) := by
  intro y hy
  simp only [pairTo, List.mem_map] at hy
  obtain ⟨q, _, rfl⟩ := hy
  have h1 := ok_getD (b := 65536) (by decide) h (2 * q)
  have h2 := ok_getD (b := 65536) (by decide) h (2 * q + 1)
  omega
theorem norm_pairs {D : List Nat} (h : Norm D) : Norm (pairTo D ((D.length + 1) / 2)) := by
  intro x hx
  rcases Nat.eq_zero_or_pos D.length with h0 | h0
  · rw [h0] at hx; simp [pairTo] at hx
  · obtain ⟨j, hj⟩ : ∃ j, (D.length + 1) / 2 = j + 1 := ⟨(D.length + 1) / 2 - 1, by omega⟩
    rw [hj, pairTo_succ, List.getLast?_append] at hx
    simp at hx
    have hl : D.getLast? = some (D.getD (D.length - 1) 0) := by
      rw [List.getLast?_eq_getElem?, List.getD_eq_getElem?_getD, List.getElem?_eq_getElem (by omega)]; rfl
    have hn := h _ hl
    subst hx
    simp only [← List.getD_eq_getElem?_getD]
    rcases (show D.length = 2 * j + 1 ∨ D.length = 2 * j + 2 by omega) with e | e
    · rw [show D.length - 1 = 2 * j from by omega] at hn; omega
    · rw [show D.length - 1 = 2 * j + 1 from by omega] at hn; omega
theorem pairs_all {D : List Nat} (ho : OkB 65536 D) (hn : Norm D) : pairTo D ((D.length + 1) / 2) = digs 4294967296 (valB 65536 D) := by
  have h1 := digs_val w32' (ok_pairs ho ((D.length + 1) / 2)) (norm_pairs hn)
  rw [val_pairs, List.take_of_length_le (by omega)] at h1
  exact h1.symm
theorem len_half (v : Nat) : (digs 65536 v).length ≤ 2 * (digs 4294967296 v).length := by
  have h := length_digs_le h16 (ok_flat (ok_digs w32' v))
  rw [val_flat, val_digs w32', len_flat] at h
  exact h
theorem take_digs {b : Nat} (hb : 2 ≤ b) {D : List Nat} (ho : OkB b D) : D.take (digs b (valB b D)).length = digs b (valB b D) := by
  obtain ⟨m, hm, hz, hl⟩ := cut_ex D
  have e := cut_eq hb ho hm hz hl
  have hlen : (digs b (valB b D)).length = m := by rw [← e, List.length_take, Nat.min_eq_left hm]
  rw [hlen, e]
end NatP
end Go.Proofs.YtfgjcdfmlpdkaaaDoor
