/- Powers in memory: what nat.Pow returns. Condition: the error variables hold what E says. -/
import Derived.Test.YtfgnghgmffaepaaDoorNum
import Derived.Test.YtfgnghgmffaepaaDoorNatI
namespace Go.Proofs.YtfgnghgmffaepaaDoor
open Go.RowKit NatP

theorem num_lit2 (w : World) {x : Nat} (h : x < W32) (e : TypeId) : Num (w.alloc (.cells #[.int .u32 (x : Int)] e)) (some ⟨w.heap.size, 0, none⟩) 1 1 x :=
  ⟨[x], Nat.le_refl _, by decide, lit_word w x e, ok_one h, val_one x⟩

/-- Behind j halvings of the exponent. -/
structure PowTo (k n j m O B : Nat) : Prop where
  m_eq : m = n / 2 ^ j
  O_eq : O = k ^ (n % 2 ^ j)
  B_eq : B = k ^ (2 ^ j)
theorem PowTo.even {k n j m O B : Nat} (h : PowTo k n j m O B) (hm : m % 2 = 0) : PowTo k n (j + 1) (m / 2) O (B * B) := by
  refine ⟨?_, ?_, ?_⟩
  · rw [h.m_eq, Nat.pow_succ, Nat.div_div_eq_div_mul]
  · rw [h.O_eq, Nat.mod_pow_succ, ← h.m_eq, hm]; simp
  · rw [h.B_eq, ← Nat.pow_add, Nat.pow_succ, Nat.mul_two]
theorem PowTo.odd {k n j m O B : Nat} (h : PowTo k n j m O B) (hm : m % 2 = 1) : PowTo k n (j + 1) (m / 2) (O * B) (B * B) := by
  refine ⟨?_, ?_, ?_⟩
  · rw [h.m_eq, Nat.pow_succ, Nat.div_div_eq_div_mul]
  · rw [h.O_eq, h.B_eq, Nat.mod_pow_succ, ← h.m_eq, hm, ← Nat.pow_add, Nat.mul_one]
  · rw [h.B_eq, ← Nat.pow_add, Nat.pow_succ, Nat.mul_two]
theorem PowTo.le {k n j m O B : Nat} (h : PowTo k n j m O B) (hm : 0 < m) : 2 ^ j ≤ n := by
  rcases Nat.lt_or_ge n (2 ^ j) with h1 | h1
  · rw [h.m_eq, Nat.div_eq_of_lt h1] at hm; omega
  · exact h1
theorem PowTo.lenB {k n j m O B : Nat} (h : PowTo k n j m O B) (hk : k < W32) : (limbs B).length ≤ 2 ^ j :=
  limbs_len_of_lt _ _ (by rw [h.B_eq]; exact Nat.pow_lt_pow_left hk (by have := Nat.two_pow_pos j; omega))
theorem PowTo.lenO {k n j m O B : Nat} (h : PowTo k n j m O B) (hk : k < W32) : (limbs O).length ≤ 2 ^ j := by
  have h1 : n % 2 ^ j < 2 ^ j := Nat.mod_lt _ (Nat.two_pow_pos j)
  refine limbs_len_of_lt _ _ ?_
  rw [h.O_eq]
  exact Nat.lt_of_le_of_lt (Nat.pow_le_pow_left (Nat.le_of_lt hk) _) (Nat.pow_lt_pow_right (by decide) h1)

end Go.Proofs.YtfgnghgmffaepaaDoor
