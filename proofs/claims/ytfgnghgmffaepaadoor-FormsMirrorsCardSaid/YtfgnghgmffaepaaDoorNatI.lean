/- Differences in memory: what bits.Sub32, nat.Sub return; nat.Over by 0. Condition: the limbs read from memory; the error variables hold what E says. -/
import Derived.Test.YtfgnghgmffaepaaDoorNatH
import Derived.Test.YtfgnghgmffaepaaDoorParse
namespace Go.Proofs.YtfgnghgmffaepaaDoor
open Go.RowKit NatP

set_option maxRecDepth 100000 in
theorem over0_c (w : World) (E : Nat → Addr) (hE : Errs w E) (A : Option Addr) (n c : Nat) :
    Calls Tryd.prog 70 #[.slice A n c, .int .u32 0] w fun e w' => ∃ b, e = .returned (.tuple #[.slice none 0 0, .int .u32 0, errV b]) ∧ FaultAt w' b sNat 0 (E 3) ∧ w.heap.size ≤ b ∧ b < w'.heap.size ∧ Below w.heap.size w w' := by
  go_enter Tryd.func70, Tryd.ntmps70
  go_wp2_with fail
  refine (new_c w E hE sNat 0 3 (by decide) (by decide)).mono ?_
  rintro e w' ⟨rfl, rfl⟩
  go_wp2_with fail
  go_ret3
  exact ⟨_, rfl, heap_new _ _, Nat.le_refl _, by simp, (Below.refl _ _).alloc (Nat.le_refl _) _⟩

theorem top_bit {n : Nat} (h : n < 2 ^ 32) : n / 2147483648 = (n.testBit 31).toNat := by
  rw [Nat.testBit_eq_decide_div_mod_eq]
  have h2 : n / 2147483648 < 2 := Nat.div_lt_of_lt_mul (by omega)
  have h3 : (2 ^ 31 : Nat) = 2147483648 := rfl
  rw [h3]
  by_cases h4 : n / 2147483648 % 2 = 1
  · rw [decide_eq_true h4]; show _ = 1; omega
  · rw [decide_eq_false h4]; show _ = 0; omega
theorem borrow_bit (x y b : Nat) (hx : x < 4294967296) (hy : y < 4294967296) (hb : b ≤ 1) :
    (((4294967295 ^^^ x) &&& y) ||| ((4294967295 ^^^ (x ^^^ y)) &&& ((x + 4294967296 - y - b) % 4294967296))) / 2147483648 = 1 - (x + 4294967296 - y - b) / 4294967296 := by
  have hD : (x + 4294967296 - y - b) % 4294967296 < 4294967296 := Nat.mod_lt _ (by decide)
  generalize hDD : (x + 4294967296 - y - b) % 4294967296 = D at *
  have hn : (((4294967295 ^^^ x) &&& y) ||| ((4294967295 ^^^ (x ^^^ y)) &&& D)) < 2 ^ 32 := Nat.or_lt_two_pow (Nat.lt_of_le_of_lt Nat.and_le_right hy) (Nat.lt_of_le_of_lt Nat.and_le_right hD)
  rw [top_bit hn, Nat.testBit_or, Nat.testBit_and, Nat.testBit_and, Nat.testBit_xor, Nat.testBit_xor, Nat.testBit_xor]
  have h31 : (4294967295 : Nat).testBit 31 = true := by decide
  have ex := top_bit (n := x) hx
  have ey := top_bit (n := y) hy
  have eD := top_bit (n := D) hD
  rw [h31]
  generalize x.testBit 31 = p at *
  generalize y.testBit 31 = q at *
  generalize D.testBit 31 = r at *
  cases p <;> cases q <;> cases r <;> simp at ex ey eD ⊢ <;> omega

end Go.Proofs.YtfgnghgmffaepaaDoor
