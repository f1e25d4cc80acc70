/- Differences in memory: what bits.Sub32, nat.Sub return; nat.Over by 0. Condition: the limbs read from memory; the error variables hold what E says. -/
import Derived.Test.YtkghilmdoabodaaDoorNatH
import Derived.Test.YtkghilmdoabodaaDoorParse
namespace Go.Proofs.YtkghilmdoabodaaDoor
open Go.RowKit NatP

set_option maxRecDepth 100000 in
theorem over0_c (w : World) (E : Nat → Addr) (hE : Errs w E) (A : Option Addr) (n c : Nat) :
    Calls Tryd.prog 37 #[.slice A n c, .int .u32 0] w fun e w' => ∃ b, e = .returned (.tuple #[.slice none 0 0, .int .u32 0, errV b]) ∧ FaultAt w' b sNat 0 (E 3) ∧ w.heap.size ≤ b ∧ b < w'.heap.size ∧ Below w.heap.size w w' := by
  go_enter Tryd.func37, Tryd.ntmps37
  go_wp2_with fail
  refine (new_c w E hE sNat 0 3 (by decide) (by decide)).mono ?_
  rintro e w' ⟨rfl, rfl⟩
  go_wp2_with fail
  go_ret3
  exact ⟨_, rfl, heap_new _ _, Nat.le_refl _, by simp, (Below.refl _ _).alloc (Nat.le_refl _) _⟩

theorem top_bit {n : Nat} (h : n < 2 ^ 32) : n / 2147483648 = (n.testBit 31).toNat := by
  rw [Nat.testBit_eq_decide_div_mod_eq]
  have h2 : n / 2147483648 < 2 := Nat.div_lt_of_lt_mul (by omega)
  have h3 : (2 ^ 31 : Nat) = 2147483648 := rfl
  rw [h3]
  by_cases h4 : n / 2147483648 % 2 = 1
  · rw [decide_eq_true h4]; show _ = 1; omega
  · rw [decide_eq_false h4]; show _ = 0; omega
theorem borrow_bit (x y b : Nat) (hx : x < 4294967296) (hy : y < 4294967296) (hb : b ≤ 1) :
    (((4294967295 ^^^ x) &&& y) ||| ((4294967295 ^^^ (x ^^^ y)) &&& ((x + 4294967296 - y - b) % 4294967296))) / 2147483648 = 1 - (x + 4294967296 - y - b) / 4294967296 := by
  have hD : (x + 4294967296 - y - b) % 4294967296 < 4294967296 := Nat.mod_lt _ (by decide)
  generalize hDD : (x + 4294967296 - y - b) % 4294967296 = D at *
  have hn : (((4294967295 ^^^ x) &&& y) ||| ((4294967295 ^^^ (x ^^^ y)) &&& D)) < 2 ^ 32 := Nat.or_lt_two_pow (Nat.lt_of_le_of_lt Nat.and_le_right hy) (Nat.lt_of_le_of_lt Nat.and_le_right hD)
  rw [top_bit hn, Nat.testBit_or, Nat.testBit_and, Nat.testBit_and, Nat.testBit_xor, Nat.testBit_xor, Nat.testBit_xor]
  have h31 : (4294967295 : Nat).testBit 31 = true := by decide
  have ex := top_bit (n := x) hx
  have ey := top_bit (n := y) hy
  have eD := top_bit (n := D) hD
  rw [h31]
  generalize x.testBit 31 = p at *
  generalize y.testBit 31 = q at *
  generalize D.testBit 31 = r at *
  cases p <;> cases q <;> cases r <;> simp at ex ey eD ⊢ <;> omega

set_option maxRecDepth 100000 in
theorem sub32_c (w : World) (x y b : Nat) (hx : x < W32) (hy : y < W32) (hb : b ≤ 1) :
    Calls Tryd.prog 70 #[.int .u32 (x : Int), .int .u32 (y : Int), .int .u32 (b : Int)] w fun e w' =>
      e = .returned (.tuple #[.int .u32 (((x + W32 - y - b) % W32 : Nat) : Int), .int .u32 ((1 - (x + W32 - y - b) / W32 : Nat) : Int)]) ∧ w = w' := by
  have hq := borrow_bit x y b hx hy hb
  have hD : (x + 4294967296 - y - b) % 4294967296 < 4294967296 := Nat.mod_lt _ (by decide)
  have r1 : ((x : Int) - (y : Int) - (b : Int)) % 4294967296 = (((x + 4294967296 - y - b) % 4294967296 : Nat) : Int) := by
    unfold W32 at *
    omega
  have r2 : bits BinOp.or IntKind.u32 (bits BinOp.and IntKind.u32 (bits BinOp.xor IntKind.u32 IntKind.u32.max (x : Int)) (y : Int)) (bits BinOp.and IntKind.u32 (bits BinOp.xor IntKind.u32 IntKind.u32.max (bits BinOp.xor IntKind.u32 (x : Int) (y : Int))) (((x + 4294967296 - y - b) % 4294967296 : Nat) : Int)) / 2147483648 = ((1 - (x + 4294967296 - y - b) / 4294967296 : Nat) : Int) := by
    rw [← hq]
    have hx' : x < 2 ^ 32 := hx
    have hy' : y < 2 ^ 32 := hy
    have hmx : IntKind.u32.max = ((4294967295 : Nat) : Int) := rfl
    have l1 : (4294967295 ^^^ x) < 2 ^ 32 := Nat.xor_lt_two_pow (by decide) hx'
    have l2 : (x ^^^ y) < 2 ^ 32 := Nat.xor_lt_two_pow hx' hy'
    have l3 : (4294967295 ^^^ (x ^^^ y)) < 2 ^ 32 := Nat.xor_lt_two_pow (by decide) l2
    rw [hmx, u32_xor_nat _ _ (by decide) hx, u32_and_nat _ _ l1 hy, u32_xor_nat x y hx hy, u32_xor_nat _ _ (by decide) l2, u32_and_nat _ _ l3 hD, u32_or_nat _ _ (Nat.lt_of_le_of_lt Nat.and_le_right hy) (Nat.lt_of_le_of_lt Nat.and_le_right hD)]
    rfl
  have r3 : (((x : Int) - (y : Int)) % 4294967296 - (b : Int)) % 4294967296 = (((x + 4294967296 - y - b) % 4294967296 : Nat) : Int) := by
    unfold W32 at *
    omega
  have R1 := Lib.hid r1
  have R3 := Lib.hid r3
  have R2 := Lib.hid r2
  have hsg : IntKind.u32.signed = false := rfl
  clear r1 r2 r3 hq hD
  unfold W32 at *
  go_enter Tryd.func70, Tryd.ntmps70
  go_wp2_with fail
  go_ret2
  exact ⟨by rw [R1.out, R3.out, R2.out]; rfl, rfl⟩
end Go.Proofs.YtkghilmdoabodaaDoor
