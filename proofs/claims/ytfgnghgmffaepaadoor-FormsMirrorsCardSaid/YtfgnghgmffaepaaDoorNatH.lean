/- What nat.From, nat.Low, nat.Fits return. Condition: the limbs read from memory. -/
import Derived.Test.YtfgnghgmffaepaaDoorNatDE
import Derived.Test.YtfgnghgmffaepaaDoorNatC
import Derived.Laws.BitsAllLaws
namespace Go.Proofs.YtfgnghgmffaepaaDoor
open Go.RowKit NatP

set_option maxRecDepth 100000 in
theorem from_c (w : World) (x : Nat) (h : x < 18446744073709551616) :
    Calls Tryd.prog 74 #[.int .u64 (x : Int)] w fun e w' => NatIs w x e w' := by
  have hlit := World.ownsRow_lit (base := w.heap.size) (e := 109) (size := 1) w #[.int .u32 ((x % W32 : Nat) : Int), .int .u32 ((x / W32 : Nat) : Int)] 2 (Nat.le_refl _) (by decide) rfl
  have hok : OkB W32 [x % W32, x / W32] := by
    intro y hy
    simp at hy
    rcases hy with rfl | rfl
    · exact Nat.mod_lt _ (by decide)
    · exact Nat.div_lt_of_lt_mul h
  have hval : val [x % W32, x / W32] = x := by
    simp only [val, valB, Nat.mul_zero, Nat.add_zero]
    exact Nat.mod_add_div x W32
  have hb : Below w.heap.size w (w.alloc (.cells #[.int .u32 ((x % W32 : Nat) : Int), .int .u32 ((x / W32 : Nat) : Int)] 109)) := (Below.refl _ _).alloc (Nat.le_refl _) _
  have hn := norm_own (w0 := w) (xs := [x % W32, x / W32]) hlit hok hb
  rw [hval] at hn
  have q1 : (x : Int) % 4294967296 = ((x % W32 : Nat) : Int) := rfl
  have q2 : (x : Int) / 4294967296 % 4294967296 = ((x / W32 : Nat) : Int) := by
    rw [show (x : Int) / 4294967296 = ((x / W32 : Nat) : Int) from rfl]
    exact Int.emod_eq_of_lt (Int.natCast_nonneg _) (by have : x / W32 < W32 := Nat.div_lt_of_lt_mul h
                                                       unfold W32 at *; omega)
  have Q1 := Lib.hid q1
  have Q2 := Lib.hid q2
  have HN := Lib.hid hn
  clear q1 q2 hn hlit hok hval hb
  go_enter Tryd.func74, Tryd.ntmps74
  go_wp2_with fail
  simp only [Q1.out, Q2.out]
  refine (HN.out).mono ?_
  rintro e w3 ⟨A, c, rfl, ho, hb3⟩
  go_wp2_with fail
  go_ret
  exact ⟨A, c, rfl, ho, hb3⟩

end Go.Proofs.YtfgnghgmffaepaaDoor
