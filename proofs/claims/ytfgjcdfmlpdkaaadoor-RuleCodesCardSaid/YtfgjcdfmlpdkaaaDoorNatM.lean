/- Numbers by their value: differences, quotients, powers, texts, and the errors told. Condition: the numbers read from memory; the error variables hold what E says. -/
import Derived.Test.YtfgjcdfmlpdkaaaDoorNum
import Derived.Test.YtfgjcdfmlpdkaaaDoorNatK
import Derived.Test.YtfgjcdfmlpdkaaaDoorNatJ
import Derived.Test.YtfgjcdfmlpdkaaaDoorRawErr
namespace Go.Proofs.YtfgjcdfmlpdkaaaDoor
open Go.RowKit NatP

/-- The answer is a new number and no error. -/
def New2 (w : World) (v : Nat) (e : Ending) (w' : World) : Prop :=
  ∃ A c, e = .returned (.tuple #[.slice A (limbs v).length c, .nilIface]) ∧ Num w' A (limbs v).length c v ∧ w'.ownsRow w.heap.size 112 1 (.slice A (limbs v).length c) (limbs v).length ((limbs v).map wv) ∧ Below w.heap.size w w'
theorem New2.of {w : World} {v : Nat} {e : Ending} {w' : World} (h : NatOk w v e w') : New2 w v e w' := by
  obtain ⟨A, c, rfl, ho, hb⟩ := h
  exact ⟨A, c, rfl, num_own ho, ho, hb⟩
/-- The answer is nothing and the error of a tale. -/
def Bad2 (w : World) (E : Nat → Addr) (t : Tale) (e : Ending) (w' : World) : Prop :=
  ∃ b, e = .returned (.tuple #[.slice none 0 0, errV b]) ∧ ErrIs w' E t.1 t.2 (errV b) ∧ Below w.heap.size w w'
theorem FaultAt.is {w : World} {E : Nat → Addr} {b n : Nat} {op : ByteArray} {i : Int} (h : FaultAt w b op i (E n)) : ErrIs w E n [(op, i)] (errV b) := ⟨b, _, rfl, h, rfl⟩
theorem Bad2.of {w : World} {E : Nat → Addr} {op : ByteArray} {i : Int} {n : Nat} {e : Ending} {w' : World} (h : NilErr w op i (E n) e w') : Bad2 w E (n, [(op, i)]) e w' := by
  obtain ⟨b, rfl, hf, _, _, hb⟩ := h
  exact ⟨b, rfl, hf.is, hb⟩

theorem over_n {w : World} {A : Option Addr} {n c v d : Nat} (h1 : Num w A n c v) (hd : 0 < d) (hdl : d < W32) (m1 : n ≤ 1000000000) :
    Calls Tryd.prog 71 #[.slice A n c, .int .u32 (d : Int)] w fun e w' =>
      ∃ B c', e = .returned (.tuple #[.slice B (limbs (v / d)).length c', .int .u32 ((v % d : Nat) : Int), .nilIface]) ∧ w'.ownsRow w.heap.size 112 1 (.slice B (limbs (v / d)).length c') (limbs (v / d)).length ((limbs (v / d)).map wv) ∧ Below w.heap.size w w' := by
  obtain ⟨xs, a1, b1, s1, o1, rfl⟩ := h1
  exact over_c w A n c d xs s1 o1 hd hdl m1
theorem over0_n {w : World} {E : Nat → Addr} (hE : Errs w E) (A : Option Addr) (n c : Nat) :
    Calls Tryd.prog 71 #[.slice A n c, .int .u32 0] w fun e w' => ∃ b, e = .returned (.tuple #[.slice none 0 0, .int .u32 0, errV b]) ∧ ErrIs w' E 3 [(sNat, 0)] (errV b) ∧ Below w.heap.size w w' :=
  (over0_c w E hE A n c).mono fun e w' ⟨b, h1, h2, _, _, h3⟩ => ⟨b, h1, h2.is, h3⟩
end Go.Proofs.YtfgjcdfmlpdkaaaDoor
