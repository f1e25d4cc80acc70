/- Numbers by their value: differences, quotients, powers, texts, and the errors told. Condition: the numbers read from memory; the error variables hold what E says. -/
import Derived.Test.YtgknhmghljedlaaDoorNum
import Derived.Test.YtgknhmghljedlaaDoorNatK
import Derived.Test.YtgknhmghljedlaaDoorNatJ
import Derived.Test.YtgknhmghljedlaaDoorRawErr
namespace Go.Proofs.YtgknhmghljedlaaDoor
open Go.RowKit NatP

/-- The answer is a new number and no error. -/
def New2 (w : World) (v : Nat) (e : Ending) (w' : World) : Prop :=
  ∃ A c, e = .returned (.tuple #[.slice A (limbs v).length c, .nilIface]) ∧ Num w' A (limbs v).length c v ∧ w'.ownsRow w.heap.size 37 1 (.slice A (limbs v).length c) (limbs v).length ((limbs v).map wv) ∧ Below w.heap.size w w'
theorem New2.of {w : World} {v : Nat} {e : Ending} {w' : World} (h : NatOk w v e w') : New2 w v e w' := by
  obtain ⟨A, c, rfl, ho, hb⟩ := h
  exact ⟨A, c, rfl, num_own ho, ho, hb⟩
/-- The answer is nothing and the error of a tale. -/
def Bad2 (w : World) (E : Nat → Addr) (t : Tale) (e : Ending) (w' : World) : Prop :=
  ∃ b, e = .returned (.tuple #[.slice none 0 0, errV b]) ∧ ErrIs w' E t.1 t.2 (errV b) ∧ Below w.heap.size w w'
theorem FaultAt.is {w : World} {E : Nat → Addr} {b n : Nat} {op : ByteArray} {i : Int} (h : FaultAt w b op i (E n)) : ErrIs w E n [(op, i)] (errV b) := ⟨b, _, rfl, h, rfl⟩
theorem Bad2.of {w : World} {E : Nat → Addr} {op : ByteArray} {i : Int} {n : Nat} {e : Ending} {w' : World} (h : NilErr w op i (E n) e w') : Bad2 w E (n, [(op, i)]) e w' := by
  obtain ⟨b, rfl, hf, _, _, hb⟩ := h
  exact ⟨b, rfl, hf.is, hb⟩

theorem sub_n {w : World} {A B : Option Addr} {n c m d v u : Nat} (h1 : Num w A n c v) (h2 : Num w B m d u) (m1 : n ≤ 1000000000) (hle : u ≤ v) {r : Nat} (hr : v - u = r) :
    Calls Tryd.prog 21 #[.slice A n c, .slice B m d] w fun e w' => New2 w r e w' := by
  obtain ⟨xs, a1, b1, s1, o1, rfl⟩ := h1
  obtain ⟨ys, a2, b2, s2, o2, rfl⟩ := h2
  subst hr
  exact (sub_ok w A B n m c d xs ys s1 s2 o1 o2 a1 b1 a2 b2 m1 hle).mono fun e w' h => New2.of h
theorem subErr_n {w : World} {E : Nat → Addr} (hE : Errs w E) {A B : Option Addr} {n c m d v u : Nat} (h1 : Num w A n c v) (h2 : Num w B m d u) (hlt : v < u) :
    Calls Tryd.prog 21 #[.slice A n c, .slice B m d] w fun e w' => Bad2 w E (3, [(sNat, 0)]) e w' := by
  obtain ⟨xs, a1, b1, s1, o1, rfl⟩ := h1
  obtain ⟨ys, a2, b2, s2, o2, rfl⟩ := h2
  exact (sub_err w E hE A B n m c d xs ys s1 s2 o1 o2 a1 b1 a2 b2 hlt).mono fun e w' h => Bad2.of h
theorem over_n {w : World} {A : Option Addr} {n c v d : Nat} (h1 : Num w A n c v) (hd : 0 < d) (hdl : d < W32) (m1 : n ≤ 1000000000) :
    Calls Tryd.prog 22 #[.slice A n c, .int .u32 (d : Int)] w fun e w' =>
      ∃ B c', e = .returned (.tuple #[.slice B (limbs (v / d)).length c', .int .u32 ((v % d : Nat) : Int), .nilIface]) ∧ w'.ownsRow w.heap.size 37 1 (.slice B (limbs (v / d)).length c') (limbs (v / d)).length ((limbs (v / d)).map wv) ∧ Below w.heap.size w w' := by
  obtain ⟨xs, a1, b1, s1, o1, rfl⟩ := h1
  exact over_c w A n c d xs s1 o1 hd hdl m1
theorem over0_n {w : World} {E : Nat → Addr} (hE : Errs w E) (A : Option Addr) (n c : Nat) :
    Calls Tryd.prog 22 #[.slice A n c, .int .u32 0] w fun e w' => ∃ b, e = .returned (.tuple #[.slice none 0 0, .int .u32 0, errV b]) ∧ ErrIs w' E 3 [(sNat, 0)] (errV b) ∧ Below w.heap.size w w' :=
  (over0_c w E hE A n c).mono fun e w' ⟨b, h1, h2, _, _, h3⟩ => ⟨b, h1, h2.is, h3⟩
theorem pow_n (w : World) (k n : Nat) (hk : k < W32) (hn : n ≤ 1024) {r : Nat} (hr : k ^ n = r) :
    Calls Tryd.prog 28 #[.int .u32 (k : Int), .int .i64 (n : Int)] w fun e w' => New2 w r e w' := by
  subst hr
  exact (pow_ok w k n hk hn).mono fun e w' h => New2.of h
theorem powErr_n (w : World) (E : Nat → Addr) (hE : Errs w E) (k n : Int) (hn : n < 0 ∨ 1024 < n) :
    Calls Tryd.prog 28 #[.int .u32 k, .int .i64 n] w fun e w' => Bad2 w E (if n < 0 then 3 else 4, [(sNat, 0)]) e w' := by
  by_cases h : n < 0
  · rw [if_pos h]
    exact (pow_neg w E hE k n h).mono fun e w' h => Bad2.of h
  · rw [if_neg h]
    exact (pow_big w E hE k n (by omega)).mono fun e w' h => Bad2.of h
end Go.Proofs.YtgknhmghljedlaaDoor
