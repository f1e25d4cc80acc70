/- Differences in memory: what nat.Sub returns. Condition: the limbs read from memory; the error variables hold what E says. Numbers by their value: differences, quotients, powers, texts, and the errors told. Condition: the numbers read from memory; the error variables hold what E says. -/
import Derived.Test.YtfgnghgmffaepaaDoorNatI
import Derived.Test.YtfgnghgmffaepaaDoorNatDE
import Derived.Test.YtfgnghgmffaepaaDoorNum
import Derived.Test.YtfgnghgmffaepaaDoorNatK
import Derived.Test.YtfgnghgmffaepaaDoorRawErr
namespace Go.Proofs.YtfgnghgmffaepaaDoor
open Go.RowKit NatP

/-- Behind k limbs of a difference. -/
structure SubTo (xs ys out : List Nat) (k br : Nat) : Prop where
  ok : OkB W32 out
  len : out.length = xs.length
  zero : ∀ j x, k ≤ j → out[j]? = some x → x = 0
  br1 : br ≤ 1
  eq : val out + val (ys.take k) = val (xs.take k) + W32 ^ k * br
theorem SubTo.step {xs ys out : List Nat} {k br x : Nat} (h : SubTo xs ys out k br) (hx : OkB W32 xs) (hy : OkB W32 ys) (hxk : xs[k]? = some x) :
    SubTo xs ys (out.set k ((x + W32 - ys.getD k 0 - br) % W32)) (k + 1) (1 - (x + W32 - ys.getD k 0 - br) / W32) := by
  have hk : k < out.length := by rw [h.len]; exact (List.getElem?_eq_some_iff.1 hxk).1
  obtain ⟨z, hz⟩ : ∃ z, out[k]? = some z := ⟨_, List.getElem?_eq_getElem hk⟩
  have hz0 := h.zero k z (Nat.le_refl _) hz
  subst hz0
  have hxl : x < W32 := hx x (List.mem_of_getElem? hxk)
  have hyl : ys.getD k 0 < W32 := ok_getD (by decide) hy k
  have hb := h.br1
  refine ⟨ok_set h.ok (Nat.mod_lt _ (by decide)), by simp [h.len], fun j y hj hy' => ?_, Nat.sub_le _ _, ?_⟩
  · rw [List.getElem?_set_ne (by omega)] at hy'
    exact h.zero j y (by omega) hy'
  · have e1 := val_set (b := W32) (v := (x + W32 - ys.getD k 0 - br) % W32) hz
    have e2 := val_take_succ W32 xs k
    have e3 := val_take_succ W32 ys k
    have e4 : xs.getD k 0 = x := by rw [List.getD_eq_getElem?_getD, hxk]; rfl
    have e5 := h.eq
    have e6 : x + W32 * (1 - (x + W32 - ys.getD k 0 - br) / W32) = (x + W32 - ys.getD k 0 - br) % W32 + ys.getD k 0 + br := by
      unfold W32 at *
      omega
    unfold val at *
    rw [e4] at e2
    rw [e2, e3]
    generalize ys.getD k 0 = y at *
    generalize (x + W32 - y - br) % W32 = r at *
    generalize 1 - (x + W32 - y - br) / W32 = d at *
    generalize valB W32 (out.set k r) = V at *
    rw [Nat.mul_zero, Nat.add_zero] at e1
    rw [Nat.pow_succ]
    have e7 : W32 ^ k * (x + W32 * d) = W32 ^ k * (r + y + br) := by rw [e6]
    rw [Nat.mul_add, Nat.mul_add, Nat.mul_add, ← Nat.mul_assoc] at e7
    omega
theorem SubTo.stop {xs ys out : List Nat} {n br : Nat} (h : SubTo xs ys out n br) (hx : xs.length = n) (hy : ys.length ≤ n) (hle : val ys ≤ val xs) : val out = val xs - val ys := by
  have e := h.eq
  rw [List.take_of_length_le (by omega), List.take_of_length_le (by omega)] at e
  have h1 := val_lt w32 h.ok
  rw [h.len, hx] at h1
  change val out < W32 ^ n at h1
  have h2 := h.br1
  rcases Nat.lt_or_ge br 1 with h3 | h3
  · have : br = 0 := by omega
    subst this
    omega
  · have : br = 1 := by omega
    subst this
    omega

end Go.Proofs.YtfgnghgmffaepaaDoor

namespace Go.Proofs.YtfgnghgmffaepaaDoor
open Go.RowKit NatP

/-- The answer is a new number and no error. -/
def New2 (w : World) (v : Nat) (e : Ending) (w' : World) : Prop :=
  ∃ A c, e = .returned (.tuple #[.slice A (limbs v).length c, .nilIface]) ∧ Num w' A (limbs v).length c v ∧ w'.ownsRow w.heap.size 109 1 (.slice A (limbs v).length c) (limbs v).length ((limbs v).map wv) ∧ Below w.heap.size w w'
theorem New2.of {w : World} {v : Nat} {e : Ending} {w' : World} (h : NatOk w v e w') : New2 w v e w' := by
  obtain ⟨A, c, rfl, ho, hb⟩ := h
  exact ⟨A, c, rfl, num_own ho, ho, hb⟩
/-- The answer is nothing and the error of a tale. -/
def Bad2 (w : World) (E : Nat → Addr) (t : Tale) (e : Ending) (w' : World) : Prop :=
  ∃ b, e = .returned (.tuple #[.slice none 0 0, errV b]) ∧ ErrIs w' E t.1 t.2 (errV b) ∧ Below w.heap.size w w'
theorem FaultAt.is {w : World} {E : Nat → Addr} {b n : Nat} {op : ByteArray} {i : Int} (h : FaultAt w b op i (E n)) : ErrIs w E n [(op, i)] (errV b) := ⟨b, _, rfl, h, rfl⟩
theorem Bad2.of {w : World} {E : Nat → Addr} {op : ByteArray} {i : Int} {n : Nat} {e : Ending} {w' : World} (h : NilErr w op i (E n) e w') : Bad2 w E (n, [(op, i)]) e w' := by
  obtain ⟨b, rfl, hf, _, _, hb⟩ := h
  exact ⟨b, rfl, hf.is, hb⟩

theorem over_n {w : World} {A : Option Addr} {n c v d : Nat} (h1 : Num w A n c v) (hd : 0 < d) (hdl : d < W32) (m1 : n ≤ 1000000000) :
    Calls Tryd.prog 70 #[.slice A n c, .int .u32 (d : Int)] w fun e w' =>
      ∃ B c', e = .returned (.tuple #[.slice B (limbs (v / d)).length c', .int .u32 ((v % d : Nat) : Int), .nilIface]) ∧ w'.ownsRow w.heap.size 109 1 (.slice B (limbs (v / d)).length c') (limbs (v / d)).length ((limbs (v / d)).map wv) ∧ Below w.heap.size w w' := by
  obtain ⟨xs, a1, b1, s1, o1, rfl⟩ := h1
  exact over_c w A n c d xs s1 o1 hd hdl m1
theorem over0_n {w : World} {E : Nat → Addr} (hE : Errs w E) (A : Option Addr) (n c : Nat) :
    Calls Tryd.prog 70 #[.slice A n c, .int .u32 0] w fun e w' => ∃ b, e = .returned (.tuple #[.slice none 0 0, .int .u32 0, errV b]) ∧ ErrIs w' E 3 [(sNat, 0)] (errV b) ∧ Below w.heap.size w w' :=
  (over0_c w E hE A n c).mono fun e w' ⟨b, h1, h2, _, _, h3⟩ => ⟨b, h1, h2.is, h3⟩
end Go.Proofs.YtfgnghgmffaepaaDoor
