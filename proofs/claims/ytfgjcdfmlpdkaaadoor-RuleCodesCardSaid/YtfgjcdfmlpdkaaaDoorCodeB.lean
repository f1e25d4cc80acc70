/- A rule's number where there is none; a number's digits again. Condition: the table reads from memory; the error variables hold what E says. -/
import Derived.Test.YtfgjcdfmlpdkaaaDoorCode
import Derived.Test.YtfgjcdfmlpdkaaaDoorRuleD
namespace Go.Proofs.YtfgjcdfmlpdkaaaDoor
open Go.RowKit RuleP NatP

namespace RuleP
theorem digN_val {k : Nat} (hk : 1 ≤ k) : ∀ {t : List Nat}, (∀ x ∈ t, x < k) → digN k t.length (valB k t) = t ∧ valB k t < k ^ t.length
  | [], _ => ⟨rfl, by simp [valB]⟩
  | x :: l, h => by
    have hx := h x (by simp)
    obtain ⟨h1, h2⟩ := digN_val hk (t := l) (fun y hy => h y (by simp [hy]))
    have e1 : (x + k * valB k l) % k = x := by rw [Nat.add_mul_mod_self_left, Nat.mod_eq_of_lt hx]
    have e2 : (x + k * valB k l) / k = valB k l := by rw [Nat.add_mul_div_left _ _ (by omega), Nat.div_eq_of_lt hx, Nat.zero_add]
    refine ⟨?_, ?_⟩
    · simp only [List.length_cons, digN, valB]
      rw [e1, e2, h1]
    · simp only [List.length_cons, valB, Nat.pow_succ]
      have : k * (valB k l + 1) ≤ k * k ^ l.length := Nat.mul_le_mul_left _ h2
      rw [Nat.mul_add, Nat.mul_one] at this
      rw [Nat.mul_comm (k ^ l.length)]
      omega
/-- A small rule's number gives the rule again. -/
theorem from_code {k r : Nat} {t : List Nat} (h : IsRule k r t) (hs : t.length ≤ 256) : fromN k r (valB k t) = .ok t := by
  have hk1 := h.k1
  have hk4 := h.k4
  have hr3 := h.r3
  obtain ⟨e1, e2⟩ := digN_val hk1 h.sym
  unfold fromN
  rw [if_neg (by omega)]
  simp only [Int.toNat_natCast]
  rw [← h.len, if_neg (by omega), if_neg (by rw [Nat.div_eq_of_lt e2]; omega), e1]
end RuleP

set_option maxRecDepth 100000 in
set_option maxHeartbeats 1000000 in
theorem code_bad (w : World) (E : Nat → Addr) (hE : Errs w E) (K R : Int) (A : Option Addr) (n c : Nat) (T : List Int) (hT : Sl w A n (T.map (Value.int .i64))) (hm : n ≤ 9223372036854775807) (t : Tale) (hbad : small K R T = some t) :
    Calls Tryd.prog 31 #[ruleV K R A n c] w fun e w' => ∃ v, e = .returned (.tuple #[.slice none 0 0, v]) ∧ ErrIs w' E t.1 t.2 v ∧ Below w.heap.size w w' := by
  have hb0 := (Below.refl w.heap.size w).alloc (Nat.le_refl _) (.cells #[.int .i64 K, .int .i64 R, .slice A n c] 24)
  have hsm := small_c _ E (hE.below hb0) K R A n c T (hT.below hb0) hm
  rw [hbad] at hsm
  have HSM := Lib.hid hsm
  clear hsm hE hT hb0 hbad
  unfold ruleV at *
  go_enter Tryd.func31, Tryd.ntmps31
  go_wp2_with fail
  refine (HSM.out).mono ?_
  rintro e w1 ⟨v, rfl, he, hb⟩
  obtain ⟨u, p, rfl⟩ := ErrIs.iface (show ErrIs w1 E t.1 t.2 v from he)
  have HP := Lib.hid (show ErrIs w1 E t.1 t.2 (.iface u p) from he)
  have HB := Lib.hid (below_box hb)
  clear he hb
  go_wp2_with fail
  go_ret2
  exact ⟨_, rfl, HP.out, HB.out⟩
end Go.Proofs.YtfgjcdfmlpdkaaaDoor
