/- Rules held against each other: edenraw.Rules. Condition: the tables read from memory. -/
import Derived.Test.YtfgjcdfmlpdkaaaDoorRuleB
import Derived.Test.YtfgjcdfmlpdkaaaDoorRaw
namespace Go.Proofs.YtfgjcdfmlpdkaaaDoor
open Go.RowKit RuleP

set_option maxRecDepth 100000 in
set_option maxHeartbeats 1000000 in
theorem rules_same (w : World) (K R : Int) (A B : Option Addr) (n c d : Nat) (T : List Int) (h1 : Sl w A n (T.map (Value.int .i64))) (h2 : Sl w B n (T.map (Value.int .i64))) (hm : n ≤ 9223372036854775807) :
    Calls Tryd.prog 33 #[ruleV K R A n c, ruleV K R B n d] w fun e w' => e = .returned (.bool true) ∧ Below w.heap.size w w' := by
  have hb : Below w.heap.size w ((w.alloc (.cells #[.int .i64 K, .int .i64 R, .slice A n c] 24)).alloc (.cells #[.int .i64 K, .int .i64 R, .slice B n d] 24)) := ((Below.refl _ _).alloc (Nat.le_refl _) _).alloc (by simp) _
  have hi := ints_b ((w.alloc (.cells #[.int .i64 K, .int .i64 R, .slice A n c] 24)).alloc (.cells #[.int .i64 K, .int .i64 R, .slice B n d] 24)) A B n n c d T T (h1.below hb) (h2.below hb) hm hm
  rw [decide_eq_true rfl] at hi
  have HI := Lib.hid hi
  have HB := Lib.hid hb
  have k1 : (K == K) = true := by simp
  have k2 : (R == R) = true := by simp
  clear hi hb
  unfold ruleV
  go_enter Tryd.func33, Tryd.ntmps33
  go_wp2_with fail
  refine (HI.out).mono ?_
  rintro e w1 ⟨rfl, hb1⟩
  go_wp2_with fail
  go_ret
  exact ⟨rfl, HB.out.trans (hb1.mono HB.out.size)⟩
end Go.Proofs.YtfgjcdfmlpdkaaaDoor
