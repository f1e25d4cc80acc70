/- Rules held against each other: edenraw.Rules. Condition: the tables read from memory. The laws' helper awake of chapter 04: it returns true. Condition: the error variables hold what E says. -/
import Derived.Test.YtfgnghgmffaepaaDoorRuleB
import Derived.Test.YtfgnghgmffaepaaDoorLentRR
import Derived.Test.YtfgnghgmffaepaaDoorRuleEF
import Derived.Test.YtfgnghgmffaepaaDoorCopyM
namespace Go.Proofs.YtfgnghgmffaepaaDoor
open Go.RowKit RuleP

set_option maxRecDepth 100000 in
set_option maxHeartbeats 1000000 in
theorem rules_same (w : World) (K R : Int) (A B : Option Addr) (n c d : Nat) (T : List Int) (h1 : Sl w A n (T.map (Value.int .i64))) (h2 : Sl w B n (T.map (Value.int .i64))) (hm : n ≤ 9223372036854775807) :
    Calls Tryd.prog 11 #[ruleV K R A n c, ruleV K R B n d] w fun e w' => e = .returned (.bool true) ∧ Below w.heap.size w w' := by
  have hb : Below w.heap.size w ((w.alloc (.cells #[.int .i64 K, .int .i64 R, .slice A n c] 24)).alloc (.cells #[.int .i64 K, .int .i64 R, .slice B n d] 24)) := ((Below.refl _ _).alloc (Nat.le_refl _) _).alloc (by simp) _
  have hi := ints_b ((w.alloc (.cells #[.int .i64 K, .int .i64 R, .slice A n c] 24)).alloc (.cells #[.int .i64 K, .int .i64 R, .slice B n d] 24)) A B n n c d T T (h1.below hb) (h2.below hb) hm hm
  rw [decide_eq_true rfl] at hi
  have HI := Lib.hid hi
  have HB := Lib.hid hb
  have k1 : (K == K) = true := by simp
  have k2 : (R == R) = true := by simp
  clear hi hb
  unfold ruleV
  go_enter Tryd.func11, Tryd.ntmps11
  go_wp2_with fail
  refine (HI.out).mono ?_
  rintro e w1 ⟨rfl, hb1⟩
  go_wp2_with fail
  go_ret
  exact ⟨rfl, HB.out.trans (hb1.mono HB.out.size)⟩
end Go.Proofs.YtfgnghgmffaepaaDoor

namespace Go.Proofs.YtfgnghgmffaepaaDoor
open Go.RowKit RuleP NatP

def l110 : List UInt8 := [50, 46, 49, 46, 49, 49, 48]
theorem parse110 : parseN (l110.drop 4) = .ok 110 := by
  show parseN [49, 49, 48] = .ok 110
  rw [parse_good (by decide) (by decide) (by decide), if_neg (by decide)]
  rfl
theorem dig110 : digN 2 8 110 = [0, 1, 1, 1, 0, 1, 1, 0] := by decide
theorem rule110 : IsRule 2 1 [0, 1, 1, 1, 0, 1, 1, 0] := ⟨by decide, by decide, by decide, by decide, by decide⟩
theorem image110 : image 2 1 [0, 1, 1, 1, 0, 1, 1, 0] [0, 0, 1, 1, 1] = [1, 1, 0] := by decide
end Go.Proofs.YtfgnghgmffaepaaDoor
