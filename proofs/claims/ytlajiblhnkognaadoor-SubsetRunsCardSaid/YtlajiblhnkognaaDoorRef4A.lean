/- A number's digits: edenref04.Digits. No condition. -/
import Derived.Test.YtlajiblhnkognaaDoorRuleS
import Derived.Test.YtlajiblhnkognaaDoorCopyM
namespace Go.Proofs.YtlajiblhnkognaaDoor
open Go.RowKit RuleP

namespace RuleP
theorem digB_cons (k j x : Nat) : digB k (j + 1) x = (x / k ^ j % k) :: digB k j x := by
  induction j generalizing x with
  | zero => simp [digB]
  | succ j ih =>
    rw [show digB k (j + 1 + 1) x = digB k (j + 1) (x / k) ++ [x % k] from rfl, ih, show digB k (j + 1) x = digB k j (x / k) ++ [x % k] from rfl, Nat.div_div_eq_div_mul, Nat.pow_succ, Nat.mul_comm k]
    rfl
/-- Where m digits are still to be written. -/
def digR (k n x m : Nat) : List Nat := List.replicate m 0 ++ digB k (n - m) x
theorem digR_len {k n x m : Nat} (h : m ≤ n) : (digR k n x m).length = n := by simp [digR, digB_len]; omega
theorem digR_set {k n x m : Nat} (h : m + 1 ≤ n) : (digR k n x (m + 1)).set m (x / k ^ (n - (m + 1)) % k) = digR k n x m := by
  unfold digR
  rw [List.set_append_left _ _ (by simp), show n - m = n - (m + 1) + 1 from by omega, digB_cons, List.replicate_succ', List.set_append_right _ _ (by simp)]
  simp
end RuleP

end Go.Proofs.YtlajiblhnkognaaDoor
