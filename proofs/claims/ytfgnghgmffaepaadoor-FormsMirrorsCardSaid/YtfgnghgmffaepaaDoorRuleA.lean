/- What is a rule: rule.wrong, Size, Check, Small. Condition: the table reads from memory; the error variables hold what E says. -/
import Derived.Test.YtfgnghgmffaepaaDoorOdd
import Derived.Test.YtfgnghgmffaepaaDoorRawErr
namespace Go.Proofs.YtfgnghgmffaepaaDoor
open Go.RowKit RuleP

theorem ruleWrong_c (w : World) (E : Nat → Addr) (hE : Errs w E) (at' : Int) (n : Nat) (h1 : 1 ≤ n) (h2 : n ≤ 11) :
    Calls Tryd.prog 45 #[.int .i64 at', .int .i64 (n : Int)] w fun e w' => e = .returned (errV w.heap.size) ∧ ErrIs w' E n [(sRule, at')] (errV w.heap.size) ∧ Below w.heap.size w w' := by
  have HE := Lib.hid hE
  clear hE
  go_enter Tryd.func45, Tryd.ntmps45
  go_wp2_with fail
  refine (new_c w E HE.out sRule at' n h1 h2).mono ?_
  rintro e w' ⟨rfl, rfl⟩
  go_wp2_with fail
  go_ret
  exact ⟨rfl, ⟨w.heap.size, _, rfl, heap_new _ _, rfl⟩, (Below.refl _ _).alloc (Nat.le_refl _) _⟩

/-- The answer is a number and no error, or nought and the error of the tale. -/
def IntErr (w : World) (E : Nat → Addr) (x : Except Tale Int) (e : Ending) (w' : World) : Prop :=
  match x with
  | .ok v => e = .returned (.tuple #[.int .i64 v, .nilIface]) ∧ Below w.heap.size w w'
  | .error t => ∃ b, e = .returned (.tuple #[.int .i64 0, errV b]) ∧ ErrIs w' E t.1 t.2 (errV b) ∧ Below w.heap.size w w'
def size (k r : Int) : Except Tale Int := if k < 1 ∨ 4 < k ∨ r < 0 ∨ 3 < r then .error (3, [(sRule, 0)]) else .ok ((k.toNat ^ (2 * r.toNat + 1) : Nat) : Int)

set_option maxRecDepth 100000 in
set_option maxHeartbeats 1000000 in
theorem size_err (w : World) (E : Nat → Addr) (hE : Errs w E) (k r : Int) (h : k < 1 ∨ 4 < k ∨ r < 0 ∨ 3 < r) :
    Calls Tryd.prog 29 #[.int .i64 k, .int .i64 r] w fun e w' => ∃ b, e = .returned (.tuple #[.int .i64 0, errV b]) ∧ ErrIs w' E 3 [(sRule, 0)] (errV b) ∧ Below w.heap.size w w' := by
  have HE := Lib.hid hE
  clear hE
  have hc : k < 1 ∨ (1 ≤ k ∧ 4 < k) ∨ (1 ≤ k ∧ k ≤ 4 ∧ r < 0) ∨ (1 ≤ k ∧ k ≤ 4 ∧ 0 ≤ r ∧ 3 < r) := by omega
  clear h
  rcases hc with h | ⟨h, h'⟩ | ⟨h, h', h''⟩ | ⟨h, h', h'', h'''⟩
  all_goals
    go_enter Tryd.func29, Tryd.ntmps29
    go_wp2_with fail
    refine (ruleWrong_c w E HE.out 0 3 (by decide) (by decide)).mono ?_
    rintro e w' ⟨rfl, he, hb⟩
    go_wp2_with fail
    go_ret2
    exact ⟨_, rfl, he, hb⟩
set_option maxRecDepth 100000 in
set_option maxHeartbeats 1000000 in
theorem size_ok (w : World) (k r : Nat) (h1 : 1 ≤ k) (h2 : k ≤ 4) (h3 : r ≤ 3) :
    Calls Tryd.prog 29 #[.int .i64 (k : Int), .int .i64 (r : Int)] w fun e w' => e = .returned (.tuple #[.int .i64 ((k ^ (2 * r + 1) : Nat) : Int), .nilIface]) ∧ w = w' := by
  go_enter Tryd.func29, Tryd.ntmps29
  go_wp2_with fail
  go_loop [6, 25] (fun n i => ∃ j : Nat, j ≤ 2 * r ∧ i = .int .i64 (j : Int) ∧ n = .int .i64 ((k ^ (j + 1) : Nat) : Int)) (fun _ i => 2 * r - (intOf i).toNat)
  case atStart => exact ⟨0, by omega, rfl, by simp⟩
  case round =>
    obtain ⟨j, hj, rfl, rfl⟩ := hrel
    by_cases hlt : j < 2 * r
    · have hp : ((k ^ (j + 1) : Nat) : Int) * (k : Int) = ((k ^ (j + 1 + 1) : Nat) : Int) := by rw [Nat.pow_succ k (j + 1)]; simp
      have hle : k ^ (j + 1 + 1) ≤ 65536 := Nat.le_trans (Nat.pow_le_pow_right h1 (show j + 1 + 1 ≤ 8 by omega)) (Nat.le_trans (Nat.pow_le_pow_left h2 8) (by decide))
      generalize k ^ (j + 1) = P at hp ⊢
      obtain ⟨Q, hQ⟩ : ∃ Q, k ^ (j + 1 + 1) = Q := ⟨_, rfl⟩
      rw [hQ] at hp hle
      have HQ := Lib.hid hQ
      clear hQ
      go_wp2_with fail
      exact ⟨⟨j + 1, by omega, by go_num, by rw [HQ.out]⟩, by simp [intOf]; omega⟩
    · obtain rfl : j = 2 * r := by omega
      go_wp2_with fail
      go_ret2
      exact ⟨rfl, rfl⟩
theorem size_c (w : World) (E : Nat → Addr) (hE : Errs w E) (k r : Int) :
    Calls Tryd.prog 29 #[.int .i64 k, .int .i64 r] w fun e w' => IntErr w E (size k r) e w' := by
  by_cases h : k < 1 ∨ 4 < k ∨ r < 0 ∨ 3 < r
  · unfold size
    rw [if_pos h]
    exact size_err w E hE k r h
  · unfold size
    rw [if_neg h]
    obtain ⟨a, rfl⟩ : ∃ a : Nat, k = (a : Int) := ⟨k.toNat, by omega⟩
    obtain ⟨b, rfl⟩ : ∃ b : Nat, r = (b : Int) := ⟨r.toNat, by omega⟩
    refine (size_ok w a b (by omega) (by omega) (by omega)).mono ?_
    rintro e w' ⟨rfl, rfl⟩
    exact ⟨by simp, Below.refl _ _⟩
end Go.Proofs.YtfgnghgmffaepaaDoor
