/- The first place of a list that holds no symbol: rule.odd, word.Check's and overlap.check's search, slices.IndexFunc. Condition: the list reads from memory. -/
import Derived.Test.YtfgnghgmffaepaaDoorErr
import Derived.Test.YtfgnghgmffaepaaDoorTypes
import Derived.Test.YtfgnghgmffaepaaDoorRuleP
import Derived.Lib.Hide
namespace Go.Proofs.YtfgnghgmffaepaaDoor
open Go.RowKit RuleP

theorem run_enter {P : Program} {f : FuncId} {fn : Func} (hf : P.funcs[f]? = some fn) (hname : (fn.name == "runtime.NumGoroutine") = false) (hb : fn.body.isSome = true) (args : Array Value) (w : World) :
    (callFunc f args).run P w = .ok (.enter f args) w := by
  have h1 : fn.name ≠ "runtime.NumGoroutine" := by simpa using hname
  obtain ⟨c, hc⟩ := Option.isSome_iff_exists.1 hb
  simp [callFunc, hf, h1, hc]

/-- The place, or -1. -/
def place : Option Nat → Int
  | some i => (i : Int)
  | none => -1

set_option maxRecDepth 100000 in
set_option maxHeartbeats 400000 in
/-- slices.IndexFunc by a closure of one captured value, whose body is a test of the element. -/
theorem indexFunc_c (w : World) (F : FuncId) (b : Addr) (p : Int → Bool) (A : Option Addr) (n c : Nat) (xs : List Int) (h : Sl w A n (xs.map (Value.int .i64))) (hm : n ≤ 9223372036854775807)
    (he : ∀ (x : Int) (wz : World), (callFunc F #[.int .i64 x, .pointer (some b)]).run Tryd.prog wz = .ok (.enter F #[.int .i64 x, .pointer (some b)]) wz)
    (hf : ∀ (x : Int), Calls Tryd.prog F #[.int .i64 x, .pointer (some b)] w fun e w' => e = .returned (.bool (p x)) ∧ w = w') :
    Calls Tryd.prog 78 #[.slice A n c, .func (.func F) #[] #[.pointer (some b)]] w fun e w' => e = .returned (.int .i64 (place (xs.findIdx? p))) ∧ w = w' := by
  have hl : xs.length = n := by simpa using h.1
  have HL := Lib.hid hl
  have HF := Lib.hid hf
  have HE := Lib.hid he
  clear hl hf he
  go_enter Tryd.func78, Tryd.ntmps78
  go_wp2_with fail
  go_loop [8] (fun i => ∃ k : Nat, k ≤ n ∧ i = .int .i64 (k : Int) ∧ Hid (∀ (j : Nat) (x : Int), j < k → xs[j]? = some x → p x = false)) (fun i => n - (intOf i).toNat)
  case atStart => exact ⟨0, Nat.zero_le _, rfl, Lib.hid (fun j x hj => by omega)⟩
  case round =>
    obtain ⟨k, hk, rfl, hs⟩ := hrel
    by_cases hlt : k < n
    · obtain ⟨ad, x, rfl, hxk, hcx⟩ := h.int_ hlt
      have hx := HE.out x
      cases hpx : p x with
      | false =>
        have hc := HF.out x
        rw [hpx] at hc
        have HC := Lib.hid hc
        have hs2 : Hid (∀ (j : Nat) (y : Int), j < k + 1 → xs[j]? = some y → p y = false) := Lib.hid (fun j y hj hy => by
          rcases Nat.lt_or_ge j k with h1 | h1
          · exact hs.out j y h1 hy
          · obtain rfl : j = k := by omega
            rw [hxk] at hy
            cases hy; exact hpx)
        clear hc hpx hxk hs
        go_wp2_with fail
        refine (HC.out).mono ?_
        rintro e w' ⟨rfl, rfl⟩
        go_wp2_with fail
        exact ⟨⟨k + 1, by omega, by go_num, hs2⟩, by simp [intOf]; omega⟩
      | true =>
        have hc := HF.out x
        rw [hpx] at hc
        have HC := Lib.hid hc
        have hp : Hid (place (xs.findIdx? p) = (k : Int)) := Lib.hid (by
          rw [List.findIdx?_eq_some_iff_getElem.2 ⟨by rw [HL.out]; exact hlt, by rw [(List.getElem?_eq_some_iff.1 hxk).2]; exact hpx, fun j hj => by
            have := hs.out j _ hj (List.getElem?_eq_getElem (by have := HL.out; omega))
            simp [this]⟩]
          rfl)
        clear hc hpx hxk hs
        go_wp2_with fail
        refine (HC.out).mono ?_
        rintro e w' ⟨rfl, rfl⟩
        go_wp2_with fail
        go_ret
        exact ⟨by rw [hp.out]; rfl, rfl⟩
    · obtain rfl : k = n := by omega
      have hp : Hid (place (xs.findIdx? p) = -1) := Lib.hid (by
        rw [List.findIdx?_eq_none_iff.2 fun x hx => by
          obtain ⟨j, hj⟩ := List.getElem?_of_mem hx
          exact hs.out j x (by rw [← HL.out]; exact (List.getElem?_eq_some_iff.1 hj).1) hj]
        rfl)
      clear hs
      go_wp2_with fail
      go_ret
      exact ⟨by rw [hp.out]; rfl, rfl⟩

set_option maxHeartbeats 400000 in
theorem ruleOddF_c (w : World) (x k : Int) (b : Addr) (hb : w.cell? b = some (.int .i64 k)) :
    Calls Tryd.prog 79 #[.int .i64 x, .pointer (some b)] w fun e w' => e = .returned (.bool (decide (x < 0 ∨ k ≤ x))) ∧ w = w' := by
  by_cases h : x < 0
  · have h1 : decide (x < 0) = true := decide_eq_true h
    have hd : Hid (decide (x < 0 ∨ k ≤ x) = true) := Lib.hid (decide_eq_true (.inl h))
    go_enter Tryd.func79, Tryd.ntmps79
    go_wp2_with fail
    go_ret
    exact ⟨by first | rfl | (rw [hd.out]; rfl), rfl⟩
  · have h1 : decide (x < 0) = false := decide_eq_false h
    have hd : Hid (decide (x < 0 ∨ k ≤ x) = decide (k ≤ x)) := Lib.hid (by simp [h])
    go_enter Tryd.func79, Tryd.ntmps79
    go_wp2_with fail
    go_ret
    exact ⟨by first | rfl | (rw [hd.out]; rfl), rfl⟩

theorem ruleOdd_c (w : World) (k : Int) (A : Option Addr) (n c : Nat) (xs : List Int) (h : Sl w A n (xs.map (Value.int .i64))) (hm : n ≤ 9223372036854775807) :
    Calls Tryd.prog 55 #[.int .i64 k, .slice A n c] w fun e w' => e = .returned (.int .i64 (place (odd k xs))) ∧ Below w.heap.size w w' := by
  have hi := indexFunc_c (w.alloc (.cells #[.int .i64 k] 3)) 79 ⟨w.heap.size, 0, none⟩ (fun x => decide (x < 0 ∨ k ≤ x)) A n c xs (h.alloc _) hm
    (fun x wz => run_enter Tryd.func79 (by kernel_rfl) (by kernel_rfl) _ _) (fun x => ruleOddF_c _ x k _ (by simp))
  change Calls _ _ _ _ (fun e w' => e = .returned (.int .i64 (place (odd k xs))) ∧ _ = w') at hi
  have HI := Lib.hid hi
  clear hi
  go_enter Tryd.func55, Tryd.ntmps55
  go_wp2_with fail
  refine (HI.out).mono ?_
  rintro e w' ⟨rfl, rfl⟩
  go_wp2_with fail
  go_ret
  exact ⟨rfl, (Below.refl _ _).alloc (Nat.le_refl _) _⟩
end Go.Proofs.YtfgnghgmffaepaaDoor
