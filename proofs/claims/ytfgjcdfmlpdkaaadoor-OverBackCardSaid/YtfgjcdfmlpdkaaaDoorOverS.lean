/- A word among the first preimages, or behind them: plain lists, no program. No condition. -/
import Derived.Test.YtfgjcdfmlpdkaaaDoorOverR
import Derived.Test.YtfgjcdfmlpdkaaaDoorRuleC
namespace Go.Proofs.YtfgjcdfmlpdkaaaDoor
namespace RuleP

theorem back_found {k r : Nat} {t W : List Nat} {X : List Int} {L : List (List Nat)} {more : Bool} (hr : IsRule k r t) (hF : RuleP.Found 200 (before k r t W) L more) (hW : W.length ≤ 256) (h : X ∈ L.map ints) :
    step k r (ints t) X = .ok (ints W) ∧ X.length = W.length + 2 * r := by
  obtain ⟨l, hl, rfl⟩ := List.mem_map.1 h
  have hl' : l ∈ before k r t W := by rw [hF.list] at hl; exact List.mem_of_mem_take hl
  obtain ⟨a, b, c⟩ := (before_iff hr.k1).1 hl'
  have := hr.r3
  exact ⟨by rw [step_rule hr b (by omega), c], by rw [ints_len]; omega⟩
theorem step_ok {k r : Nat} {t W : List Nat} {X : List Int} (hr : IsRule k r t) (hs : step k r (ints t) X = .ok (ints W)) : ∃ x, X = ints x ∧ (∀ y ∈ x, y < k) ∧ image k r t x = W := by
  unfold step at hs
  rw [check_rule hr] at hs
  simp only at hs
  split at hs
  · cases hs
  · split at hs
    · cases hs
    · rename_i ho
      obtain ⟨x, rfl, hx⟩ := odd_nat ho
      injection hs with hs
      rw [Int.toNat_natCast, Int.toNat_natCast, nats_ints, nats_ints] at hs
      exact ⟨x, rfl, hx, ints_inj hs⟩
theorem back_lost {k r : Nat} {t W : List Nat} {X : List Int} {L : List (List Nat)} {more : Bool} (hr : IsRule k r t) (hF : RuleP.Found 200 (before k r t W) L more) (hlen : X.length = W.length + 2 * r) (hs : step k r (ints t) X = .ok (ints W)) (h : ¬ X ∈ L.map ints) :
    more = true ∧ L.length = 200 ∧ ∃ l x, L[199]? = some l ∧ X = ints x ∧ cmpL l x = -1 := by
  obtain ⟨x, rfl, hx, him⟩ := step_ok hr hs
  rw [ints_len] at hlen
  have hb : x ∈ before k r t W := (before_iff hr.k1).2 ⟨by omega, hx, him⟩
  obtain ⟨i, hi⟩ := List.getElem?_of_mem hb
  have hl := (List.getElem?_eq_some_iff.1 hi).1
  have hi2 : ¬ i < 200 := fun h2 => h (List.mem_map.2 ⟨x, List.mem_of_getElem? (i := i) (by rw [hF.list, List.getElem?_take, if_pos h2]; exact hi), rfl⟩)
  have h9 : (before k r t W)[199]? = some (before k r t W)[199] := List.getElem?_eq_getElem (by omega)
  refine ⟨by rw [hF.more]; exact decide_eq_true (by omega), by rw [hF.list, List.length_take]; omega, _, x, by rw [hF.list, List.getElem?_take, if_pos (by decide)]; exact h9, rfl, before_cmp hr.k1 h9 hi (by omega)⟩
theorem back_order {k r : Nat} {t W : List Nat} {L : List (List Nat)} {more : Bool} (hr : IsRule k r t) (hF : RuleP.Found 200 (before k r t W) L more) {i j : Nat} {a b : List Nat} (ha : L[i]? = some a) (hb : L[j]? = some b) (hij : i < j) : cmpL a b = -1 := by
  have h1 := (List.getElem?_eq_some_iff.1 ha).1
  have h2 := (List.getElem?_eq_some_iff.1 hb).1
  rw [hF.list, List.length_take] at h1 h2
  rw [hF.list, List.getElem?_take, if_pos (by omega)] at ha hb
  exact before_cmp hr.k1 ha hb hij
end RuleP
end Go.Proofs.YtfgjcdfmlpdkaaaDoor
