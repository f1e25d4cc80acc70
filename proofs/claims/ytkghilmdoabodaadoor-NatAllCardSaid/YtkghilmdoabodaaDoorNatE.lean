/- What nat.Low, nat.Fits, nat.From, nat.Sum, nat.Over and edenraw.Nats return. Condition: the limbs read from memory. -/
import Derived.Test.YtkghilmdoabodaaDoorNatD
namespace Go.Proofs.YtkghilmdoabodaaDoor
open Go.RowKit NatP

set_option maxRecDepth 100000 in
set_option maxHeartbeats 1000000 in
theorem nats_c (w : World) (A1 A2 : Option Addr) (n1 n2 c1 c2 : Nat) (xs ys : List Nat) (h1 : Sl w A1 n1 (xs.map wv)) (h2 : Sl w A2 n2 (ys.map wv)) (m1 : n1 ≤ maxLen) :
    Calls Tryd.prog 27 #[.slice A1 n1 c1, .slice A2 n2 c2] w fun e w' => e = .returned (.bool (decide (xs = ys))) ∧ ∃ k, w' = w.drewN k := by
  unfold maxLen at m1
  have l1 : xs.length = n1 := by simpa using h1.1
  have l2 : ys.length = n2 := by simpa using h2.1
  by_cases hn : n1 = n2
  · subst hn
    have HL1 := Lib.hid l1
    have HL2 := Lib.hid l2
    clear l1 l2
    have hne : ((n1 : Int) != (n1 : Int)) = false := by simp
    go_enter Tryd.func27, Tryd.ntmps27
    go_wp2_with fail
    go_loopw [5] (fun i wr => ∃ (k q : Nat), k ≤ n1 ∧ i = .int .i64 (k : Int) ∧ Hid (xs.take k = ys.take k) ∧ wr = w.drewN q) (fun i _ => n1 - (intOf i).toNat)
    case atStart => exact ⟨0, 0, Nat.zero_le _, rfl, Lib.hid rfl, rfl⟩
    case round =>
      obtain ⟨k, q, hk, rfl, he, rfl⟩ := hrel
      by_cases hlt : k < n1
      · obtain ⟨ad, x, rfl, hxk, hcx⟩ := h1.word_ hlt
        obtain ⟨ad2, y, rfl, hyk, hcy⟩ := h2.word_ hlt
        by_cases hxy : x = y
        · subst hxy
          have hdec : ((x : Int) != (x : Int)) = false := by simp
          have he2 : Hid (xs.take (k + 1) = ys.take (k + 1)) := by
            have := he.out
            exact Lib.hid (by rw [List.take_add_one, List.take_add_one, this, hxk, hyk])
          clear hxk hyk he
          go_wp2_with (go_quiet (fail))
          all_goals exact ⟨⟨k + 1, _, by omega, by go_num, he2, by first | rfl | exact World.drewN_drewN _ _ _⟩, by simp [intOf]; omega⟩
        · have hdec : ((x : Int) != (y : Int)) = true := by simp; omega
          have hf : Hid (decide (xs = ys) = false) := Lib.hid (decide_eq_false (fun h => hxy (by rw [h, hyk] at hxk; exact (Option.some.inj hxk).symm)))
          clear hxk hyk he hxy
          go_wp2_with (go_quiet (fail))
          all_goals go_ret
          all_goals exact ⟨by rw [hf.out]; rfl, _, by first | rfl | exact World.drewN_drewN _ _ _⟩
      · obtain rfl : k = n1 := by omega
        have hf : Hid (decide (xs = ys) = true) := by
          have h := he.out
          rw [List.take_of_length_le (by rw [HL1.out]; exact Nat.le_refl _), List.take_of_length_le (by rw [HL2.out]; exact Nat.le_refl _)] at h
          exact Lib.hid (decide_eq_true h)
        clear hk he
        go_wp2_with fail
        go_ret
        exact ⟨by rw [hf.out]; rfl, _, rfl⟩
  · have hne : ((n1 : Int) != (n2 : Int)) = true := by simp; omega
    have hf : Hid (decide (xs = ys) = false) := Lib.hid (decide_eq_false (fun h => hn (by rw [← l1, ← l2, h])))
    clear hn l1 l2
    go_enter Tryd.func27, Tryd.ntmps27
    go_wp2_with fail
    go_ret
    exact ⟨by rw [hf.out]; rfl, 0, rfl⟩

end Go.Proofs.YtkghilmdoabodaaDoor
