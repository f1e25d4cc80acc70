/- Numbers by their value: what the package's functions return, over slices that read as a number; the laws' helper long, nat.Sum. Condition: as said. -/
import Derived.Test.YtkghilmdoabodaaDoorNatLaw
namespace Go.Proofs.YtkghilmdoabodaaDoor
open Go.RowKit NatP

set_option maxRecDepth 100000 in
theorem long_c (w : World) (L : Option Addr) (n c : Nat) (R : List (Option Addr × Nat × Nat)) (h : Sl w L n (R.map slv)) (hn : n ≤ 9223372036854775807) (hm : ∀ x ∈ R, x.2.1 ≤ maxLen) :
    Calls Tryd.prog 6 #[.slice L n c] w fun e w' => e = .returned (.bool (R.any fun x => decide (400 < x.2.1))) ∧ w = w' := by
  have hl : R.length = n := by simpa using h.1
  have HL := Lib.hid hl
  have HM := Lib.hid hm
  clear hl hm
  go_enter Tryd.func6, Tryd.ntmps6
  go_wp2_with fail
  go_loop [3] (fun i => ∃ k : Nat, k ≤ n ∧ i = .int .i64 (k : Int) ∧ Hid (∀ x ∈ R.take k, ¬ 400 < x.2.1)) (fun i => n - (intOf i).toNat)
  case atStart => exact ⟨0, Nat.zero_le _, rfl, Lib.hid (fun x hx => by simp at hx)⟩
  case round =>
    obtain ⟨k, hk, rfl, hs⟩ := hrel
    by_cases hlt : k < n
    · obtain ⟨ad, u, rfl, hxk, hcx⟩ := h.at_ hlt
      rw [List.getElem?_map] at hxk
      cases hR : R[k]? with
      | none => rw [hR] at hxk; cases hxk
      | some x =>
        obtain ⟨A, m, cc⟩ := x
        rw [hR] at hxk
        obtain rfl := Option.some.inj hxk
        simp only [slv] at hcx
        have hm := HM.out _ (List.mem_of_getElem? hR)
        by_cases h4 : 400 < m
        · have hd : decide ((400 : Int) < (m : Int)) = true := decide_eq_true (by omega)
          have ha : Hid ((R.any fun x => decide (400 < x.2.1)) = true) := Lib.hid (List.any_eq_true.2 ⟨_, List.mem_of_getElem? hR, decide_eq_true h4⟩)
          clear hR hxk
          go_wp2_with fail
          go_ret
          exact ⟨by rw [ha.out]; rfl, rfl⟩
        · have hd : decide ((400 : Int) < (m : Int)) = false := decide_eq_false (by omega)
          have hs2 : Hid (∀ x ∈ R.take (k + 1), ¬ 400 < x.2.1) := Lib.hid (by
            intro x hx
            rw [List.take_add_one, hR] at hx
            rcases List.mem_append.1 hx with h | h
            · exact hs.out x h
            · simp at h; subst h; exact h4)
          clear hR hxk hs h4
          go_wp2_with fail
          exact ⟨⟨k + 1, by omega, by go_num, hs2⟩, by simp [intOf]; omega⟩
    · have ha : Hid ((R.any fun x => decide (400 < x.2.1)) = false) := Lib.hid (by
        rw [List.any_eq_false]
        intro x hx
        have := hs.out x (by rw [List.take_of_length_le (by rw [HL.out]; omega)]; exact hx)
        simpa using this)
      clear hs
      go_wp2_with fail
      go_ret
      exact ⟨by rw [ha.out]; rfl, rfl⟩

end Go.Proofs.YtkghilmdoabodaaDoor
