/- The call of NatBack: it returns true. Condition: its numbers read from memory; the error variables hold what E says; the variable that errors.As reads. -/
import Derived.Test.YtgknhmghljedlaaDoorNatM
import Derived.Test.YtgknhmghljedlaaDoorNatRing
namespace Go.Proofs.YtgknhmghljedlaaDoor
open Go.RowKit NatP


theorem long_2 (w : World) {A B : Option Addr} {na ca nb cb a b : Nat} (hA : Num w A na ca a) (hB : Num w B nb cb b) : ∀ x ∈ [(A, na, ca), (B, nb, cb)], x.2.1 ≤ maxLen := by
  intro x hx
  obtain ⟨_, p1, p2, _⟩ := hA
  obtain ⟨_, q1, q2, _⟩ := hB
  simp at hx
  rcases hx with rfl | rfl
  · exact Nat.le_trans p1 p2
  · exact Nat.le_trans q1 q2
theorem cmpN_le {v u : Nat} (h : u ≤ v) : decide (cmpN v u < 0) = false := by unfold cmpN; rw [if_neg (by omega)]; split <;> rfl

set_option maxRecDepth 100000 in
set_option maxHeartbeats 8000000 in
theorem natBack_c (w : World) (E : Nat → Addr) (hE : Errs w E) (hT : ErrT w) {A B : Option Addr} {na ca nb cb a b : Nat} (hA : Num w A na ca a) (hB : Num w B nb cb b) :
    Calls Tryd.prog 7 #[.slice A na ca, .slice B nb cb] w fun e w' => e = .returned (.bool true) ∧ Below w.heap.size w w' := by
  have hm := long_2 w hA hB
  have HE := Lib.hid hE
  have HT := Lib.hid hT
  have HM := Lib.hid hm
  clear hE hm hT
  by_cases hl : 400 < na ∨ 400 < nb
  · have hany : Hid (([(A, na, ca), (B, nb, cb)].any fun x => decide (400 < x.2.1)) = true) := Lib.hid (by simpa using hl)
    clear hl
    go_enter Tryd.func7, Tryd.ntmps7
    go_wp2_with fail
    refine (awake2_c w E HE.out).mono ?_
    rintro e w1 ⟨rfl, b1⟩
    go_wp2_with fail
    refine (long_b w1 [(A, na, ca), (B, nb, cb)] 2 rfl (by decide) HM.out 23 hany.out).mono ?_
    rintro e w2 ⟨rfl, h2⟩
    go_wp2_with fail
    go_ret
    exact ⟨rfl, below_call1 b1 h2⟩
  have hany : Hid (([(A, na, ca), (B, nb, cb)].any fun x => decide (400 < x.2.1)) = false) := Lib.hid (by simp; omega)
  have ma : na ≤ 400 := by omega
  have mb : nb ≤ 400 := by omega
  have la := hA.len
  have lb := hB.len
  have k1 := limbs_add a b 400 (by omega) (by omega)
  have k2 : (limbs (a - b)).length ≤ na := limbs_len_of_lt _ _ (Nat.lt_of_le_of_lt (Nat.sub_le _ _) hA.lt)
  have k0 : (limbs 0).length ≤ 0 := Nat.le_refl 0
  clear hl
  rcases Nat.lt_trichotomy a b with hc | hc | hc
  · skip
    obtain ⟨r0, hr0, hr1⟩ : ∃ r0, cmpN (a + b) a = r0 ∧ decide (r0 < 0) = false := ⟨_, rfl, cmpN_le (Nat.le_add_right _ _)⟩
    have R0 := Lib.hid hr0
    clear hr0
    go_enter Tryd.func7, Tryd.ntmps7
    go_wp2_with fail
    refine (awake2_c w E HE.out).mono ?_
    rintro e w1 ⟨rfl, b1⟩
    go_wp2_with fail
    refine (long_b w1 [(A, na, ca), (B, nb, cb)] 2 rfl (by decide) HM.out 23 hany.out).mono ?_
    rintro e w2 ⟨rfl, h2⟩
    have b2 := Below.trans (Below.alloc b1 b1.size _) (h2.mono (by have := b1.size; simp only [World.size_alloc]; omega))
    clear h2 b1
    go_wp2_with fail
    refine (add_n (hA.below b2) (hB.below b2) (by omega) (by omega) (r := a + b) rfl).mono ?_
    rintro e w3 ⟨A3, c3, rfl, _, s, h3⟩
    have b3 := b2.trans (h3.mono b2.size)
    clear h3 b2
    go_wp2_with fail
    refine (sub_n (num_own s) (hB.below b3) (by omega) (Nat.le_add_left _ _) (r := a) (Nat.add_sub_cancel _ _)).mono ?_
    rintro e w4 ⟨A4, c4, rfl, _, d, h4⟩
    have b4 := b3.trans (h4.mono b3.size)
    have s := own_below s h4
    clear h4 b3
    go_wp2_with fail
    refine (cmp_n (num_own d) (hA.below b4) (r := 0) (cmpN_eq _)).mono ?_
    rintro e w5 ⟨rfl, h5⟩
    have b5 := b4.trans (h5.mono b4.size)
    have s := own_below s h5
    have d := own_below d h5
    clear h5 b4
    go_wp2_with fail
    refine (normal_n (num_own d) ⟨_, _, Below.refl _ _, d⟩).mono ?_
    rintro e w' ⟨rfl, rfl⟩
    go_wp2_with fail
    refine (cmp_n (num_own s) (hA.below b5) (r := r0) R0.out).mono ?_
    rintro e w6 ⟨rfl, h6⟩
    have b6 := b5.trans (h6.mono b5.size)
    clear h6 b5
    clear d s
    go_wp2_with fail
    refine (cmp_n (hA.below b6) (hB.below b6) (r := (-1)) (cmpN_lt hc)).mono ?_
    rintro e w7 ⟨rfl, h7⟩
    have b7 := b6.trans (h7.mono b6.size)
    clear h7 b6
    go_wp2_with fail
    refine (cmp_n (hB.below b7) (hA.below b7) (r := 1) (cmpN_gt hc)).mono ?_
    rintro e w8 ⟨rfl, h8⟩
    have b8 := b7.trans (h8.mono b7.size)
    clear h8 b7
    go_wp2_with fail
    refine (cmp_n (hA.below b8) (hA.below b8) (r := 0) (cmpN_eq _)).mono ?_
    rintro e w9 ⟨rfl, h9⟩
    have b9 := b8.trans (h9.mono b8.size)
    clear h9 b8
    go_wp2_with fail
    refine (subErr_n (HE.out.below b9) (hA.below b9) (hB.below b9) hc).mono ?_
    rintro e w10 ⟨bk, rfl, he, h10⟩
    have b10 := b9.trans (h10.mono b9.size)
    clear h10 b9
    go_wp2_with fail
    refine (cmp_n (hA.below b10) (hB.below b10) (r := (-1)) (cmpN_lt hc)).mono ?_
    rintro e w11 ⟨rfl, h11⟩
    have b11 := b10.trans (h11.mono b10.size)
    have he := ErrIs.keep he h11
    clear h11 b10
    go_wp2_with fail
    refine (rawNew_c _ sNat 0 3).mono ?_
    rintro e w12 ⟨u, rfl, hu, h12⟩
    have b12 := b11.trans (h12.mono b11.size)
    have he := ErrIs.keep he h12
    clear h12 b11
    go_wp2_with fail
    refine (rawIs_some _ E (HE.out.below b12) (HT.out.below b12) 3 [(sNat, 0)] (by decide) (by decide) _ _ he hu).mono ?_
    rintro e w13 ⟨rfl, h13⟩
    have b13 := b12.trans (h13.mono b12.size)
    clear h13 b12
    clear he hu
    go_wp2_with fail
    go_ret
    exact ⟨by first | rfl | simp, b13⟩
  · subst hc
    obtain ⟨r0, hr0, hr1⟩ : ∃ r0, cmpN (a + a) a = r0 ∧ decide (r0 < 0) = false := ⟨_, rfl, cmpN_le (Nat.le_add_right _ _)⟩
    have R0 := Lib.hid hr0
    clear hr0
    go_enter Tryd.func7, Tryd.ntmps7
    go_wp2_with fail
    refine (awake2_c w E HE.out).mono ?_
    rintro e w1 ⟨rfl, b1⟩
    go_wp2_with fail
    refine (long_b w1 [(A, na, ca), (B, nb, cb)] 2 rfl (by decide) HM.out 23 hany.out).mono ?_
    rintro e w2 ⟨rfl, h2⟩
    have b2 := Below.trans (Below.alloc b1 b1.size _) (h2.mono (by have := b1.size; simp only [World.size_alloc]; omega))
    clear h2 b1
    go_wp2_with fail
    refine (add_n (hA.below b2) (hB.below b2) (by omega) (by omega) (r := a + a) rfl).mono ?_
    rintro e w3 ⟨A3, c3, rfl, _, s, h3⟩
    have b3 := b2.trans (h3.mono b2.size)
    clear h3 b2
    go_wp2_with fail
    refine (sub_n (num_own s) (hB.below b3) (by omega) (Nat.le_add_left _ _) (r := a) (Nat.add_sub_cancel _ _)).mono ?_
    rintro e w4 ⟨A4, c4, rfl, _, d, h4⟩
    have b4 := b3.trans (h4.mono b3.size)
    have s := own_below s h4
    clear h4 b3
    go_wp2_with fail
    refine (cmp_n (num_own d) (hA.below b4) (r := 0) (cmpN_eq _)).mono ?_
    rintro e w5 ⟨rfl, h5⟩
    have b5 := b4.trans (h5.mono b4.size)
    have s := own_below s h5
    have d := own_below d h5
    clear h5 b4
    go_wp2_with fail
    refine (normal_n (num_own d) ⟨_, _, Below.refl _ _, d⟩).mono ?_
    rintro e w' ⟨rfl, rfl⟩
    go_wp2_with fail
    refine (cmp_n (num_own s) (hA.below b5) (r := r0) R0.out).mono ?_
    rintro e w6 ⟨rfl, h6⟩
    have b6 := b5.trans (h6.mono b5.size)
    clear h6 b5
    clear d s
    go_wp2_with fail
    refine (cmp_n (hA.below b6) (hB.below b6) (r := 0) (cmpN_eq _)).mono ?_
    rintro e w7 ⟨rfl, h7⟩
    have b7 := b6.trans (h7.mono b6.size)
    clear h7 b6
    go_wp2_with fail
    refine (cmp_n (hB.below b7) (hA.below b7) (r := 0) (cmpN_eq _)).mono ?_
    rintro e w8 ⟨rfl, h8⟩
    have b8 := b7.trans (h8.mono b7.size)
    clear h8 b7
    go_wp2_with fail
    refine (cmp_n (hA.below b8) (hA.below b8) (r := 0) (cmpN_eq _)).mono ?_
    rintro e w9 ⟨rfl, h9⟩
    have b9 := b8.trans (h9.mono b8.size)
    clear h9 b8
    go_wp2_with fail
    refine (sub_n (hA.below b9) (hB.below b9) (by omega) (by omega) (r := 0) (Nat.sub_self _)).mono ?_
    rintro e w10 ⟨A10, c10, rfl, _, x, h10⟩
    have b10 := b9.trans (h10.mono b9.size)
    clear h10 b9
    go_wp2_with fail
    refine (cmp_n (hA.below b10) (hB.below b10) (r := 0) (cmpN_eq _)).mono ?_
    rintro e w11 ⟨rfl, h11⟩
    have b11 := b10.trans (h11.mono b10.size)
    have x := own_below x h11
    clear h11 b10
    go_wp2_with fail
    refine (add_n (num_own x) (hB.below b11) (by omega) (by omega) (r := a) (by omega)).mono ?_
    rintro e w12 ⟨A12, c12, rfl, _, y, h12⟩
    have b12 := b11.trans (h12.mono b11.size)
    have x := own_below x h12
    clear h12 b11
    go_wp2_with fail
    refine (cmp_n (num_own y) (hA.below b12) (r := 0) (cmpN_eq _)).mono ?_
    rintro e w13 ⟨rfl, h13⟩
    have b13 := b12.trans (h13.mono b12.size)
    have x := own_below x h13
    clear h13 b12
    clear y
    go_wp2_with fail
    refine (cmp_n (hA.below b13) (hB.below b13) (r := 0) (cmpN_eq _)).mono ?_
    rintro e w14 ⟨rfl, h14⟩
    have b14 := b13.trans (h14.mono b13.size)
    have x := own_below x h14
    clear h14 b13
    go_wp2_with fail
    go_ret
    exact ⟨by first | rfl | simp, b14⟩
  · skip
    obtain ⟨r0, hr0, hr1⟩ : ∃ r0, cmpN (a + b) a = r0 ∧ decide (r0 < 0) = false := ⟨_, rfl, cmpN_le (Nat.le_add_right _ _)⟩
    have R0 := Lib.hid hr0
    clear hr0
    have HNE : Hid (¬ limbs (a - b) = []) := Lib.hid (fun e => by have := limbs_zero (v := a - b) (by rw [e]; rfl); omega)
    go_enter Tryd.func7, Tryd.ntmps7
    go_wp2_with fail
    refine (awake2_c w E HE.out).mono ?_
    rintro e w1 ⟨rfl, b1⟩
    go_wp2_with fail
    refine (long_b w1 [(A, na, ca), (B, nb, cb)] 2 rfl (by decide) HM.out 23 hany.out).mono ?_
    rintro e w2 ⟨rfl, h2⟩
    have b2 := Below.trans (Below.alloc b1 b1.size _) (h2.mono (by have := b1.size; simp only [World.size_alloc]; omega))
    clear h2 b1
    go_wp2_with fail
    refine (add_n (hA.below b2) (hB.below b2) (by omega) (by omega) (r := a + b) rfl).mono ?_
    rintro e w3 ⟨A3, c3, rfl, _, s, h3⟩
    have b3 := b2.trans (h3.mono b2.size)
    clear h3 b2
    go_wp2_with fail
    refine (sub_n (num_own s) (hB.below b3) (by omega) (Nat.le_add_left _ _) (r := a) (Nat.add_sub_cancel _ _)).mono ?_
    rintro e w4 ⟨A4, c4, rfl, _, d, h4⟩
    have b4 := b3.trans (h4.mono b3.size)
    have s := own_below s h4
    clear h4 b3
    go_wp2_with fail
    refine (cmp_n (num_own d) (hA.below b4) (r := 0) (cmpN_eq _)).mono ?_
    rintro e w5 ⟨rfl, h5⟩
    have b5 := b4.trans (h5.mono b4.size)
    have s := own_below s h5
    have d := own_below d h5
    clear h5 b4
    go_wp2_with fail
    refine (normal_n (num_own d) ⟨_, _, Below.refl _ _, d⟩).mono ?_
    rintro e w' ⟨rfl, rfl⟩
    go_wp2_with fail
    refine (cmp_n (num_own s) (hA.below b5) (r := r0) R0.out).mono ?_
    rintro e w6 ⟨rfl, h6⟩
    have b6 := b5.trans (h6.mono b5.size)
    clear h6 b5
    clear d s
    go_wp2_with fail
    refine (cmp_n (hA.below b6) (hB.below b6) (r := 1) (cmpN_gt hc)).mono ?_
    rintro e w7 ⟨rfl, h7⟩
    have b7 := b6.trans (h7.mono b6.size)
    clear h7 b6
    go_wp2_with fail
    refine (cmp_n (hB.below b7) (hA.below b7) (r := (-1)) (cmpN_lt hc)).mono ?_
    rintro e w8 ⟨rfl, h8⟩
    have b8 := b7.trans (h8.mono b7.size)
    clear h8 b7
    go_wp2_with fail
    refine (cmp_n (hA.below b8) (hA.below b8) (r := 0) (cmpN_eq _)).mono ?_
    rintro e w9 ⟨rfl, h9⟩
    have b9 := b8.trans (h9.mono b8.size)
    clear h9 b8
    go_wp2_with fail
    refine (sub_n (hA.below b9) (hB.below b9) (by omega) (by omega) (r := a - b) rfl).mono ?_
    rintro e w10 ⟨A10, c10, rfl, _, x, h10⟩
    have b10 := b9.trans (h10.mono b9.size)
    clear h10 b9
    go_wp2_with fail
    refine (cmp_n (hA.below b10) (hB.below b10) (r := 1) (cmpN_gt hc)).mono ?_
    rintro e w11 ⟨rfl, h11⟩
    have b11 := b10.trans (h11.mono b10.size)
    have x := own_below x h11
    clear h11 b10
    go_wp2_with fail
    refine (add_n (num_own x) (hB.below b11) (by omega) (by omega) (r := a) (by omega)).mono ?_
    rintro e w12 ⟨A12, c12, rfl, _, y, h12⟩
    have b12 := b11.trans (h12.mono b11.size)
    have x := own_below x h12
    clear h12 b11
    go_wp2_with fail
    refine (cmp_n (num_own y) (hA.below b12) (r := 0) (cmpN_eq _)).mono ?_
    rintro e w13 ⟨rfl, h13⟩
    have b13 := b12.trans (h13.mono b12.size)
    have x := own_below x h13
    clear h13 b12
    clear y
    go_wp2_with fail
    refine (cmp_n (hA.below b13) (hB.below b13) (r := 1) (cmpN_gt hc)).mono ?_
    rintro e w14 ⟨rfl, h14⟩
    have b14 := b13.trans (h14.mono b13.size)
    have x := own_below x h14
    clear h14 b13
    go_wp2_with fail
    go_ret
    exact ⟨by simp [HNE.out], b14⟩
end Go.Proofs.YtgknhmghljedlaaDoor
