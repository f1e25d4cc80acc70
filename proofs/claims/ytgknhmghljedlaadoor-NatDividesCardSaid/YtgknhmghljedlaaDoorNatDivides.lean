/- The call of NatDivides: it returns true. Condition: its numbers read from memory; the error variables hold what E says; the variable that errors.As reads. -/
import Derived.Test.YtgknhmghljedlaaDoorNatM
import Derived.Test.YtgknhmghljedlaaDoorNatBack
namespace Go.Proofs.YtgknhmghljedlaaDoor
open Go.RowKit NatP


theorem long_1 (w : World) {A : Option Addr} {na ca a : Nat} (hA : Num w A na ca a) : ∀ x ∈ [(A, na, ca)], x.2.1 ≤ maxLen := by
  intro x hx
  obtain ⟨_, p1, p2, _⟩ := hA
  simp at hx
  subst hx
  exact Nat.le_trans p1 p2

set_option maxRecDepth 100000 in
set_option maxHeartbeats 4000000 in
theorem natDivides_c (w : World) (E : Nat → Addr) (hE : Errs w E) (hT : ErrT w) {A : Option Addr} {na ca a d : Nat} (hA : Num w A na ca a) (hd : d < W32) :
    Calls Tryd.prog 6 #[.slice A na ca, .int .u32 (d : Int)] w fun e w' => e = .returned (.bool true) ∧ Below w.heap.size w w' := by
  have hm := long_1 w hA
  have HE := Lib.hid hE
  have HT := Lib.hid hT
  have HM := Lib.hid hm
  clear hE hm hT
  by_cases hl : 400 < na
  · have hany : Hid (([(A, na, ca)].any fun x => decide (400 < x.2.1)) = true) := Lib.hid (by simpa using hl)
    clear hl
    go_enter Tryd.func6, Tryd.ntmps6
    go_wp2_with fail
    refine (awake2_c w E HE.out).mono ?_
    rintro e w1 ⟨rfl, b1⟩
    go_wp2_with fail
    refine (long_b w1 [(A, na, ca)] 1 rfl (by decide) HM.out 23 hany.out).mono ?_
    rintro e w2 ⟨rfl, h2⟩
    go_wp2_with fail
    go_ret
    exact ⟨rfl, below_call1 b1 h2⟩
  have hany : Hid (([(A, na, ca)].any fun x => decide (400 < x.2.1)) = false) := Lib.hid (by simp; omega)
  have ma : na ≤ 400 := by omega
  have la := hA.len
  clear hl
  rcases Nat.eq_zero_or_pos d with h0 | h0
  · subst h0
    go_enter Tryd.func6, Tryd.ntmps6
    go_wp2_with fail
    refine (awake2_c w E HE.out).mono ?_
    rintro e w1 ⟨rfl, b1⟩
    go_wp2_with fail
    refine (long_b w1 [(A, na, ca)] 1 rfl (by decide) HM.out 23 hany.out).mono ?_
    rintro e w2 ⟨rfl, h2⟩
    have b2 := Below.trans (Below.alloc b1 b1.size _) (h2.mono (by have := b1.size; simp only [World.size_alloc]; omega))
    clear h2 b1
    go_wp2_with fail
    refine (over0_n (HE.out.below b2) _ _ _).mono ?_
    rintro e w3 ⟨bk, rfl, he, h3⟩
    have b3 := b2.trans (h3.mono b2.size)
    clear h3 b2
    go_wp2_with fail
    refine (rawNew_c _ sNat 0 3).mono ?_
    rintro e w4 ⟨u, rfl, hu, h4⟩
    have b4 := b3.trans (h4.mono b3.size)
    have he := ErrIs.keep he h4
    clear h4 b3
    go_wp2_with fail
    refine (rawIs_some _ E (HE.out.below b4) (HT.out.below b4) 3 [(sNat, 0)] (by decide) (by decide) _ _ he hu).mono ?_
    rintro e w5 ⟨rfl, h5⟩
    have b5 := b4.trans (h5.mono b4.size)
    clear h5 b4
    clear he hu
    go_wp2_with fail
    go_ret
    exact ⟨by first | rfl | simp, b5⟩
  · have hd0 : ((d : Int) == 0) = false := by rw [beq_eq_false_iff_ne]; omega
    have hdv : a / d * d + a % d = a := by rw [Nat.mul_comm]; exact Nat.div_add_mod a d
    have hlt : decide ((a % d : Nat) < d) = true := decide_eq_true (Nat.mod_lt a h0)
    have hml : a % d < W32 := Nat.lt_trans (Nat.mod_lt a h0) hd
    have kq := limbs_div_le a d
    have kp := limbs_mul (a / d) d 400 1 (by omega) (limbs_len_of_lt 1 d (by simpa using hd))
    have HDV := Lib.hid hdv
    clear hdv
    obtain ⟨rr, hrr⟩ : ∃ rr, a % d = rr := ⟨_, rfl⟩
    rw [hrr] at hlt hml HDV
    have HRR := Lib.hid hrr
    clear hrr
    go_enter Tryd.func6, Tryd.ntmps6
    go_wp2_with fail
    refine (awake2_c w E HE.out).mono ?_
    rintro e w1 ⟨rfl, b1⟩
    go_wp2_with fail
    refine (long_b w1 [(A, na, ca)] 1 rfl (by decide) HM.out 23 hany.out).mono ?_
    rintro e w2 ⟨rfl, h2⟩
    have b2 := Below.trans (Below.alloc b1 b1.size _) (h2.mono (by have := b1.size; simp only [World.size_alloc]; omega))
    clear h2 b1
    go_wp2_with fail
    refine (over_n (hA.below b2) h0 hd (by omega)).mono ?_
    rintro e w3 ⟨A3, c3, rfl, q, h3⟩
    have b3 := b2.trans (h3.mono b2.size)
    clear h3 b2
    rw [HRR.out]
    go_wp2_with fail
    refine (normal_n (num_own q) ⟨_, _, Below.refl _ _, q⟩).mono ?_
    rintro e w' ⟨rfl, rfl⟩
    go_wp2_with fail
    refine (mul_n (num_own (q.alloc _)) (num_lit _ hd _) (by omega) (by omega) (r := a / d * d) rfl).mono ?_
    rintro e w4 ⟨A4, c4, rfl, _, p, h4⟩
    have b4 := Below.trans (Below.alloc b3 b3.size _) (h4.mono (by have := b3.size; simp only [World.size_alloc]; omega))
    clear h4 b3
    clear q
    go_wp2_with fail
    refine (add_n (num_own (p.alloc _)) (num_lit _ hml _) (by omega) (by omega) (r := a) HDV.out).mono ?_
    rintro e w5 ⟨A5, c5, rfl, _, s, h5⟩
    have b5 := Below.trans (Below.alloc b4 b4.size _) (h5.mono (by have := b4.size; simp only [World.size_alloc]; omega))
    clear h5 b4
    clear p
    go_wp2_with fail
    refine (cmp_n (num_own s) (hA.below b5) (r := 0) (cmpN_eq _)).mono ?_
    rintro e w6 ⟨rfl, h6⟩
    have b6 := b5.trans (h6.mono b5.size)
    have s := own_below s h6
    clear h6 b5
    go_wp2_with fail
    go_ret
    exact ⟨by first | rfl | simp, b6⟩
end Go.Proofs.YtgknhmghljedlaaDoor
