/- The call of NatRing: it returns true. Condition: its three numbers read from memory; the error variables hold what E says. -/
import Derived.Test.YtgknhmghljedlaaDoorNatG
namespace Go.Proofs.YtgknhmghljedlaaDoor
open Go.RowKit NatP

/-- The sum of the values of a list. -/
def sumV (R : List ((Option Addr × Nat × Nat) × Nat)) : Nat := (R.map (·.2)).foldr (· + ·) 0
theorem sumV_snoc (R : List ((Option Addr × Nat × Nat) × Nat)) (x : (Option Addr × Nat × Nat) × Nat) : sumV (R ++ [x]) = sumV R + x.2 := by
  unfold sumV
  induction R with
  | nil => simp
  | cons y R ih => simp only [List.cons_append, List.map_cons, List.foldr_cons]; rw [ih]; omega

set_option maxRecDepth 100000 in
set_option maxHeartbeats 1000000 in
theorem sum_c (w : World) (L : Option Addr) (n c : Nat) (R : List ((Option Addr × Nat × Nat) × Nat)) (h : Sl w L n (R.map fun x => slv x.1)) (hn : n ≤ 1000) (hR : ∀ x ∈ R, Num w x.1.1 x.1.2.1 x.1.2.2 x.2 ∧ x.1.2.1 ≤ 1000000) :
    Calls Tryd.prog 19 #[.slice L n c] w fun e w' => New w (sumV R) e w' := by
  have hl : R.length = n := by simpa using h.1
  have HL := Lib.hid hl
  have HR := Lib.hid hR
  clear hl hR
  go_enter Tryd.func19, Tryd.ntmps19
  go_wp2_with fail
  go_loopw [3, 8] (fun s i wr => ∃ (k cc : Nat) (B : Option Addr), k ≤ n ∧ i = .int .i64 (k : Int) ∧ s = .slice B (limbs (sumV (R.take k))).length cc ∧ (limbs (sumV (R.take k))).length ≤ 1000000 + k ∧ wr.ownsRow w.heap.size 37 1 (.slice B (limbs (sumV (R.take k))).length cc) (limbs (sumV (R.take k))).length ((limbs (sumV (R.take k))).map wv) ∧ Below w.heap.size w wr) (fun _ i _ => n - (intOf i).toNat)
  case atStart => exact ⟨0, 0, none, Nat.zero_le _, rfl, rfl, Nat.zero_le _, ⟨rfl, .inl ⟨rfl, rfl⟩⟩, Below.refl _ _⟩
  case round =>
    obtain ⟨k, cc, B, hk, rfl, rfl, hlen, hown, hb⟩ := hrel
    by_cases hlt : k < n
    · obtain ⟨ad, u, rfl, hxk, hcx⟩ := (h.below hb).at_ hlt
      rw [List.getElem?_map] at hxk
      cases hRk : R[k]? with
      | none => rw [hRk] at hxk; cases hxk
      | some x =>
        obtain ⟨⟨A, m, d⟩, v⟩ := x
        rw [hRk] at hxk
        obtain rfl := Option.some.inj hxk
        simp only [slv] at hcx
        obtain ⟨hx, hm⟩ := HR.out _ (List.mem_of_getElem? hRk)
        simp only at hx hm
        have hs : sumV (R.take (k + 1)) = sumV (R.take k) + v := by rw [List.take_add_one, hRk]; exact sumV_snoc _ _
        have hadd := add_n (num_own hown) (hx.below hb) (by omega) (by omega) (r := sumV (R.take (k + 1))) hs.symm
        have hl2 : (limbs (sumV (R.take (k + 1)))).length ≤ 1000000 + (k + 1) := by
          rw [hs]
          exact limbs_add _ _ (1000000 + k) hlen (by have := hx.len; omega)
        have HADD := Lib.hid hadd
        have HL2 := Lib.hid hl2
        clear hs hadd hRk hxk hl2
        go_wp2_with fail
        refine (HADD.out).mono ?_
        rintro e w2 ⟨A2, c2, rfl, _, ho2, hb2⟩
        have hb3 := hb.trans (hb2.mono hb.size)
        have ho3 := own_base ho2 hb.size
        go_wp2_with fail
        exact ⟨⟨k + 1, c2, A2, by omega, by go_num, rfl, HL2.out, ho3, hb3⟩, by simp [intOf]; omega⟩
    · obtain rfl : k = n := by omega
      rw [List.take_of_length_le (by rw [HL.out]; exact Nat.le_refl _)] at hown hlen ⊢
      go_wp2_with fail
      go_ret
      exact ⟨B, cc, rfl, num_own hown, hown, hb⟩


theorem long_b (w : World) (R : List (Option Addr × Nat × Nat)) (n : Nat) (hl : R.length = n) (hn : n ≤ 1000) (hm : ∀ x ∈ R, x.2.1 ≤ maxLen) (e : TypeId) {r : Bool} (hr : (R.any fun x => decide (400 < x.2.1)) = r) :
    Calls Tryd.prog 15 #[.slice (some ⟨w.heap.size, 0, none⟩) n n] (w.alloc (.cells (R.map slv).toArray e)) fun e' w' => e' = .returned (.bool r) ∧ Below (w.alloc (.cells (R.map slv).toArray e)).heap.size (w.alloc (.cells (R.map slv).toArray e)) w' := by
  subst hr
  exact (long_c _ _ n n R (lit_slices w R n hl (by unfold maxLen; omega) e) hn hm).mono fun e' w' ⟨h1, h2⟩ => ⟨h1, by rw [← h2]; exact Below.refl _ _⟩

set_option maxRecDepth 100000 in
set_option maxHeartbeats 8000000 in
theorem natRing_c (w : World) (E : Nat → Addr) (hE : Errs w E) {A B C : Option Addr} {na ca nb cb nc cc a b c : Nat} (hA : Num w A na ca a) (hB : Num w B nb cb b) (hC : Num w C nc cc c) :
    Calls Tryd.prog 4 #[.slice A na ca, .slice B nb cb, .slice C nc cc] w fun e w' => e = .returned (.bool true) ∧ Below w.heap.size w w' := by
  have hm : ∀ x ∈ [(A, na, ca), (B, nb, cb), (C, nc, cc)], x.2.1 ≤ maxLen := by
    intro x hx
    obtain ⟨_, p1, p2, _⟩ := hA
    obtain ⟨_, q1, q2, _⟩ := hB
    obtain ⟨_, r1, r2, _⟩ := hC
    simp at hx
    rcases hx with rfl | rfl | rfl
    · exact Nat.le_trans p1 p2
    · exact Nat.le_trans q1 q2
    · exact Nat.le_trans r1 r2
  have HE := Lib.hid hE
  have HM := Lib.hid hm
  clear hE hm
  by_cases hl : 400 < na ∨ 400 < nb ∨ 400 < nc
  · have hany : Hid (([(A, na, ca), (B, nb, cb), (C, nc, cc)].any fun x => decide (400 < x.2.1)) = true) := Lib.hid (by simpa using hl)
    clear hl
    go_enter Tryd.func4, Tryd.ntmps4
    go_wp2_with fail
    refine (awake2_c w E HE.out).mono ?_
    rintro e w1 ⟨rfl, b1⟩
    go_wp2_with fail
    refine (long_b w1 [(A, na, ca), (B, nb, cb), (C, nc, cc)] 3 rfl (by decide) HM.out 23 hany.out).mono ?_
    rintro e w2 ⟨rfl, h2⟩
    go_wp2_with fail
    go_ret
    exact ⟨rfl, below_call1 b1 h2⟩
  have hany : Hid (([(A, na, ca), (B, nb, cb), (C, nc, cc)].any fun x => decide (400 < x.2.1)) = false) := Lib.hid (by simp; omega)
  have ma : na ≤ 400 := by omega
  have mb : nb ≤ 400 := by omega
  have mc : nc ≤ 400 := by omega
  have la := hA.len
  have lb := hB.len
  have lc := hC.len
  have k1 := limbs_add a b 400 (by omega) (by omega)
  have k2 := limbs_mul a b 400 400 (by omega) (by omega)
  have k3 := limbs_add b c 400 (by omega) (by omega)
  have k4 := limbs_mul a c 400 400 (by omega) (by omega)
  have k5 := limbs_mul b c 400 400 (by omega) (by omega)
  have l0 : limbs 0 = [] := rfl
  clear hl la lb lc
  go_enter Tryd.func4, Tryd.ntmps4
  go_wp2_with fail
  refine (awake2_c w E HE.out).mono ?_
  rintro e w1 ⟨rfl, b1⟩
  go_wp2_with fail
  refine (long_b w1 [(A, na, ca), (B, nb, cb), (C, nc, cc)] 3 rfl (by decide) HM.out 23 hany.out).mono ?_
  rintro e w2 ⟨rfl, h2⟩
  have b2 := below_call1 b1 h2
  clear h2 hany
  go_wp2_with fail
  refine (add_n (hA.below b2) (hB.below b2) (by omega) (by omega) (r := a + b) rfl).mono ?_
  rintro e w3 ⟨A3, c3, rfl, _, ab, h3⟩
  have b3 := b2.trans (h3.mono b2.size)
  clear h3 b2
  go_wp2_with fail
  refine (mul_n (hA.below b3) (hB.below b3) (by omega) (by omega) (r := a * b) rfl).mono ?_
  rintro e w4 ⟨A4, c4, rfl, _, m, h4⟩
  have b4 := b3.trans (h4.mono b3.size)
  have ab := own_below ab h4
  clear h4 b3
  go_wp2_with fail
  refine (normal_n (num_own ab) ⟨_, _, Below.refl _ _, ab⟩).mono ?_
  rintro e w' ⟨rfl, rfl⟩
  go_wp2_with fail
  refine (normal_n (num_own m) ⟨_, _, Below.refl _ _, m⟩).mono ?_
  rintro e w' ⟨rfl, rfl⟩
  go_wp2_with fail
  refine (add_n (hB.below b4) (hA.below b4) (by omega) (by omega) (r := a + b) (Nat.add_comm _ _)).mono ?_
  rintro e w5 ⟨A5, c5, rfl, _, r1, h5⟩
  have b5 := b4.trans (h5.mono b4.size)
  have ab := own_below ab h5
  have m := own_below m h5
  clear h5 b4
  go_wp2_with fail
  refine (nats_n ab r1 (Below.refl _ _)).mono ?_
  rintro e w6 ⟨rfl, h6⟩
  have b6 := b5.trans (h6.mono b5.size)
  have ab := own_below ab h6
  have m := own_below m h6
  clear h6 b5 r1
  go_wp2_with fail
  refine (mul_n (hB.below b6) (hA.below b6) (by omega) (by omega) (r := a * b) (Nat.mul_comm _ _)).mono ?_
  rintro e w7 ⟨A7, c7, rfl, _, r1, h7⟩
  have b7 := b6.trans (h7.mono b6.size)
  have ab := own_below ab h7
  have m := own_below m h7
  clear h7 b6
  go_wp2_with fail
  refine (nats_n m r1 (Below.refl _ _)).mono ?_
  rintro e w8 ⟨rfl, h8⟩
  have b8 := b7.trans (h8.mono b7.size)
  have ab := own_below ab h8
  have m := own_below m h8
  clear h8 b7 r1
  go_wp2_with fail
  refine (add_n (num_own ab) (hC.below b8) (by omega) (by omega) (r := a + b + c) rfl).mono ?_
  rintro e w9 ⟨A9, c9, rfl, _, r1, h9⟩
  have b9 := b8.trans (h9.mono b8.size)
  have ab := own_below ab h9
  have m := own_below m h9
  clear h9 b8
  go_wp2_with fail
  refine (add_n (hB.below b9) (hC.below b9) (by omega) (by omega) (r := b + c) rfl).mono ?_
  rintro e w10 ⟨A10, c10, rfl, _, r2, h10⟩
  have b10 := b9.trans (h10.mono b9.size)
  have ab := own_below ab h10
  have m := own_below m h10
  have r1 := own_below r1 h10
  clear h10 b9
  go_wp2_with fail
  refine (add_n (hA.below b10) (num_own r2) (by omega) (by omega) (r := a + b + c) (Nat.add_assoc _ _ _).symm).mono ?_
  rintro e w11 ⟨A11, c11, rfl, _, r3, h11⟩
  have b11 := b10.trans (h11.mono b10.size)
  have ab := own_below ab h11
  have m := own_below m h11
  have r1 := own_below r1 h11
  clear h11 b10 r2
  go_wp2_with fail
  refine (nats_n r1 r3 (Below.refl _ _)).mono ?_
  rintro e w12 ⟨rfl, h12⟩
  have b12 := b11.trans (h12.mono b11.size)
  have ab := own_below ab h12
  have m := own_below m h12
  clear h12 b11 r1 r3
  go_wp2_with fail
  refine (mul_n (num_own ab) (hC.below b12) (by omega) (by omega) (r := (a + b) * c) rfl).mono ?_
  rintro e w13 ⟨A13, c13, rfl, _, r1, h13⟩
  have b13 := b12.trans (h13.mono b12.size)
  have ab := own_below ab h13
  have m := own_below m h13
  clear h13 b12
  go_wp2_with fail
  refine (mul_n (hA.below b13) (hC.below b13) (by omega) (by omega) (r := a * c) rfl).mono ?_
  rintro e w14 ⟨A14, c14, rfl, _, r2, h14⟩
  have b14 := b13.trans (h14.mono b13.size)
  have ab := own_below ab h14
  have m := own_below m h14
  have r1 := own_below r1 h14
  clear h14 b13
  go_wp2_with fail
  refine (mul_n (hB.below b14) (hC.below b14) (by omega) (by omega) (r := b * c) rfl).mono ?_
  rintro e w15 ⟨A15, c15, rfl, _, r3, h15⟩
  have b15 := b14.trans (h15.mono b14.size)
  have ab := own_below ab h15
  have m := own_below m h15
  have r1 := own_below r1 h15
  have r2 := own_below r2 h15
  clear h15 b14
  go_wp2_with fail
  refine (add_n (num_own r2) (num_own r3) (by omega) (by omega) (r := (a + b) * c) (Nat.add_mul _ _ _).symm).mono ?_
  rintro e w16 ⟨A16, c16, rfl, _, r4, h16⟩
  have b16 := b15.trans (h16.mono b15.size)
  have ab := own_below ab h16
  have m := own_below m h16
  have r1 := own_below r1 h16
  clear h16 b15 r2 r3
  go_wp2_with fail
  refine (nats_n r1 r4 (Below.refl _ _)).mono ?_
  rintro e w17 ⟨rfl, h17⟩
  have b17 := b16.trans (h17.mono b16.size)
  have ab := own_below ab h17
  have m := own_below m h17
  clear h17 b16 r1 r4
  go_wp2_with fail
  have hsl := fun (wz : World) (bz : Below w.heap.size w wz) => sum_c (wz.alloc (.cells ([(A, na, ca), (B, nb, cb), (C, nc, cc)].map slv).toArray 23)) _ 3 3 [((A, na, ca), a), ((B, nb, cb), b), ((C, nc, cc), c)] (lit_slices wz [(A, na, ca), (B, nb, cb), (C, nc, cc)] 3 rfl (by decide) 23) (by decide) (by intro x hx; simp at hx; rcases hx with rfl | rfl | rfl; exact ⟨(hA.below bz).alloc _, by simp only; omega⟩; exact ⟨(hB.below bz).alloc _, by simp only; omega⟩; exact ⟨(hC.below bz).alloc _, by simp only; omega⟩)
  rw [show sumV [((A, na, ca), a), ((B, nb, cb), b), ((C, nc, cc), c)] = a + b + c from by simp [sumV]; omega] at hsl
  refine (hsl _ b17).mono ?_
  rintro e w18 ⟨A18, c18, rfl, _, r1, h18⟩
  have b18 := below_call1 b17 h18
  have ab := own_below (ab.alloc _) h18
  have m := own_below (m.alloc _) h18
  clear h18 b17
  go_wp2_with fail
  refine (add_n (num_own ab) (hC.below b18) (by omega) (by omega) (r := a + b + c) rfl).mono ?_
  rintro e w19 ⟨A19, c19, rfl, _, r2, h19⟩
  have b19 := b18.trans (h19.mono b18.size)
  have m := own_below m h19
  have r1 := own_below r1 h19
  clear h19 b18 ab
  go_wp2_with fail
  refine (nats_n r1 r2 (Below.refl _ _)).mono ?_
  rintro e w20 ⟨rfl, h20⟩
  have b20 := b19.trans (h20.mono b19.size)
  have m := own_below m h20
  clear h20 b19 r1 r2
  go_wp2_with fail
  refine (mul_n (num_own m) (hC.below b20) (by omega) (by omega) (r := a * b * c) rfl).mono ?_
  rintro e w21 ⟨A21, c21, rfl, _, r1, h21⟩
  have b21 := b20.trans (h21.mono b20.size)
  clear h21 b20 m
  go_wp2_with fail
  refine (mul_n (hB.below b21) (hC.below b21) (by omega) (by omega) (r := b * c) rfl).mono ?_
  rintro e w22 ⟨A22, c22, rfl, _, r2, h22⟩
  have b22 := b21.trans (h22.mono b21.size)
  have r1 := own_below r1 h22
  clear h22 b21
  go_wp2_with fail
  refine (mul_n (hA.below b22) (num_own r2) (by omega) (by omega) (r := a * b * c) (Nat.mul_assoc _ _ _).symm).mono ?_
  rintro e w23 ⟨A23, c23, rfl, _, r3, h23⟩
  have b23 := b22.trans (h23.mono b22.size)
  have r1 := own_below r1 h23
  clear h23 b22 r2
  go_wp2_with fail
  refine (nats_n r1 r3 (Below.refl _ _)).mono ?_
  rintro e w24 ⟨rfl, h24⟩
  have b24 := b23.trans (h24.mono b23.size)
  clear h24 b23 r1 r3
  go_wp2_with fail
  refine (mul_n (hA.below b24) (Num.nil _) (by omega) (by omega) (r := 0) (Nat.mul_zero _)).mono ?_
  rintro e w25 ⟨A25, c25, rfl, _, r1, h25⟩
  have b25 := b24.trans (h25.mono b24.size)
  clear h25 b24
  go_wp2_with fail
  refine (mul_n (hA.below (b25.alloc b25.size _)) (num_lit _ (by decide) _) (by omega) (by omega) (r := a) (Nat.mul_one _)).mono ?_
  rintro e w26 ⟨A26, c26, rfl, _, r2, h26⟩
  have b26 := below_call1 b25 h26
  clear h26 b25 r1
  go_wp2_with fail
  refine (cmp_n (num_own r2) (hA.below b26) (r := 0) (cmpN_eq _)).mono ?_
  rintro e w27 ⟨rfl, h27⟩
  have b27 := b26.trans (h27.mono b26.size)
  clear h27 b26 r2
  go_wp2_with fail
  refine (add_n (hA.below b27) (Num.nil _) (by omega) (by omega) (r := a) (Nat.add_zero _)).mono ?_
  rintro e w28 ⟨A28, c28, rfl, _, r1, h28⟩
  have b28 := b27.trans (h28.mono b27.size)
  clear h28 b27
  go_wp2_with fail
  refine (cmp_n (num_own r1) (hA.below b28) (r := 0) (cmpN_eq _)).mono ?_
  rintro e w29 ⟨rfl, h29⟩
  have b29 := b28.trans (h29.mono b28.size)
  clear h29 b28 r1
  go_wp2_with fail
  go_ret
  exact ⟨rfl, b29⟩

end Go.Proofs.YtgknhmghljedlaaDoor
