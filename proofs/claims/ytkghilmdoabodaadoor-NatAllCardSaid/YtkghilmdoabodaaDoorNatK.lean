/- Powers in memory: what nat.Pow returns. Condition: the error variables hold what E says. -/
import Derived.Test.YtkghilmdoabodaaDoorNum
import Derived.Test.YtkghilmdoabodaaDoorNatI
namespace Go.Proofs.YtkghilmdoabodaaDoor
open Go.RowKit NatP

theorem num_lit2 (w : World) {x : Nat} (h : x < W32) (e : TypeId) : Num (w.alloc (.cells #[.int .u32 (x : Int)] e)) (some ⟨w.heap.size, 0, none⟩) 1 1 x :=
  ⟨[x], Nat.le_refl _, by decide, lit_word w x e, ok_one h, val_one x⟩

/-- Behind j halvings of the exponent. -/
structure PowTo (k n j m O B : Nat) : Prop where
  m_eq : m = n / 2 ^ j
  O_eq : O = k ^ (n % 2 ^ j)
  B_eq : B = k ^ (2 ^ j)
theorem PowTo.even {k n j m O B : Nat} (h : PowTo k n j m O B) (hm : m % 2 = 0) : PowTo k n (j + 1) (m / 2) O (B * B) := by
  refine ⟨?_, ?_, ?_⟩
  · rw [h.m_eq, Nat.pow_succ, Nat.div_div_eq_div_mul]
  · rw [h.O_eq, Nat.mod_pow_succ, ← h.m_eq, hm]; simp
  · rw [h.B_eq, ← Nat.pow_add, Nat.pow_succ, Nat.mul_two]
theorem PowTo.odd {k n j m O B : Nat} (h : PowTo k n j m O B) (hm : m % 2 = 1) : PowTo k n (j + 1) (m / 2) (O * B) (B * B) := by
  refine ⟨?_, ?_, ?_⟩
  · rw [h.m_eq, Nat.pow_succ, Nat.div_div_eq_div_mul]
  · rw [h.O_eq, h.B_eq, Nat.mod_pow_succ, ← h.m_eq, hm, ← Nat.pow_add, Nat.mul_one]
  · rw [h.B_eq, ← Nat.pow_add, Nat.pow_succ, Nat.mul_two]
theorem PowTo.le {k n j m O B : Nat} (h : PowTo k n j m O B) (hm : 0 < m) : 2 ^ j ≤ n := by
  rcases Nat.lt_or_ge n (2 ^ j) with h1 | h1
  · rw [h.m_eq, Nat.div_eq_of_lt h1] at hm; omega
  · exact h1
theorem PowTo.lenB {k n j m O B : Nat} (h : PowTo k n j m O B) (hk : k < W32) : (limbs B).length ≤ 2 ^ j :=
  limbs_len_of_lt _ _ (by rw [h.B_eq]; exact Nat.pow_lt_pow_left hk (by have := Nat.two_pow_pos j; omega))
theorem PowTo.lenO {k n j m O B : Nat} (h : PowTo k n j m O B) (hk : k < W32) : (limbs O).length ≤ 2 ^ j := by
  have h1 : n % 2 ^ j < 2 ^ j := Nat.mod_lt _ (Nat.two_pow_pos j)
  refine limbs_len_of_lt _ _ ?_
  rw [h.O_eq]
  exact Nat.lt_of_le_of_lt (Nat.pow_le_pow_left (Nat.le_of_lt hk) _) (Nat.pow_lt_pow_right (by decide) h1)

set_option maxRecDepth 100000 in
set_option maxHeartbeats 2000000 in
theorem pow_ok (w : World) (k n : Nat) (hk : k < W32) (hn : n ≤ 1024) :
    Calls Tryd.prog 39 #[.int .u32 (k : Int), .int .i64 (n : Int)] w fun e w' => NatOk w (k ^ n) e w' := by
  have hd : decide ((1024 : Int) < (n : Int)) = false := decide_eq_false (by omega)
  have hst : PowTo k n 0 n 1 k := ⟨by simp, by rw [Nat.pow_zero, Nat.mod_one]; simp, by simp⟩
  have HST := Lib.hid hst
  have HK := Lib.hid hk
  clear hst hk
  go_enter Tryd.func39, Tryd.ntmps39
  go_wp2_with fail
  have hl1 : limbs 1 = [1] := limbs_of (ok_one (by decide)) (by intro x hx; simp at hx; omega) (by simp [val, valB])
  have hbw : Below w.heap.size w ((w.alloc (.cells #[.int .u32 1] 27)).alloc (.cells #[.int .u32 (k : Int)] 27)) := ((Below.refl _ _).alloc (Nat.le_refl _) _).alloc (by simp) _
  have hown1 : ((w.alloc (.cells #[.int .u32 1] 27)).alloc (.cells #[.int .u32 (k : Int)] 27)).ownsRow w.heap.size 27 1 (.slice (some ⟨w.heap.size, 0, none⟩) (limbs 1).length 1) (limbs 1).length ((limbs 1).map wv) := by
    rw [hl1]
    exact (World.ownsRow_lit (base := w.heap.size) (e := 27) (size := 1) w #[.int .u32 1] 1 (Nat.le_refl _) (by decide) rfl).alloc _
  have hnum : Num ((w.alloc (.cells #[.int .u32 1] 27)).alloc (.cells #[.int .u32 (k : Int)] 27)) (some ⟨w.heap.size + 1, 0, none⟩) 1 1 k := by
    have := num_lit2 (w.alloc (.cells #[.int .u32 1] 27)) HK.out 27
    rwa [World.size_alloc] at this
  have hl1' : (limbs 1).length = 1 := by rw [hl1]; rfl
  go_loopw [1, 6, 7] (fun s o b wr => ∃ (j m O B c1 c2 n2 : Nat) (A1 A2 : Option Addr), s = .int .i64 (m : Int) ∧ o = .slice A1 (limbs O).length c1 ∧ b = .slice A2 n2 c2 ∧ Hid (PowTo k n j m O B) ∧ n2 ≤ 2048 ∧ m ≤ 1024 ∧ wr.ownsRow w.heap.size 27 1 (.slice A1 (limbs O).length c1) (limbs O).length ((limbs O).map wv) ∧ Num wr A2 n2 c2 B ∧ Below w.heap.size w wr) (fun s _ _ _ => (intOf s).toNat)
  case atStart => exact ⟨0, n, 1, k, 1, 1, 1, _, _, rfl, by rw [hl1'], rfl, HST, by decide, hn, hown1, hnum, hbw⟩
  case round =>
    clear hown1 hnum hbw hl1 hl1'
    obtain ⟨j, m, O, B, c1, c2, n2, A1, A2, rfl, rfl, rfl, hP, hn2, hm, hown, hB, hb⟩ := hrel
    rcases Nat.eq_zero_or_pos m with h0 | h0
    · subst h0
      have hO : O = k ^ n := by
        rw [hP.out.O_eq]
        congr 1
        have h1 := hP.out.m_eq
        exact Nat.mod_eq_of_lt (by
          rcases Nat.lt_or_ge n (2 ^ j) with h | h
          · exact h
          · have := Nat.div_pos h (Nat.two_pow_pos j)
            omega)
      go_wp2_with fail
      go_ret2
      rw [← hO]
      exact ⟨A1, c1, rfl, hown, hb⟩
    · have hj := hP.out.le h0
      have hlO := hP.out.lenO HK.out
      have hlB := hP.out.lenB HK.out
      have hdp : decide ((0 : Int) < (m : Int)) = true := decide_eq_true (by omega)
      rcases Nat.mod_two_eq_zero_or_one m with h2 | h2
      · have hPn := Lib.hid (hP.out.even h2)
        have hlB2 := hPn.out.lenB HK.out
        rw [Nat.pow_succ] at hlB2
        have t2 : ((m : Int) % 2 == 1) = false := by rw [beq_eq_false_iff_ne]; omega
        clear hP h2
        go_wp2_with fail
        refine (mul_n hB hB (by omega) (by omega) (r := B * B) rfl).mono ?_
        rintro e w2 ⟨A3, c3, rfl, hN, _, hb2⟩
        have hown2 := own_below hown hb2
        have hbb := hb.trans (hb2.mono hb.size)
        clear hown hB hb hb2
        go_wp2_with fail
        exact ⟨⟨j + 1, m / 2, O, B * B, c1, c3, _, A1, A3, by go_num, rfl, rfl, hPn, by omega, by omega, hown2, hN, hbb⟩, by simp [intOf]; omega⟩
      · have hPn := Lib.hid (hP.out.odd h2)
        have hlB2 := hPn.out.lenB HK.out
        rw [Nat.pow_succ] at hlB2
        have t2 : ((m : Int) % 2 == 1) = true := by rw [beq_iff_eq]; omega
        clear hP h2
        go_wp2_with fail
        refine (mul_n (num_own hown) hB (by omega) (by omega) (r := O * B) rfl).mono ?_
        rintro e w2 ⟨A3, c3, rfl, _, ho3, hb2⟩
        have hB2 := hB.below hb2
        have hbb := hb.trans (hb2.mono hb.size)
        have ho4 := own_base ho3 hb.size
        clear hown hB hb2 ho3 hb
        go_wp2_with fail
        refine (mul_n hB2 hB2 (by omega) (by omega) (r := B * B) rfl).mono ?_
        rintro e w3 ⟨A4, c4, rfl, hN, _, hb3⟩
        have ho5 := own_below ho4 hb3
        have hbc := hbb.trans (hb3.mono hbb.size)
        clear hbb hB2 ho4 hb3
        go_wp2_with fail
        exact ⟨⟨j + 1, m / 2, O * B, B * B, c3, c4, _, A3, A4, by go_num, rfl, rfl, hPn, by omega, by omega, ho5, hN, hbc⟩, by simp [intOf]; omega⟩

theorem pow_neg (w : World) (E : Nat → Addr) (hE : Errs w E) (k n : Int) (hn : n < 0) :
    Calls Tryd.prog 39 #[.int .u32 k, .int .i64 n] w fun e w' => NilErr w sNat 0 (E 3) e w' := by
  have hd : decide (n < 0) = true := decide_eq_true hn
  go_enter Tryd.func39, Tryd.ntmps39
  go_wp2_with fail
  refine (new_c w E hE sNat 0 3 (by decide) (by decide)).mono ?_
  rintro e w' ⟨rfl, rfl⟩
  go_wp2_with fail
  go_ret2
  exact nilErr_of (Below.refl _ _)
theorem pow_big (w : World) (E : Nat → Addr) (hE : Errs w E) (k n : Int) (hn : 1024 < n) :
    Calls Tryd.prog 39 #[.int .u32 k, .int .i64 n] w fun e w' => NilErr w sNat 0 (E 4) e w' := by
  have hd : decide (n < 0) = false := decide_eq_false (by omega)
  have hd2 : decide (1024 < n) = true := decide_eq_true hn
  go_enter Tryd.func39, Tryd.ntmps39
  go_wp2_with fail
  refine (new_c w E hE sNat 0 4 (by decide) (by decide)).mono ?_
  rintro e w' ⟨rfl, rfl⟩
  go_wp2_with fail
  go_ret2
  exact nilErr_of (Below.refl _ _)
end Go.Proofs.YtkghilmdoabodaaDoor
