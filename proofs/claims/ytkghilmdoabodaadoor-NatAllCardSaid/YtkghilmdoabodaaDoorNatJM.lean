/- Differences in memory: what nat.Sub returns. Condition: the limbs read from memory; the error variables hold what E says. Numbers by their value: differences, quotients, powers, texts, and the errors told. Condition: the numbers read from memory; the error variables hold what E says. -/
import Derived.Test.YtkghilmdoabodaaDoorNatI
import Derived.Test.YtkghilmdoabodaaDoorNatD
import Derived.Test.YtkghilmdoabodaaDoorNum
import Derived.Test.YtkghilmdoabodaaDoorNatK
import Derived.Test.YtkghilmdoabodaaDoorRawErr
namespace Go.Proofs.YtkghilmdoabodaaDoor
open Go.RowKit NatP

/-- Behind k limbs of a difference. -/
structure SubTo (xs ys out : List Nat) (k br : Nat) : Prop where
  ok : OkB W32 out
  len : out.length = xs.length
  zero : ∀ j x, k ≤ j → out[j]? = some x → x = 0
  br1 : br ≤ 1
  eq : val out + val (ys.take k) = val (xs.take k) + W32 ^ k * br
theorem SubTo.step {xs ys out : List Nat} {k br x : Nat} (h : SubTo xs ys out k br) (hx : OkB W32 xs) (hy : OkB W32 ys) (hxk : xs[k]? = some x) :
    SubTo xs ys (out.set k ((x + W32 - ys.getD k 0 - br) % W32)) (k + 1) (1 - (x + W32 - ys.getD k 0 - br) / W32) := by
  have hk : k < out.length := by rw [h.len]; exact (List.getElem?_eq_some_iff.1 hxk).1
  obtain ⟨z, hz⟩ : ∃ z, out[k]? = some z := ⟨_, List.getElem?_eq_getElem hk⟩
  have hz0 := h.zero k z (Nat.le_refl _) hz
  subst hz0
  have hxl : x < W32 := hx x (List.mem_of_getElem? hxk)
  have hyl : ys.getD k 0 < W32 := ok_getD (by decide) hy k
  have hb := h.br1
  refine ⟨ok_set h.ok (Nat.mod_lt _ (by decide)), by simp [h.len], fun j y hj hy' => ?_, Nat.sub_le _ _, ?_⟩
  · rw [List.getElem?_set_ne (by omega)] at hy'
    exact h.zero j y (by omega) hy'
  · have e1 := val_set (b := W32) (v := (x + W32 - ys.getD k 0 - br) % W32) hz
    have e2 := val_take_succ W32 xs k
    have e3 := val_take_succ W32 ys k
    have e4 : xs.getD k 0 = x := by rw [List.getD_eq_getElem?_getD, hxk]; rfl
    have e5 := h.eq
    have e6 : x + W32 * (1 - (x + W32 - ys.getD k 0 - br) / W32) = (x + W32 - ys.getD k 0 - br) % W32 + ys.getD k 0 + br := by
      unfold W32 at *
      omega
    unfold val at *
    rw [e4] at e2
    rw [e2, e3]
    generalize ys.getD k 0 = y at *
    generalize (x + W32 - y - br) % W32 = r at *
    generalize 1 - (x + W32 - y - br) / W32 = d at *
    generalize valB W32 (out.set k r) = V at *
    rw [Nat.mul_zero, Nat.add_zero] at e1
    rw [Nat.pow_succ]
    have e7 : W32 ^ k * (x + W32 * d) = W32 ^ k * (r + y + br) := by rw [e6]
    rw [Nat.mul_add, Nat.mul_add, Nat.mul_add, ← Nat.mul_assoc] at e7
    omega
theorem SubTo.stop {xs ys out : List Nat} {n br : Nat} (h : SubTo xs ys out n br) (hx : xs.length = n) (hy : ys.length ≤ n) (hle : val ys ≤ val xs) : val out = val xs - val ys := by
  have e := h.eq
  rw [List.take_of_length_le (by omega), List.take_of_length_le (by omega)] at e
  have h1 := val_lt w32 h.ok
  rw [h.len, hx] at h1
  change val out < W32 ^ n at h1
  have h2 := h.br1
  rcases Nat.lt_or_ge br 1 with h3 | h3
  · have : br = 0 := by omega
    subst this
    omega
  · have : br = 1 := by omega
    subst this
    omega

set_option maxRecDepth 100000 in
set_option maxHeartbeats 2000000 in
theorem sub_ok (w : World) (A1 A2 : Option Addr) (n1 n2 c1 c2 : Nat) (xs ys : List Nat) (h1 : Sl w A1 n1 (xs.map wv)) (h2 : Sl w A2 n2 (ys.map wv)) (o1 : OkB W32 xs) (o2 : OkB W32 ys) (a1 : n1 ≤ c1) (b1 : c1 ≤ maxLen) (a2 : n2 ≤ c2) (b2 : c2 ≤ maxLen) (hm : n1 ≤ 1000000000) (hle : val ys ≤ val xs) :
    Calls Tryd.prog 34 #[.slice A1 n1 c1, .slice A2 n2 c2] w fun e w' => NatOk w (val xs - val ys) e w' := by
  have hcmp := cmp_c w A1 A2 n1 n2 c1 c2 xs ys h1 h2 o1 o2 a1 b1 a2 b2
  have hr : ∃ r : Int, cmpN (val xs) (val ys) = r ∧ decide (r < 0) = false := by
    rcases Nat.lt_or_ge (val ys) (val xs) with h | h
    · exact ⟨1, cmpN_gt h, rfl⟩
    · have : val xs = val ys := by omega
      exact ⟨0, by rw [this, cmpN_eq], rfl⟩
  obtain ⟨r, hr1, hr2⟩ := hr
  rw [hr1] at hcmp
  have hn1 := fun (wz : World) (hb : Below w.heap.size w wz) => norm_c wz A1 n1 c1 xs (h1.below hb) o1 a1 b1
  have hn2 := fun (wz : World) (hb : Below w.heap.size w wz) => norm_c wz A2 n2 c2 ys (h2.below hb) o2 a2 b2
  have s1 := sl_norm h1 o1
  have s2 := sl_norm h2 o2
  have e1 := val_limbs (val xs)
  have e2 := val_limbs (val ys)
  have q1 := ok_limbs (val xs)
  have q2 := ok_limbs (val ys)
  have k1 : (limbs (val xs)).length ≤ 1000000000 := by
    have := limbs_len o1
    have : xs.length = n1 := by simpa using h1.1
    omega
  have k2 : (limbs (val ys)).length ≤ (limbs (val xs)).length := by
    have h := val_lt w32 (ok_limbs (val xs))
    rw [show valB W32 (limbs (val xs)) = val xs from val_limbs _] at h
    exact limbs_len_of_lt _ _ (Nat.lt_of_le_of_lt hle h)
  clear h1 h2 hr1
  rw [← e1, ← e2] at hle ⊢
  generalize limbs (val xs) = us at *
  generalize limbs (val ys) = vs at *
  obtain ⟨N1, hN1⟩ : ∃ N1, us.length = N1 := ⟨_, rfl⟩
  obtain ⟨N2, hN2⟩ : ∃ N2, vs.length = N2 := ⟨_, rfl⟩
  rw [hN1] at s1 hn1 k1 k2
  rw [hN2] at s2 hn2 k2
  have HC := Lib.hid hcmp
  have HN1 := Lib.hid hn1
  have HN2 := Lib.hid hn2
  have HL1 := Lib.hid hN1
  have HL2 := Lib.hid hN2
  have HLE := Lib.hid hle
  have hst : SubTo us vs (List.replicate N1 0) 0 0 := ⟨ok_zeros (by decide) _, by simp [hN1], fun j x _ hx => List.eq_of_mem_replicate (List.mem_of_getElem? hx), by omega, by simp [val, val_zeros, valB]⟩
  have HST := Lib.hid hst
  have hmk := run_make_row' (P := Tryd.prog) 25 27 (.int .u32 0) 4 tNat.und tNat.info rfl .i64 .i64 N1 (by omega) (by omega)
  clear hcmp hn1 hn2 hN1 hN2 e1 e2 hle hst
  go_enter Tryd.func34, Tryd.ntmps34
  go_wp2_with fail
  refine (HC.out).mono ?_
  rintro e w1 ⟨rfl, hb1⟩
  go_wp2_with fail
  refine (HN1.out w1 hb1).mono ?_
  rintro e w' ⟨rfl, rfl⟩
  go_wp2_with fail
  refine (HN2.out w1 hb1).mono ?_
  rintro e w' ⟨rfl, rfl⟩
  have t1 := s1.below hb1
  have t2 := s2.below hb1
  have hown0 := make_u32 w1 N1 (by simp only [maxLen]; omega)
  go_wp2_with fail
  clear hmk
  go_loopw [7, 25] (fun br i wr => ∃ (k b : Nat) (out : List Nat), k ≤ N1 ∧ i = .int .i64 (k : Int) ∧ br = .int .u32 (b : Nat) ∧ SubTo us vs out k b ∧ wr.ownsRow w1.heap.size 27 1 (.slice (some ⟨w1.heap.size, 0, none⟩) N1 N1) N1 (out.map wv) ∧ Below w1.heap.size w1 wr) (fun _ i _ => N1 - (intOf i).toNat)
  case atStart => exact ⟨0, 0, _, Nat.zero_le _, rfl, rfl, HST.out, hown0, (Below.refl _ _).alloc (Nat.le_refl _) _⟩
  case round =>
    clear hown0 HST
    obtain ⟨k, br, out, hk, rfl, rfl, hA, hown, hb⟩ := hrel
    have hol : out.length = N1 := by simpa using hown.1
    by_cases hlt : k < N1
    · obtain ⟨ad, x, rfl, hxk, hcx⟩ := (t1.below hb).word_ hlt
      have hstep := hA.step q1 q2 hxk
      have hxl := q1 x (List.mem_of_getElem? hxk)
      have hyl : vs.getD k 0 < W32 := ok_getD (by decide) q2 k
      have hc1 := hA.br1
      obtain ⟨z, hz⟩ : ∃ z, out[k]? = some z := ⟨_, List.getElem?_eq_getElem (by omega)⟩
      have hcell := row_word hown hlt hz
      have hfr := hown.frozenAt k
      have hset := set_word hown k ((x + W32 - vs.getD k 0 - br) % W32)
      have hb2 := hb.setCell (p := ⟨w1.heap.size, k, none⟩) (Nat.le_refl _) (.int .u32 (((x + W32 - vs.getD k 0 - br) % W32 : Nat) : Int))
      by_cases hk2 : k < N2
      · obtain ⟨ad2, y, rfl, hyk, hcy⟩ := (t2.below hb).word_ hk2
        have ey : vs.getD k 0 = y := by rw [List.getD_eq_getElem?_getD, hyk]; rfl
        rw [ey] at hstep hyl hset hb2
        have hsub := sub32_c wr x y br hxl hyl hc1
        have HSUB := Lib.hid hsub
        have HS := Lib.hid hstep
        clear hsub hstep hxk hyk ey hz hA hown hb
        go_wp2_with fail
        refine (HSUB.out).mono ?_
        rintro e w2 ⟨rfl, rfl⟩
        generalize 1 - (x + W32 - y - br) / W32 = d at HS ⊢
        generalize (x + W32 - y - br) % W32 = r at hset hb2 HS ⊢
        go_wp2_with fail
        exact ⟨⟨k + 1, d, _, by omega, by go_num, rfl, HS.out, hset, hb2⟩, by simp [intOf]; omega⟩
      · have ey : vs.getD k 0 = 0 := by rw [List.getD_eq_getElem?_getD, List.getElem?_eq_none (by rw [HL2.out]; omega)]; rfl
        rw [ey] at hstep hyl hset hb2
        have hsub := sub32_c wr x 0 br hxl hyl hc1
        have HSUB := Lib.hid hsub
        have HS := Lib.hid hstep
        clear hsub hstep hxk ey hz hA hown hb
        go_wp2_with fail
        refine (HSUB.out).mono ?_
        rintro e w2 ⟨rfl, rfl⟩
        generalize 1 - (x + W32 - 0 - br) / W32 = d at HS ⊢
        generalize (x + W32 - 0 - br) % W32 = r at hset hb2 HS ⊢
        go_wp2_with fail
        exact ⟨⟨k + 1, d, _, by omega, by go_num, rfl, HS.out, hset, hb2⟩, by simp [intOf]; omega⟩
    · obtain rfl : k = N1 := by omega
      have hval := hA.stop HL1.out (by rw [HL2.out]; exact k2) HLE.out
      have hok := hA.ok
      have HV := Lib.hid hval
      clear hval hA
      go_wp2_with fail
      refine (norm_own hown hok hb).mono ?_
      rintro e w3 ⟨A, c, rfl, ho, hb3⟩
      go_wp2_with fail
      go_ret2
      rw [HV.out] at ho ⊢
      exact ⟨A, c, rfl, own_base ho hb1.size, hb1.trans (hb3.mono hb1.size)⟩

theorem sub_err (w : World) (E : Nat → Addr) (hE : Errs w E) (A1 A2 : Option Addr) (n1 n2 c1 c2 : Nat) (xs ys : List Nat) (h1 : Sl w A1 n1 (xs.map wv)) (h2 : Sl w A2 n2 (ys.map wv)) (o1 : OkB W32 xs) (o2 : OkB W32 ys) (a1 : n1 ≤ c1) (b1 : c1 ≤ maxLen) (a2 : n2 ≤ c2) (b2 : c2 ≤ maxLen) (hlt : val xs < val ys) :
    Calls Tryd.prog 34 #[.slice A1 n1 c1, .slice A2 n2 c2] w fun e w' => NilErr w sNat 0 (E 3) e w' := by
  have hcmp := cmp_c w A1 A2 n1 n2 c1 c2 xs ys h1 h2 o1 o2 a1 b1 a2 b2
  rw [cmpN_lt hlt] at hcmp
  have HC := Lib.hid hcmp
  have HE := Lib.hid hE
  clear hcmp hE
  go_enter Tryd.func34, Tryd.ntmps34
  go_wp2_with fail
  refine (HC.out).mono ?_
  rintro e w1 ⟨rfl, hb1⟩
  go_wp2_with fail
  refine (new_c w1 E (HE.out.below hb1) sNat 0 3 (by decide) (by decide)).mono ?_
  rintro e w' ⟨rfl, rfl⟩
  go_wp2_with fail
  go_ret2
  exact nilErr_of hb1
end Go.Proofs.YtkghilmdoabodaaDoor

namespace Go.Proofs.YtkghilmdoabodaaDoor
open Go.RowKit NatP

/-- The answer is a new number and no error. -/
def New2 (w : World) (v : Nat) (e : Ending) (w' : World) : Prop :=
  ∃ A c, e = .returned (.tuple #[.slice A (limbs v).length c, .nilIface]) ∧ Num w' A (limbs v).length c v ∧ w'.ownsRow w.heap.size 27 1 (.slice A (limbs v).length c) (limbs v).length ((limbs v).map wv) ∧ Below w.heap.size w w'
theorem New2.of {w : World} {v : Nat} {e : Ending} {w' : World} (h : NatOk w v e w') : New2 w v e w' := by
  obtain ⟨A, c, rfl, ho, hb⟩ := h
  exact ⟨A, c, rfl, num_own ho, ho, hb⟩
/-- The answer is nothing and the error of a tale. -/
def Bad2 (w : World) (E : Nat → Addr) (t : Tale) (e : Ending) (w' : World) : Prop :=
  ∃ b, e = .returned (.tuple #[.slice none 0 0, errV b]) ∧ ErrIs w' E t.1 t.2 (errV b) ∧ Below w.heap.size w w'
theorem FaultAt.is {w : World} {E : Nat → Addr} {b n : Nat} {op : ByteArray} {i : Int} (h : FaultAt w b op i (E n)) : ErrIs w E n [(op, i)] (errV b) := ⟨b, _, rfl, h, rfl⟩
theorem Bad2.of {w : World} {E : Nat → Addr} {op : ByteArray} {i : Int} {n : Nat} {e : Ending} {w' : World} (h : NilErr w op i (E n) e w') : Bad2 w E (n, [(op, i)]) e w' := by
  obtain ⟨b, rfl, hf, _, _, hb⟩ := h
  exact ⟨b, rfl, hf.is, hb⟩

theorem sub_n {w : World} {A B : Option Addr} {n c m d v u : Nat} (h1 : Num w A n c v) (h2 : Num w B m d u) (m1 : n ≤ 1000000000) (hle : u ≤ v) {r : Nat} (hr : v - u = r) :
    Calls Tryd.prog 34 #[.slice A n c, .slice B m d] w fun e w' => New2 w r e w' := by
  obtain ⟨xs, a1, b1, s1, o1, rfl⟩ := h1
  obtain ⟨ys, a2, b2, s2, o2, rfl⟩ := h2
  subst hr
  exact (sub_ok w A B n m c d xs ys s1 s2 o1 o2 a1 b1 a2 b2 m1 hle).mono fun e w' h => New2.of h
theorem subErr_n {w : World} {E : Nat → Addr} (hE : Errs w E) {A B : Option Addr} {n c m d v u : Nat} (h1 : Num w A n c v) (h2 : Num w B m d u) (hlt : v < u) :
    Calls Tryd.prog 34 #[.slice A n c, .slice B m d] w fun e w' => Bad2 w E (3, [(sNat, 0)]) e w' := by
  obtain ⟨xs, a1, b1, s1, o1, rfl⟩ := h1
  obtain ⟨ys, a2, b2, s2, o2, rfl⟩ := h2
  exact (sub_err w E hE A B n m c d xs ys s1 s2 o1 o2 a1 b1 a2 b2 hlt).mono fun e w' h => Bad2.of h
theorem over_n {w : World} {A : Option Addr} {n c v d : Nat} (h1 : Num w A n c v) (hd : 0 < d) (hdl : d < W32) (m1 : n ≤ 1000000000) :
    Calls Tryd.prog 37 #[.slice A n c, .int .u32 (d : Int)] w fun e w' =>
      ∃ B c', e = .returned (.tuple #[.slice B (limbs (v / d)).length c', .int .u32 ((v % d : Nat) : Int), .nilIface]) ∧ w'.ownsRow w.heap.size 27 1 (.slice B (limbs (v / d)).length c') (limbs (v / d)).length ((limbs (v / d)).map wv) ∧ Below w.heap.size w w' := by
  obtain ⟨xs, a1, b1, s1, o1, rfl⟩ := h1
  exact over_c w A n c d xs s1 o1 hd hdl m1
theorem over0_n {w : World} {E : Nat → Addr} (hE : Errs w E) (A : Option Addr) (n c : Nat) :
    Calls Tryd.prog 37 #[.slice A n c, .int .u32 0] w fun e w' => ∃ b, e = .returned (.tuple #[.slice none 0 0, .int .u32 0, errV b]) ∧ ErrIs w' E 3 [(sNat, 0)] (errV b) ∧ Below w.heap.size w w' :=
  (over0_c w E hE A n c).mono fun e w' ⟨b, h1, h2, _, _, h3⟩ => ⟨b, h1, h2.is, h3⟩
theorem pow_n (w : World) (k n : Nat) (hk : k < W32) (hn : n ≤ 1024) {r : Nat} (hr : k ^ n = r) :
    Calls Tryd.prog 39 #[.int .u32 (k : Int), .int .i64 (n : Int)] w fun e w' => New2 w r e w' := by
  subst hr
  exact (pow_ok w k n hk hn).mono fun e w' h => New2.of h
theorem powErr_n (w : World) (E : Nat → Addr) (hE : Errs w E) (k n : Int) (hn : n < 0 ∨ 1024 < n) :
    Calls Tryd.prog 39 #[.int .u32 k, .int .i64 n] w fun e w' => Bad2 w E (if n < 0 then 3 else 4, [(sNat, 0)]) e w' := by
  by_cases h : n < 0
  · rw [if_pos h]
    exact (pow_neg w E hE k n h).mono fun e w' h => Bad2.of h
  · rw [if_neg h]
    exact (pow_big w E hE k n (by omega)).mono fun e w' h => Bad2.of h
end Go.Proofs.YtkghilmdoabodaaDoor
