/- Sums in memory: what bits.Add32 and nat.Add return. Condition: the limbs read from memory. -/
import Derived.Test.YtfgnghgmffaepaaDoorNatA
import Derived.Test.YtfgnghgmffaepaaDoorTypes
namespace Go.Proofs.YtfgnghgmffaepaaDoor
open Go.RowKit NatP

/-- The answer is a new number of value v. -/
def NatIs (w : World) (v : Nat) (en : Ending) (w' : World) : Prop :=
  ∃ A c, en = .returned (.slice A (limbs v).length c) ∧ w'.ownsRow w.heap.size 109 1 (.slice A (limbs v).length c) (limbs v).length ((limbs v).map wv) ∧ Below w.heap.size w w'

theorem norm_own {w w0 : World} {A : Option Addr} {n c : Nat} {xs : List Nat} (h : w.ownsRow w0.heap.size 109 1 (.slice A n c) n (xs.map wv)) (ho : OkB W32 xs) (hb : Below w0.heap.size w0 w) :
    Calls Tryd.prog 75 #[.slice A n c] w fun e w' => NatIs w0 (val xs) e w' := by
  obtain ⟨A', c', hv, h1, h2⟩ := own_slice h
  injection hv with _ _ hc
  subst hc
  have hl : xs.length = n := by simpa using h.1
  refine (norm_c w A n c xs (Sl.of_own h) ho h1 h2).mono ?_
  rintro e w' ⟨rfl, rfl⟩
  have hle := limbs_len ho
  have ht := own_take h (m := (limbs (val xs)).length) (by omega)
  refine ⟨A, c, rfl, ?_, hb⟩
  obtain ⟨m, hm, hz, hl'⟩ : ∃ m, m ≤ xs.length ∧ (∀ j x, m ≤ j → xs[j]? = some x → x = 0) ∧ (∀ x, 0 < m → xs[m - 1]? = some x → x ≠ 0) := cut_ex xs
  obtain ⟨e1, e2⟩ := limbs_take ho hm hz hl'
  have e3 : (xs.map wv).take (limbs (val xs)).length = (limbs (val xs)).map wv := by rw [← List.map_take, ← e2, e1]
  rw [e3] at ht
  exact ht

theorem add32_c (w : World) (x y c : Nat) (hx : x < W32) (hy : y < W32) (hc : c ≤ 1) :
    Calls Tryd.prog 85 #[.int .u32 (x : Int), .int .u32 (y : Int), .int .u32 (c : Int)] w fun e w' =>
      e = .returned (.tuple #[.int .u32 (((x + y + c) % W32 : Nat) : Int), .int .u32 (((x + y + c) / W32 : Nat) : Int)]) ∧ w = w' := by
  unfold W32 at *
  go_enter Tryd.func85, Tryd.ntmps85
  go_wp2_with fail
  go_ret2
  exact ⟨by simp, rfl⟩

theorem make_u32 (w : World) (n : Nat) (h : n ≤ maxLen) : (w.alloc (.cells (madeCells #[.int .u32 0] n) 109)).ownsRow w.heap.size 109 1 (.slice (some ⟨w.heap.size, 0, none⟩) n n) n ((List.replicate n 0).map wv) := by
  have := World.ownsRow_lit (base := w.heap.size) (e := 109) (size := 1) w (madeCells #[.int .u32 0] n) n (Nat.le_refl _) h (by rw [size_madeCells]; simp)
  rw [toList_madeCells_one] at this
  rw [List.map_replicate]
  exact this
theorem row_word {w : World} {base e g n cap : Nat} {l : List Nat} (h : w.ownsRow base e 1 (.slice (some ⟨g, 0, none⟩) n cap) n (l.map wv)) {k : Nat} {x : Nat} (hk : k < n) (hx : l[k]? = some x) :
    w.cell? ⟨g, k, none⟩ = some (.int .u32 (x : Int)) := by
  rw [h.cellAt k (by omega), List.getElem?_map, hx]; rfl
theorem set_word {w : World} {base e g n cap : Nat} {l : List Nat} (h : w.ownsRow base e 1 (.slice (some ⟨g, 0, none⟩) n cap) n (l.map wv)) (k x : Nat) :
    (w.setCell ⟨g, k, none⟩ (.int .u32 (x : Int))).ownsRow base e 1 (.slice (some ⟨g, 0, none⟩) n cap) n ((l.set k x).map wv) := by
  rw [List.map_set]
  exact (h.stored k _).1

/-- Behind k limbs of a sum. -/
structure AddTo (xs ys out : List Nat) (k cr : Nat) : Prop where
  ok : OkB W32 out
  zero : ∀ j x, k ≤ j → out[j]? = some x → x = 0
  cr1 : cr ≤ 1
  eq : val out + W32 ^ k * cr = val (xs.take k) + val (ys.take k)
theorem AddTo.step {xs ys out : List Nat} {k cr x : Nat} (h : AddTo xs ys out k cr) (hx : OkB W32 xs) (hy : OkB W32 ys) (hxk : xs[k]? = some x) (hk : k < out.length) :
    AddTo xs ys (out.set k ((x + ys.getD k 0 + cr) % W32)) (k + 1) ((x + ys.getD k 0 + cr) / W32) := by
  obtain ⟨z, hz⟩ : ∃ z, out[k]? = some z := ⟨_, List.getElem?_eq_getElem hk⟩
  have hz0 := h.zero k z (Nat.le_refl _) hz
  subst hz0
  have hxl : x < W32 := hx x (List.mem_of_getElem? hxk)
  have hyl : ys.getD k 0 < W32 := ok_getD (by decide) hy k
  refine ⟨ok_set h.ok (Nat.mod_lt _ (by decide)), fun j y hj hy' => ?_, ?_, ?_⟩
  · rw [List.getElem?_set_ne (by omega)] at hy'
    exact h.zero j y (by omega) hy'
  · have := h.cr1
    unfold W32 at *
    omega
  · have e1 := val_set (b := W32) (v := (x + ys.getD k 0 + cr) % W32) hz
    have e2 := val_take_succ W32 xs k
    have e3 := val_take_succ W32 ys k
    have e4 : xs.getD k 0 = x := by rw [List.getD_eq_getElem?_getD, hxk]; rfl
    have e5 := h.eq
    have e6 := Nat.mod_add_div (x + ys.getD k 0 + cr) W32
    unfold val at *
    rw [e4] at e2
    rw [e2, e3]
    generalize ys.getD k 0 = y at *
    generalize (x + y + cr) % W32 = r at *
    generalize (x + y + cr) / W32 = d at *
    generalize valB W32 (out.set k r) = V at *
    rw [Nat.mul_zero, Nat.add_zero] at e1
    rw [Nat.pow_succ]
    have e7 : W32 ^ k * (r + W32 * d) = W32 ^ k * (x + y + cr) := by rw [e6]
    rw [Nat.mul_add, Nat.mul_add, Nat.mul_add, ← Nat.mul_assoc] at e7
    omega

set_option maxRecDepth 100000 in
set_option maxHeartbeats 1000000 in
theorem add_ge (w : World) (A1 A2 : Option Addr) (n1 n2 c1 c2 : Nat) (xs ys : List Nat) (h1 : Sl w A1 n1 (xs.map wv)) (h2 : Sl w A2 n2 (ys.map wv)) (o1 : OkB W32 xs) (o2 : OkB W32 ys) (hm : n1 ≤ 1000000000) (hle : n2 ≤ n1) :
    Calls Tryd.prog 68 #[.slice A1 n1 c1, .slice A2 n2 c2] w fun e w' => NatIs w (val xs + val ys) e w' := by
  have l1 : xs.length = n1 := by simpa using h1.1
  have l2 : ys.length = n2 := by simpa using h2.1
  have HL1 := Lib.hid l1
  have HL2 := Lib.hid l2
  clear l1 l2
  have hmk := run_make_row' (P := Tryd.prog) 81 109 (.int .u32 0) 4 tNat.und tNat.info rfl .i64 .i64 (n1 + 1) (by omega) (by omega)
  have hmk' : ∀ wz : World, (Instr.makeSlice 81 (.int .i64 ((n1 : Int) + 1)) (.int .i64 ((n1 : Int) + 1))).run Tryd.prog wz = .ok (.slice (some ⟨wz.heap.size, 0, none⟩) (n1 + 1) (n1 + 1)) (wz.alloc (.cells (madeCells #[.int .u32 0] (n1 + 1)) 109)) := hmk
  clear hmk
  have hown0 := make_u32 w (n1 + 1) (by simp only [maxLen]; omega)
  have hdec : decide (n1 < n2) = false := decide_eq_false (by omega)
  go_enter Tryd.func68, Tryd.ntmps68
  go_wp2_with fail
  clear hmk'
  go_loopw [6, 23] (fun cr i wr => ∃ (k c : Nat) (out : List Nat), k ≤ n1 ∧ i = .int .i64 k ∧ cr = .int .u32 (c : Nat) ∧ AddTo xs ys out k c ∧ wr.ownsRow w.heap.size 109 1 (.slice (some ⟨w.heap.size, 0, none⟩) (n1 + 1) (n1 + 1)) (n1 + 1) (out.map wv) ∧ Below w.heap.size w wr) (fun _ i _ => n1 - (intOf i).toNat)
  case atStart => exact ⟨0, 0, _, Nat.zero_le _, rfl, rfl, ⟨ok_zeros (by decide) _, fun j x _ hx => (List.eq_of_mem_replicate (List.mem_of_getElem? hx)), by omega, by simp [val, val_zeros, valB]⟩, hown0, (Below.refl _ _).alloc (Nat.le_refl _) _⟩
  case round =>
    obtain ⟨k, cr, out, hk, rfl, rfl, hA, hown, hb⟩ := hrel
    have hol : out.length = n1 + 1 := by simpa using hown.1
    by_cases hlt : k < n1
    · obtain ⟨ad, x, rfl, hxk, hcx⟩ := (h1.below hb).word_ hlt
      have hstep := hA.step o1 o2 hxk (by omega)
      have hxl := o1 x (List.mem_of_getElem? hxk)
      have hyl : ys.getD k 0 < W32 := ok_getD (by decide) o2 k
      have hc1 := hA.cr1
      obtain ⟨z, hz⟩ : ∃ z, out[k]? = some z := ⟨_, List.getElem?_eq_getElem (by omega)⟩
      have hcell := row_word hown (show k < n1 + 1 by omega) hz
      have hfr := hown.frozenAt k
      have hset := set_word hown k ((x + ys.getD k 0 + cr) % W32)
      have hb2 := hb.setCell (p := ⟨w.heap.size, k, none⟩) (Nat.le_refl _) (.int .u32 (((x + ys.getD k 0 + cr) % W32 : Nat) : Int))
      by_cases hk2 : k < n2
      · obtain ⟨ad2, y, rfl, hyk, hcy⟩ := (h2.below hb).word_ hk2
        have ey : ys.getD k 0 = y := by rw [List.getD_eq_getElem?_getD, hyk]; rfl
        rw [ey] at hstep hyl hset hb2
        have hadd := add32_c wr x y cr hxl hyl hc1
        have HADD := Lib.hid hadd
        have HS := Lib.hid hstep
        clear hadd hstep hxk hyk ey hz hA hown hb
        go_wp2_with fail
        refine (HADD.out).mono ?_
        rintro e w2 ⟨rfl, rfl⟩
        generalize (x + y + cr) % W32 = r at hset hb2 HS ⊢
        generalize (x + y + cr) / W32 = d at HS ⊢
        go_wp2_with fail
        exact ⟨⟨k + 1, d, _, by omega, by go_num, rfl, HS.out, hset, hb2⟩, by simp [intOf]; omega⟩
      · have ey : ys.getD k 0 = 0 := by rw [List.getD_eq_getElem?_getD, List.getElem?_eq_none (by rw [HL2.out]; omega)]; rfl
        rw [ey] at hstep hyl hset hb2
        have hadd := add32_c wr x 0 cr hxl hyl hc1
        have HADD := Lib.hid hadd
        have HS := Lib.hid hstep
        clear hadd hstep hxk ey hz hA hown hb
        go_wp2_with fail
        refine (HADD.out).mono ?_
        rintro e w2 ⟨rfl, rfl⟩
        generalize (x + 0 + cr) % W32 = r at hset hb2 HS ⊢
        generalize (x + 0 + cr) / W32 = d at HS ⊢
        go_wp2_with fail
        exact ⟨⟨k + 1, d, _, by omega, by go_num, rfl, HS.out, hset, hb2⟩, by simp [intOf]; omega⟩
    · obtain rfl : k = n1 := by omega
      obtain ⟨z, hz⟩ : ∃ z, out[k]? = some z := ⟨_, List.getElem?_eq_getElem (by omega)⟩
      have hcell := row_word hown (show k < k + 1 by omega) hz
      have hfr := hown.frozenAt k
      have hset := set_word hown k cr
      have hb2 := hb.setCell (p := ⟨w.heap.size, k, none⟩) (Nat.le_refl _) (.int .u32 (cr : Int))
      have hval : val (out.set k cr) = val xs + val ys := by
        have e1 := val_set (b := W32) (v := cr) hz
        have e2 := hA.eq
        have e3 := hA.zero k z (Nat.le_refl _) hz
        subst e3
        rw [List.take_of_length_le (by rw [HL1.out]; exact Nat.le_refl _), List.take_of_length_le (by rw [HL2.out]; exact hle)] at e2
        unfold val at *
        omega
      have hok : OkB W32 (out.set k cr) := ok_set hA.ok (by have := hA.cr1; unfold W32; omega)
      have HV := Lib.hid hval
      clear hval hz hA hown hb hlt
      go_wp2_with fail
      refine (norm_own hset hok hb2).mono ?_
      rintro e w3 ⟨A, c, rfl, ho, hb3⟩
      go_wp2_with fail
      go_ret
      rw [HV.out] at ho ⊢
      exact ⟨A, c, rfl, ho, hb3⟩

set_option maxRecDepth 100000 in
set_option maxHeartbeats 1000000 in
theorem add_lt (w : World) (A1 A2 : Option Addr) (n1 n2 c1 c2 : Nat) (xs ys : List Nat) (h1 : Sl w A1 n1 (xs.map wv)) (h2 : Sl w A2 n2 (ys.map wv)) (o1 : OkB W32 xs) (o2 : OkB W32 ys) (hm : n1 ≤ 1000000000) (hle' : n2 < n1) :
    Calls Tryd.prog 68 #[.slice A2 n2 c2, .slice A1 n1 c1] w fun e w' => NatIs w (val xs + val ys) e w' := by
  have l1 : xs.length = n1 := by simpa using h1.1
  have l2 : ys.length = n2 := by simpa using h2.1
  have HL1 := Lib.hid l1
  have HL2 := Lib.hid l2
  clear l1 l2
  have hmk := run_make_row' (P := Tryd.prog) 81 109 (.int .u32 0) 4 tNat.und tNat.info rfl .i64 .i64 (n1 + 1) (by omega) (by omega)
  have hmk' : ∀ wz : World, (Instr.makeSlice 81 (.int .i64 ((n1 : Int) + 1)) (.int .i64 ((n1 : Int) + 1))).run Tryd.prog wz = .ok (.slice (some ⟨wz.heap.size, 0, none⟩) (n1 + 1) (n1 + 1)) (wz.alloc (.cells (madeCells #[.int .u32 0] (n1 + 1)) 109)) := hmk
  clear hmk
  have hown0 := make_u32 w (n1 + 1) (by simp only [maxLen]; omega)
  have hdec : decide (n2 < n1) = true := decide_eq_true hle'
  have hle : n2 ≤ n1 := by omega
  go_enter Tryd.func68, Tryd.ntmps68
  go_wp2_with fail
  clear hmk'
  go_loopw [6, 23] (fun cr i wr => ∃ (k c : Nat) (out : List Nat), k ≤ n1 ∧ i = .int .i64 k ∧ cr = .int .u32 (c : Nat) ∧ AddTo xs ys out k c ∧ wr.ownsRow w.heap.size 109 1 (.slice (some ⟨w.heap.size, 0, none⟩) (n1 + 1) (n1 + 1)) (n1 + 1) (out.map wv) ∧ Below w.heap.size w wr) (fun _ i _ => n1 - (intOf i).toNat)
  case atStart => exact ⟨0, 0, _, Nat.zero_le _, rfl, rfl, ⟨ok_zeros (by decide) _, fun j x _ hx => (List.eq_of_mem_replicate (List.mem_of_getElem? hx)), by omega, by simp [val, val_zeros, valB]⟩, hown0, (Below.refl _ _).alloc (Nat.le_refl _) _⟩
  case round =>
    obtain ⟨k, cr, out, hk, rfl, rfl, hA, hown, hb⟩ := hrel
    have hol : out.length = n1 + 1 := by simpa using hown.1
    by_cases hlt : k < n1
    · obtain ⟨ad, x, rfl, hxk, hcx⟩ := (h1.below hb).word_ hlt
      have hstep := hA.step o1 o2 hxk (by omega)
      have hxl := o1 x (List.mem_of_getElem? hxk)
      have hyl : ys.getD k 0 < W32 := ok_getD (by decide) o2 k
      have hc1 := hA.cr1
      obtain ⟨z, hz⟩ : ∃ z, out[k]? = some z := ⟨_, List.getElem?_eq_getElem (by omega)⟩
      have hcell := row_word hown (show k < n1 + 1 by omega) hz
      have hfr := hown.frozenAt k
      have hset := set_word hown k ((x + ys.getD k 0 + cr) % W32)
      have hb2 := hb.setCell (p := ⟨w.heap.size, k, none⟩) (Nat.le_refl _) (.int .u32 (((x + ys.getD k 0 + cr) % W32 : Nat) : Int))
      by_cases hk2 : k < n2
      · obtain ⟨ad2, y, rfl, hyk, hcy⟩ := (h2.below hb).word_ hk2
        have ey : ys.getD k 0 = y := by rw [List.getD_eq_getElem?_getD, hyk]; rfl
        rw [ey] at hstep hyl hset hb2
        have hadd := add32_c wr x y cr hxl hyl hc1
        have HADD := Lib.hid hadd
        have HS := Lib.hid hstep
        clear hadd hstep hxk hyk ey hz hA hown hb
        go_wp2_with fail
        refine (HADD.out).mono ?_
        rintro e w2 ⟨rfl, rfl⟩
        generalize (x + y + cr) % W32 = r at hset hb2 HS ⊢
        generalize (x + y + cr) / W32 = d at HS ⊢
        go_wp2_with fail
        exact ⟨⟨k + 1, d, _, by omega, by go_num, rfl, HS.out, hset, hb2⟩, by simp [intOf]; omega⟩
      · have ey : ys.getD k 0 = 0 := by rw [List.getD_eq_getElem?_getD, List.getElem?_eq_none (by rw [HL2.out]; omega)]; rfl
        rw [ey] at hstep hyl hset hb2
        have hadd := add32_c wr x 0 cr hxl hyl hc1
        have HADD := Lib.hid hadd
        have HS := Lib.hid hstep
        clear hadd hstep hxk ey hz hA hown hb
        go_wp2_with fail
        refine (HADD.out).mono ?_
        rintro e w2 ⟨rfl, rfl⟩
        generalize (x + 0 + cr) % W32 = r at hset hb2 HS ⊢
        generalize (x + 0 + cr) / W32 = d at HS ⊢
        go_wp2_with fail
        exact ⟨⟨k + 1, d, _, by omega, by go_num, rfl, HS.out, hset, hb2⟩, by simp [intOf]; omega⟩
    · obtain rfl : k = n1 := by omega
      obtain ⟨z, hz⟩ : ∃ z, out[k]? = some z := ⟨_, List.getElem?_eq_getElem (by omega)⟩
      have hcell := row_word hown (show k < k + 1 by omega) hz
      have hfr := hown.frozenAt k
      have hset := set_word hown k cr
      have hb2 := hb.setCell (p := ⟨w.heap.size, k, none⟩) (Nat.le_refl _) (.int .u32 (cr : Int))
      have hval : val (out.set k cr) = val xs + val ys := by
        have e1 := val_set (b := W32) (v := cr) hz
        have e2 := hA.eq
        have e3 := hA.zero k z (Nat.le_refl _) hz
        subst e3
        rw [List.take_of_length_le (by rw [HL1.out]; exact Nat.le_refl _), List.take_of_length_le (by rw [HL2.out]; exact hle)] at e2
        unfold val at *
        omega
      have hok : OkB W32 (out.set k cr) := ok_set hA.ok (by have := hA.cr1; unfold W32; omega)
      have HV := Lib.hid hval
      clear hval hz hA hown hb hlt
      go_wp2_with fail
      refine (norm_own hset hok hb2).mono ?_
      rintro e w3 ⟨A, c, rfl, ho, hb3⟩
      go_wp2_with fail
      go_ret
      rw [HV.out] at ho ⊢
      exact ⟨A, c, rfl, ho, hb3⟩

/-- nat.Add. -/
theorem add_c (w : World) (A1 A2 : Option Addr) (n1 n2 c1 c2 : Nat) (xs ys : List Nat) (h1 : Sl w A1 n1 (xs.map wv)) (h2 : Sl w A2 n2 (ys.map wv)) (o1 : OkB W32 xs) (o2 : OkB W32 ys) (m1 : n1 ≤ 1000000000) (m2 : n2 ≤ 1000000000) :
    Calls Tryd.prog 68 #[.slice A1 n1 c1, .slice A2 n2 c2] w fun e w' => NatIs w (val xs + val ys) e w' := by
  by_cases h : n2 ≤ n1
  · exact add_ge w A1 A2 n1 n2 c1 c2 xs ys h1 h2 o1 o2 m1 h
  · rw [Nat.add_comm]
    exact add_lt w A2 A1 n2 n1 c2 c1 ys xs h2 h1 o2 o1 m2 (by omega)

end Go.Proofs.YtfgnghgmffaepaaDoor
