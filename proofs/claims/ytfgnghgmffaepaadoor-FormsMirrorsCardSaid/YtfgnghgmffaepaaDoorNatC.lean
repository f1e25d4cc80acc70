/- Products in memory: what nat.Mul returns. Condition: the limbs read from memory. -/
import Derived.Test.YtfgnghgmffaepaaDoorNatB
namespace Go.Proofs.YtfgnghgmffaepaaDoor
open Go.RowKit NatP

/-- Behind i limbs of the first factor. -/
structure MulTo (xs ys out : List Nat) (n2 i : Nat) : Prop where
  ok : OkB W32 out
  zero : ∀ j x, i + n2 ≤ j → out[j]? = some x → x = 0
  eq : val out = val (xs.take i) * val ys
/-- And behind j limbs of the second. -/
structure MulIn (xs ys out : List Nat) (n2 i x j cr : Nat) : Prop where
  ok : OkB W32 out
  zero : ∀ j x, i + n2 ≤ j → out[j]? = some x → x = 0
  cr1 : cr < W32
  eq : val out + W32 ^ (i + j) * cr = val (xs.take i) * val ys + W32 ^ i * (x * val (ys.take j))

theorem MulTo.start {xs ys out : List Nat} {n2 i x : Nat} (h : MulTo xs ys out n2 i) : MulIn xs ys out n2 i x 0 0 :=
  ⟨h.ok, h.zero, by decide, by rw [h.eq]; simp [val, valB]⟩
theorem mul_small {x y o c : Nat} (hx : x < W32) (hy : y < W32) (ho : o < W32) (hc : c < W32) : x * y + o + c < W32 * W32 := by
  have h1 : x * y ≤ (W32 - 1) * (W32 - 1) := Nat.mul_le_mul (by omega) (by omega)
  unfold W32 at *
  omega
theorem MulIn.step {xs ys out : List Nat} {n2 i x j cr y o : Nat} (h : MulIn xs ys out n2 i x j cr) (hx : x < W32) (hy : OkB W32 ys) (hyj : ys[j]? = some y) (hjn : j < n2) (hoj : out[i + j]? = some o) :
    MulIn xs ys (out.set (i + j) ((x * y + o + cr) % W32)) n2 i x (j + 1) ((x * y + o + cr) / W32) := by
  have hyl : y < W32 := hy y (List.mem_of_getElem? hyj)
  have hol : o < W32 := h.ok o (List.mem_of_getElem? hoj)
  refine ⟨ok_set h.ok (Nat.mod_lt _ (by decide)), fun k z hk hz => ?_, ?_, ?_⟩
  · rw [List.getElem?_set_ne (by omega)] at hz
    exact h.zero k z hk hz
  · exact Nat.div_lt_of_lt_mul (mul_small hx hyl hol h.cr1)
  · have e1 := val_set (b := W32) (v := (x * y + o + cr) % W32) hoj
    have e3 := val_take_succ W32 ys j
    have e4 : ys.getD j 0 = y := by rw [List.getD_eq_getElem?_getD, hyj]; rfl
    have e5 := h.eq
    have e6 := Nat.mod_add_div (x * y + o + cr) W32
    unfold val at *
    rw [e4] at e3
    rw [e3, Nat.mul_add x, Nat.mul_add (W32 ^ i), ← Nat.add_assoc i, ← Nat.add_assoc (valB W32 (List.take i xs) * valB W32 ys), ← e5, Nat.pow_succ]
    generalize (x * y + o + cr) % W32 = r at *
    generalize (x * y + o + cr) / W32 = d at *
    have e7 : W32 ^ (i + j) * (r + W32 * d) = W32 ^ (i + j) * (x * y + o + cr) := by rw [e6]
    have e8 : W32 ^ i * (x * (W32 ^ j * y)) = W32 ^ (i + j) * (x * y) := by
      rw [Nat.pow_add, Nat.mul_assoc, Nat.mul_left_comm x]
    rw [e8]
    rw [Nat.mul_add, Nat.mul_add, Nat.mul_add, ← Nat.mul_assoc] at e7
    omega
theorem MulIn.stop {xs ys out : List Nat} {n2 i x cr o : Nat} (h : MulIn xs ys out n2 i x n2 cr) (hxi : xs[i]? = some x) (hl : ys.length = n2) (ho : out[i + n2]? = some o) :
    MulTo xs ys (out.set (i + n2) cr) n2 (i + 1) := by
  refine ⟨ok_set h.ok h.cr1, fun k z hk hz => ?_, ?_⟩
  · rw [List.getElem?_set_ne (by omega)] at hz
    exact h.zero k z (by omega) hz
  · have e1 := val_set (b := W32) (v := cr) ho
    have e2 := val_take_succ W32 xs i
    have e4 : xs.getD i 0 = x := by rw [List.getD_eq_getElem?_getD, hxi]; rfl
    have e5 := h.eq
    have e6 := h.zero _ o (Nat.le_refl _) ho
    subst e6
    rw [List.take_of_length_le (l := ys) (by omega)] at e5
    unfold val at *
    rw [e2, e4, Nat.add_mul]
    rw [Nat.mul_zero, Nat.add_zero] at e1
    rw [e1, e5, Nat.mul_assoc]

theorem u64_prod {x y : Nat} (hx : x < W32) (hy : y < W32) : x * y < 18446744073709551616 := by
  have := mul_small (o := 0) (c := 0) hx hy (by decide) (by decide)
  unfold W32 at *
  omega

theorem u64_nat {n : Nat} (h : n < 18446744073709551616) : IntKind.u64.wrap (n : Int) = (n : Int) := IntWalk.u64_in _ (by omega)
theorem u64_step {x y o c : Nat} (hx : x < W32) (hy : y < W32) (ho : o < W32) (hc : c < W32) :
    IntKind.u64.wrap (IntKind.u64.wrap (IntKind.u64.wrap (IntKind.u64.wrap (x : Int) * IntKind.u64.wrap (y : Int)) + IntKind.u64.wrap (o : Int)) + (c : Int)) = ((x * y + o + c : Nat) : Int) := by
  have h1 := u64_prod hx hy
  have h2 := mul_small hx hy ho hc
  unfold W32 at *
  rw [u64_nat (n := x) (by omega), u64_nat (n := y) (by omega), u64_nat (n := o) (by omega), ← Int.natCast_mul, u64_nat h1, ← Int.natCast_add, u64_nat (by omega), ← Int.natCast_add, u64_nat (by omega)]

set_option maxRecDepth 100000 in
set_option maxHeartbeats 2000000 in
theorem mul_c (w : World) (A1 A2 : Option Addr) (n1 n2 c1 c2 : Nat) (xs ys : List Nat) (h1 : Sl w A1 n1 (xs.map wv)) (h2 : Sl w A2 n2 (ys.map wv)) (o1 : OkB W32 xs) (o2 : OkB W32 ys) (m1 : n1 ≤ 1000000000) (m2 : n2 ≤ 1000000000) :
    Calls Tryd.prog 69 #[.slice A1 n1 c1, .slice A2 n2 c2] w fun e w' => NatIs w (val xs * val ys) e w' := by
  have l1 : xs.length = n1 := by simpa using h1.1
  have l2 : ys.length = n2 := by simpa using h2.1
  have HL1 := Lib.hid l1
  have HL2 := Lib.hid l2
  clear l1 l2
  have hmk := run_make_row' (P := Tryd.prog) 81 109 (.int .u32 0) 4 tNat.und tNat.info rfl .i64 .i64 (n1 + n2) (by omega) (by omega)
  have hmk' : ∀ wz : World, (Instr.makeSlice 81 (.int .i64 ((n1 : Int) + n2)) (.int .i64 ((n1 : Int) + n2))).run Tryd.prog wz = .ok (.slice (some ⟨wz.heap.size, 0, none⟩) (n1 + n2) (n1 + n2)) (wz.alloc (.cells (madeCells #[.int .u32 0] (n1 + n2)) 109)) := hmk
  clear hmk
  have hown0 := make_u32 w (n1 + n2) (by simp only [maxLen]; omega)
  go_enter Tryd.func69, Tryd.ntmps69
  go_wp2_with fail
  clear hmk'
  go_loopw [20] (fun i wr => ∃ (k : Nat) (out : List Nat), k ≤ n1 ∧ i = .int .i64 k ∧ MulTo xs ys out n2 k ∧ wr.ownsRow w.heap.size 109 1 (.slice (some ⟨w.heap.size, 0, none⟩) (n1 + n2) (n1 + n2)) (n1 + n2) (out.map wv) ∧ Below w.heap.size w wr) (fun i _ => n1 - (intOf i).toNat)
  case atStart => exact ⟨0, _, Nat.zero_le _, rfl, ⟨ok_zeros (by decide) _, fun j x _ hx => (List.eq_of_mem_replicate (List.mem_of_getElem? hx)), by simp [val, val_zeros, valB]⟩, hown0, (Below.refl _ _).alloc (Nat.le_refl _) _⟩
  case round =>
    obtain ⟨k, out, hk, rfl, hA, hown, hb⟩ := hrel
    by_cases hlt : k < n1
    · obtain ⟨ad, x, rfl, hxk, hcx⟩ := (h1.below hb).word_ hlt
      have hxl := o1 x (List.mem_of_getElem? hxk)
      have HX := Lib.hid hxk
      have hin := hA.start (x := x)
      clear hxk hA
      go_wp2_with fail
      go_loopw [8, 27] (fun cr j wr => ∃ (m c : Nat) (out : List Nat), m ≤ n2 ∧ j = .int .i64 m ∧ cr = .int .u64 (c : Nat) ∧ MulIn xs ys out n2 k x m c ∧ wr.ownsRow w.heap.size 109 1 (.slice (some ⟨w.heap.size, 0, none⟩) (n1 + n2) (n1 + n2)) (n1 + n2) (out.map wv) ∧ Below w.heap.size w wr) (fun _ j _ => n2 - (intOf j).toNat)
      case atStart => exact ⟨0, 0, _, Nat.zero_le _, rfl, rfl, hin, hown, hb⟩
      case round =>
        clear hin hown hb out hcx
        obtain ⟨m, cr, out, hm, rfl, rfl, hA, hown, hb⟩ := hrel
        have hol : out.length = n1 + n2 := by simpa using hown.1
        by_cases hlt2 : m < n2
        · obtain ⟨ad2, y, rfl, hyk, hcy⟩ := (h2.below hb).word_ hlt2
          obtain ⟨o, ho⟩ : ∃ o, out[k + m]? = some o := ⟨_, List.getElem?_eq_getElem (by omega)⟩
          have hyl := o2 y (List.mem_of_getElem? hyk)
          have hoo := hA.ok o (List.mem_of_getElem? ho)
          have hcr := hA.cr1
          have hstep := hA.step hxl o2 hyk hlt2 ho
          have hcell := row_word hown (show k + m < n1 + n2 by omega) ho
          have hfr := hown.frozenAt (k + m)
          have hset := set_word hown (k + m) ((x * y + o + cr) % W32)
          have hb2 := hb.setCell (p := ⟨w.heap.size, k + m, none⟩) (Nat.le_refl _) (.int .u32 (((x * y + o + cr) % W32 : Nat) : Int))
          have hu := u64_step hxl hyl hoo hcr
          have HU := Lib.hid hu
          have HS := Lib.hid hstep
          clear hstep hyk ho hA hown hb hu
          go_wp2_with fail
          have q1 : ((x * y + o + cr : Nat) : Int) % 4294967296 = (((x * y + o + cr) % W32 : Nat) : Int) := rfl
          have q2 : ((x * y + o + cr : Nat) : Int) / 4294967296 = (((x * y + o + cr) / W32 : Nat) : Int) := rfl
          simp only [HU.out, q1, q2]
          exact ⟨⟨m + 1, (x * y + o + cr) / W32, _, by omega, by go_num, rfl, HS.out, hset, hb2⟩, by simp [intOf]; omega⟩
        · obtain rfl : m = n2 := by omega
          obtain ⟨o, ho⟩ : ∃ o, out[k + m]? = some o := ⟨_, List.getElem?_eq_getElem (by omega)⟩
          have hstop := hA.stop HX.out HL2.out ho
          have hcr := hA.cr1
          have hcell := row_word hown (show k + m < n1 + m by omega) ho
          have hfr := hown.frozenAt (k + m)
          have hset := set_word hown (k + m) cr
          have hb2 := hb.setCell (p := ⟨w.heap.size, k + m, none⟩) (Nat.le_refl _) (.int .u32 (cr : Int))
          have HS := Lib.hid hstop
          have q1 : (cr : Int) % 4294967296 = (cr : Int) := Int.emod_eq_of_lt (by omega) (by unfold W32 at hcr; omega)
          have Q1 := Lib.hid q1
          clear hstop ho hA hown hb q1
          go_wp2_with fail
          simp only [Q1.out]
          exact ⟨⟨k + 1, _, by omega, by go_num, HS.out, hset, hb2⟩, by simp [intOf]; omega⟩
    · obtain rfl : k = n1 := by omega
      have e2 := hA.eq
      rw [List.take_of_length_le (by rw [HL1.out]; exact Nat.le_refl _)] at e2
      have hok := hA.ok
      have HV := Lib.hid e2
      clear hA e2
      go_wp2_with fail
      refine (norm_own hown hok hb).mono ?_
      rintro e w3 ⟨A, c, rfl, ho, hb3⟩
      go_wp2_with fail
      go_ret
      rw [HV.out] at ho ⊢
      exact ⟨A, c, rfl, ho, hb3⟩

end Go.Proofs.YtfgnghgmffaepaaDoor
