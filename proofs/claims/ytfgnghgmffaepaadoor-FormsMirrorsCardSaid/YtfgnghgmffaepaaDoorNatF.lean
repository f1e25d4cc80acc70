/- Division in memory: what bits.Div32 and nat.Over return. Condition: the limbs read from memory. -/
import Derived.Test.YtfgnghgmffaepaaDoorNatDE
import Derived.Test.YtfgnghgmffaepaaDoorNatC
import Derived.Laws.BitsAllLaws
namespace Go.Proofs.YtfgnghgmffaepaaDoor
open Go.RowKit NatP

theorem u32_nat {n : Nat} (h : n < W32) : IntKind.u32.wrap (n : Int) = (n : Int) := IntWalk.u32_in _ (by unfold W32 at h; omega)
theorem hi_lo {hi lo : Nat} (h1 : hi < W32) (h3 : lo < W32) : bits BinOp.or IntKind.u64 ((hi : Int) * 4294967296) (lo : Int) = ((hi * W32 + lo : Nat) : Int) := by
  unfold W32 at *
  have e : (hi : Int) * 4294967296 = ((hi * 4294967296 : Nat) : Int) := by omega
  rw [e, u64_or_nat _ _ (by omega) (by omega)]
  congr 1
  rw [show (4294967296 : Nat) = 2 ^ 32 from rfl, ← Nat.shiftLeft_eq, Nat.shiftLeft_add_eq_or_of_lt h3]

set_option maxRecDepth 100000 in
set_option maxHeartbeats 1000000 in
theorem div32_c (w : World) (hi lo y : Nat) (h1 : hi < y) (h2 : y < W32) (h3 : lo < W32) :
    Calls Tryd.prog 86 #[.int .u32 (hi : Int), .int .u32 (lo : Int), .int .u32 (y : Int)] w fun e w' =>
      e = .returned (.tuple #[.int .u32 (((hi * W32 + lo) / y : Nat) : Int), .int .u32 (((hi * W32 + lo) % y : Nat) : Int)]) ∧ ∃ k, w' = w.drewN k := by
  have d1 : ((y : Int) != 0) = true := by simp; omega
  have d2 : decide (y ≤ hi) = false := decide_eq_false (by omega)
  have hz := hi_lo (Nat.lt_trans h1 h2) h3
  have hq : (hi * W32 + lo) / y < W32 := Nat.div_lt_of_lt_mul (by
    have : (hi + 1) * W32 ≤ y * W32 := Nat.mul_le_mul_right _ h1
    rw [Nat.add_mul, Nat.one_mul] at this
    omega)
  have hr : (hi * W32 + lo) % y < y := Nat.mod_lt _ (by omega)
  have hzl : hi * W32 + lo < 18446744073709551616 := by unfold W32 at *; omega
  obtain ⟨Z, hZ⟩ : ∃ Z, hi * W32 + lo = Z := ⟨_, rfl⟩
  rw [hZ] at hz hq hr hzl ⊢
  have r1 : IntKind.u64.wrap ((Z : Int) / (y : Int)) % 4294967296 = ((Z / y : Nat) : Int) := by
    rw [show (Z : Int) / (y : Int) = ((Z / y : Nat) : Int) from rfl, u64_nat (Nat.lt_of_le_of_lt (Nat.div_le_self _ _) hzl)]
    exact Int.emod_eq_of_lt (Int.natCast_nonneg _) (Int.ofNat_lt.2 hq)
  have R1 := Lib.hid r1
  have r2 : (Z : Int) % (y : Int) % 4294967296 = ((Z % y : Nat) : Int) := by
    rw [show (Z : Int) % (y : Int) = ((Z % y : Nat) : Int) from rfl]
    exact Int.emod_eq_of_lt (Int.natCast_nonneg _) (Int.ofNat_lt.2 (Nat.lt_trans hr h2))
  have R2 := Lib.hid r2
  have d3 : ((y : Int) == 0) = false := by simp; omega
  have q5 : IntKind.u64.wrap (y : Int) = (y : Int) := u64_nat (by unfold W32 at *; omega)
  have d4 : y ≠ 0 := by omega
  clear hZ r1 r2 hq hr
  unfold W32 at *
  go_enter Tryd.func86, Tryd.ntmps86
  go_wp2_with fail
  go_quiet (fail)
  go_wp2_with fail
  go_ret2
  exact ⟨by rw [R1.out, R2.out]; rfl, _, rfl⟩

/-- A number's rest at one limb after the other, the highest first. -/
structure OverTo (xs out : List Nat) (d m rest : Nat) : Prop where
  len : out.length = xs.length
  ok : OkB W32 out
  rlt : rest < d
  zero : ∀ j x, j < m → out[j]? = some x → x = 0
  eq : val xs = val out * d + W32 ^ m * rest + val (xs.take m)
theorem OverTo.start {xs : List Nat} {d : Nat} (hd : 0 < d) : OverTo xs (List.replicate xs.length 0) d xs.length 0 :=
  ⟨by simp, ok_zeros (by decide) _, hd, fun j x _ hx => List.eq_of_mem_replicate (List.mem_of_getElem? hx), by simp [val, val_zeros]⟩
theorem OverTo.step {xs out : List Nat} {d k rest x : Nat} (h : OverTo xs out d (k + 1) rest) (hx : xs[k]? = some x) (hxl : x < W32) :
    OverTo xs (out.set k ((rest * W32 + x) / d)) d k ((rest * W32 + x) % d) := by
  have hk : k < out.length := by rw [h.len]; exact (List.getElem?_eq_some_iff.1 hx).1
  obtain ⟨z, hz⟩ : ∃ z, out[k]? = some z := ⟨_, List.getElem?_eq_getElem hk⟩
  have hz0 := h.zero k z (Nat.lt_succ_self k) hz
  subst hz0
  have hd : 0 < d := by have := h.rlt; omega
  have hq : (rest * W32 + x) / d < W32 := Nat.div_lt_of_lt_mul (by
    have : (rest + 1) * W32 ≤ d * W32 := Nat.mul_le_mul_right _ h.rlt
    rw [Nat.add_mul, Nat.one_mul] at this
    omega)
  refine ⟨by simp [h.len], ok_set h.ok hq, Nat.mod_lt _ hd, fun j y hj hy => ?_, ?_⟩
  · rw [List.getElem?_set_ne (by omega)] at hy
    exact h.zero j y (by omega) hy
  · have e1 := val_set (b := W32) (v := (rest * W32 + x) / d) hz
    have e2 := val_take_succ W32 xs k
    have e3 : xs.getD k 0 = x := by rw [List.getD_eq_getElem?_getD, hx]; rfl
    have e4 := h.eq
    have e5 := Nat.mod_add_div (rest * W32 + x) d
    unfold val at *
    rw [e3] at e2
    rw [e2] at e4
    generalize (rest * W32 + x) / d = q at *
    generalize (rest * W32 + x) % d = r at *
    rw [Nat.mul_zero, Nat.add_zero] at e1
    rw [e1, e4, Nat.pow_succ]
    have e6 : W32 ^ k * (r + d * q) = W32 ^ k * (rest * W32 + x) := by rw [e5]
    rw [Nat.mul_add, Nat.mul_add] at e6
    have e7 : W32 ^ k * (d * q) = W32 ^ k * q * d := by rw [Nat.mul_comm d q, Nat.mul_assoc]
    have e8 : W32 ^ k * (rest * W32) = W32 ^ k * W32 * rest := by rw [Nat.mul_comm rest, Nat.mul_assoc]
    rw [Nat.add_mul]
    omega

set_option maxRecDepth 100000 in
set_option maxHeartbeats 1000000 in
/-- nat.Over by a number that is not 0. -/
theorem over_c (w : World) (A : Option Addr) (n c d : Nat) (xs : List Nat) (h : Sl w A n (xs.map wv)) (o : OkB W32 xs) (hd : 0 < d) (hdl : d < W32) (m1 : n ≤ 1000000000) :
    Calls Tryd.prog 70 #[.slice A n c, .int .u32 (d : Int)] w fun e w' =>
      ∃ B c', e = .returned (.tuple #[.slice B (limbs (val xs / d)).length c', .int .u32 ((val xs % d : Nat) : Int), .nilIface]) ∧ w'.ownsRow w.heap.size 109 1 (.slice B (limbs (val xs / d)).length c') (limbs (val xs / d)).length ((limbs (val xs / d)).map wv) ∧ Below w.heap.size w w' := by
  have l1 : xs.length = n := by simpa using h.1
  have hst := OverTo.start (xs := xs) hd
  rw [l1] at hst
  have HL := Lib.hid l1
  clear l1
  have hmk := run_make_row' (P := Tryd.prog) 81 109 (.int .u32 0) 4 tNat.und tNat.info rfl .i64 .i64 n (by omega) (by omega)
  have hown0 := make_u32 w n (by simp only [maxLen]; omega)
  have d0 : ((d : Int) == 0) = false := by simp; omega
  go_enter Tryd.func70, Tryd.ntmps70
  go_wp2_with fail
  clear hmk
  go_loopw [8, 9] (fun rs i wr => ∃ (m rest : Nat) (z : Int) (out : List Nat), m ≤ n ∧ i = .int .i64 z ∧ z = (m : Int) - 1 ∧ rs = .int .u32 (rest : Nat) ∧ OverTo xs out d m rest ∧ wr.ownsRow w.heap.size 109 1 (.slice (some ⟨w.heap.size, 0, none⟩) n n) n (out.map wv) ∧ Below w.heap.size w wr) (fun _ i _ => (intOf i + 1).toNat)
  case atStart => exact ⟨n, 0, _, _, Nat.le_refl _, rfl, rfl, rfl, hst, hown0, (Below.refl _ _).alloc (Nat.le_refl _) _⟩
  case round =>
    clear hst hown0
    obtain ⟨m, rest, z, out, hm, rfl, hz, rfl, hA, hown, hb⟩ := hrel
    cases m with
    | zero =>
      obtain rfl : z = -1 := by omega
      clear hz
      have hge : decide ((0 : Int) ≤ -1) = false := by decide
      have e := hA.eq
      have hr := hA.rlt
      have hok := hA.ok
      have e1 : val out = val xs / d := by
        rw [e, List.take_zero, Nat.pow_zero, Nat.one_mul, show val [] = 0 from rfl, Nat.add_zero, Nat.mul_comm, Nat.mul_add_div hd, Nat.div_eq_of_lt hr, Nat.add_zero]
      have e2 : rest = val xs % d := by
        rw [e, List.take_zero, Nat.pow_zero, Nat.one_mul, show val [] = 0 from rfl, Nat.add_zero, Nat.mul_comm, Nat.mul_add_mod, Nat.mod_eq_of_lt hr]
      have E1 := Lib.hid e1
      have E2 := Lib.hid e2
      clear e e1 e2 hA
      go_wp2_with fail
      refine (norm_own hown hok hb).mono ?_
      rintro e w3 ⟨B, c', rfl, ho, hb3⟩
      go_wp2_with fail
      go_ret3
      rw [E1.out] at ho ⊢
      exact ⟨B, c', by rw [← E2.out]; rfl, ho, hb3⟩
    | succ k =>
      obtain rfl : z = (k : Int) := by omega
      clear hz
      obtain ⟨ad, x, rfl, hxk, hcx⟩ := (h.below hb).word_ (show k < n by omega)
      have hxl := o x (List.mem_of_getElem? hxk)
      have hstep := hA.step hxk hxl
      obtain ⟨y, hy⟩ : ∃ y, out[k]? = some y := ⟨_, List.getElem?_eq_getElem (by rw [hA.len]; exact (List.getElem?_eq_some_iff.1 hxk).1)⟩
      have hdiv := fun wz => div32_c wz rest x d hA.rlt hdl hxl
      have HDIV := Lib.hid hdiv
      have HS := Lib.hid hstep
      have hcell := row_word hown (show k < n by omega) hy
      have hfr := hown.frozenAt k
      have hset := set_word hown k ((rest * W32 + x) / d)
      have hb2 := hb.setCell (p := ⟨w.heap.size, k, none⟩) (Nat.le_refl _) (.int .u32 (((rest * W32 + x) / d : Nat) : Int))
      clear hdiv hstep hxk hy hown hA hb
      go_wp2_with fail
      refine (HDIV.out _).mono ?_
      rintro e w3 ⟨rfl, q, rfl⟩
      generalize (rest * W32 + x) / d = qq at hset hb2 HS ⊢
      generalize (rest * W32 + x) % d = rr at HS ⊢
      go_wp2_with fail
      exact ⟨⟨k, rr, _, _, by omega, rfl, by omega, rfl, HS.out, hset, below_drewN hb2 _⟩, by simp [intOf]⟩
end Go.Proofs.YtfgnghgmffaepaaDoor
