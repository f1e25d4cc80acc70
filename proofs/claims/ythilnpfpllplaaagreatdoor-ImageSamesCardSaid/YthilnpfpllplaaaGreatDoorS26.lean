/- Products in memory: what nat.Mul returns. Condition: the limbs read from memory. What nat.From, nat.Low, nat.Fits return. Condition: the limbs read from memory. Division in memory: what bits.Div32 and nat.Over return. Condition: the limbs read from memory. Decimal texts: plain lists of bytes, no program. A number's text is read back as the number, and only that text is. No condition. What nat.Parse returns: the number that a text writes, or a new error. Condition: the package's error variables hold what E says. Numbers by their value: what the package's functions return, over slices that read as a number. Condition: as said. A list of numbers of any size as the call's own memory holds it: made, read, stored into, added up. Condition: as said. How many words of a length have preimages: what image.Words answers, and how large its numbers grow. Plain, over ofF. No condition. -/
import Derived.Laws.BitsAllLaws
import Derived.Lib.Strings
import Derived.Lib.TrimByte
import Derived.Laws.Strings3
import Derived.Deep.RegionWith
import Derived.Deep.DrawnRows
import Derived.Test.YthilnpfpllplaaaGreatDoorS1
import Derived.Test.YthilnpfpllplaaaGreatDoorS24
import Derived.Test.YthilnpfpllplaaaGreatDoorS25
namespace Go.Proofs.YthilnpfpllplaaaGreatDoor
open Go.RowKit NatP

/-- Behind i limbs of the first factor. -/
structure MulTo (xs ys out : List Nat) (n2 i : Nat) : Prop where
  ok : OkB W32 out
  zero : ∀ j x, i + n2 ≤ j → out[j]? = some x → x = 0
  eq : val out = val (xs.take i) * val ys
/-- And behind j limbs of the second. -/
structure MulIn (xs ys out : List Nat) (n2 i x j cr : Nat) : Prop where
  ok : OkB W32 out
  zero : ∀ j x, i + n2 ≤ j → out[j]? = some x → x = 0
  cr1 : cr < W32
  eq : val out + W32 ^ (i + j) * cr = val (xs.take i) * val ys + W32 ^ i * (x * val (ys.take j))

theorem MulTo.start {xs ys out : List Nat} {n2 i x : Nat} (h : MulTo xs ys out n2 i) : MulIn xs ys out n2 i x 0 0 :=
  ⟨h.ok, h.zero, by decide, by rw [h.eq]; simp [val, valB]⟩
theorem mul_small {x y o c : Nat} (hx : x < W32) (hy : y < W32) (ho : o < W32) (hc : c < W32) : x * y + o + c < W32 * W32 := by
  have h1 : x * y ≤ (W32 - 1) * (W32 - 1) := Nat.mul_le_mul (by omega) (by omega)
  unfold W32 at *
  omega
theorem MulIn.step {xs ys out : List Nat} {n2 i x j cr y o : Nat} (h : MulIn xs ys out n2 i x j cr) (hx : x < W32) (hy : OkB W32 ys) (hyj : ys[j]? = some y) (hjn : j < n2) (hoj : out[i + j]? = some o) :
    MulIn xs ys (out.set (i + j) ((x * y + o + cr) % W32)) n2 i x (j + 1) ((x * y + o + cr) / W32) := by
  have hyl : y < W32 := hy y (List.mem_of_getElem? hyj)
  have hol : o < W32 := h.ok o (List.mem_of_getElem? hoj)
  refine ⟨ok_set h.ok (Nat.mod_lt _ (by decide)), fun k z hk hz => ?_, ?_, ?_⟩
  · rw [List.getElem?_set_ne (by omega)] at hz
    exact h.zero k z hk hz
  · exact Nat.div_lt_of_lt_mul (mul_small hx hyl hol h.cr1)
  · have e1 := val_set (b := W32) (v := (x * y + o + cr) % W32) hoj
    have e3 := val_take_succ W32 ys j
    have e4 : ys.getD j 0 = y := by rw [List.getD_eq_getElem?_getD, hyj]; rfl
    have e5 := h.eq
    have e6 := Nat.mod_add_div (x * y + o + cr) W32
    unfold val at *
    rw [e4] at e3
    rw [e3, Nat.mul_add x, Nat.mul_add (W32 ^ i), ← Nat.add_assoc i, ← Nat.add_assoc (valB W32 (List.take i xs) * valB W32 ys), ← e5, Nat.pow_succ]
    generalize (x * y + o + cr) % W32 = r at *
    generalize (x * y + o + cr) / W32 = d at *
    have e7 : W32 ^ (i + j) * (r + W32 * d) = W32 ^ (i + j) * (x * y + o + cr) := by rw [e6]
    have e8 : W32 ^ i * (x * (W32 ^ j * y)) = W32 ^ (i + j) * (x * y) := by
      rw [Nat.pow_add, Nat.mul_assoc, Nat.mul_left_comm x]
    rw [e8]
    rw [Nat.mul_add, Nat.mul_add, Nat.mul_add, ← Nat.mul_assoc] at e7
    omega
theorem MulIn.stop {xs ys out : List Nat} {n2 i x cr o : Nat} (h : MulIn xs ys out n2 i x n2 cr) (hxi : xs[i]? = some x) (hl : ys.length = n2) (ho : out[i + n2]? = some o) :
    MulTo xs ys (out.set (i + n2) cr) n2 (i + 1) := by
  refine ⟨ok_set h.ok h.cr1, fun k z hk hz => ?_, ?_⟩
  · rw [List.getElem?_set_ne (by omega)] at hz
    exact h.zero k z (by omega) hz
  · have e1 := val_set (b := W32) (v := cr) ho
    have e2 := val_take_succ W32 xs i
    have e4 : xs.getD i 0 = x := by rw [List.getD_eq_getElem?_getD, hxi]; rfl
    have e5 := h.eq
    have e6 := h.zero _ o (Nat.le_refl _) ho
    subst e6
    rw [List.take_of_length_le (l := ys) (by omega)] at e5
    unfold val at *
    rw [e2, e4, Nat.add_mul]
    rw [Nat.mul_zero, Nat.add_zero] at e1
    rw [e1, e5, Nat.mul_assoc]

theorem u64_prod {x y : Nat} (hx : x < W32) (hy : y < W32) : x * y < 18446744073709551616 := by
  have := mul_small (o := 0) (c := 0) hx hy (by decide) (by decide)
  unfold W32 at *
  omega

theorem u64_nat {n : Nat} (h : n < 18446744073709551616) : IntKind.u64.wrap (n : Int) = (n : Int) := IntWalk.u64_in _ (by omega)
theorem u64_step {x y o c : Nat} (hx : x < W32) (hy : y < W32) (ho : o < W32) (hc : c < W32) :
    IntKind.u64.wrap (IntKind.u64.wrap (IntKind.u64.wrap (IntKind.u64.wrap (x : Int) * IntKind.u64.wrap (y : Int)) + IntKind.u64.wrap (o : Int)) + (c : Int)) = ((x * y + o + c : Nat) : Int) := by
  have h1 := u64_prod hx hy
  have h2 := mul_small hx hy ho hc
  unfold W32 at *
  rw [u64_nat (n := x) (by omega), u64_nat (n := y) (by omega), u64_nat (n := o) (by omega), ← Int.natCast_mul, u64_nat h1, ← Int.natCast_add, u64_nat (by omega), ← Int.natCast_add, u64_nat (by omega)]

set_option maxRecDepth 100000 in
set_option maxHeartbeats 2000000 in
theorem mul_c (w : World) (A1 A2 : Option Addr) (n1 n2 c1 c2 : Nat) (xs ys : List Nat) (h1 : Sl w A1 n1 (xs.map wv)) (h2 : Sl w A2 n2 (ys.map wv)) (o1 : OkB W32 xs) (o2 : OkB W32 ys) (m1 : n1 ≤ 1000000000) (m2 : n2 ≤ 1000000000) :
    Calls Tryz.prog 33 #[.slice A1 n1 c1, .slice A2 n2 c2] w fun e w' => NatIs w (val xs * val ys) e w' := by
  have l1 : xs.length = n1 := by simpa using h1.1
  have l2 : ys.length = n2 := by simpa using h2.1
  have HL1 := Lib.hid l1
  have HL2 := Lib.hid l2
  clear l1 l2
  have hmk := run_make_row' (P := Tryz.prog) 38 75 (.int .u32 0) 4 tNat.und tNat.info rfl .i64 .i64 (n1 + n2) (by omega) (by omega)
  have hmk' : ∀ wz : World, (Instr.makeSlice 38 (.int .i64 ((n1 : Int) + n2)) (.int .i64 ((n1 : Int) + n2))).run Tryz.prog wz = .ok (.slice (some ⟨wz.heap.size, 0, none⟩) (n1 + n2) (n1 + n2)) (wz.alloc (.cells (madeCells #[.int .u32 0] (n1 + n2)) 75)) := hmk
  clear hmk
  have hown0 := make_u32 w (n1 + n2) (by simp only [maxLen]; omega)
  go_enter Tryz.func33, Tryz.ntmps33
  go_wp2_with fail
  clear hmk'
  go_loopw [20] (fun i wr => ∃ (k : Nat) (out : List Nat), k ≤ n1 ∧ i = .int .i64 k ∧ MulTo xs ys out n2 k ∧ wr.ownsRow w.heap.size 75 1 (.slice (some ⟨w.heap.size, 0, none⟩) (n1 + n2) (n1 + n2)) (n1 + n2) (out.map wv) ∧ Below w.heap.size w wr) (fun i _ => n1 - (intOf i).toNat)
  case atStart => exact ⟨0, _, Nat.zero_le _, rfl, ⟨ok_zeros (by decide) _, fun j x _ hx => (List.eq_of_mem_replicate (List.mem_of_getElem? hx)), by simp [val, val_zeros, valB]⟩, hown0, (Below.refl _ _).alloc (Nat.le_refl _) _⟩
  case round =>
    obtain ⟨k, out, hk, rfl, hA, hown, hb⟩ := hrel
    by_cases hlt : k < n1
    · obtain ⟨ad, x, rfl, hxk, hcx⟩ := (h1.below hb).word_ hlt
      have hxl := o1 x (List.mem_of_getElem? hxk)
      have HX := Lib.hid hxk
      have hin := hA.start (x := x)
      clear hxk hA
      go_wp2_with fail
      go_loopw [8, 27] (fun cr j wr => ∃ (m c : Nat) (out : List Nat), m ≤ n2 ∧ j = .int .i64 m ∧ cr = .int .u64 (c : Nat) ∧ MulIn xs ys out n2 k x m c ∧ wr.ownsRow w.heap.size 75 1 (.slice (some ⟨w.heap.size, 0, none⟩) (n1 + n2) (n1 + n2)) (n1 + n2) (out.map wv) ∧ Below w.heap.size w wr) (fun _ j _ => n2 - (intOf j).toNat)
      case atStart => exact ⟨0, 0, _, Nat.zero_le _, rfl, rfl, hin, hown, hb⟩
      case round =>
        clear hin hown hb out hcx
        obtain ⟨m, cr, out, hm, rfl, rfl, hA, hown, hb⟩ := hrel
        have hol : out.length = n1 + n2 := by simpa using hown.1
        by_cases hlt2 : m < n2
        · obtain ⟨ad2, y, rfl, hyk, hcy⟩ := (h2.below hb).word_ hlt2
          obtain ⟨o, ho⟩ : ∃ o, out[k + m]? = some o := ⟨_, List.getElem?_eq_getElem (by omega)⟩
          have hyl := o2 y (List.mem_of_getElem? hyk)
          have hoo := hA.ok o (List.mem_of_getElem? ho)
          have hcr := hA.cr1
          have hstep := hA.step hxl o2 hyk hlt2 ho
          have hcell := row_word hown (show k + m < n1 + n2 by omega) ho
          have hfr := hown.frozenAt (k + m)
          have hset := set_word hown (k + m) ((x * y + o + cr) % W32)
          have hb2 := hb.setCell (p := ⟨w.heap.size, k + m, none⟩) (Nat.le_refl _) (.int .u32 (((x * y + o + cr) % W32 : Nat) : Int))
          have hu := u64_step hxl hyl hoo hcr
          have HU := Lib.hid hu
          have HS := Lib.hid hstep
          clear hstep hyk ho hA hown hb hu
          go_wp2_with fail
          have q1 : ((x * y + o + cr : Nat) : Int) % 4294967296 = (((x * y + o + cr) % W32 : Nat) : Int) := rfl
          have q2 : ((x * y + o + cr : Nat) : Int) / 4294967296 = (((x * y + o + cr) / W32 : Nat) : Int) := rfl
          simp only [HU.out, q1, q2]
          exact ⟨⟨m + 1, (x * y + o + cr) / W32, _, by omega, by go_num, rfl, HS.out, hset, hb2⟩, by simp [intOf]; omega⟩
        · obtain rfl : m = n2 := by omega
          obtain ⟨o, ho⟩ : ∃ o, out[k + m]? = some o := ⟨_, List.getElem?_eq_getElem (by omega)⟩
          have hstop := hA.stop HX.out HL2.out ho
          have hcr := hA.cr1
          have hcell := row_word hown (show k + m < n1 + m by omega) ho
          have hfr := hown.frozenAt (k + m)
          have hset := set_word hown (k + m) cr
          have hb2 := hb.setCell (p := ⟨w.heap.size, k + m, none⟩) (Nat.le_refl _) (.int .u32 (cr : Int))
          have HS := Lib.hid hstop
          have q1 : (cr : Int) % 4294967296 = (cr : Int) := Int.emod_eq_of_lt (by omega) (by unfold W32 at hcr; omega)
          have Q1 := Lib.hid q1
          clear hstop ho hA hown hb q1
          go_wp2_with fail
          simp only [Q1.out]
          exact ⟨⟨k + 1, _, by omega, by go_num, HS.out, hset, hb2⟩, by simp [intOf]; omega⟩
    · obtain rfl : k = n1 := by omega
      have e2 := hA.eq
      rw [List.take_of_length_le (by rw [HL1.out]; exact Nat.le_refl _)] at e2
      have hok := hA.ok
      have HV := Lib.hid e2
      clear hA e2
      go_wp2_with fail
      refine (norm_own hown hok hb).mono ?_
      rintro e w3 ⟨A, c, rfl, ho, hb3⟩
      go_wp2_with fail
      go_ret
      rw [HV.out] at ho ⊢
      exact ⟨A, c, rfl, ho, hb3⟩

end Go.Proofs.YthilnpfpllplaaaGreatDoor

namespace Go.Proofs.YthilnpfpllplaaaGreatDoor
open Go.RowKit NatP

set_option maxRecDepth 100000 in
theorem from_c (w : World) (x : Nat) (h : x < 18446744073709551616) :
    Calls Tryz.prog 34 #[.int .u64 (x : Int)] w fun e w' => NatIs w x e w' := by
  have hlit := World.ownsRow_lit (base := w.heap.size) (e := 75) (size := 1) w #[.int .u32 ((x % W32 : Nat) : Int), .int .u32 ((x / W32 : Nat) : Int)] 2 (Nat.le_refl _) (by decide) rfl
  have hok : OkB W32 [x % W32, x / W32] := by
    intro y hy
    simp at hy
    rcases hy with rfl | rfl
    · exact Nat.mod_lt _ (by decide)
    · exact Nat.div_lt_of_lt_mul h
  have hval : val [x % W32, x / W32] = x := by
    simp only [val, valB, Nat.mul_zero, Nat.add_zero]
    exact Nat.mod_add_div x W32
  have hb : Below w.heap.size w (w.alloc (.cells #[.int .u32 ((x % W32 : Nat) : Int), .int .u32 ((x / W32 : Nat) : Int)] 75)) := (Below.refl _ _).alloc (Nat.le_refl _) _
  have hn := norm_own (w0 := w) (xs := [x % W32, x / W32]) hlit hok hb
  rw [hval] at hn
  have q1 : (x : Int) % 4294967296 = ((x % W32 : Nat) : Int) := rfl
  have q2 : (x : Int) / 4294967296 % 4294967296 = ((x / W32 : Nat) : Int) := by
    rw [show (x : Int) / 4294967296 = ((x / W32 : Nat) : Int) from rfl]
    exact Int.emod_eq_of_lt (Int.natCast_nonneg _) (by have : x / W32 < W32 := Nat.div_lt_of_lt_mul h
                                                       unfold W32 at *; omega)
  have Q1 := Lib.hid q1
  have Q2 := Lib.hid q2
  have HN := Lib.hid hn
  clear q1 q2 hn hlit hok hval hb
  go_enter Tryz.func34, Tryz.ntmps34
  go_wp2_with fail
  simp only [Q1.out, Q2.out]
  refine (HN.out).mono ?_
  rintro e w3 ⟨A, c, rfl, ho, hb3⟩
  go_wp2_with fail
  go_ret
  exact ⟨A, c, rfl, ho, hb3⟩

end Go.Proofs.YthilnpfpllplaaaGreatDoor

namespace Go.Proofs.YthilnpfpllplaaaGreatDoor
open Go.RowKit NatP

/-- A number's rest at one limb after the other, the highest first. -/
structure OverTo (xs out : List Nat) (d m rest : Nat) : Prop where
  len : out.length = xs.length
  ok : OkB W32 out
  rlt : rest < d
  zero : ∀ j x, j < m → out[j]? = some x → x = 0
  eq : val xs = val out * d + W32 ^ m * rest + val (xs.take m)
theorem OverTo.start {xs : List Nat} {d : Nat} (hd : 0 < d) : OverTo xs (List.replicate xs.length 0) d xs.length 0 :=
  ⟨by simp, ok_zeros (by decide) _, hd, fun j x _ hx => List.eq_of_mem_replicate (List.mem_of_getElem? hx), by simp [val, val_zeros]⟩
theorem OverTo.step {xs out : List Nat} {d k rest x : Nat} (h : OverTo xs out d (k + 1) rest) (hx : xs[k]? = some x) (hxl : x < W32) :
    OverTo xs (out.set k ((rest * W32 + x) / d)) d k ((rest * W32 + x) % d) := by
  have hk : k < out.length := by rw [h.len]; exact (List.getElem?_eq_some_iff.1 hx).1
  obtain ⟨z, hz⟩ : ∃ z, out[k]? = some z := ⟨_, List.getElem?_eq_getElem hk⟩
  have hz0 := h.zero k z (Nat.lt_succ_self k) hz
  subst hz0
  have hd : 0 < d := by have := h.rlt; omega
  have hq : (rest * W32 + x) / d < W32 := Nat.div_lt_of_lt_mul (by
    have : (rest + 1) * W32 ≤ d * W32 := Nat.mul_le_mul_right _ h.rlt
    rw [Nat.add_mul, Nat.one_mul] at this
    omega)
  refine ⟨by simp [h.len], ok_set h.ok hq, Nat.mod_lt _ hd, fun j y hj hy => ?_, ?_⟩
  · rw [List.getElem?_set_ne (by omega)] at hy
    exact h.zero j y (by omega) hy
  · have e1 := val_set (b := W32) (v := (rest * W32 + x) / d) hz
    have e2 := val_take_succ W32 xs k
    have e3 : xs.getD k 0 = x := by rw [List.getD_eq_getElem?_getD, hx]; rfl
    have e4 := h.eq
    have e5 := Nat.mod_add_div (rest * W32 + x) d
    unfold val at *
    rw [e3] at e2
    rw [e2] at e4
    generalize (rest * W32 + x) / d = q at *
    generalize (rest * W32 + x) % d = r at *
    rw [Nat.mul_zero, Nat.add_zero] at e1
    rw [e1, e4, Nat.pow_succ]
    have e6 : W32 ^ k * (r + d * q) = W32 ^ k * (rest * W32 + x) := by rw [e5]
    rw [Nat.mul_add, Nat.mul_add] at e6
    have e7 : W32 ^ k * (d * q) = W32 ^ k * q * d := by rw [Nat.mul_comm d q, Nat.mul_assoc]
    have e8 : W32 ^ k * (rest * W32) = W32 ^ k * W32 * rest := by rw [Nat.mul_comm rest, Nat.mul_assoc]
    rw [Nat.add_mul]
    omega

end Go.Proofs.YthilnpfpllplaaaGreatDoor

namespace Go.Proofs.YthilnpfpllplaaaGreatDoor
namespace NatP

def dch (d : Nat) : UInt8 := UInt8.ofNat (48 + d)
end NatP
end Go.Proofs.YthilnpfpllplaaaGreatDoor

namespace Go.Proofs.YthilnpfpllplaaaGreatDoor
open Go.RowKit NatP

theorem ok_one {x : Nat} (h : x < W32) : OkB W32 [x] := by intro y hy; simp at hy; subst hy; exact h
/-- The block holds the error that a package tells. -/
def FaultAt (w : World) (b : Nat) (op : ByteArray) (i : Int) (root : Addr) : Prop :=
  w.heap[b]? = some (.cells #[.string op, .int .i64 i, .iface 225 (.pointer (some root))] 90)
/-- The answer is nothing and a new error. -/
def NilErr (w : World) (op : ByteArray) (i : Int) (root : Addr) (e : Ending) (w' : World) : Prop :=
  ∃ b, e = .returned (.tuple #[.slice none 0 0, errV b]) ∧ FaultAt w' b op i root ∧ w.heap.size ≤ b ∧ b < w'.heap.size ∧ Below w.heap.size w w'
/-- The answer is a new number and no error. -/
def NatOk (w : World) (v : Nat) (e : Ending) (w' : World) : Prop :=
  ∃ A c, e = .returned (.tuple #[.slice A (limbs v).length c, .nilIface]) ∧ w'.ownsRow w.heap.size 75 1 (.slice A (limbs v).length c) (limbs v).length ((limbs v).map wv) ∧ Below w.heap.size w w'
end Go.Proofs.YthilnpfpllplaaaGreatDoor

namespace Go.Proofs.YthilnpfpllplaaaGreatDoor
open Go.RowKit NatP

theorem val_lt_pow {n : Nat} {xs : List Nat} (h : OkB W32 xs) (hl : xs.length = n) : val xs < W32 ^ n := by
  have := val_lt w32 h
  rwa [hl] at this
theorem limbs_zero {v : Nat} (h : (limbs v).length = 0) : v = 0 := by
  have : limbs v = [] := List.length_eq_zero_iff.1 h
  exact digs_eq_nil w32 this
theorem limbs_of {l : List Nat} (ho : OkB W32 l) (hn : Norm l) {v : Nat} (h : val l = v) : limbs v = l := by
  rw [← h]; exact digs_val w32 ho hn
theorem lit_words (w : World) (xs : List Nat) (n : Nat) (h : xs.length = n) (hn : n ≤ maxLen) (e : TypeId) : Sl (w.alloc (.cells (xs.map wv).toArray e)) (some ⟨w.heap.size, 0, none⟩) n (xs.map wv) :=
  Sl.of_own (World.ownsRow_lit (base := 0) (e := e) (size := 1) w (xs.map wv).toArray n (Nat.zero_le _) hn (by simp [h]))
theorem nats_b (w : World) (A1 A2 : Option Addr) (n1 n2 c1 c2 : Nat) (xs ys : List Nat) (h1 : Sl w A1 n1 (xs.map wv)) (h2 : Sl w A2 n2 (ys.map wv)) (m1 : n1 ≤ maxLen) :
    Calls Tryz.prog 17 #[.slice A1 n1 c1, .slice A2 n2 c2] w fun e w' => e = .returned (.bool (decide (xs = ys))) ∧ Below w.heap.size w w' :=
  (nats_c w A1 A2 n1 n2 c1 c2 xs ys h1 h2 m1).mono fun e w' ⟨he, q, hq⟩ => ⟨he, by rw [hq]; exact pure_drewN _ _⟩
/-- The slice reads as limbs of value v. -/
def Num (w : World) (A : Option Addr) (n c v : Nat) : Prop := ∃ xs, n ≤ c ∧ c ≤ maxLen ∧ Sl w A n (xs.map wv) ∧ OkB W32 xs ∧ val xs = v
theorem Num.below {w w' : World} {A : Option Addr} {n c v : Nat} (h : Num w A n c v) (hb : Below w.heap.size w w') : Num w' A n c v := by
  obtain ⟨xs, h1, h2, h3, h4, h5⟩ := h
  exact ⟨xs, h1, h2, h3.below hb, h4, h5⟩
theorem Num.alloc {w : World} {A : Option Addr} {n c v : Nat} (h : Num w A n c v) (o : Obj) : Num (w.alloc o) A n c v := by
  obtain ⟨xs, h1, h2, h3, h4, h5⟩ := h
  exact ⟨xs, h1, h2, h3.alloc o, h4, h5⟩
theorem Num.nil (w : World) : Num w none 0 0 0 := ⟨[], Nat.le_refl _, Nat.zero_le _, Sl.nil _ _, fun x hx => by simp at hx, rfl⟩
theorem Num.lt {w : World} {A : Option Addr} {n c v : Nat} (h : Num w A n c v) : v < W32 ^ n := by
  obtain ⟨xs, h1, h2, h3, h4, h5⟩ := h
  rw [← h5]
  exact val_lt_pow h4 (by simpa using h3.1)
theorem Num.len {w : World} {A : Option Addr} {n c v : Nat} (h : Num w A n c v) : (limbs v).length ≤ n := limbs_len_of_lt _ _ h.lt
theorem limbs_add (v u k : Nat) (h1 : (limbs v).length ≤ k) (h2 : (limbs u).length ≤ k) : (limbs (v + u)).length ≤ k + 1 := by
  have a1 := val_lt w32 (ok_limbs v)
  have a2 := val_lt w32 (ok_limbs u)
  rw [show valB W32 (limbs v) = v from val_limbs v] at a1
  rw [show valB W32 (limbs u) = u from val_limbs u] at a2
  have b1 := Nat.pow_le_pow_right (show 0 < W32 by decide) h1
  have b2 := Nat.pow_le_pow_right (show 0 < W32 by decide) h2
  refine limbs_len_of_lt _ _ ?_
  rw [Nat.pow_succ]
  unfold W32 at *
  omega
/-- The answer is a new number, and memory is as it was. -/
def New (w : World) (v : Nat) (e : Ending) (w' : World) : Prop :=
  ∃ A c, e = .returned (.slice A (limbs v).length c) ∧ Num w' A (limbs v).length c v ∧ w'.ownsRow w.heap.size 75 1 (.slice A (limbs v).length c) (limbs v).length ((limbs v).map wv) ∧ Below w.heap.size w w'
theorem num_own {w : World} {base c v : Nat} {A : Option Addr} (h : w.ownsRow base 75 1 (.slice A (limbs v).length c) (limbs v).length ((limbs v).map wv)) : Num w A (limbs v).length c v := by
  obtain ⟨_, _, hv, h1, h2⟩ := own_slice h
  injection hv with hA _ hc
  subst hA hc
  exact ⟨limbs v, h1, h2, Sl.of_own h, ok_limbs v, val_limbs v⟩
theorem New.of {w : World} {v : Nat} {e : Ending} {w' : World} (h : NatIs w v e w') : New w v e w' := by
  obtain ⟨A, c, rfl, ho, hb⟩ := h
  exact ⟨A, c, rfl, num_own ho, ho, hb⟩
theorem add_n {w : World} {A B : Option Addr} {n c m d v u : Nat} (h1 : Num w A n c v) (h2 : Num w B m d u) (m1 : n ≤ 1000000000) (m2 : m ≤ 1000000000) {r : Nat} (hr : v + u = r) :
    Calls Tryz.prog 43 #[.slice A n c, .slice B m d] w fun e w' => New w r e w' := by
  obtain ⟨xs, _, _, s1, o1, rfl⟩ := h1
  obtain ⟨ys, _, _, s2, o2, rfl⟩ := h2
  subst hr
  exact (add_c w A B n m c d xs ys s1 s2 o1 o2 m1 m2).mono fun e w' h => New.of h
theorem mul_n {w : World} {A B : Option Addr} {n c m d v u : Nat} (h1 : Num w A n c v) (h2 : Num w B m d u) (m1 : n ≤ 1000000000) (m2 : m ≤ 1000000000) {r : Nat} (hr : v * u = r) :
    Calls Tryz.prog 33 #[.slice A n c, .slice B m d] w fun e w' => New w r e w' := by
  obtain ⟨xs, _, _, s1, o1, rfl⟩ := h1
  obtain ⟨ys, _, _, s2, o2, rfl⟩ := h2
  subst hr
  exact (mul_c w A B n m c d xs ys s1 s2 o1 o2 m1 m2).mono fun e w' h => New.of h
theorem cmp_n {w : World} {A B : Option Addr} {n c m d v u : Nat} (h1 : Num w A n c v) (h2 : Num w B m d u) {r : Int} (hr : cmpN v u = r) :
    Calls Tryz.prog 32 #[.slice A n c, .slice B m d] w fun e w' => e = .returned (.int .i64 r) ∧ Below w.heap.size w w' := by
  obtain ⟨xs, a1, b1, s1, o1, rfl⟩ := h1
  obtain ⟨ys, a2, b2, s2, o2, rfl⟩ := h2
  subst hr
  exact cmp_c w A B n m c d xs ys s1 s2 o1 o2 a1 b1 a2 b2
/-- A list of slices, as values. -/
def slv (x : Option Addr × Nat × Nat) : Value := .slice x.1 x.2.1 x.2.2
end Go.Proofs.YthilnpfpllplaaaGreatDoor

namespace Go.Proofs.YthilnpfpllplaaaGreatDoor
open Go.RowKit NatP

/-- The list's row, and the words of each number. -/
structure NatsAt (w : World) (B g : Nat) (R : List (Option Addr × Nat × Nat)) (V : List Nat) : Prop where
  lst : w.ownsRow B 38 1 (.slice (some ⟨g, 0, none⟩) V.length V.length) V.length (R.map slv)
  el : ∀ (i : Nat) v, V[i]? = some v → ∃ A c, R[i]? = some (A, (limbs v).length, c) ∧ w.ownsRow B 75 1 (.slice A (limbs v).length c) (limbs v).length ((limbs v).map wv)
namespace NatsAt
variable {w w' : World} {B B' g : Nat} {R : List (Option Addr × Nat × Nat)} {V : List Nat}
theorem len (h : NatsAt w B g R V) : R.length = V.length := by simpa using h.lst.1
theorem base (h : NatsAt w B g R V) (hb : B' ≤ B) : NatsAt w B' g R V :=
  ⟨own_base h.lst hb, fun i v hv => (let ⟨A, c, h1, h2⟩ := h.el i v hv; ⟨A, c, h1, own_base h2 hb⟩)⟩
theorem below (h : NatsAt w B g R V) (hb : Below w.heap.size w w') : NatsAt w' B g R V :=
  ⟨own_below h.lst hb, fun i v hv => (let ⟨A, c, h1, h2⟩ := h.el i v hv; ⟨A, c, h1, own_below h2 hb⟩)⟩
theorem blk (h : NatsAt w B g R V) : ∃ cur, w.heap[g]? = some (.cells cur 38 (0, 0)) := by
  rcases h.lst.2 with ⟨h', _⟩ | ⟨g', cap, cur, h', _, hg, _⟩
  · simp at h'
  · simp only [Value.slice.injEq, Option.some.injEq, Addr.mk.injEq, and_true, true_and] at h'
    obtain ⟨rfl, _⟩ := h'
    exact ⟨cur, hg⟩
theorem lt (h : NatsAt w B g R V) : B ≤ g ∧ g < w.heap.size := h.lst.lt g rfl
theorem at_ (h : NatsAt w B g R V) {i : Nat} (hi : i < V.length) : ∃ A c, R[i]? = some (A, (limbs (V.getD i 0)).length, c) ∧ w.ownsRow B 75 1 (.slice A (limbs (V.getD i 0)).length c) (limbs (V.getD i 0)).length ((limbs (V.getD i 0)).map wv) ∧
    w.cell? ⟨g, i, none⟩ = some (.slice A (limbs (V.getD i 0)).length c) ∧ w.frozen? ⟨g, i, none⟩ = false := by
  have hv : V[i]? = some (V.getD i 0) := by rw [List.getD_eq_getElem?_getD, List.getElem?_eq_getElem hi]; rfl
  obtain ⟨A, c, h1, h2⟩ := h.el i _ hv
  refine ⟨A, c, h1, h2, ?_, h.lst.frozenAt i⟩
  rw [h.lst.cellAt i (by omega), List.getElem?_map, h1]
  rfl
/-- A number stored. -/
theorem put (h : NatsAt w B g R V) {j : Nat} {A : Option Addr} {c v : Nat} (hv : w.ownsRow B 75 1 (.slice A (limbs v).length c) (limbs v).length ((limbs v).map wv)) :
    NatsAt (w.setCell ⟨g, j, none⟩ (.slice A (limbs v).length c)) B g (R.set j (A, (limbs v).length, c)) (V.set j v) := by
  obtain ⟨cur, hb⟩ := h.blk
  have hk := Keeps.of_setCell w ⟨g, j, none⟩ (.slice A (limbs v).length c)
  have keep : ∀ {A' : Option Addr} {c' u : Nat}, w.ownsRow B 75 1 (.slice A' (limbs u).length c') (limbs u).length ((limbs u).map wv) → (w.setCell ⟨g, j, none⟩ (.slice A (limbs v).length c)).ownsRow B 75 1 (.slice A' (limbs u).length c') (limbs u).length ((limbs u).map wv) := fun h2 =>
    own_keeps h2 hk (fun q hq e => by
      have e : q = g := e
      rw [e] at hq
      exact own_ne_blk h2 hb (by decide) hq)
  refine ⟨?_, fun i u hu => ?_⟩
  · have := (h.lst.stored j (.slice A (limbs v).length c)).1
    rw [List.length_set, List.map_set]
    exact this
  · rw [List.getElem?_set] at hu
    by_cases hij : j = i
    · subst hij
      rw [if_pos rfl] at hu
      split at hu
      · rename_i hlt
        cases hu
        exact ⟨A, c, by rw [List.getElem?_set, if_pos rfl, if_pos (by rw [h.len]; exact hlt)], keep hv⟩
      · cases hu
    · rw [if_neg hij] at hu
      obtain ⟨A', c', h1, h2⟩ := h.el i u hu
      exact ⟨A', c', by rw [List.getElem?_set, if_neg hij]; exact h1, keep h2⟩
theorem made (w : World) (n : Nat) (h : n ≤ maxLen) : NatsAt (w.alloc (.cells (madeCells #[.slice none 0 0] n) 38)) w.heap.size w.heap.size (List.replicate n (none, 0, 0)) (List.replicate n 0) := by
  have h1 := World.ownsRow_lit (base := w.heap.size) (e := 38) (size := 1) w (madeCells #[.slice none 0 0] n) n (Nat.le_refl _) h (by rw [size_madeCells]; simp)
  rw [toList_madeCells_one] at h1
  refine ⟨by rw [List.length_replicate, List.map_replicate]; exact h1, fun i v hv => ?_⟩
  rw [List.getElem?_replicate] at hv
  split at hv
  · rename_i hi
    cases hv
    exact ⟨none, 0, by rw [List.getElem?_replicate, if_pos hi]; rfl, World.ownsRow_nil _ _ _ _⟩
  · cases hv
/-- As the sum reads it. -/
theorem sl (h : NatsAt w B g R V) : Sl w (some ⟨g, 0, none⟩) V.length ((R.zip V).map fun x => slv x.1) := by
  have h1 := Sl.of_own h.lst
  have e : (R.zip V).map (fun x => slv x.1) = R.map slv := by
    rw [show (fun x : (Option Addr × Nat × Nat) × Nat => slv x.1) = slv ∘ Prod.fst from rfl, ← List.map_map, List.map_fst_zip (by rw [h.len]; exact Nat.le_refl _)]
  rw [e]
  exact h1
theorem nums (h : NatsAt w B g R V) : ∀ x ∈ R.zip V, Num w x.1.1 x.1.2.1 x.1.2.2 x.2 ∧ x.1.2.1 = (limbs x.2).length := by
  intro x hx
  obtain ⟨i, hi⟩ := List.getElem?_of_mem hx
  rw [List.getElem?_zip_eq_some] at hi
  obtain ⟨A, c, h1, h2⟩ := h.el i _ hi.2
  rw [hi.1] at h1
  have e : x.1 = (A, (limbs x.2).length, c) := Option.some.inj h1
  rw [e]
  exact ⟨num_own h2, rfl⟩
end NatsAt

theorem fromL_n (w : World) (x : Nat) (h : x < 18446744073709551616) : Calls Tryz.prog 34 #[.int .u64 (x : Int)] w fun e w' => New w x e w' := (from_c w x h).mono fun _ _ h => New.of h
def sumVL (R : List ((Option Addr × Nat × Nat) × Nat)) : Nat := (R.map (·.2)).foldr (· + ·) 0
theorem sumVL_snoc (R : List ((Option Addr × Nat × Nat) × Nat)) (x : (Option Addr × Nat × Nat) × Nat) : sumVL (R ++ [x]) = sumVL R + x.2 := by
  induction R with
  | nil => simp [sumVL]
  | cons y R ih => unfold sumVL at ih ⊢; simp only [List.cons_append, List.map_cons, List.foldr_cons] at ih ⊢; omega
theorem sumVL_zip (R : List (Option Addr × Nat × Nat)) (V : List Nat) (h : R.length = V.length) : sumVL (R.zip V) = V.sum := by
  unfold sumVL
  rw [List.map_snd_zip (by omega)]
  rfl
set_option maxRecDepth 100000 in
theorem sumL_c (w : World) (L : Option Addr) (n c : Nat) (R : List ((Option Addr × Nat × Nat) × Nat)) (h : Sl w L n (R.map fun x => slv x.1)) (hn : n ≤ 100000000) (hR : ∀ x ∈ R, Num w x.1.1 x.1.2.1 x.1.2.2 x.2 ∧ x.1.2.1 ≤ 1000000) :
    Calls Tryz.prog 44 #[.slice L n c] w fun e w' => New w (sumVL R) e w' := by
  have hl : R.length = n := by simpa using h.1
  have HL := Lib.hid hl
  have HR := Lib.hid hR
  clear hl hR
  go_enter Tryz.func44, Tryz.ntmps44
  go_wp2_with fail
  go_loopw [3, 8] (fun s i wr => ∃ (k cc : Nat) (B : Option Addr), k ≤ n ∧ i = .int .i64 (k : Int) ∧ s = .slice B (limbs (sumVL (R.take k))).length cc ∧ (limbs (sumVL (R.take k))).length ≤ 1000000 + k ∧ wr.ownsRow w.heap.size 75 1 (.slice B (limbs (sumVL (R.take k))).length cc) (limbs (sumVL (R.take k))).length ((limbs (sumVL (R.take k))).map wv) ∧ Below w.heap.size w wr) (fun _ i _ => n - (intOf i).toNat)
  case atStart => exact ⟨0, 0, none, Nat.zero_le _, rfl, rfl, Nat.zero_le _, ⟨rfl, .inl ⟨rfl, rfl⟩⟩, Below.refl _ _⟩
  case round =>
    obtain ⟨k, cc, B, hk, rfl, rfl, hlen, hown, hb⟩ := hrel
    by_cases hlt : k < n
    · obtain ⟨ad, u, rfl, hxk, hcx⟩ := (h.below hb).at_ hlt
      rw [List.getElem?_map] at hxk
      cases hRk : R[k]? with
      | none => rw [hRk] at hxk; cases hxk
      | some x =>
        obtain ⟨⟨A, m, d⟩, v⟩ := x
        rw [hRk] at hxk
        obtain rfl := Option.some.inj hxk
        simp only [slv] at hcx
        obtain ⟨hx, hm⟩ := HR.out _ (List.mem_of_getElem? hRk)
        simp only at hx hm
        have hs : sumVL (R.take (k + 1)) = sumVL (R.take k) + v := by rw [List.take_add_one, hRk]; exact sumVL_snoc _ _
        have hadd := add_n (num_own hown) (hx.below hb) (by omega) (by omega) (r := sumVL (R.take (k + 1))) hs.symm
        have hl2 : (limbs (sumVL (R.take (k + 1)))).length ≤ 1000000 + (k + 1) := by
          rw [hs]
          exact limbs_add _ _ (1000000 + k) hlen (by have := hx.len; omega)
        have HADD := Lib.hid hadd
        have HL2 := Lib.hid hl2
        clear hs hadd hRk hxk hl2
        go_wp2_with fail
        refine (HADD.out).mono ?_
        rintro e w2 ⟨A2, c2, rfl, _, ho2, hb2⟩
        have hb3 := hb.trans (hb2.mono hb.size)
        have ho3 := own_base ho2 hb.size
        go_wp2_with fail
        exact ⟨⟨k + 1, c2, A2, by omega, by go_num, rfl, HL2.out, ho3, hb3⟩, by simp [intOf]; omega⟩
    · obtain rfl : k = n := by omega
      rw [List.take_of_length_le (by rw [HL.out]; exact Nat.le_refl _)] at hown hlen ⊢
      go_wp2_with fail
      go_ret
      exact ⟨B, cc, rfl, num_own hown, hown, hb⟩
/-- The sum of a list of numbers. -/
theorem sum_nats {w : World} {B g c : Nat} {R : List (Option Addr × Nat × Nat)} {V : List Nat} (h : NatsAt w B g R V) (hn : V.length ≤ 100000000) (hl : ∀ i, (limbs (V.getD i 0)).length ≤ 1000000) :
    Calls Tryz.prog 44 #[.slice (some ⟨g, 0, none⟩) V.length c] w fun e w' => New w V.sum e w' := by
  have := sumL_c w (some ⟨g, 0, none⟩) V.length c (R.zip V) h.sl hn (fun x hx => by
    obtain ⟨h1, h2⟩ := h.nums x hx
    refine ⟨h1, ?_⟩
    rw [h2]
    obtain ⟨i, hi⟩ := List.getElem?_of_mem hx
    rw [List.getElem?_zip_eq_some] at hi
    have := hl i
    rwa [List.getD_eq_getElem?_getD, hi.2] at this)
  rwa [sumVL_zip R V h.len] at this
end Go.Proofs.YthilnpfpllplaaaGreatDoor

namespace Go.Proofs.YthilnpfpllplaaaGreatDoor
open Go.RowKit BagP RuleP SubP NatP

theorem sum_put : ∀ (V : List Nat) (i c : Nat), (V.set i (V.getD i 0 + c)).sum ≤ V.sum + c
  | [], i, c => by simp
  | a :: V, 0, c => by simp [List.sum_cons]; omega
  | a :: V, i + 1, c => by
    have := sum_put V i c
    simp only [List.set_cons_succ, List.getD_cons_succ, List.sum_cons]
    omega
theorem sum_addTo (c : Nat) (V : List Nat) (t : Int) : (addTo c V t).sum ≤ V.sum + c := by
  unfold addTo
  split
  · omega
  · exact sum_put _ _ _
theorem sum_rowV (c : Nat) : ∀ (r : List Int) (V : List Nat), (rowV c V r).sum ≤ V.sum + r.length * c
  | [], V => by rw [rowV_nil]; omega
  | t :: r, V => by
    have h1 := sum_rowV c r (addTo c V t)
    have h2 := sum_addTo c V t
    show (rowV c (addTo c V t) r).sum ≤ _
    rw [List.length_cons, Nat.succ_mul]
    omega
theorem sum_take_succ (V : List Nat) (i : Nat) : (V.take (i + 1)).sum = (V.take i).sum + V.getD i 0 := by
  rw [List.take_add_one, List.sum_append, List.getD_eq_getElem?_getD]
  cases V[i]? <;> simp
theorem sum_stepTo {k : Nat} {F : List (List Int)} (hA : IsAuto k F) (V : List Nat) (hV : V.length = F.length) : ∀ i, i ≤ F.length → (stepTo F V i).sum ≤ k * (V.take i).sum
  | 0, _ => by rw [stepTo]; simp
  | i + 1, hi => by
    have h1 := sum_rowV (V.getD i 0) (F.getD i []) (stepTo F V i)
    have h2 := sum_stepTo hA V hV i (by omega)
    rw [(hA.row (by omega)).1] at h1
    show (rowV _ _ _).sum ≤ _
    rw [sum_take_succ, Nat.mul_add]
    omega
theorem sum_take_le : ∀ (V : List Nat) (i : Nat), (V.take i).sum ≤ V.sum
  | [], i => by simp
  | a :: V, 0 => by simp
  | a :: V, i + 1 => by
    have := sum_take_le V i
    simp only [List.take_succ_cons, List.sum_cons]
    omega
theorem sum_waysV {k : Nat} {F : List (List Int)} (hA : IsAuto k F) : ∀ m, (waysV F m).sum ≤ k ^ m
  | 0 => by
    have h := sum_put (List.replicate F.length 0) 0 1
    have e : (List.replicate F.length 0).getD 0 0 = 0 := by
      rw [List.getD_eq_getElem?_getD, List.getElem?_replicate]
      split <;> rfl
    rw [e] at h
    simp at h
    rw [waysV, Nat.pow_zero]
    simpa using h
  | m + 1 => by
    have h1 := sum_stepTo hA (waysV F m) (waysV_len F m) F.length (Nat.le_refl _)
    rw [List.take_of_length_le (by rw [waysV_len]; exact Nat.le_refl _)] at h1
    rw [waysV, Nat.pow_succ, Nat.mul_comm]
    exact Nat.le_trans h1 (Nat.mul_le_mul_left k (sum_waysV hA m))
theorem getD_le_sum : ∀ (V : List Nat) (i : Nat), V.getD i 0 ≤ V.sum
  | [], i => by simp
  | a :: V, 0 => by simp
  | a :: V, i + 1 => by
    have := getD_le_sum V i
    simp only [List.getD_cons_succ, List.sum_cons]
    omega
theorem pow_fit0 (e f g : Nat) (h : 2 * e < f * g) : 4 ^ e < (2 ^ f) ^ g := by
  rw [← Nat.pow_mul, show (4 : Nat) = 2 ^ 2 from rfl, ← Nat.pow_mul]
  exact Nat.pow_lt_pow_right (by decide) h
theorem pow_fit {e : Nat} (h : e ≤ 257) : 4 ^ e < W32 ^ 17 := pow_fit0 e 32 17 (by omega)
/-- No number on the way takes more than 17 limbs. -/
theorem mid_len {k : Nat} {F : List (List Int)} (hA : IsAuto k F) (hk : k ≤ 4) {m : Nat} (hm : m ≤ 256) {i : Nat} (hi : i < F.length) {s : Nat} (hs : s ≤ k) (j : Nat) :
    (limbs ((rowV ((waysV F m).getD i 0) (stepTo F (waysV F m) i) ((F.getD i []).take s)).getD j 0)).length ≤ 17 := by
  refine limbs_len_of_lt _ _ ?_
  have h1 := sum_rowV ((waysV F m).getD i 0) ((F.getD i []).take s) (stepTo F (waysV F m) i)
  have h2 := sum_stepTo hA (waysV F m) (waysV_len F m) i (by omega)
  have h3 := sum_take_le (waysV F m) (i + 1)
  rw [sum_take_succ] at h3
  have h4 := sum_waysV hA m
  have h5 := getD_le_sum (rowV ((waysV F m).getD i 0) (stepTo F (waysV F m) i) ((F.getD i []).take s)) j
  have h6 : ((F.getD i []).take s).length * (waysV F m).getD i 0 ≤ k * (waysV F m).getD i 0 := Nat.mul_le_mul_right _ (Nat.le_trans (List.length_take_le s _) hs)
  have h7 : k * ((waysV F m).take i).sum + k * (waysV F m).getD i 0 ≤ k * k ^ m := by
    rw [← Nat.mul_add]
    exact Nat.mul_le_mul_left k (Nat.le_trans h3 h4)
  have h8 : k * k ^ m < W32 ^ 17 := by
    rw [Nat.mul_comm, ← Nat.pow_succ]
    exact Nat.lt_of_le_of_lt (Nat.pow_le_pow_left hk _) (pow_fit (by omega))
  omega
theorem ways_len {k : Nat} {F : List (List Int)} (hA : IsAuto k F) (hk : k ≤ 4) {m : Nat} (hm : m ≤ 256) (j : Nat) : (limbs ((waysV F m).getD j 0)).length ≤ 17 := by
  refine limbs_len_of_lt _ _ ?_
  have h1 := getD_le_sum (waysV F m) j
  have h2 := sum_waysV hA m
  have h3 : k ^ m < W32 ^ 17 := Nat.lt_of_le_of_lt (Nat.pow_le_pow_left hk _) (pow_fit (by omega))
  omega
/-- What image.Words answers. -/
noncomputable def wordsF (K R : Int) (T : List Int) (N : Int) : Nat × Option Tale :=
  match (ofF 0 K R T).2.2 with
  | some tl => (0, some tl)
  | none => if N < 0 then (0, some (3, [(sImage, 1)])) else if 256 < N then (0, some (4, [(sImage, 1)])) else ((waysV (ofF 0 K R T).2.1 N.toNat).sum, none)
theorem wordsF_bad {K R N : Int} {T : List Int} {tl : Tale} {kk : Int} {L : List (List Int)} (h : ofF 0 K R T = (kk, L, some tl)) : wordsF K R T N = (0, some tl) := by unfold wordsF; rw [h]
theorem wordsF_neg {K R N : Int} {T : List Int} {kk : Int} {L : List (List Int)} (h : ofF 0 K R T = (kk, L, none)) (hn : N < 0) : wordsF K R T N = (0, some (3, [(sImage, 1)])) := by unfold wordsF; rw [h]; dsimp only; rw [if_pos hn]
theorem wordsF_big {K R N : Int} {T : List Int} {kk : Int} {L : List (List Int)} (h : ofF 0 K R T = (kk, L, none)) (hn : 256 < N) : wordsF K R T N = (0, some (4, [(sImage, 1)])) := by unfold wordsF; rw [h]; dsimp only; rw [if_neg (by omega), if_pos hn]
theorem wordsF_run {K R : Int} {T : List Int} {kk : Int} {L : List (List Int)} (h : ofF 0 K R T = (kk, L, none)) {n : Nat} (hn : n ≤ 256) : wordsF K R T (n : Int) = ((waysV L n).sum, none) := by unfold wordsF; rw [h]; dsimp only; rw [if_neg (by omega), if_neg (by omega), Int.toNat_natCast]
/-- Of the words of a length just those count that have preimages. -/
theorem words_has {k r : Nat} {t : List Nat} {S : St} (hk : 0 < k) (h : fin k (k ^ (2 * r)) t false = .go S []) (n : Nat) :
    (waysV (leastA k S.next) n).sum = (allW k n).countP fun w => !(before k r t w).isEmpty := by
  have hro := fin_rows (Nat.pow_pos hk) h
  have hA := least_auto hro.auto
  rw [ways_same hA, ways_words hA n 0 hA.pos]
  refine List.countP_congr fun w hw => ?_
  have hs := (allW_sym hw).2
  have h1 : (runA (leastA k S.next) 0 w).isSome = (runA S.next 0 w).isSome := least_eqv hro.auto w hs
  have h2 := hro.has hk hs
  unfold okW
  rw [h1, h2]
  cases before k r t w <;> simp
theorem aw_words : wordsF 2 1 [0, 1, 1, 1, 0, 1, 1, 0] 5 = (31, none) := by
  obtain ⟨S, hS⟩ := aw_fin
  have h := wordsF_run (ofF_good aw_rule (by decide) hS) (n := 5) (by decide)
  rw [words_has (by decide) hS] at h
  have e : ((allW 2 5).countP fun w => !(before 2 1 [0, 1, 1, 1, 0, 1, 1, 0] w).isEmpty) = 31 := by decide +kernel
  rw [e] at h
  exact h
end Go.Proofs.YthilnpfpllplaaaGreatDoor
