/- Sums in memory: what bits.Add32 and nat.Add return. Condition: the limbs read from memory. Numbers compared: what nat.Cmp and edenraw.Nats return; nat.Fits, nat.From. Condition: the limbs read from memory. What nat.Low, nat.Fits, nat.From, nat.Sum, nat.Over and edenraw.Nats return. Condition: the limbs read from memory. Products in memory: what nat.Mul returns. Condition: the limbs read from memory. What nat.From, nat.Low, nat.Fits return. Condition: the limbs read from memory. Division in memory: what bits.Div32 and nat.Over return. Condition: the limbs read from memory. Numbers by their value: what the package's functions return, over slices that read as a number. Condition: as said. A list of numbers of any size as the call's own memory holds it: made, read, stored into, added up. Condition: as said. -/
import Derived.BigQuiet
import Derived.Laws.BitsAllLaws
import Derived.Lib.Strings
import Derived.Lib.TrimByte
import Derived.Laws.Strings3
import Derived.Deep.RegionWith
import Derived.Deep.DrawnRows
import Derived.Test.YtibplgpolmplpaaGreatDoorX1
import Derived.Test.YtibplgpolmplpaaGreatDoorX8
namespace Go.Proofs.YtibplgpolmplpaaGreatDoor
open Go.RowKit NatP

/-- The answer is a new number of value v. -/
def NatIs (w : World) (v : Nat) (en : Ending) (w' : World) : Prop :=
  ∃ A c, en = .returned (.slice A (limbs v).length c) ∧ w'.ownsRow w.heap.size 64 1 (.slice A (limbs v).length c) (limbs v).length ((limbs v).map wv) ∧ Below w.heap.size w w'

theorem norm_own {w w0 : World} {A : Option Addr} {n c : Nat} {xs : List Nat} (h : w.ownsRow w0.heap.size 64 1 (.slice A n c) n (xs.map wv)) (ho : OkB W32 xs) (hb : Below w0.heap.size w0 w) :
    Calls Tryz.prog 94 #[.slice A n c] w fun e w' => NatIs w0 (val xs) e w' := by
  obtain ⟨A', c', hv, h1, h2⟩ := own_slice h
  injection hv with _ _ hc
  subst hc
  have hl : xs.length = n := by simpa using h.1
  refine (norm_c w A n c xs (Sl.of_own h) ho h1 h2).mono ?_
  rintro e w' ⟨rfl, rfl⟩
  have hle := limbs_len ho
  have ht := own_take h (m := (limbs (val xs)).length) (by omega)
  refine ⟨A, c, rfl, ?_, hb⟩
  obtain ⟨m, hm, hz, hl'⟩ : ∃ m, m ≤ xs.length ∧ (∀ j x, m ≤ j → xs[j]? = some x → x = 0) ∧ (∀ x, 0 < m → xs[m - 1]? = some x → x ≠ 0) := cut_ex xs
  obtain ⟨e1, e2⟩ := limbs_take ho hm hz hl'
  have e3 : (xs.map wv).take (limbs (val xs)).length = (limbs (val xs)).map wv := by rw [← List.map_take, ← e2, e1]
  rw [e3] at ht
  exact ht

theorem add32_c (w : World) (x y c : Nat) (hx : x < W32) (hy : y < W32) (hc : c ≤ 1) :
    Calls Tryz.prog 123 #[.int .u32 (x : Int), .int .u32 (y : Int), .int .u32 (c : Int)] w fun e w' =>
      e = .returned (.tuple #[.int .u32 (((x + y + c) % W32 : Nat) : Int), .int .u32 (((x + y + c) / W32 : Nat) : Int)]) ∧ w = w' := by
  unfold W32 at *
  go_enter Tryz.func123, Tryz.ntmps123
  go_wp2_with fail
  go_ret2
  exact ⟨by simp, rfl⟩

theorem make_u32 (w : World) (n : Nat) (h : n ≤ maxLen) : (w.alloc (.cells (madeCells #[.int .u32 0] n) 64)).ownsRow w.heap.size 64 1 (.slice (some ⟨w.heap.size, 0, none⟩) n n) n ((List.replicate n 0).map wv) := by
  have := World.ownsRow_lit (base := w.heap.size) (e := 64) (size := 1) w (madeCells #[.int .u32 0] n) n (Nat.le_refl _) h (by rw [size_madeCells]; simp)
  rw [toList_madeCells_one] at this
  rw [List.map_replicate]
  exact this
theorem row_word {w : World} {base e g n cap : Nat} {l : List Nat} (h : w.ownsRow base e 1 (.slice (some ⟨g, 0, none⟩) n cap) n (l.map wv)) {k : Nat} {x : Nat} (hk : k < n) (hx : l[k]? = some x) :
    w.cell? ⟨g, k, none⟩ = some (.int .u32 (x : Int)) := by
  rw [h.cellAt k (by omega), List.getElem?_map, hx]; rfl
theorem set_word {w : World} {base e g n cap : Nat} {l : List Nat} (h : w.ownsRow base e 1 (.slice (some ⟨g, 0, none⟩) n cap) n (l.map wv)) (k x : Nat) :
    (w.setCell ⟨g, k, none⟩ (.int .u32 (x : Int))).ownsRow base e 1 (.slice (some ⟨g, 0, none⟩) n cap) n ((l.set k x).map wv) := by
  rw [List.map_set]
  exact (h.stored k _).1

/-- Behind k limbs of a sum. -/
structure AddTo (xs ys out : List Nat) (k cr : Nat) : Prop where
  ok : OkB W32 out
  zero : ∀ j x, k ≤ j → out[j]? = some x → x = 0
  cr1 : cr ≤ 1
  eq : val out + W32 ^ k * cr = val (xs.take k) + val (ys.take k)
theorem AddTo.step {xs ys out : List Nat} {k cr x : Nat} (h : AddTo xs ys out k cr) (hx : OkB W32 xs) (hy : OkB W32 ys) (hxk : xs[k]? = some x) (hk : k < out.length) :
    AddTo xs ys (out.set k ((x + ys.getD k 0 + cr) % W32)) (k + 1) ((x + ys.getD k 0 + cr) / W32) := by
  obtain ⟨z, hz⟩ : ∃ z, out[k]? = some z := ⟨_, List.getElem?_eq_getElem hk⟩
  have hz0 := h.zero k z (Nat.le_refl _) hz
  subst hz0
  have hxl : x < W32 := hx x (List.mem_of_getElem? hxk)
  have hyl : ys.getD k 0 < W32 := ok_getD (by decide) hy k
  refine ⟨ok_set h.ok (Nat.mod_lt _ (by decide)), fun j y hj hy' => ?_, ?_, ?_⟩
  · rw [List.getElem?_set_ne (by omega)] at hy'
    exact h.zero j y (by omega) hy'
  · have := h.cr1
    unfold W32 at *
    omega
  · have e1 := val_set (b := W32) (v := (x + ys.getD k 0 + cr) % W32) hz
    have e2 := val_take_succ W32 xs k
    have e3 := val_take_succ W32 ys k
    have e4 : xs.getD k 0 = x := by rw [List.getD_eq_getElem?_getD, hxk]; rfl
    have e5 := h.eq
    have e6 := Nat.mod_add_div (x + ys.getD k 0 + cr) W32
    unfold val at *
    rw [e4] at e2
    rw [e2, e3]
    generalize ys.getD k 0 = y at *
    generalize (x + y + cr) % W32 = r at *
    generalize (x + y + cr) / W32 = d at *
    generalize valB W32 (out.set k r) = V at *
    rw [Nat.mul_zero, Nat.add_zero] at e1
    rw [Nat.pow_succ]
    have e7 : W32 ^ k * (r + W32 * d) = W32 ^ k * (x + y + cr) := by rw [e6]
    rw [Nat.mul_add, Nat.mul_add, Nat.mul_add, ← Nat.mul_assoc] at e7
    omega

set_option maxRecDepth 100000 in
set_option maxHeartbeats 1000000 in
theorem add_ge (w : World) (A1 A2 : Option Addr) (n1 n2 c1 c2 : Nat) (xs ys : List Nat) (h1 : Sl w A1 n1 (xs.map wv)) (h2 : Sl w A2 n2 (ys.map wv)) (o1 : OkB W32 xs) (o2 : OkB W32 ys) (hm : n1 ≤ 1000000000) (hle : n2 ≤ n1) :
    Calls Tryz.prog 97 #[.slice A1 n1 c1, .slice A2 n2 c2] w fun e w' => NatIs w (val xs + val ys) e w' := by
  have l1 : xs.length = n1 := by simpa using h1.1
  have l2 : ys.length = n2 := by simpa using h2.1
  have HL1 := Lib.hid l1
  have HL2 := Lib.hid l2
  clear l1 l2
  have hmk := run_make_row' (P := Tryz.prog) 38 64 (.int .u32 0) 4 tNat.und tNat.info rfl .i64 .i64 (n1 + 1) (by omega) (by omega)
  have hmk' : ∀ wz : World, (Instr.makeSlice 38 (.int .i64 ((n1 : Int) + 1)) (.int .i64 ((n1 : Int) + 1))).run Tryz.prog wz = .ok (.slice (some ⟨wz.heap.size, 0, none⟩) (n1 + 1) (n1 + 1)) (wz.alloc (.cells (madeCells #[.int .u32 0] (n1 + 1)) 64)) := hmk
  clear hmk
  have hown0 := make_u32 w (n1 + 1) (by simp only [maxLen]; omega)
  have hdec : decide (n1 < n2) = false := decide_eq_false (by omega)
  go_enter Tryz.func97, Tryz.ntmps97
  go_wp2_with fail
  clear hmk'
  go_loopw [6, 23] (fun cr i wr => ∃ (k c : Nat) (out : List Nat), k ≤ n1 ∧ i = .int .i64 k ∧ cr = .int .u32 (c : Nat) ∧ AddTo xs ys out k c ∧ wr.ownsRow w.heap.size 64 1 (.slice (some ⟨w.heap.size, 0, none⟩) (n1 + 1) (n1 + 1)) (n1 + 1) (out.map wv) ∧ Below w.heap.size w wr) (fun _ i _ => n1 - (intOf i).toNat)
  case atStart => exact ⟨0, 0, _, Nat.zero_le _, rfl, rfl, ⟨ok_zeros (by decide) _, fun j x _ hx => (List.eq_of_mem_replicate (List.mem_of_getElem? hx)), by omega, by simp [val, val_zeros, valB]⟩, hown0, (Below.refl _ _).alloc (Nat.le_refl _) _⟩
  case round =>
    obtain ⟨k, cr, out, hk, rfl, rfl, hA, hown, hb⟩ := hrel
    have hol : out.length = n1 + 1 := by simpa using hown.1
    by_cases hlt : k < n1
    · obtain ⟨ad, x, rfl, hxk, hcx⟩ := (h1.below hb).word_ hlt
      have hstep := hA.step o1 o2 hxk (by omega)
      have hxl := o1 x (List.mem_of_getElem? hxk)
      have hyl : ys.getD k 0 < W32 := ok_getD (by decide) o2 k
      have hc1 := hA.cr1
      obtain ⟨z, hz⟩ : ∃ z, out[k]? = some z := ⟨_, List.getElem?_eq_getElem (by omega)⟩
      have hcell := row_word hown (show k < n1 + 1 by omega) hz
      have hfr := hown.frozenAt k
      have hset := set_word hown k ((x + ys.getD k 0 + cr) % W32)
      have hb2 := hb.setCell (p := ⟨w.heap.size, k, none⟩) (Nat.le_refl _) (.int .u32 (((x + ys.getD k 0 + cr) % W32 : Nat) : Int))
      by_cases hk2 : k < n2
      · obtain ⟨ad2, y, rfl, hyk, hcy⟩ := (h2.below hb).word_ hk2
        have ey : ys.getD k 0 = y := by rw [List.getD_eq_getElem?_getD, hyk]; rfl
        rw [ey] at hstep hyl hset hb2
        have hadd := add32_c wr x y cr hxl hyl hc1
        have HADD := Lib.hid hadd
        have HS := Lib.hid hstep
        clear hadd hstep hxk hyk ey hz hA hown hb
        go_wp2_with fail
        refine (HADD.out).mono ?_
        rintro e w2 ⟨rfl, rfl⟩
        generalize (x + y + cr) % W32 = r at hset hb2 HS ⊢
        generalize (x + y + cr) / W32 = d at HS ⊢
        go_wp2_with fail
        exact ⟨⟨k + 1, d, _, by omega, by go_num, rfl, HS.out, hset, hb2⟩, by simp [intOf]; omega⟩
      · have ey : ys.getD k 0 = 0 := by rw [List.getD_eq_getElem?_getD, List.getElem?_eq_none (by rw [HL2.out]; omega)]; rfl
        rw [ey] at hstep hyl hset hb2
        have hadd := add32_c wr x 0 cr hxl hyl hc1
        have HADD := Lib.hid hadd
        have HS := Lib.hid hstep
        clear hadd hstep hxk ey hz hA hown hb
        go_wp2_with fail
        refine (HADD.out).mono ?_
        rintro e w2 ⟨rfl, rfl⟩
        generalize (x + 0 + cr) % W32 = r at hset hb2 HS ⊢
        generalize (x + 0 + cr) / W32 = d at HS ⊢
        go_wp2_with fail
        exact ⟨⟨k + 1, d, _, by omega, by go_num, rfl, HS.out, hset, hb2⟩, by simp [intOf]; omega⟩
    · obtain rfl : k = n1 := by omega
      obtain ⟨z, hz⟩ : ∃ z, out[k]? = some z := ⟨_, List.getElem?_eq_getElem (by omega)⟩
      have hcell := row_word hown (show k < k + 1 by omega) hz
      have hfr := hown.frozenAt k
      have hset := set_word hown k cr
      have hb2 := hb.setCell (p := ⟨w.heap.size, k, none⟩) (Nat.le_refl _) (.int .u32 (cr : Int))
      have hval : val (out.set k cr) = val xs + val ys := by
        have e1 := val_set (b := W32) (v := cr) hz
        have e2 := hA.eq
        have e3 := hA.zero k z (Nat.le_refl _) hz
        subst e3
        rw [List.take_of_length_le (by rw [HL1.out]; exact Nat.le_refl _), List.take_of_length_le (by rw [HL2.out]; exact hle)] at e2
        unfold val at *
        omega
      have hok : OkB W32 (out.set k cr) := ok_set hA.ok (by have := hA.cr1; unfold W32; omega)
      have HV := Lib.hid hval
      clear hval hz hA hown hb hlt
      go_wp2_with fail
      refine (norm_own hset hok hb2).mono ?_
      rintro e w3 ⟨A, c, rfl, ho, hb3⟩
      go_wp2_with fail
      go_ret
      rw [HV.out] at ho ⊢
      exact ⟨A, c, rfl, ho, hb3⟩

set_option maxRecDepth 100000 in
set_option maxHeartbeats 1000000 in
theorem add_lt (w : World) (A1 A2 : Option Addr) (n1 n2 c1 c2 : Nat) (xs ys : List Nat) (h1 : Sl w A1 n1 (xs.map wv)) (h2 : Sl w A2 n2 (ys.map wv)) (o1 : OkB W32 xs) (o2 : OkB W32 ys) (hm : n1 ≤ 1000000000) (hle' : n2 < n1) :
    Calls Tryz.prog 97 #[.slice A2 n2 c2, .slice A1 n1 c1] w fun e w' => NatIs w (val xs + val ys) e w' := by
  have l1 : xs.length = n1 := by simpa using h1.1
  have l2 : ys.length = n2 := by simpa using h2.1
  have HL1 := Lib.hid l1
  have HL2 := Lib.hid l2
  clear l1 l2
  have hmk := run_make_row' (P := Tryz.prog) 38 64 (.int .u32 0) 4 tNat.und tNat.info rfl .i64 .i64 (n1 + 1) (by omega) (by omega)
  have hmk' : ∀ wz : World, (Instr.makeSlice 38 (.int .i64 ((n1 : Int) + 1)) (.int .i64 ((n1 : Int) + 1))).run Tryz.prog wz = .ok (.slice (some ⟨wz.heap.size, 0, none⟩) (n1 + 1) (n1 + 1)) (wz.alloc (.cells (madeCells #[.int .u32 0] (n1 + 1)) 64)) := hmk
  clear hmk
  have hown0 := make_u32 w (n1 + 1) (by simp only [maxLen]; omega)
  have hdec : decide (n2 < n1) = true := decide_eq_true hle'
  have hle : n2 ≤ n1 := by omega
  go_enter Tryz.func97, Tryz.ntmps97
  go_wp2_with fail
  clear hmk'
  go_loopw [6, 23] (fun cr i wr => ∃ (k c : Nat) (out : List Nat), k ≤ n1 ∧ i = .int .i64 k ∧ cr = .int .u32 (c : Nat) ∧ AddTo xs ys out k c ∧ wr.ownsRow w.heap.size 64 1 (.slice (some ⟨w.heap.size, 0, none⟩) (n1 + 1) (n1 + 1)) (n1 + 1) (out.map wv) ∧ Below w.heap.size w wr) (fun _ i _ => n1 - (intOf i).toNat)
  case atStart => exact ⟨0, 0, _, Nat.zero_le _, rfl, rfl, ⟨ok_zeros (by decide) _, fun j x _ hx => (List.eq_of_mem_replicate (List.mem_of_getElem? hx)), by omega, by simp [val, val_zeros, valB]⟩, hown0, (Below.refl _ _).alloc (Nat.le_refl _) _⟩
  case round =>
    obtain ⟨k, cr, out, hk, rfl, rfl, hA, hown, hb⟩ := hrel
    have hol : out.length = n1 + 1 := by simpa using hown.1
    by_cases hlt : k < n1
    · obtain ⟨ad, x, rfl, hxk, hcx⟩ := (h1.below hb).word_ hlt
      have hstep := hA.step o1 o2 hxk (by omega)
      have hxl := o1 x (List.mem_of_getElem? hxk)
      have hyl : ys.getD k 0 < W32 := ok_getD (by decide) o2 k
      have hc1 := hA.cr1
      obtain ⟨z, hz⟩ : ∃ z, out[k]? = some z := ⟨_, List.getElem?_eq_getElem (by omega)⟩
      have hcell := row_word hown (show k < n1 + 1 by omega) hz
      have hfr := hown.frozenAt k
      have hset := set_word hown k ((x + ys.getD k 0 + cr) % W32)
      have hb2 := hb.setCell (p := ⟨w.heap.size, k, none⟩) (Nat.le_refl _) (.int .u32 (((x + ys.getD k 0 + cr) % W32 : Nat) : Int))
      by_cases hk2 : k < n2
      · obtain ⟨ad2, y, rfl, hyk, hcy⟩ := (h2.below hb).word_ hk2
        have ey : ys.getD k 0 = y := by rw [List.getD_eq_getElem?_getD, hyk]; rfl
        rw [ey] at hstep hyl hset hb2
        have hadd := add32_c wr x y cr hxl hyl hc1
        have HADD := Lib.hid hadd
        have HS := Lib.hid hstep
        clear hadd hstep hxk hyk ey hz hA hown hb
        go_wp2_with fail
        refine (HADD.out).mono ?_
        rintro e w2 ⟨rfl, rfl⟩
        generalize (x + y + cr) % W32 = r at hset hb2 HS ⊢
        generalize (x + y + cr) / W32 = d at HS ⊢
        go_wp2_with fail
        exact ⟨⟨k + 1, d, _, by omega, by go_num, rfl, HS.out, hset, hb2⟩, by simp [intOf]; omega⟩
      · have ey : ys.getD k 0 = 0 := by rw [List.getD_eq_getElem?_getD, List.getElem?_eq_none (by rw [HL2.out]; omega)]; rfl
        rw [ey] at hstep hyl hset hb2
        have hadd := add32_c wr x 0 cr hxl hyl hc1
        have HADD := Lib.hid hadd
        have HS := Lib.hid hstep
        clear hadd hstep hxk ey hz hA hown hb
        go_wp2_with fail
        refine (HADD.out).mono ?_
        rintro e w2 ⟨rfl, rfl⟩
        generalize (x + 0 + cr) % W32 = r at hset hb2 HS ⊢
        generalize (x + 0 + cr) / W32 = d at HS ⊢
        go_wp2_with fail
        exact ⟨⟨k + 1, d, _, by omega, by go_num, rfl, HS.out, hset, hb2⟩, by simp [intOf]; omega⟩
    · obtain rfl : k = n1 := by omega
      obtain ⟨z, hz⟩ : ∃ z, out[k]? = some z := ⟨_, List.getElem?_eq_getElem (by omega)⟩
      have hcell := row_word hown (show k < k + 1 by omega) hz
      have hfr := hown.frozenAt k
      have hset := set_word hown k cr
      have hb2 := hb.setCell (p := ⟨w.heap.size, k, none⟩) (Nat.le_refl _) (.int .u32 (cr : Int))
      have hval : val (out.set k cr) = val xs + val ys := by
        have e1 := val_set (b := W32) (v := cr) hz
        have e2 := hA.eq
        have e3 := hA.zero k z (Nat.le_refl _) hz
        subst e3
        rw [List.take_of_length_le (by rw [HL1.out]; exact Nat.le_refl _), List.take_of_length_le (by rw [HL2.out]; exact hle)] at e2
        unfold val at *
        omega
      have hok : OkB W32 (out.set k cr) := ok_set hA.ok (by have := hA.cr1; unfold W32; omega)
      have HV := Lib.hid hval
      clear hval hz hA hown hb hlt
      go_wp2_with fail
      refine (norm_own hset hok hb2).mono ?_
      rintro e w3 ⟨A, c, rfl, ho, hb3⟩
      go_wp2_with fail
      go_ret
      rw [HV.out] at ho ⊢
      exact ⟨A, c, rfl, ho, hb3⟩

/-- nat.Add. -/
theorem add_c (w : World) (A1 A2 : Option Addr) (n1 n2 c1 c2 : Nat) (xs ys : List Nat) (h1 : Sl w A1 n1 (xs.map wv)) (h2 : Sl w A2 n2 (ys.map wv)) (o1 : OkB W32 xs) (o2 : OkB W32 ys) (m1 : n1 ≤ 1000000000) (m2 : n2 ≤ 1000000000) :
    Calls Tryz.prog 97 #[.slice A1 n1 c1, .slice A2 n2 c2] w fun e w' => NatIs w (val xs + val ys) e w' := by
  by_cases h : n2 ≤ n1
  · exact add_ge w A1 A2 n1 n2 c1 c2 xs ys h1 h2 o1 o2 m1 h
  · rw [Nat.add_comm]
    exact add_lt w A2 A1 n2 n1 c2 c1 ys xs h2 h1 o2 o1 m2 (by omega)

end Go.Proofs.YtibplgpolmplpaaGreatDoor

namespace Go.Proofs.YtibplgpolmplpaaGreatDoor
open Go.RowKit NatP

theorem limbs_len_of_lt : ∀ (k v : Nat), v < W32 ^ k → (limbs v).length ≤ k := by
  intro k
  induction k with
  | zero => intro v h; have : v = 0 := by simpa using h
            subst this; simp [limbs, digs_zero]
  | succ k ih =>
    intro v h
    rcases Nat.eq_zero_or_pos v with rfl | hv
    · simp [limbs, digs_zero]
    · unfold limbs at *
      rw [digs_pos w32 hv, List.length_cons]
      have : v / W32 < W32 ^ k := Nat.div_lt_of_lt_mul (by rw [Nat.mul_comm, ← Nat.pow_succ]; exact h)
      have := ih _ this
      omega
end Go.Proofs.YtibplgpolmplpaaGreatDoor

namespace Go.Proofs.YtibplgpolmplpaaGreatDoor
open Go.RowKit NatP

set_option maxRecDepth 100000 in
set_option maxHeartbeats 1000000 in
theorem nats_c (w : World) (A1 A2 : Option Addr) (n1 n2 c1 c2 : Nat) (xs ys : List Nat) (h1 : Sl w A1 n1 (xs.map wv)) (h2 : Sl w A2 n2 (ys.map wv)) (m1 : n1 ≤ maxLen) :
    Calls Tryz.prog 14 #[.slice A1 n1 c1, .slice A2 n2 c2] w fun e w' => e = .returned (.bool (decide (xs = ys))) ∧ ∃ k, w' = w.drewN k := by
  unfold maxLen at m1
  have l1 : xs.length = n1 := by simpa using h1.1
  have l2 : ys.length = n2 := by simpa using h2.1
  by_cases hn : n1 = n2
  · subst hn
    have HL1 := Lib.hid l1
    have HL2 := Lib.hid l2
    clear l1 l2
    have hne : ((n1 : Int) != (n1 : Int)) = false := by simp
    go_enter Tryz.func14, Tryz.ntmps14
    go_wp2_with fail
    go_loopw [5] (fun i wr => ∃ (k q : Nat), k ≤ n1 ∧ i = .int .i64 (k : Int) ∧ Hid (xs.take k = ys.take k) ∧ wr = w.drewN q) (fun i _ => n1 - (intOf i).toNat)
    case atStart => exact ⟨0, 0, Nat.zero_le _, rfl, Lib.hid rfl, rfl⟩
    case round =>
      obtain ⟨k, q, hk, rfl, he, rfl⟩ := hrel
      by_cases hlt : k < n1
      · obtain ⟨ad, x, rfl, hxk, hcx⟩ := h1.word_ hlt
        obtain ⟨ad2, y, rfl, hyk, hcy⟩ := h2.word_ hlt
        by_cases hxy : x = y
        · subst hxy
          have hdec : ((x : Int) != (x : Int)) = false := by simp
          have he2 : Hid (xs.take (k + 1) = ys.take (k + 1)) := by
            have := he.out
            exact Lib.hid (by rw [List.take_add_one, List.take_add_one, this, hxk, hyk])
          clear hxk hyk he
          go_wp2_with (go_quiet (fail))
          all_goals exact ⟨⟨k + 1, _, by omega, by go_num, he2, by first | rfl | exact World.drewN_drewN _ _ _⟩, by simp [intOf]; omega⟩
        · have hdec : ((x : Int) != (y : Int)) = true := by simp; omega
          have hf : Hid (decide (xs = ys) = false) := Lib.hid (decide_eq_false (fun h => hxy (by rw [h, hyk] at hxk; exact (Option.some.inj hxk).symm)))
          clear hxk hyk he hxy
          go_wp2_with (go_quiet (fail))
          all_goals go_ret
          all_goals exact ⟨by rw [hf.out]; rfl, _, by first | rfl | exact World.drewN_drewN _ _ _⟩
      · obtain rfl : k = n1 := by omega
        have hf : Hid (decide (xs = ys) = true) := by
          have h := he.out
          rw [List.take_of_length_le (by rw [HL1.out]; exact Nat.le_refl _), List.take_of_length_le (by rw [HL2.out]; exact Nat.le_refl _)] at h
          exact Lib.hid (decide_eq_true h)
        clear hk he
        go_wp2_with fail
        go_ret
        exact ⟨by rw [hf.out]; rfl, _, rfl⟩
  · have hne : ((n1 : Int) != (n2 : Int)) = true := by simp; omega
    have hf : Hid (decide (xs = ys) = false) := Lib.hid (decide_eq_false (fun h => hn (by rw [← l1, ← l2, h])))
    clear hn l1 l2
    go_enter Tryz.func14, Tryz.ntmps14
    go_wp2_with fail
    go_ret
    exact ⟨by rw [hf.out]; rfl, 0, rfl⟩

end Go.Proofs.YtibplgpolmplpaaGreatDoor

namespace Go.Proofs.YtibplgpolmplpaaGreatDoor
open Go.RowKit NatP

/-- Behind i limbs of the first factor. -/
structure MulTo (xs ys out : List Nat) (n2 i : Nat) : Prop where
  ok : OkB W32 out
  zero : ∀ j x, i + n2 ≤ j → out[j]? = some x → x = 0
  eq : val out = val (xs.take i) * val ys
/-- And behind j limbs of the second. -/
structure MulIn (xs ys out : List Nat) (n2 i x j cr : Nat) : Prop where
  ok : OkB W32 out
  zero : ∀ j x, i + n2 ≤ j → out[j]? = some x → x = 0
  cr1 : cr < W32
  eq : val out + W32 ^ (i + j) * cr = val (xs.take i) * val ys + W32 ^ i * (x * val (ys.take j))

theorem MulTo.start {xs ys out : List Nat} {n2 i x : Nat} (h : MulTo xs ys out n2 i) : MulIn xs ys out n2 i x 0 0 :=
  ⟨h.ok, h.zero, by decide, by rw [h.eq]; simp [val, valB]⟩
theorem mul_small {x y o c : Nat} (hx : x < W32) (hy : y < W32) (ho : o < W32) (hc : c < W32) : x * y + o + c < W32 * W32 := by
  have h1 : x * y ≤ (W32 - 1) * (W32 - 1) := Nat.mul_le_mul (by omega) (by omega)
  unfold W32 at *
  omega
theorem MulIn.step {xs ys out : List Nat} {n2 i x j cr y o : Nat} (h : MulIn xs ys out n2 i x j cr) (hx : x < W32) (hy : OkB W32 ys) (hyj : ys[j]? = some y) (hjn : j < n2) (hoj : out[i + j]? = some o) :
    MulIn xs ys (out.set (i + j) ((x * y + o + cr) % W32)) n2 i x (j + 1) ((x * y + o + cr) / W32) := by
  have hyl : y < W32 := hy y (List.mem_of_getElem? hyj)
  have hol : o < W32 := h.ok o (List.mem_of_getElem? hoj)
  refine ⟨ok_set h.ok (Nat.mod_lt _ (by decide)), fun k z hk hz => ?_, ?_, ?_⟩
  · rw [List.getElem?_set_ne (by omega)] at hz
    exact h.zero k z hk hz
  · exact Nat.div_lt_of_lt_mul (mul_small hx hyl hol h.cr1)
  · have e1 := val_set (b := W32) (v := (x * y + o + cr) % W32) hoj
    have e3 := val_take_succ W32 ys j
    have e4 : ys.getD j 0 = y := by rw [List.getD_eq_getElem?_getD, hyj]; rfl
    have e5 := h.eq
    have e6 := Nat.mod_add_div (x * y + o + cr) W32
    unfold val at *
    rw [e4] at e3
    rw [e3, Nat.mul_add x, Nat.mul_add (W32 ^ i), ← Nat.add_assoc i, ← Nat.add_assoc (valB W32 (List.take i xs) * valB W32 ys), ← e5, Nat.pow_succ]
    generalize (x * y + o + cr) % W32 = r at *
    generalize (x * y + o + cr) / W32 = d at *
    have e7 : W32 ^ (i + j) * (r + W32 * d) = W32 ^ (i + j) * (x * y + o + cr) := by rw [e6]
    have e8 : W32 ^ i * (x * (W32 ^ j * y)) = W32 ^ (i + j) * (x * y) := by
      rw [Nat.pow_add, Nat.mul_assoc, Nat.mul_left_comm x]
    rw [e8]
    rw [Nat.mul_add, Nat.mul_add, Nat.mul_add, ← Nat.mul_assoc] at e7
    omega
theorem MulIn.stop {xs ys out : List Nat} {n2 i x cr o : Nat} (h : MulIn xs ys out n2 i x n2 cr) (hxi : xs[i]? = some x) (hl : ys.length = n2) (ho : out[i + n2]? = some o) :
    MulTo xs ys (out.set (i + n2) cr) n2 (i + 1) := by
  refine ⟨ok_set h.ok h.cr1, fun k z hk hz => ?_, ?_⟩
  · rw [List.getElem?_set_ne (by omega)] at hz
    exact h.zero k z (by omega) hz
  · have e1 := val_set (b := W32) (v := cr) ho
    have e2 := val_take_succ W32 xs i
    have e4 : xs.getD i 0 = x := by rw [List.getD_eq_getElem?_getD, hxi]; rfl
    have e5 := h.eq
    have e6 := h.zero _ o (Nat.le_refl _) ho
    subst e6
    rw [List.take_of_length_le (l := ys) (by omega)] at e5
    unfold val at *
    rw [e2, e4, Nat.add_mul]
    rw [Nat.mul_zero, Nat.add_zero] at e1
    rw [e1, e5, Nat.mul_assoc]

end Go.Proofs.YtibplgpolmplpaaGreatDoor

namespace Go.Proofs.YtibplgpolmplpaaGreatDoor
open Go.RowKit NatP

set_option maxRecDepth 100000 in
theorem from_c (w : World) (x : Nat) (h : x < 18446744073709551616) :
    Calls Tryz.prog 42 #[.int .u64 (x : Int)] w fun e w' => NatIs w x e w' := by
  have hlit := World.ownsRow_lit (base := w.heap.size) (e := 64) (size := 1) w #[.int .u32 ((x % W32 : Nat) : Int), .int .u32 ((x / W32 : Nat) : Int)] 2 (Nat.le_refl _) (by decide) rfl
  have hok : OkB W32 [x % W32, x / W32] := by
    intro y hy
    simp at hy
    rcases hy with rfl | rfl
    · exact Nat.mod_lt _ (by decide)
    · exact Nat.div_lt_of_lt_mul h
  have hval : val [x % W32, x / W32] = x := by
    simp only [val, valB, Nat.mul_zero, Nat.add_zero]
    exact Nat.mod_add_div x W32
  have hb : Below w.heap.size w (w.alloc (.cells #[.int .u32 ((x % W32 : Nat) : Int), .int .u32 ((x / W32 : Nat) : Int)] 64)) := (Below.refl _ _).alloc (Nat.le_refl _) _
  have hn := norm_own (w0 := w) (xs := [x % W32, x / W32]) hlit hok hb
  rw [hval] at hn
  have q1 : (x : Int) % 4294967296 = ((x % W32 : Nat) : Int) := rfl
  have q2 : (x : Int) / 4294967296 % 4294967296 = ((x / W32 : Nat) : Int) := by
    rw [show (x : Int) / 4294967296 = ((x / W32 : Nat) : Int) from rfl]
    exact Int.emod_eq_of_lt (Int.natCast_nonneg _) (by have : x / W32 < W32 := Nat.div_lt_of_lt_mul h
                                                       unfold W32 at *; omega)
  have Q1 := Lib.hid q1
  have Q2 := Lib.hid q2
  have HN := Lib.hid hn
  clear q1 q2 hn hlit hok hval hb
  go_enter Tryz.func42, Tryz.ntmps42
  go_wp2_with fail
  simp only [Q1.out]
  refine (HN.out).mono ?_
  rintro e w3 ⟨A, c, rfl, ho, hb3⟩
  go_wp2_with fail
  go_ret
  exact ⟨A, c, rfl, ho, hb3⟩

end Go.Proofs.YtibplgpolmplpaaGreatDoor

namespace Go.Proofs.YtibplgpolmplpaaGreatDoor
open Go.RowKit NatP

/-- A number's rest at one limb after the other, the highest first. -/
structure OverTo (xs out : List Nat) (d m rest : Nat) : Prop where
  len : out.length = xs.length
  ok : OkB W32 out
  rlt : rest < d
  zero : ∀ j x, j < m → out[j]? = some x → x = 0
  eq : val xs = val out * d + W32 ^ m * rest + val (xs.take m)
theorem OverTo.start {xs : List Nat} {d : Nat} (hd : 0 < d) : OverTo xs (List.replicate xs.length 0) d xs.length 0 :=
  ⟨by simp, ok_zeros (by decide) _, hd, fun j x _ hx => List.eq_of_mem_replicate (List.mem_of_getElem? hx), by simp [val, val_zeros]⟩
theorem OverTo.step {xs out : List Nat} {d k rest x : Nat} (h : OverTo xs out d (k + 1) rest) (hx : xs[k]? = some x) (hxl : x < W32) :
    OverTo xs (out.set k ((rest * W32 + x) / d)) d k ((rest * W32 + x) % d) := by
  have hk : k < out.length := by rw [h.len]; exact (List.getElem?_eq_some_iff.1 hx).1
  obtain ⟨z, hz⟩ : ∃ z, out[k]? = some z := ⟨_, List.getElem?_eq_getElem hk⟩
  have hz0 := h.zero k z (Nat.lt_succ_self k) hz
  subst hz0
  have hd : 0 < d := by have := h.rlt; omega
  have hq : (rest * W32 + x) / d < W32 := Nat.div_lt_of_lt_mul (by
    have : (rest + 1) * W32 ≤ d * W32 := Nat.mul_le_mul_right _ h.rlt
    rw [Nat.add_mul, Nat.one_mul] at this
    omega)
  refine ⟨by simp [h.len], ok_set h.ok hq, Nat.mod_lt _ hd, fun j y hj hy => ?_, ?_⟩
  · rw [List.getElem?_set_ne (by omega)] at hy
    exact h.zero j y (by omega) hy
  · have e1 := val_set (b := W32) (v := (rest * W32 + x) / d) hz
    have e2 := val_take_succ W32 xs k
    have e3 : xs.getD k 0 = x := by rw [List.getD_eq_getElem?_getD, hx]; rfl
    have e4 := h.eq
    have e5 := Nat.mod_add_div (rest * W32 + x) d
    unfold val at *
    rw [e3] at e2
    rw [e2] at e4
    generalize (rest * W32 + x) / d = q at *
    generalize (rest * W32 + x) % d = r at *
    rw [Nat.mul_zero, Nat.add_zero] at e1
    rw [e1, e4, Nat.pow_succ]
    have e6 : W32 ^ k * (r + d * q) = W32 ^ k * (rest * W32 + x) := by rw [e5]
    rw [Nat.mul_add, Nat.mul_add] at e6
    have e7 : W32 ^ k * (d * q) = W32 ^ k * q * d := by rw [Nat.mul_comm d q, Nat.mul_assoc]
    have e8 : W32 ^ k * (rest * W32) = W32 ^ k * W32 * rest := by rw [Nat.mul_comm rest, Nat.mul_assoc]
    rw [Nat.add_mul]
    omega

end Go.Proofs.YtibplgpolmplpaaGreatDoor

namespace Go.Proofs.YtibplgpolmplpaaGreatDoor
open Go.RowKit NatP

theorem val_lt_pow {n : Nat} {xs : List Nat} (h : OkB W32 xs) (hl : xs.length = n) : val xs < W32 ^ n := by
  have := val_lt w32 h
  rwa [hl] at this
theorem limbs_zero {v : Nat} (h : (limbs v).length = 0) : v = 0 := by
  have : limbs v = [] := List.length_eq_zero_iff.1 h
  exact digs_eq_nil w32 this
theorem nats_b (w : World) (A1 A2 : Option Addr) (n1 n2 c1 c2 : Nat) (xs ys : List Nat) (h1 : Sl w A1 n1 (xs.map wv)) (h2 : Sl w A2 n2 (ys.map wv)) (m1 : n1 ≤ maxLen) :
    Calls Tryz.prog 14 #[.slice A1 n1 c1, .slice A2 n2 c2] w fun e w' => e = .returned (.bool (decide (xs = ys))) ∧ Below w.heap.size w w' :=
  (nats_c w A1 A2 n1 n2 c1 c2 xs ys h1 h2 m1).mono fun e w' ⟨he, q, hq⟩ => ⟨he, by rw [hq]; exact pure_drewN _ _⟩
/-- The slice reads as limbs of value v. -/
def Num (w : World) (A : Option Addr) (n c v : Nat) : Prop := ∃ xs, n ≤ c ∧ c ≤ maxLen ∧ Sl w A n (xs.map wv) ∧ OkB W32 xs ∧ val xs = v
theorem Num.below {w w' : World} {A : Option Addr} {n c v : Nat} (h : Num w A n c v) (hb : Below w.heap.size w w') : Num w' A n c v := by
  obtain ⟨xs, h1, h2, h3, h4, h5⟩ := h
  exact ⟨xs, h1, h2, h3.below hb, h4, h5⟩
theorem Num.alloc {w : World} {A : Option Addr} {n c v : Nat} (h : Num w A n c v) (o : Obj) : Num (w.alloc o) A n c v := by
  obtain ⟨xs, h1, h2, h3, h4, h5⟩ := h
  exact ⟨xs, h1, h2, h3.alloc o, h4, h5⟩
theorem Num.nil (w : World) : Num w none 0 0 0 := ⟨[], Nat.le_refl _, Nat.zero_le _, Sl.nil _ _, fun x hx => by simp at hx, rfl⟩
theorem Num.lt {w : World} {A : Option Addr} {n c v : Nat} (h : Num w A n c v) : v < W32 ^ n := by
  obtain ⟨xs, h1, h2, h3, h4, h5⟩ := h
  rw [← h5]
  exact val_lt_pow h4 (by simpa using h3.1)
theorem Num.len {w : World} {A : Option Addr} {n c v : Nat} (h : Num w A n c v) : (limbs v).length ≤ n := limbs_len_of_lt _ _ h.lt
theorem limbs_add (v u k : Nat) (h1 : (limbs v).length ≤ k) (h2 : (limbs u).length ≤ k) : (limbs (v + u)).length ≤ k + 1 := by
  have a1 := val_lt w32 (ok_limbs v)
  have a2 := val_lt w32 (ok_limbs u)
  rw [show valB W32 (limbs v) = v from val_limbs v] at a1
  rw [show valB W32 (limbs u) = u from val_limbs u] at a2
  have b1 := Nat.pow_le_pow_right (show 0 < W32 by decide) h1
  have b2 := Nat.pow_le_pow_right (show 0 < W32 by decide) h2
  refine limbs_len_of_lt _ _ ?_
  rw [Nat.pow_succ]
  unfold W32 at *
  omega
/-- The answer is a new number, and memory is as it was. -/
def New (w : World) (v : Nat) (e : Ending) (w' : World) : Prop :=
  ∃ A c, e = .returned (.slice A (limbs v).length c) ∧ Num w' A (limbs v).length c v ∧ w'.ownsRow w.heap.size 64 1 (.slice A (limbs v).length c) (limbs v).length ((limbs v).map wv) ∧ Below w.heap.size w w'
theorem num_own {w : World} {base c v : Nat} {A : Option Addr} (h : w.ownsRow base 64 1 (.slice A (limbs v).length c) (limbs v).length ((limbs v).map wv)) : Num w A (limbs v).length c v := by
  obtain ⟨_, _, hv, h1, h2⟩ := own_slice h
  injection hv with hA _ hc
  subst hA hc
  exact ⟨limbs v, h1, h2, Sl.of_own h, ok_limbs v, val_limbs v⟩
theorem New.of {w : World} {v : Nat} {e : Ending} {w' : World} (h : NatIs w v e w') : New w v e w' := by
  obtain ⟨A, c, rfl, ho, hb⟩ := h
  exact ⟨A, c, rfl, num_own ho, ho, hb⟩
theorem add_n {w : World} {A B : Option Addr} {n c m d v u : Nat} (h1 : Num w A n c v) (h2 : Num w B m d u) (m1 : n ≤ 1000000000) (m2 : m ≤ 1000000000) {r : Nat} (hr : v + u = r) :
    Calls Tryz.prog 97 #[.slice A n c, .slice B m d] w fun e w' => New w r e w' := by
  obtain ⟨xs, _, _, s1, o1, rfl⟩ := h1
  obtain ⟨ys, _, _, s2, o2, rfl⟩ := h2
  subst hr
  exact (add_c w A B n m c d xs ys s1 s2 o1 o2 m1 m2).mono fun e w' h => New.of h
/-- A list of slices, as values. -/
def slv (x : Option Addr × Nat × Nat) : Value := .slice x.1 x.2.1 x.2.2
end Go.Proofs.YtibplgpolmplpaaGreatDoor

namespace Go.Proofs.YtibplgpolmplpaaGreatDoor
open Go.RowKit NatP

/-- The list's row, and the words of each number. -/
structure NatsAt (w : World) (B g : Nat) (R : List (Option Addr × Nat × Nat)) (V : List Nat) : Prop where
  lst : w.ownsRow B 38 1 (.slice (some ⟨g, 0, none⟩) V.length V.length) V.length (R.map slv)
  el : ∀ (i : Nat) v, V[i]? = some v → ∃ A c, R[i]? = some (A, (limbs v).length, c) ∧ w.ownsRow B 64 1 (.slice A (limbs v).length c) (limbs v).length ((limbs v).map wv)
namespace NatsAt
variable {w w' : World} {B B' g : Nat} {R : List (Option Addr × Nat × Nat)} {V : List Nat}
theorem len (h : NatsAt w B g R V) : R.length = V.length := by simpa using h.lst.1
theorem base (h : NatsAt w B g R V) (hb : B' ≤ B) : NatsAt w B' g R V :=
  ⟨own_base h.lst hb, fun i v hv => (let ⟨A, c, h1, h2⟩ := h.el i v hv; ⟨A, c, h1, own_base h2 hb⟩)⟩
theorem below (h : NatsAt w B g R V) (hb : Below w.heap.size w w') : NatsAt w' B g R V :=
  ⟨own_below h.lst hb, fun i v hv => (let ⟨A, c, h1, h2⟩ := h.el i v hv; ⟨A, c, h1, own_below h2 hb⟩)⟩
theorem blk (h : NatsAt w B g R V) : ∃ cur, w.heap[g]? = some (.cells cur 38 (0, 0)) := by
  rcases h.lst.2 with ⟨h', _⟩ | ⟨g', cap, cur, h', _, hg, _⟩
  · simp at h'
  · simp only [Value.slice.injEq, Option.some.injEq, Addr.mk.injEq, and_true, true_and] at h'
    obtain ⟨rfl, _⟩ := h'
    exact ⟨cur, hg⟩
theorem lt (h : NatsAt w B g R V) : B ≤ g ∧ g < w.heap.size := h.lst.lt g rfl
theorem at_ (h : NatsAt w B g R V) {i : Nat} (hi : i < V.length) : ∃ A c, R[i]? = some (A, (limbs (V.getD i 0)).length, c) ∧ w.ownsRow B 64 1 (.slice A (limbs (V.getD i 0)).length c) (limbs (V.getD i 0)).length ((limbs (V.getD i 0)).map wv) ∧
    w.cell? ⟨g, i, none⟩ = some (.slice A (limbs (V.getD i 0)).length c) ∧ w.frozen? ⟨g, i, none⟩ = false := by
  have hv : V[i]? = some (V.getD i 0) := by rw [List.getD_eq_getElem?_getD, List.getElem?_eq_getElem hi]; rfl
  obtain ⟨A, c, h1, h2⟩ := h.el i _ hv
  refine ⟨A, c, h1, h2, ?_, h.lst.frozenAt i⟩
  rw [h.lst.cellAt i (by omega), List.getElem?_map, h1]
  rfl
/-- A number stored. -/
theorem put (h : NatsAt w B g R V) {j : Nat} {A : Option Addr} {c v : Nat} (hv : w.ownsRow B 64 1 (.slice A (limbs v).length c) (limbs v).length ((limbs v).map wv)) :
    NatsAt (w.setCell ⟨g, j, none⟩ (.slice A (limbs v).length c)) B g (R.set j (A, (limbs v).length, c)) (V.set j v) := by
  obtain ⟨cur, hb⟩ := h.blk
  have hk := Keeps.of_setCell w ⟨g, j, none⟩ (.slice A (limbs v).length c)
  have keep : ∀ {A' : Option Addr} {c' u : Nat}, w.ownsRow B 64 1 (.slice A' (limbs u).length c') (limbs u).length ((limbs u).map wv) → (w.setCell ⟨g, j, none⟩ (.slice A (limbs v).length c)).ownsRow B 64 1 (.slice A' (limbs u).length c') (limbs u).length ((limbs u).map wv) := fun h2 =>
    own_keeps h2 hk (fun q hq e => by
      have e : q = g := e
      rw [e] at hq
      exact own_ne_blk h2 hb (by decide) hq)
  refine ⟨?_, fun i u hu => ?_⟩
  · have := (h.lst.stored j (.slice A (limbs v).length c)).1
    rw [List.length_set, List.map_set]
    exact this
  · rw [List.getElem?_set] at hu
    by_cases hij : j = i
    · subst hij
      rw [if_pos rfl] at hu
      split at hu
      · rename_i hlt
        cases hu
        exact ⟨A, c, by rw [List.getElem?_set, if_pos rfl, if_pos (by rw [h.len]; exact hlt)], keep hv⟩
      · cases hu
    · rw [if_neg hij] at hu
      obtain ⟨A', c', h1, h2⟩ := h.el i u hu
      exact ⟨A', c', by rw [List.getElem?_set, if_neg hij]; exact h1, keep h2⟩
theorem made (w : World) (n : Nat) (h : n ≤ maxLen) : NatsAt (w.alloc (.cells (madeCells #[.slice none 0 0] n) 38)) w.heap.size w.heap.size (List.replicate n (none, 0, 0)) (List.replicate n 0) := by
  have h1 := World.ownsRow_lit (base := w.heap.size) (e := 38) (size := 1) w (madeCells #[.slice none 0 0] n) n (Nat.le_refl _) h (by rw [size_madeCells]; simp)
  rw [toList_madeCells_one] at h1
  refine ⟨by rw [List.length_replicate, List.map_replicate]; exact h1, fun i v hv => ?_⟩
  rw [List.getElem?_replicate] at hv
  split at hv
  · rename_i hi
    cases hv
    exact ⟨none, 0, by rw [List.getElem?_replicate, if_pos hi]; rfl, World.ownsRow_nil _ _ _ _⟩
  · cases hv
/-- As the sum reads it. -/
theorem sl (h : NatsAt w B g R V) : Sl w (some ⟨g, 0, none⟩) V.length ((R.zip V).map fun x => slv x.1) := by
  have h1 := Sl.of_own h.lst
  have e : (R.zip V).map (fun x => slv x.1) = R.map slv := by
    rw [show (fun x : (Option Addr × Nat × Nat) × Nat => slv x.1) = slv ∘ Prod.fst from rfl, ← List.map_map, List.map_fst_zip (by rw [h.len]; exact Nat.le_refl _)]
  rw [e]
  exact h1
theorem nums (h : NatsAt w B g R V) : ∀ x ∈ R.zip V, Num w x.1.1 x.1.2.1 x.1.2.2 x.2 ∧ x.1.2.1 = (limbs x.2).length := by
  intro x hx
  obtain ⟨i, hi⟩ := List.getElem?_of_mem hx
  rw [List.getElem?_zip_eq_some] at hi
  obtain ⟨A, c, h1, h2⟩ := h.el i _ hi.2
  rw [hi.1] at h1
  have e : x.1 = (A, (limbs x.2).length, c) := Option.some.inj h1
  rw [e]
  exact ⟨num_own h2, rfl⟩
end NatsAt

theorem fromL_n (w : World) (x : Nat) (h : x < 18446744073709551616) : Calls Tryz.prog 42 #[.int .u64 (x : Int)] w fun e w' => New w x e w' := (from_c w x h).mono fun _ _ h => New.of h
def sumVL (R : List ((Option Addr × Nat × Nat) × Nat)) : Nat := (R.map (·.2)).foldr (· + ·) 0
theorem sumVL_snoc (R : List ((Option Addr × Nat × Nat) × Nat)) (x : (Option Addr × Nat × Nat) × Nat) : sumVL (R ++ [x]) = sumVL R + x.2 := by
  induction R with
  | nil => simp [sumVL]
  | cons y R ih => unfold sumVL at ih ⊢; simp only [List.cons_append, List.map_cons, List.foldr_cons] at ih ⊢; omega
theorem sumVL_zip (R : List (Option Addr × Nat × Nat)) (V : List Nat) (h : R.length = V.length) : sumVL (R.zip V) = V.sum := by
  unfold sumVL
  rw [List.map_snd_zip (by omega)]
  rfl
set_option maxRecDepth 100000 in
theorem sumL_c (w : World) (L : Option Addr) (n c : Nat) (R : List ((Option Addr × Nat × Nat) × Nat)) (h : Sl w L n (R.map fun x => slv x.1)) (hn : n ≤ 100000000) (hR : ∀ x ∈ R, Num w x.1.1 x.1.2.1 x.1.2.2 x.2 ∧ x.1.2.1 ≤ 1000000) :
    Calls Tryz.prog 89 #[.slice L n c] w fun e w' => New w (sumVL R) e w' := by
  have hl : R.length = n := by simpa using h.1
  have HL := Lib.hid hl
  have HR := Lib.hid hR
  clear hl hR
  go_enter Tryz.func89, Tryz.ntmps89
  go_wp2_with fail
  go_loopw [3, 8] (fun s i wr => ∃ (k cc : Nat) (B : Option Addr), k ≤ n ∧ i = .int .i64 (k : Int) ∧ s = .slice B (limbs (sumVL (R.take k))).length cc ∧ (limbs (sumVL (R.take k))).length ≤ 1000000 + k ∧ wr.ownsRow w.heap.size 64 1 (.slice B (limbs (sumVL (R.take k))).length cc) (limbs (sumVL (R.take k))).length ((limbs (sumVL (R.take k))).map wv) ∧ Below w.heap.size w wr) (fun _ i _ => n - (intOf i).toNat)
  case atStart => exact ⟨0, 0, none, Nat.zero_le _, rfl, rfl, Nat.zero_le _, ⟨rfl, .inl ⟨rfl, rfl⟩⟩, Below.refl _ _⟩
  case round =>
    obtain ⟨k, cc, B, hk, rfl, rfl, hlen, hown, hb⟩ := hrel
    by_cases hlt : k < n
    · obtain ⟨ad, u, rfl, hxk, hcx⟩ := (h.below hb).at_ hlt
      rw [List.getElem?_map] at hxk
      cases hRk : R[k]? with
      | none => rw [hRk] at hxk; cases hxk
      | some x =>
        obtain ⟨⟨A, m, d⟩, v⟩ := x
        rw [hRk] at hxk
        obtain rfl := Option.some.inj hxk
        simp only [slv] at hcx
        obtain ⟨hx, hm⟩ := HR.out _ (List.mem_of_getElem? hRk)
        simp only at hx hm
        have hs : sumVL (R.take (k + 1)) = sumVL (R.take k) + v := by rw [List.take_add_one, hRk]; exact sumVL_snoc _ _
        have hadd := add_n (num_own hown) (hx.below hb) (by omega) (by omega) (r := sumVL (R.take (k + 1))) hs.symm
        have hl2 : (limbs (sumVL (R.take (k + 1)))).length ≤ 1000000 + (k + 1) := by
          rw [hs]
          exact limbs_add _ _ (1000000 + k) hlen (by have := hx.len; omega)
        have HADD := Lib.hid hadd
        have HL2 := Lib.hid hl2
        clear hs hadd hRk hxk hl2
        go_wp2_with fail
        refine (HADD.out).mono ?_
        rintro e w2 ⟨A2, c2, rfl, _, ho2, hb2⟩
        have hb3 := hb.trans (hb2.mono hb.size)
        have ho3 := own_base ho2 hb.size
        go_wp2_with fail
        exact ⟨⟨k + 1, c2, A2, by omega, by go_num, rfl, HL2.out, ho3, hb3⟩, by simp [intOf]; omega⟩
    · obtain rfl : k = n := by omega
      rw [List.take_of_length_le (by rw [HL.out]; exact Nat.le_refl _)] at hown hlen ⊢
      go_wp2_with fail
      go_ret
      exact ⟨B, cc, rfl, num_own hown, hown, hb⟩
/-- The sum of a list of numbers. -/
theorem sum_nats {w : World} {B g c : Nat} {R : List (Option Addr × Nat × Nat)} {V : List Nat} (h : NatsAt w B g R V) (hn : V.length ≤ 100000000) (hl : ∀ i, (limbs (V.getD i 0)).length ≤ 1000000) :
    Calls Tryz.prog 89 #[.slice (some ⟨g, 0, none⟩) V.length c] w fun e w' => New w V.sum e w' := by
  have := sumL_c w (some ⟨g, 0, none⟩) V.length c (R.zip V) h.sl hn (fun x hx => by
    obtain ⟨h1, h2⟩ := h.nums x hx
    refine ⟨h1, ?_⟩
    rw [h2]
    obtain ⟨i, hi⟩ := List.getElem?_of_mem hx
    rw [List.getElem?_zip_eq_some] at hi
    have := hl i
    rwa [List.getD_eq_getElem?_getD, hi.2] at this)
  rwa [sumVL_zip R V h.len] at this
end Go.Proofs.YtibplgpolmplpaaGreatDoor
