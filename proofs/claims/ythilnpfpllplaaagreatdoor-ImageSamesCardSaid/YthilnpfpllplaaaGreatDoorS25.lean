/- Numbers in memory: what nat.norm, nat.From, nat.Add return. Condition: the limbs read from memory. Sums in memory: what bits.Add32 and nat.Add return. Condition: the limbs read from memory. Numbers compared: what nat.Cmp and edenraw.Nats return; nat.Fits, nat.From. Condition: the limbs read from memory. What nat.Low, nat.Fits, nat.From, nat.Sum, nat.Over and edenraw.Nats return. Condition: the limbs read from memory. -/
import Derived.IntWalk
import Derived.BigQuiet
import Derived.Test.YthilnpfpllplaaaGreatDoorS1
import Derived.Test.YthilnpfpllplaaaGreatDoorS4
namespace Go.Proofs.YthilnpfpllplaaaGreatDoor
open Go.RowKit NatP

def wv (x : Nat) : Value := .int .u32 (x : Int)
abbrev W32 : Nat := 4294967296
def limbs (v : Nat) : List Nat := digs W32 v
def val (l : List Nat) : Nat := valB W32 l
theorem w32 : 2 ≤ W32 := by decide
theorem val_limbs (v : Nat) : val (limbs v) = v := val_digs w32 v
theorem ok_limbs (v : Nat) : OkB W32 (limbs v) := ok_digs w32 v
theorem limbs_len {xs : List Nat} (h : OkB W32 xs) : (limbs (val xs)).length ≤ xs.length := length_digs_le w32 h
theorem limbs_take {xs : List Nat} (h : OkB W32 xs) {m : Nat} (hm : m ≤ xs.length) (hz : ∀ j x, m ≤ j → xs[j]? = some x → x = 0) (hl : ∀ x, 0 < m → xs[m - 1]? = some x → x ≠ 0) : xs.take m = limbs (val xs) ∧ m = (limbs (val xs)).length := by
  have e := cut_eq w32 h hm hz hl
  refine ⟨e, ?_⟩
  unfold limbs val
  rw [← e, List.length_take, Nat.min_eq_left hm]

theorem own_take {w : World} {base e n c m : Nat} {A : Option Addr} {xs : List Value} (h : w.ownsRow base e 1 (.slice A n c) n xs) (hm : m ≤ n) : w.ownsRow base e 1 (.slice A m c) m (xs.take m) := by
  have hl : xs.length = n := by simpa using h.1
  refine ⟨by simp; omega, ?_⟩
  rcases h.2 with ⟨hv, hn⟩ | ⟨g, cap, cur, hv, hb, hg, hnc, hcm, hsz, htake⟩
  · injection hv with h1 h2 h3
    subst h1 h3 hn
    exact .inl ⟨by rw [show m = 0 from by omega], by omega⟩
  · injection hv with h1 h2 h3
    subst h1 h3
    refine .inr ⟨g, c, cur, rfl, hb, hg, by omega, hcm, hsz, ?_⟩
    rw [← htake, List.take_take]
    congr 1
    omega
theorem sl_take {w : World} {A : Option Addr} {n m : Nat} {xs : List Value} (h : Sl w A n xs) (hm : m ≤ n) : Sl w A m (xs.take m) := by
  refine ⟨by simp; have := h.1; omega, fun k v hv => ?_⟩
  rw [List.getElem?_take] at hv
  split at hv
  · exact h.2 k v hv
  · cases hv

set_option maxHeartbeats 400000 in
theorem norm_c (w : World) (A : Option Addr) (n c : Nat) (xs : List Nat) (h : Sl w A n (xs.map wv)) (ho : OkB W32 xs) (hc : n ≤ c) (hm : c ≤ maxLen) :
    Calls Tryz.prog 63 #[.slice A n c] w fun e w' => e = .returned (.slice A (limbs (val xs)).length c) ∧ w = w' := by
  unfold maxLen at hm
  have hl : xs.length = n := by simpa using h.1
  have HL := Lib.hid hl
  clear hl
  go_enter Tryz.func63, Tryz.ntmps63
  go_wp2_with fail
  go_loop [0] (fun a => ∃ m : Nat, m ≤ n ∧ a = .slice A m c ∧ ∀ (j x : Nat), m ≤ j → xs[j]? = some x → x = 0) (fun a => match a with | .slice _ k _ => k | _ => 0)
  case atStart => exact ⟨n, Nat.le_refl _, rfl, fun j x hj hx => by rw [List.getElem?_eq_none (by rw [HL.out]; exact hj)] at hx; cases hx⟩
  case round =>
    obtain ⟨m, hmn, rfl, hz⟩ := hrel
    have HZ := Lib.hid hz
    clear hz
    cases m with
    | zero =>
      have e := limbs_take ho (Nat.zero_le _) HZ.out (fun x h0 => absurd h0 (by omega))
      have E := Lib.hid e.2
      clear e
      go_wp2_with fail
      go_ret
      exact ⟨by rw [← E.out]; rfl, rfl⟩
    | succ k =>
      obtain ⟨ad, x, rfl, hxk, hcx⟩ := h.word_ (show k < n by omega)
      have HX := Lib.hid hxk
      clear hxk
      by_cases hx0 : x = 0
      · subst hx0
        have t : (((0 : Nat) : Int) == 0) = true := rfl
        go_wp2_with fail
        refine ⟨⟨k, by omega, rfl, fun j x hj hx => ?_⟩, Nat.lt_succ_self k⟩
        rcases Nat.lt_or_ge k j with hjk | hjk
        · exact HZ.out j x hjk hx
        · obtain rfl : j = k := by omega
          rw [HX.out] at hx
          exact (Option.some.inj hx).symm
      · have t : ((x : Int) == 0) = false := by simp; exact hx0
        have e := limbs_take ho (m := k + 1) (by rw [HL.out]; omega) HZ.out (fun y _ hy => by
          rw [Nat.add_sub_cancel, HX.out] at hy
          rw [← Option.some.inj hy]
          exact hx0)
        have E := Lib.hid e.2
        clear e hx0
        go_wp2_with fail
        go_ret
        exact ⟨by rw [← E.out]; rfl, rfl⟩

end Go.Proofs.YthilnpfpllplaaaGreatDoor

namespace Go.Proofs.YthilnpfpllplaaaGreatDoor
open Go.RowKit NatP

/-- The answer is a new number of value v. -/
def NatIs (w : World) (v : Nat) (en : Ending) (w' : World) : Prop :=
  ∃ A c, en = .returned (.slice A (limbs v).length c) ∧ w'.ownsRow w.heap.size 75 1 (.slice A (limbs v).length c) (limbs v).length ((limbs v).map wv) ∧ Below w.heap.size w w'

theorem norm_own {w w0 : World} {A : Option Addr} {n c : Nat} {xs : List Nat} (h : w.ownsRow w0.heap.size 75 1 (.slice A n c) n (xs.map wv)) (ho : OkB W32 xs) (hb : Below w0.heap.size w0 w) :
    Calls Tryz.prog 63 #[.slice A n c] w fun e w' => NatIs w0 (val xs) e w' := by
  obtain ⟨A', c', hv, h1, h2⟩ := own_slice h
  injection hv with _ _ hc
  subst hc
  have hl : xs.length = n := by simpa using h.1
  refine (norm_c w A n c xs (Sl.of_own h) ho h1 h2).mono ?_
  rintro e w' ⟨rfl, rfl⟩
  have hle := limbs_len ho
  have ht := own_take h (m := (limbs (val xs)).length) (by omega)
  refine ⟨A, c, rfl, ?_, hb⟩
  obtain ⟨m, hm, hz, hl'⟩ : ∃ m, m ≤ xs.length ∧ (∀ j x, m ≤ j → xs[j]? = some x → x = 0) ∧ (∀ x, 0 < m → xs[m - 1]? = some x → x ≠ 0) := cut_ex xs
  obtain ⟨e1, e2⟩ := limbs_take ho hm hz hl'
  have e3 : (xs.map wv).take (limbs (val xs)).length = (limbs (val xs)).map wv := by rw [← List.map_take, ← e2, e1]
  rw [e3] at ht
  exact ht

theorem add32_c (w : World) (x y c : Nat) (hx : x < W32) (hy : y < W32) (hc : c ≤ 1) :
    Calls Tryz.prog 76 #[.int .u32 (x : Int), .int .u32 (y : Int), .int .u32 (c : Int)] w fun e w' =>
      e = .returned (.tuple #[.int .u32 (((x + y + c) % W32 : Nat) : Int), .int .u32 (((x + y + c) / W32 : Nat) : Int)]) ∧ w = w' := by
  unfold W32 at *
  go_enter Tryz.func76, Tryz.ntmps76
  go_wp2_with fail
  go_ret2
  exact ⟨by simp, rfl⟩

theorem make_u32 (w : World) (n : Nat) (h : n ≤ maxLen) : (w.alloc (.cells (madeCells #[.int .u32 0] n) 75)).ownsRow w.heap.size 75 1 (.slice (some ⟨w.heap.size, 0, none⟩) n n) n ((List.replicate n 0).map wv) := by
  have := World.ownsRow_lit (base := w.heap.size) (e := 75) (size := 1) w (madeCells #[.int .u32 0] n) n (Nat.le_refl _) h (by rw [size_madeCells]; simp)
  rw [toList_madeCells_one] at this
  rw [List.map_replicate]
  exact this
theorem row_word {w : World} {base e g n cap : Nat} {l : List Nat} (h : w.ownsRow base e 1 (.slice (some ⟨g, 0, none⟩) n cap) n (l.map wv)) {k : Nat} {x : Nat} (hk : k < n) (hx : l[k]? = some x) :
    w.cell? ⟨g, k, none⟩ = some (.int .u32 (x : Int)) := by
  rw [h.cellAt k (by omega), List.getElem?_map, hx]; rfl
theorem set_word {w : World} {base e g n cap : Nat} {l : List Nat} (h : w.ownsRow base e 1 (.slice (some ⟨g, 0, none⟩) n cap) n (l.map wv)) (k x : Nat) :
    (w.setCell ⟨g, k, none⟩ (.int .u32 (x : Int))).ownsRow base e 1 (.slice (some ⟨g, 0, none⟩) n cap) n ((l.set k x).map wv) := by
  rw [List.map_set]
  exact (h.stored k _).1

/-- Behind k limbs of a sum. -/
structure AddTo (xs ys out : List Nat) (k cr : Nat) : Prop where
  ok : OkB W32 out
  zero : ∀ j x, k ≤ j → out[j]? = some x → x = 0
  cr1 : cr ≤ 1
  eq : val out + W32 ^ k * cr = val (xs.take k) + val (ys.take k)
theorem AddTo.step {xs ys out : List Nat} {k cr x : Nat} (h : AddTo xs ys out k cr) (hx : OkB W32 xs) (hy : OkB W32 ys) (hxk : xs[k]? = some x) (hk : k < out.length) :
    AddTo xs ys (out.set k ((x + ys.getD k 0 + cr) % W32)) (k + 1) ((x + ys.getD k 0 + cr) / W32) := by
  obtain ⟨z, hz⟩ : ∃ z, out[k]? = some z := ⟨_, List.getElem?_eq_getElem hk⟩
  have hz0 := h.zero k z (Nat.le_refl _) hz
  subst hz0
  have hxl : x < W32 := hx x (List.mem_of_getElem? hxk)
  have hyl : ys.getD k 0 < W32 := ok_getD (by decide) hy k
  refine ⟨ok_set h.ok (Nat.mod_lt _ (by decide)), fun j y hj hy' => ?_, ?_, ?_⟩
  · rw [List.getElem?_set_ne (by omega)] at hy'
    exact h.zero j y (by omega) hy'
  · have := h.cr1
    unfold W32 at *
    omega
  · have e1 := val_set (b := W32) (v := (x + ys.getD k 0 + cr) % W32) hz
    have e2 := val_take_succ W32 xs k
    have e3 := val_take_succ W32 ys k
    have e4 : xs.getD k 0 = x := by rw [List.getD_eq_getElem?_getD, hxk]; rfl
    have e5 := h.eq
    have e6 := Nat.mod_add_div (x + ys.getD k 0 + cr) W32
    unfold val at *
    rw [e4] at e2
    rw [e2, e3]
    generalize ys.getD k 0 = y at *
    generalize (x + y + cr) % W32 = r at *
    generalize (x + y + cr) / W32 = d at *
    generalize valB W32 (out.set k r) = V at *
    rw [Nat.mul_zero, Nat.add_zero] at e1
    rw [Nat.pow_succ]
    have e7 : W32 ^ k * (r + W32 * d) = W32 ^ k * (x + y + cr) := by rw [e6]
    rw [Nat.mul_add, Nat.mul_add, Nat.mul_add, ← Nat.mul_assoc] at e7
    omega

set_option maxRecDepth 100000 in
set_option maxHeartbeats 1000000 in
theorem add_ge (w : World) (A1 A2 : Option Addr) (n1 n2 c1 c2 : Nat) (xs ys : List Nat) (h1 : Sl w A1 n1 (xs.map wv)) (h2 : Sl w A2 n2 (ys.map wv)) (o1 : OkB W32 xs) (o2 : OkB W32 ys) (hm : n1 ≤ 1000000000) (hle : n2 ≤ n1) :
    Calls Tryz.prog 43 #[.slice A1 n1 c1, .slice A2 n2 c2] w fun e w' => NatIs w (val xs + val ys) e w' := by
  have l1 : xs.length = n1 := by simpa using h1.1
  have l2 : ys.length = n2 := by simpa using h2.1
  have HL1 := Lib.hid l1
  have HL2 := Lib.hid l2
  clear l1 l2
  have hmk := run_make_row' (P := Tryz.prog) 38 75 (.int .u32 0) 4 tNat.und tNat.info rfl .i64 .i64 (n1 + 1) (by omega) (by omega)
  have hmk' : ∀ wz : World, (Instr.makeSlice 38 (.int .i64 ((n1 : Int) + 1)) (.int .i64 ((n1 : Int) + 1))).run Tryz.prog wz = .ok (.slice (some ⟨wz.heap.size, 0, none⟩) (n1 + 1) (n1 + 1)) (wz.alloc (.cells (madeCells #[.int .u32 0] (n1 + 1)) 75)) := hmk
  clear hmk
  have hown0 := make_u32 w (n1 + 1) (by simp only [maxLen]; omega)
  have hdec : decide (n1 < n2) = false := decide_eq_false (by omega)
  go_enter Tryz.func43, Tryz.ntmps43
  go_wp2_with fail
  clear hmk'
  go_loopw [6, 23] (fun cr i wr => ∃ (k c : Nat) (out : List Nat), k ≤ n1 ∧ i = .int .i64 k ∧ cr = .int .u32 (c : Nat) ∧ AddTo xs ys out k c ∧ wr.ownsRow w.heap.size 75 1 (.slice (some ⟨w.heap.size, 0, none⟩) (n1 + 1) (n1 + 1)) (n1 + 1) (out.map wv) ∧ Below w.heap.size w wr) (fun _ i _ => n1 - (intOf i).toNat)
  case atStart => exact ⟨0, 0, _, Nat.zero_le _, rfl, rfl, ⟨ok_zeros (by decide) _, fun j x _ hx => (List.eq_of_mem_replicate (List.mem_of_getElem? hx)), by omega, by simp [val, val_zeros, valB]⟩, hown0, (Below.refl _ _).alloc (Nat.le_refl _) _⟩
  case round =>
    obtain ⟨k, cr, out, hk, rfl, rfl, hA, hown, hb⟩ := hrel
    have hol : out.length = n1 + 1 := by simpa using hown.1
    by_cases hlt : k < n1
    · obtain ⟨ad, x, rfl, hxk, hcx⟩ := (h1.below hb).word_ hlt
      have hstep := hA.step o1 o2 hxk (by omega)
      have hxl := o1 x (List.mem_of_getElem? hxk)
      have hyl : ys.getD k 0 < W32 := ok_getD (by decide) o2 k
      have hc1 := hA.cr1
      obtain ⟨z, hz⟩ : ∃ z, out[k]? = some z := ⟨_, List.getElem?_eq_getElem (by omega)⟩
      have hcell := row_word hown (show k < n1 + 1 by omega) hz
      have hfr := hown.frozenAt k
      have hset := set_word hown k ((x + ys.getD k 0 + cr) % W32)
      have hb2 := hb.setCell (p := ⟨w.heap.size, k, none⟩) (Nat.le_refl _) (.int .u32 (((x + ys.getD k 0 + cr) % W32 : Nat) : Int))
      by_cases hk2 : k < n2
      · obtain ⟨ad2, y, rfl, hyk, hcy⟩ := (h2.below hb).word_ hk2
        have ey : ys.getD k 0 = y := by rw [List.getD_eq_getElem?_getD, hyk]; rfl
        rw [ey] at hstep hyl hset hb2
        have hadd := add32_c wr x y cr hxl hyl hc1
        have HADD := Lib.hid hadd
        have HS := Lib.hid hstep
        clear hadd hstep hxk hyk ey hz hA hown hb
        go_wp2_with fail
        refine (HADD.out).mono ?_
        rintro e w2 ⟨rfl, rfl⟩
        generalize (x + y + cr) % W32 = r at hset hb2 HS ⊢
        generalize (x + y + cr) / W32 = d at HS ⊢
        go_wp2_with fail
        exact ⟨⟨k + 1, d, _, by omega, by go_num, rfl, HS.out, hset, hb2⟩, by simp [intOf]; omega⟩
      · have ey : ys.getD k 0 = 0 := by rw [List.getD_eq_getElem?_getD, List.getElem?_eq_none (by rw [HL2.out]; omega)]; rfl
        rw [ey] at hstep hyl hset hb2
        have hadd := add32_c wr x 0 cr hxl hyl hc1
        have HADD := Lib.hid hadd
        have HS := Lib.hid hstep
        clear hadd hstep hxk ey hz hA hown hb
        go_wp2_with fail
        refine (HADD.out).mono ?_
        rintro e w2 ⟨rfl, rfl⟩
        generalize (x + 0 + cr) % W32 = r at hset hb2 HS ⊢
        generalize (x + 0 + cr) / W32 = d at HS ⊢
        go_wp2_with fail
        exact ⟨⟨k + 1, d, _, by omega, by go_num, rfl, HS.out, hset, hb2⟩, by simp [intOf]; omega⟩
    · obtain rfl : k = n1 := by omega
      obtain ⟨z, hz⟩ : ∃ z, out[k]? = some z := ⟨_, List.getElem?_eq_getElem (by omega)⟩
      have hcell := row_word hown (show k < k + 1 by omega) hz
      have hfr := hown.frozenAt k
      have hset := set_word hown k cr
      have hb2 := hb.setCell (p := ⟨w.heap.size, k, none⟩) (Nat.le_refl _) (.int .u32 (cr : Int))
      have hval : val (out.set k cr) = val xs + val ys := by
        have e1 := val_set (b := W32) (v := cr) hz
        have e2 := hA.eq
        have e3 := hA.zero k z (Nat.le_refl _) hz
        subst e3
        rw [List.take_of_length_le (by rw [HL1.out]; exact Nat.le_refl _), List.take_of_length_le (by rw [HL2.out]; exact hle)] at e2
        unfold val at *
        omega
      have hok : OkB W32 (out.set k cr) := ok_set hA.ok (by have := hA.cr1; unfold W32; omega)
      have HV := Lib.hid hval
      clear hval hz hA hown hb hlt
      go_wp2_with fail
      refine (norm_own hset hok hb2).mono ?_
      rintro e w3 ⟨A, c, rfl, ho, hb3⟩
      go_wp2_with fail
      go_ret
      rw [HV.out] at ho ⊢
      exact ⟨A, c, rfl, ho, hb3⟩

set_option maxRecDepth 100000 in
set_option maxHeartbeats 1000000 in
theorem add_lt (w : World) (A1 A2 : Option Addr) (n1 n2 c1 c2 : Nat) (xs ys : List Nat) (h1 : Sl w A1 n1 (xs.map wv)) (h2 : Sl w A2 n2 (ys.map wv)) (o1 : OkB W32 xs) (o2 : OkB W32 ys) (hm : n1 ≤ 1000000000) (hle' : n2 < n1) :
    Calls Tryz.prog 43 #[.slice A2 n2 c2, .slice A1 n1 c1] w fun e w' => NatIs w (val xs + val ys) e w' := by
  have l1 : xs.length = n1 := by simpa using h1.1
  have l2 : ys.length = n2 := by simpa using h2.1
  have HL1 := Lib.hid l1
  have HL2 := Lib.hid l2
  clear l1 l2
  have hmk := run_make_row' (P := Tryz.prog) 38 75 (.int .u32 0) 4 tNat.und tNat.info rfl .i64 .i64 (n1 + 1) (by omega) (by omega)
  have hmk' : ∀ wz : World, (Instr.makeSlice 38 (.int .i64 ((n1 : Int) + 1)) (.int .i64 ((n1 : Int) + 1))).run Tryz.prog wz = .ok (.slice (some ⟨wz.heap.size, 0, none⟩) (n1 + 1) (n1 + 1)) (wz.alloc (.cells (madeCells #[.int .u32 0] (n1 + 1)) 75)) := hmk
  clear hmk
  have hown0 := make_u32 w (n1 + 1) (by simp only [maxLen]; omega)
  have hdec : decide (n2 < n1) = true := decide_eq_true hle'
  have hle : n2 ≤ n1 := by omega
  go_enter Tryz.func43, Tryz.ntmps43
  go_wp2_with fail
  clear hmk'
  go_loopw [6, 23] (fun cr i wr => ∃ (k c : Nat) (out : List Nat), k ≤ n1 ∧ i = .int .i64 k ∧ cr = .int .u32 (c : Nat) ∧ AddTo xs ys out k c ∧ wr.ownsRow w.heap.size 75 1 (.slice (some ⟨w.heap.size, 0, none⟩) (n1 + 1) (n1 + 1)) (n1 + 1) (out.map wv) ∧ Below w.heap.size w wr) (fun _ i _ => n1 - (intOf i).toNat)
  case atStart => exact ⟨0, 0, _, Nat.zero_le _, rfl, rfl, ⟨ok_zeros (by decide) _, fun j x _ hx => (List.eq_of_mem_replicate (List.mem_of_getElem? hx)), by omega, by simp [val, val_zeros, valB]⟩, hown0, (Below.refl _ _).alloc (Nat.le_refl _) _⟩
  case round =>
    obtain ⟨k, cr, out, hk, rfl, rfl, hA, hown, hb⟩ := hrel
    have hol : out.length = n1 + 1 := by simpa using hown.1
    by_cases hlt : k < n1
    · obtain ⟨ad, x, rfl, hxk, hcx⟩ := (h1.below hb).word_ hlt
      have hstep := hA.step o1 o2 hxk (by omega)
      have hxl := o1 x (List.mem_of_getElem? hxk)
      have hyl : ys.getD k 0 < W32 := ok_getD (by decide) o2 k
      have hc1 := hA.cr1
      obtain ⟨z, hz⟩ : ∃ z, out[k]? = some z := ⟨_, List.getElem?_eq_getElem (by omega)⟩
      have hcell := row_word hown (show k < n1 + 1 by omega) hz
      have hfr := hown.frozenAt k
      have hset := set_word hown k ((x + ys.getD k 0 + cr) % W32)
      have hb2 := hb.setCell (p := ⟨w.heap.size, k, none⟩) (Nat.le_refl _) (.int .u32 (((x + ys.getD k 0 + cr) % W32 : Nat) : Int))
      by_cases hk2 : k < n2
      · obtain ⟨ad2, y, rfl, hyk, hcy⟩ := (h2.below hb).word_ hk2
        have ey : ys.getD k 0 = y := by rw [List.getD_eq_getElem?_getD, hyk]; rfl
        rw [ey] at hstep hyl hset hb2
        have hadd := add32_c wr x y cr hxl hyl hc1
        have HADD := Lib.hid hadd
        have HS := Lib.hid hstep
        clear hadd hstep hxk hyk ey hz hA hown hb
        go_wp2_with fail
        refine (HADD.out).mono ?_
        rintro e w2 ⟨rfl, rfl⟩
        generalize (x + y + cr) % W32 = r at hset hb2 HS ⊢
        generalize (x + y + cr) / W32 = d at HS ⊢
        go_wp2_with fail
        exact ⟨⟨k + 1, d, _, by omega, by go_num, rfl, HS.out, hset, hb2⟩, by simp [intOf]; omega⟩
      · have ey : ys.getD k 0 = 0 := by rw [List.getD_eq_getElem?_getD, List.getElem?_eq_none (by rw [HL2.out]; omega)]; rfl
        rw [ey] at hstep hyl hset hb2
        have hadd := add32_c wr x 0 cr hxl hyl hc1
        have HADD := Lib.hid hadd
        have HS := Lib.hid hstep
        clear hadd hstep hxk ey hz hA hown hb
        go_wp2_with fail
        refine (HADD.out).mono ?_
        rintro e w2 ⟨rfl, rfl⟩
        generalize (x + 0 + cr) % W32 = r at hset hb2 HS ⊢
        generalize (x + 0 + cr) / W32 = d at HS ⊢
        go_wp2_with fail
        exact ⟨⟨k + 1, d, _, by omega, by go_num, rfl, HS.out, hset, hb2⟩, by simp [intOf]; omega⟩
    · obtain rfl : k = n1 := by omega
      obtain ⟨z, hz⟩ : ∃ z, out[k]? = some z := ⟨_, List.getElem?_eq_getElem (by omega)⟩
      have hcell := row_word hown (show k < k + 1 by omega) hz
      have hfr := hown.frozenAt k
      have hset := set_word hown k cr
      have hb2 := hb.setCell (p := ⟨w.heap.size, k, none⟩) (Nat.le_refl _) (.int .u32 (cr : Int))
      have hval : val (out.set k cr) = val xs + val ys := by
        have e1 := val_set (b := W32) (v := cr) hz
        have e2 := hA.eq
        have e3 := hA.zero k z (Nat.le_refl _) hz
        subst e3
        rw [List.take_of_length_le (by rw [HL1.out]; exact Nat.le_refl _), List.take_of_length_le (by rw [HL2.out]; exact hle)] at e2
        unfold val at *
        omega
      have hok : OkB W32 (out.set k cr) := ok_set hA.ok (by have := hA.cr1; unfold W32; omega)
      have HV := Lib.hid hval
      clear hval hz hA hown hb hlt
      go_wp2_with fail
      refine (norm_own hset hok hb2).mono ?_
      rintro e w3 ⟨A, c, rfl, ho, hb3⟩
      go_wp2_with fail
      go_ret
      rw [HV.out] at ho ⊢
      exact ⟨A, c, rfl, ho, hb3⟩

/-- nat.Add. -/
theorem add_c (w : World) (A1 A2 : Option Addr) (n1 n2 c1 c2 : Nat) (xs ys : List Nat) (h1 : Sl w A1 n1 (xs.map wv)) (h2 : Sl w A2 n2 (ys.map wv)) (o1 : OkB W32 xs) (o2 : OkB W32 ys) (m1 : n1 ≤ 1000000000) (m2 : n2 ≤ 1000000000) :
    Calls Tryz.prog 43 #[.slice A1 n1 c1, .slice A2 n2 c2] w fun e w' => NatIs w (val xs + val ys) e w' := by
  by_cases h : n2 ≤ n1
  · exact add_ge w A1 A2 n1 n2 c1 c2 xs ys h1 h2 o1 o2 m1 h
  · rw [Nat.add_comm]
    exact add_lt w A2 A1 n2 n1 c2 c1 ys xs h2 h1 o2 o1 m2 (by omega)

end Go.Proofs.YthilnpfpllplaaaGreatDoor

namespace Go.Proofs.YthilnpfpllplaaaGreatDoor
open Go.RowKit NatP

theorem sl_norm {w : World} {A : Option Addr} {n : Nat} {xs : List Nat} (h : Sl w A n (xs.map wv)) (ho : OkB W32 xs) : Sl w A (limbs (val xs)).length ((limbs (val xs)).map wv) := by
  have hl : xs.length = n := by simpa using h.1
  obtain ⟨m, hm, hz, hl'⟩ : ∃ m, m ≤ xs.length ∧ (∀ j x, m ≤ j → xs[j]? = some x → x = 0) ∧ (∀ x, 0 < m → xs[m - 1]? = some x → x ≠ 0) := cut_ex xs
  obtain ⟨e1, e2⟩ := limbs_take ho hm hz hl'
  have e3 : (xs.map wv).take (limbs (val xs)).length = (limbs (val xs)).map wv := by rw [← List.map_take, ← e2, e1]
  have ht := sl_take h (m := (limbs (val xs)).length) (by have := limbs_len ho; omega)
  rw [e3] at ht
  exact ht
theorem limbs_len_of_lt : ∀ (k v : Nat), v < W32 ^ k → (limbs v).length ≤ k := by
  intro k
  induction k with
  | zero => intro v h; have : v = 0 := by simpa using h
            subst this; simp [limbs, digs_zero]
  | succ k ih =>
    intro v h
    rcases Nat.eq_zero_or_pos v with rfl | hv
    · simp [limbs, digs_zero]
    · unfold limbs at *
      rw [digs_pos w32 hv, List.length_cons]
      have : v / W32 < W32 ^ k := Nat.div_lt_of_lt_mul (by rw [Nat.mul_comm, ← Nat.pow_succ]; exact h)
      have := ih _ this
      omega
theorem lt_of_len {v u : Nat} (h : (limbs v).length < (limbs u).length) : v < u := by
  rcases Nat.lt_or_ge v u with h1 | h1
  · exact h1
  · have h2 : v < W32 ^ (limbs v).length := by
      have := val_lt w32 (ok_limbs v)
      rwa [show valB W32 (limbs v) = v from val_limbs v] at this
    have := limbs_len_of_lt (limbs v).length u (by omega)
    omega
theorem lt_at {xs ys : List Nat} (ox : OkB W32 xs) (k : Nat) {x y : Nat} (hx : xs[k]? = some x) (hy : ys[k]? = some y) (hd : xs.drop (k + 1) = ys.drop (k + 1)) (h : x < y) : val xs < val ys := by
  have hkx : k < xs.length := (List.getElem?_eq_some_iff.1 hx).1
  have hky : k < ys.length := (List.getElem?_eq_some_iff.1 hy).1
  have part : ∀ (l : List Nat) (z : Nat), l[k]? = some z → val l = val (l.take k) + W32 ^ k * (z + W32 * val (l.drop (k + 1))) := by
    intro l z hz
    have hk : k < l.length := (List.getElem?_eq_some_iff.1 hz).1
    have e : l = l.take k ++ z :: l.drop (k + 1) := by
      have := List.drop_eq_getElem_cons hk
      have hz' : l[k] = z := (List.getElem?_eq_some_iff.1 hz).2
      rw [hz'] at this
      rw [← this, List.take_append_drop]
    have e2 := congrArg (valB W32) e
    rw [val_append, List.length_take, Nat.min_eq_left (Nat.le_of_lt hk)] at e2
    exact e2
  have e1 := part xs x hx
  have e2 := part ys y hy
  have e3 : val (xs.take k) < W32 ^ k := by
    have := val_lt w32 (ok_take ox k)
    rwa [List.length_take, Nat.min_eq_left (Nat.le_of_lt hkx)] at this
  rw [hd] at e1
  have e4 : W32 ^ k * (x + W32 * val (ys.drop (k + 1)) + 1) ≤ W32 ^ k * (y + W32 * val (ys.drop (k + 1))) := Nat.mul_le_mul (Nat.le_refl _) (by omega)
  rw [Nat.mul_add _ _ 1, Nat.mul_one] at e4
  omega

/-- How two numbers compare. -/
def cmpN (v u : Nat) : Int := if v < u then -1 else if u < v then 1 else 0
theorem cmpN_lt {v u : Nat} (h : v < u) : cmpN v u = -1 := if_pos h
theorem cmpN_gt {v u : Nat} (h : u < v) : cmpN v u = 1 := by unfold cmpN; rw [if_neg (by omega), if_pos h]
theorem cmpN_eq (v : Nat) : cmpN v v = 0 := by unfold cmpN; simp

theorem drop_eq_cons {l m : List Nat} {k x : Nat} (hl : l[k]? = some x) (hm : m[k]? = some x) (h : l.drop (k + 1) = m.drop (k + 1)) : l.drop k = m.drop k := by
  obtain ⟨h1, e1⟩ := List.getElem?_eq_some_iff.1 hl
  obtain ⟨h2, e2⟩ := List.getElem?_eq_some_iff.1 hm
  rw [List.drop_eq_getElem_cons h1, List.drop_eq_getElem_cons h2, e1, e2, h]

set_option maxRecDepth 100000 in
set_option maxHeartbeats 1000000 in
theorem cmp_c (w : World) (A1 A2 : Option Addr) (n1 n2 c1 c2 : Nat) (xs ys : List Nat) (h1 : Sl w A1 n1 (xs.map wv)) (h2 : Sl w A2 n2 (ys.map wv)) (o1 : OkB W32 xs) (o2 : OkB W32 ys) (a1 : n1 ≤ c1) (b1 : c1 ≤ maxLen) (a2 : n2 ≤ c2) (b2 : c2 ≤ maxLen) :
    Calls Tryz.prog 32 #[.slice A1 n1 c1, .slice A2 n2 c2] w fun e w' => e = .returned (.int .i64 (cmpN (val xs) (val ys))) ∧ Below w.heap.size w w' := by
  have s1 := sl_norm h1 o1
  have s2 := sl_norm h2 o2
  have hn1 := norm_c w A1 n1 c1 xs h1 o1 a1 b1
  have hn2 := norm_c w A2 n2 c2 ys h2 o2 a2 b2
  have e1 := val_limbs (val xs)
  have e2 := val_limbs (val ys)
  have q1 := ok_limbs (val xs)
  have q2 := ok_limbs (val ys)
  have hlt := @lt_of_len (val xs) (val ys)
  have hgt := @lt_of_len (val ys) (val xs)
  have k1 : (limbs (val xs)).length ≤ maxLen := by have := limbs_len o1; have : xs.length = n1 := by simpa using h1.1
                                                   omega
  unfold maxLen at k1
  clear h1 h2
  generalize limbs (val xs) = us at *
  generalize limbs (val ys) = vs at *
  obtain ⟨N1, hN1⟩ : ∃ N1, us.length = N1 := ⟨_, rfl⟩
  obtain ⟨N2, hN2⟩ : ∃ N2, vs.length = N2 := ⟨_, rfl⟩
  rw [hN1] at s1 hn1 hlt hgt k1
  rw [hN2] at s2 hn2 hlt hgt
  have HN1 := Lib.hid hn1
  have HN2 := Lib.hid hn2
  have HL1 := Lib.hid hN1
  have HL2 := Lib.hid hN2
  have E1 := Lib.hid e1
  have E2 := Lib.hid e2
  clear hn1 hn2 hN1 hN2 e1 e2
  rcases Nat.lt_trichotomy N1 N2 with hc | hc | hc
  · have hv := cmpN_lt (hlt hc)
    have HV := Lib.hid hv
    have hne : ((N1 : Int) != (N2 : Int)) = true := by simp; omega
    have hdec : decide (N1 < N2) = true := decide_eq_true hc
    clear hv hlt hgt
    go_enter Tryz.func32, Tryz.ntmps32
    go_wp2_with fail
    refine (HN1.out).mono ?_
    rintro e w1 ⟨rfl, rfl⟩
    go_wp2_with fail
    refine (HN2.out).mono ?_
    rintro e w1 ⟨rfl, rfl⟩
    go_wp2_with fail
    go_ret
    exact ⟨by rw [HV.out]; rfl, Below.refl _ _⟩
  · subst hc
    have hne : ((N1 : Int) != (N1 : Int)) = false := by simp
    clear hlt hgt
    go_enter Tryz.func32, Tryz.ntmps32
    go_wp2_with fail
    refine (HN1.out).mono ?_
    rintro e w1 ⟨rfl, rfl⟩
    go_wp2_with fail
    refine (HN2.out).mono ?_
    rintro e w1 ⟨rfl, rfl⟩
    go_wp2_with fail
    go_loopw [5] (fun i wr => ∃ (m : Nat) (z : Int), m ≤ N1 ∧ i = .int .i64 z ∧ z = (m : Int) - 1 ∧ Hid (us.drop m = vs.drop m) ∧ Below w.heap.size w wr) (fun i _ => (intOf i + 1).toNat)
    case atStart => exact ⟨N1, _, Nat.le_refl _, rfl, rfl, Lib.hid (by rw [List.drop_of_length_le (by rw [HL1.out]; exact Nat.le_refl _), List.drop_of_length_le (by rw [HL2.out]; exact Nat.le_refl _)]), Below.refl _ _⟩
    case round =>
      obtain ⟨m, z, hm, rfl, hz, hd, hb⟩ := hrel
      cases m with
      | zero =>
        obtain rfl : z = -1 := by omega
        clear hz
        have hge : decide ((0 : Int) ≤ -1) = false := by decide
        have he : us = vs := by have := hd.out; simpa using this
        go_wp2_with fail
        go_ret
        refine ⟨?_, hb⟩
        rw [← E1.out, ← E2.out, he, cmpN_eq]; rfl
      | succ k =>
        obtain rfl : z = (k : Int) := by omega
        clear hz
        obtain ⟨ad, x, rfl, hxk, hcx⟩ := (s1.below hb).word_ (show k < N1 by omega)
        obtain ⟨ad2, y, rfl, hyk, hcy⟩ := (s2.below hb).word_ (show k < N1 by omega)
        rcases Nat.lt_trichotomy x y with hxy | hxy | hxy
        · have hlt := lt_at q1 k hxk hyk hd.out hxy
          rw [E1.out, E2.out] at hlt
          have HV := Lib.hid (cmpN_lt hlt)
          have hdec : decide ((x : Int) < (y : Int)) = true := decide_eq_true (by omega)
          clear hlt hxk hyk
          go_wp2_with (go_quiet (fail))
          all_goals go_ret
          all_goals exact ⟨by rw [HV.out]; rfl, by first | exact below_drewN hb _ | exact below_drewN (below_drewN hb _) _⟩
        · subst hxy
          have hd2 := Lib.hid (drop_eq_cons hxk hyk hd.out)
          have hdec : decide ((x : Int) < (x : Int)) = false := decide_eq_false (by omega)
          clear hxk hyk hd
          go_wp2_with (go_quiet (fail))
          all_goals exact ⟨⟨k, _, by omega, rfl, by omega, hd2, by first | exact below_drewN hb _ | exact below_drewN (below_drewN hb _) _⟩, by simp [intOf]⟩
        · have hgt := lt_at q2 k hyk hxk hd.out.symm hxy
          rw [E1.out, E2.out] at hgt
          have HV := Lib.hid (cmpN_gt hgt)
          have hdec : decide ((x : Int) < (y : Int)) = false := decide_eq_false (by omega)
          have hdec2 : decide ((y : Int) < (x : Int)) = true := decide_eq_true (by omega)
          clear hgt hxk hyk
          go_wp2_with (go_quiet (fail))
          all_goals go_ret
          all_goals exact ⟨by rw [HV.out]; rfl, by first | exact below_drewN hb _ | exact below_drewN (below_drewN hb _) _⟩
  · have hv := cmpN_gt (hgt hc)
    have HV := Lib.hid hv
    have hne : ((N1 : Int) != (N2 : Int)) = true := by simp; omega
    have hdec : decide (N1 < N2) = false := decide_eq_false (by omega)
    clear hv hlt hgt
    go_enter Tryz.func32, Tryz.ntmps32
    go_wp2_with fail
    refine (HN1.out).mono ?_
    rintro e w1 ⟨rfl, rfl⟩
    go_wp2_with fail
    refine (HN2.out).mono ?_
    rintro e w1 ⟨rfl, rfl⟩
    go_wp2_with fail
    go_ret
    exact ⟨by rw [HV.out]; rfl, Below.refl _ _⟩

end Go.Proofs.YthilnpfpllplaaaGreatDoor

namespace Go.Proofs.YthilnpfpllplaaaGreatDoor
open Go.RowKit NatP

set_option maxRecDepth 100000 in
set_option maxHeartbeats 1000000 in
theorem nats_c (w : World) (A1 A2 : Option Addr) (n1 n2 c1 c2 : Nat) (xs ys : List Nat) (h1 : Sl w A1 n1 (xs.map wv)) (h2 : Sl w A2 n2 (ys.map wv)) (m1 : n1 ≤ maxLen) :
    Calls Tryz.prog 17 #[.slice A1 n1 c1, .slice A2 n2 c2] w fun e w' => e = .returned (.bool (decide (xs = ys))) ∧ ∃ k, w' = w.drewN k := by
  unfold maxLen at m1
  have l1 : xs.length = n1 := by simpa using h1.1
  have l2 : ys.length = n2 := by simpa using h2.1
  by_cases hn : n1 = n2
  · subst hn
    have HL1 := Lib.hid l1
    have HL2 := Lib.hid l2
    clear l1 l2
    have hne : ((n1 : Int) != (n1 : Int)) = false := by simp
    go_enter Tryz.func17, Tryz.ntmps17
    go_wp2_with fail
    go_loopw [5] (fun i wr => ∃ (k q : Nat), k ≤ n1 ∧ i = .int .i64 (k : Int) ∧ Hid (xs.take k = ys.take k) ∧ wr = w.drewN q) (fun i _ => n1 - (intOf i).toNat)
    case atStart => exact ⟨0, 0, Nat.zero_le _, rfl, Lib.hid rfl, rfl⟩
    case round =>
      obtain ⟨k, q, hk, rfl, he, rfl⟩ := hrel
      by_cases hlt : k < n1
      · obtain ⟨ad, x, rfl, hxk, hcx⟩ := h1.word_ hlt
        obtain ⟨ad2, y, rfl, hyk, hcy⟩ := h2.word_ hlt
        by_cases hxy : x = y
        · subst hxy
          have hdec : ((x : Int) != (x : Int)) = false := by simp
          have he2 : Hid (xs.take (k + 1) = ys.take (k + 1)) := by
            have := he.out
            exact Lib.hid (by rw [List.take_add_one, List.take_add_one, this, hxk, hyk])
          clear hxk hyk he
          go_wp2_with (go_quiet (fail))
          all_goals exact ⟨⟨k + 1, _, by omega, by go_num, he2, by first | rfl | exact World.drewN_drewN _ _ _⟩, by simp [intOf]; omega⟩
        · have hdec : ((x : Int) != (y : Int)) = true := by simp; omega
          have hf : Hid (decide (xs = ys) = false) := Lib.hid (decide_eq_false (fun h => hxy (by rw [h, hyk] at hxk; exact (Option.some.inj hxk).symm)))
          clear hxk hyk he hxy
          go_wp2_with (go_quiet (fail))
          all_goals go_ret
          all_goals exact ⟨by rw [hf.out]; rfl, _, by first | rfl | exact World.drewN_drewN _ _ _⟩
      · obtain rfl : k = n1 := by omega
        have hf : Hid (decide (xs = ys) = true) := by
          have h := he.out
          rw [List.take_of_length_le (by rw [HL1.out]; exact Nat.le_refl _), List.take_of_length_le (by rw [HL2.out]; exact Nat.le_refl _)] at h
          exact Lib.hid (decide_eq_true h)
        clear hk he
        go_wp2_with fail
        go_ret
        exact ⟨by rw [hf.out]; rfl, _, rfl⟩
  · have hne : ((n1 : Int) != (n2 : Int)) = true := by simp; omega
    have hf : Hid (decide (xs = ys) = false) := Lib.hid (decide_eq_false (fun h => hn (by rw [← l1, ← l2, h])))
    clear hn l1 l2
    go_enter Tryz.func17, Tryz.ntmps17
    go_wp2_with fail
    go_ret
    exact ⟨by rw [hf.out]; rfl, 0, rfl⟩

end Go.Proofs.YthilnpfpllplaaaGreatDoor
