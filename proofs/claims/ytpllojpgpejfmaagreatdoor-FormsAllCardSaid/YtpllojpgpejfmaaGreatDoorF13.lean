/- Numbers in memory: what nat.norm, nat.From, nat.Add return. Condition: the limbs read from memory. Sums in memory: what bits.Add32 and nat.Add return. Condition: the limbs read from memory. Numbers compared: what nat.Cmp and edenraw.Nats return; nat.Fits, nat.From. Condition: the limbs read from memory. What nat.Low, nat.Fits, nat.From, nat.Sum, nat.Over and edenraw.Nats return. Condition: the limbs read from memory. Products in memory: what nat.Mul returns. Condition: the limbs read from memory. Division in memory: what bits.Div32 and nat.Over return. Condition: the limbs read from memory. -/
import Derived.IntWalk
import Derived.BigQuiet
import Derived.Laws.BitsAllLaws
import Derived.Test.YtpllojpgpejfmaaGreatDoorF1
import Derived.Test.YtpllojpgpejfmaaGreatDoorF2
namespace Go.Proofs.YtpllojpgpejfmaaGreatDoor
open Go.RowKit NatP

def wv (x : Nat) : Value := .int .u32 (x : Int)
abbrev W32 : Nat := 4294967296
def limbs (v : Nat) : List Nat := digs W32 v
def val (l : List Nat) : Nat := valB W32 l
theorem w32 : 2 ≤ W32 := by decide
theorem val_limbs (v : Nat) : val (limbs v) = v := val_digs w32 v
theorem ok_limbs (v : Nat) : OkB W32 (limbs v) := ok_digs w32 v
theorem limbs_len {xs : List Nat} (h : OkB W32 xs) : (limbs (val xs)).length ≤ xs.length := length_digs_le w32 h
theorem limbs_take {xs : List Nat} (h : OkB W32 xs) {m : Nat} (hm : m ≤ xs.length) (hz : ∀ j x, m ≤ j → xs[j]? = some x → x = 0) (hl : ∀ x, 0 < m → xs[m - 1]? = some x → x ≠ 0) : xs.take m = limbs (val xs) ∧ m = (limbs (val xs)).length := by
  have e := cut_eq w32 h hm hz hl
  refine ⟨e, ?_⟩
  unfold limbs val
  rw [← e, List.length_take, Nat.min_eq_left hm]

theorem own_take {w : World} {base e n c m : Nat} {A : Option Addr} {xs : List Value} (h : w.ownsRow base e 1 (.slice A n c) n xs) (hm : m ≤ n) : w.ownsRow base e 1 (.slice A m c) m (xs.take m) := by
  have hl : xs.length = n := by simpa using h.1
  refine ⟨by simp; omega, ?_⟩
  rcases h.2 with ⟨hv, hn⟩ | ⟨g, cap, cur, hv, hb, hg, hnc, hcm, hsz, htake⟩
  · injection hv with h1 h2 h3
    subst h1 h3 hn
    exact .inl ⟨by rw [show m = 0 from by omega], by omega⟩
  · injection hv with h1 h2 h3
    subst h1 h3
    refine .inr ⟨g, c, cur, rfl, hb, hg, by omega, hcm, hsz, ?_⟩
    rw [← htake, List.take_take]
    congr 1
    omega
theorem sl_take {w : World} {A : Option Addr} {n m : Nat} {xs : List Value} (h : Sl w A n xs) (hm : m ≤ n) : Sl w A m (xs.take m) := by
  refine ⟨by simp; have := h.1; omega, fun k v hv => ?_⟩
  rw [List.getElem?_take] at hv
  split at hv
  · exact h.2 k v hv
  · cases hv

set_option maxHeartbeats 400000 in
theorem norm_c (w : World) (A : Option Addr) (n c : Nat) (xs : List Nat) (h : Sl w A n (xs.map wv)) (ho : OkB W32 xs) (hc : n ≤ c) (hm : c ≤ maxLen) :
    Calls Tryz.prog 78 #[.slice A n c] w fun e w' => e = .returned (.slice A (limbs (val xs)).length c) ∧ w = w' := by
  unfold maxLen at hm
  have hl : xs.length = n := by simpa using h.1
  have HL := Lib.hid hl
  clear hl
  go_enter Tryz.func78, Tryz.ntmps78
  go_wp2_with fail
  go_loop [0] (fun a => ∃ m : Nat, m ≤ n ∧ a = .slice A m c ∧ ∀ (j x : Nat), m ≤ j → xs[j]? = some x → x = 0) (fun a => match a with | .slice _ k _ => k | _ => 0)
  case atStart => exact ⟨n, Nat.le_refl _, rfl, fun j x hj hx => by rw [List.getElem?_eq_none (by rw [HL.out]; exact hj)] at hx; cases hx⟩
  case round =>
    obtain ⟨m, hmn, rfl, hz⟩ := hrel
    have HZ := Lib.hid hz
    clear hz
    cases m with
    | zero =>
      have e := limbs_take ho (Nat.zero_le _) HZ.out (fun x h0 => absurd h0 (by omega))
      have E := Lib.hid e.2
      clear e
      go_wp2_with fail
      go_ret
      exact ⟨by rw [← E.out]; rfl, rfl⟩
    | succ k =>
      obtain ⟨ad, x, rfl, hxk, hcx⟩ := h.word_ (show k < n by omega)
      have HX := Lib.hid hxk
      clear hxk
      by_cases hx0 : x = 0
      · subst hx0
        have t : (((0 : Nat) : Int) == 0) = true := rfl
        go_wp2_with fail
        refine ⟨⟨k, by omega, rfl, fun j x hj hx => ?_⟩, Nat.lt_succ_self k⟩
        rcases Nat.lt_or_ge k j with hjk | hjk
        · exact HZ.out j x hjk hx
        · obtain rfl : j = k := by omega
          rw [HX.out] at hx
          exact (Option.some.inj hx).symm
      · have t : ((x : Int) == 0) = false := by simp; exact hx0
        have e := limbs_take ho (m := k + 1) (by rw [HL.out]; omega) HZ.out (fun y _ hy => by
          rw [Nat.add_sub_cancel, HX.out] at hy
          rw [← Option.some.inj hy]
          exact hx0)
        have E := Lib.hid e.2
        clear e hx0
        go_wp2_with fail
        go_ret
        exact ⟨by rw [← E.out]; rfl, rfl⟩

end Go.Proofs.YtpllojpgpejfmaaGreatDoor

namespace Go.Proofs.YtpllojpgpejfmaaGreatDoor
open Go.RowKit NatP

/-- The answer is a new number of value v. -/
def NatIs (w : World) (v : Nat) (en : Ending) (w' : World) : Prop :=
  ∃ A c, en = .returned (.slice A (limbs v).length c) ∧ w'.ownsRow w.heap.size 103 1 (.slice A (limbs v).length c) (limbs v).length ((limbs v).map wv) ∧ Below w.heap.size w w'

theorem norm_own {w w0 : World} {A : Option Addr} {n c : Nat} {xs : List Nat} (h : w.ownsRow w0.heap.size 103 1 (.slice A n c) n (xs.map wv)) (ho : OkB W32 xs) (hb : Below w0.heap.size w0 w) :
    Calls Tryz.prog 78 #[.slice A n c] w fun e w' => NatIs w0 (val xs) e w' := by
  obtain ⟨A', c', hv, h1, h2⟩ := own_slice h
  injection hv with _ _ hc
  subst hc
  have hl : xs.length = n := by simpa using h.1
  refine (norm_c w A n c xs (Sl.of_own h) ho h1 h2).mono ?_
  rintro e w' ⟨rfl, rfl⟩
  have hle := limbs_len ho
  have ht := own_take h (m := (limbs (val xs)).length) (by omega)
  refine ⟨A, c, rfl, ?_, hb⟩
  obtain ⟨m, hm, hz, hl'⟩ : ∃ m, m ≤ xs.length ∧ (∀ j x, m ≤ j → xs[j]? = some x → x = 0) ∧ (∀ x, 0 < m → xs[m - 1]? = some x → x ≠ 0) := cut_ex xs
  obtain ⟨e1, e2⟩ := limbs_take ho hm hz hl'
  have e3 : (xs.map wv).take (limbs (val xs)).length = (limbs (val xs)).map wv := by rw [← List.map_take, ← e2, e1]
  rw [e3] at ht
  exact ht

theorem add32_c (w : World) (x y c : Nat) (hx : x < W32) (hy : y < W32) (hc : c ≤ 1) :
    Calls Tryz.prog 98 #[.int .u32 (x : Int), .int .u32 (y : Int), .int .u32 (c : Int)] w fun e w' =>
      e = .returned (.tuple #[.int .u32 (((x + y + c) % W32 : Nat) : Int), .int .u32 (((x + y + c) / W32 : Nat) : Int)]) ∧ w = w' := by
  unfold W32 at *
  go_enter Tryz.func98, Tryz.ntmps98
  go_wp2_with fail
  go_ret2
  exact ⟨by simp, rfl⟩

theorem make_u32 (w : World) (n : Nat) (h : n ≤ maxLen) : (w.alloc (.cells (madeCells #[.int .u32 0] n) 103)).ownsRow w.heap.size 103 1 (.slice (some ⟨w.heap.size, 0, none⟩) n n) n ((List.replicate n 0).map wv) := by
  have := World.ownsRow_lit (base := w.heap.size) (e := 103) (size := 1) w (madeCells #[.int .u32 0] n) n (Nat.le_refl _) h (by rw [size_madeCells]; simp)
  rw [toList_madeCells_one] at this
  rw [List.map_replicate]
  exact this
theorem row_word {w : World} {base e g n cap : Nat} {l : List Nat} (h : w.ownsRow base e 1 (.slice (some ⟨g, 0, none⟩) n cap) n (l.map wv)) {k : Nat} {x : Nat} (hk : k < n) (hx : l[k]? = some x) :
    w.cell? ⟨g, k, none⟩ = some (.int .u32 (x : Int)) := by
  rw [h.cellAt k (by omega), List.getElem?_map, hx]; rfl
theorem set_word {w : World} {base e g n cap : Nat} {l : List Nat} (h : w.ownsRow base e 1 (.slice (some ⟨g, 0, none⟩) n cap) n (l.map wv)) (k x : Nat) :
    (w.setCell ⟨g, k, none⟩ (.int .u32 (x : Int))).ownsRow base e 1 (.slice (some ⟨g, 0, none⟩) n cap) n ((l.set k x).map wv) := by
  rw [List.map_set]
  exact (h.stored k _).1

/-- Behind k limbs of a sum. -/
structure AddTo (xs ys out : List Nat) (k cr : Nat) : Prop where
  ok : OkB W32 out
  zero : ∀ j x, k ≤ j → out[j]? = some x → x = 0
  cr1 : cr ≤ 1
  eq : val out + W32 ^ k * cr = val (xs.take k) + val (ys.take k)
theorem AddTo.step {xs ys out : List Nat} {k cr x : Nat} (h : AddTo xs ys out k cr) (hx : OkB W32 xs) (hy : OkB W32 ys) (hxk : xs[k]? = some x) (hk : k < out.length) :
    AddTo xs ys (out.set k ((x + ys.getD k 0 + cr) % W32)) (k + 1) ((x + ys.getD k 0 + cr) / W32) := by
  obtain ⟨z, hz⟩ : ∃ z, out[k]? = some z := ⟨_, List.getElem?_eq_getElem hk⟩
  have hz0 := h.zero k z (Nat.le_refl _) hz
  subst hz0
  have hxl : x < W32 := hx x (List.mem_of_getElem? hxk)
  have hyl : ys.getD k 0 < W32 := ok_getD (by decide) hy k
  refine ⟨ok_set h.ok (Nat.mod_lt _ (by decide)), fun j y hj hy' => ?_, ?_, ?_⟩
  · rw [List.getElem?_set_ne (by omega)] at hy'
    exact h.zero j y (by omega) hy'
  · have := h.cr1
    unfold W32 at *
    omega
  · have e1 := val_set (b := W32) (v := (x + ys.getD k 0 + cr) % W32) hz
    have e2 := val_take_succ W32 xs k
    have e3 := val_take_succ W32 ys k
    have e4 : xs.getD k 0 = x := by rw [List.getD_eq_getElem?_getD, hxk]; rfl
    have e5 := h.eq
    have e6 := Nat.mod_add_div (x + ys.getD k 0 + cr) W32
    unfold val at *
    rw [e4] at e2
    rw [e2, e3]
    generalize ys.getD k 0 = y at *
    generalize (x + y + cr) % W32 = r at *
    generalize (x + y + cr) / W32 = d at *
    generalize valB W32 (out.set k r) = V at *
    rw [Nat.mul_zero, Nat.add_zero] at e1
    rw [Nat.pow_succ]
    have e7 : W32 ^ k * (r + W32 * d) = W32 ^ k * (x + y + cr) := by rw [e6]
    rw [Nat.mul_add, Nat.mul_add, Nat.mul_add, ← Nat.mul_assoc] at e7
    omega

set_option maxRecDepth 100000 in
set_option maxHeartbeats 1000000 in
theorem add_ge (w : World) (A1 A2 : Option Addr) (n1 n2 c1 c2 : Nat) (xs ys : List Nat) (h1 : Sl w A1 n1 (xs.map wv)) (h2 : Sl w A2 n2 (ys.map wv)) (o1 : OkB W32 xs) (o2 : OkB W32 ys) (hm : n1 ≤ 1000000000) (hle : n2 ≤ n1) :
    Calls Tryz.prog 70 #[.slice A1 n1 c1, .slice A2 n2 c2] w fun e w' => NatIs w (val xs + val ys) e w' := by
  have l1 : xs.length = n1 := by simpa using h1.1
  have l2 : ys.length = n2 := by simpa using h2.1
  have HL1 := Lib.hid l1
  have HL2 := Lib.hid l2
  clear l1 l2
  have hmk := run_make_row' (P := Tryz.prog) 66 103 (.int .u32 0) 4 tNat.und tNat.info rfl .i64 .i64 (n1 + 1) (by omega) (by omega)
  have hmk' : ∀ wz : World, (Instr.makeSlice 66 (.int .i64 ((n1 : Int) + 1)) (.int .i64 ((n1 : Int) + 1))).run Tryz.prog wz = .ok (.slice (some ⟨wz.heap.size, 0, none⟩) (n1 + 1) (n1 + 1)) (wz.alloc (.cells (madeCells #[.int .u32 0] (n1 + 1)) 103)) := hmk
  clear hmk
  have hown0 := make_u32 w (n1 + 1) (by simp only [maxLen]; omega)
  have hdec : decide (n1 < n2) = false := decide_eq_false (by omega)
  go_enter Tryz.func70, Tryz.ntmps70
  go_wp2_with fail
  clear hmk'
  go_loopw [6, 23] (fun cr i wr => ∃ (k c : Nat) (out : List Nat), k ≤ n1 ∧ i = .int .i64 k ∧ cr = .int .u32 (c : Nat) ∧ AddTo xs ys out k c ∧ wr.ownsRow w.heap.size 103 1 (.slice (some ⟨w.heap.size, 0, none⟩) (n1 + 1) (n1 + 1)) (n1 + 1) (out.map wv) ∧ Below w.heap.size w wr) (fun _ i _ => n1 - (intOf i).toNat)
  case atStart => exact ⟨0, 0, _, Nat.zero_le _, rfl, rfl, ⟨ok_zeros (by decide) _, fun j x _ hx => (List.eq_of_mem_replicate (List.mem_of_getElem? hx)), by omega, by simp [val, val_zeros, valB]⟩, hown0, (Below.refl _ _).alloc (Nat.le_refl _) _⟩
  case round =>
    obtain ⟨k, cr, out, hk, rfl, rfl, hA, hown, hb⟩ := hrel
    have hol : out.length = n1 + 1 := by simpa using hown.1
    by_cases hlt : k < n1
    · obtain ⟨ad, x, rfl, hxk, hcx⟩ := (h1.below hb).word_ hlt
      have hstep := hA.step o1 o2 hxk (by omega)
      have hxl := o1 x (List.mem_of_getElem? hxk)
      have hyl : ys.getD k 0 < W32 := ok_getD (by decide) o2 k
      have hc1 := hA.cr1
      obtain ⟨z, hz⟩ : ∃ z, out[k]? = some z := ⟨_, List.getElem?_eq_getElem (by omega)⟩
      have hcell := row_word hown (show k < n1 + 1 by omega) hz
      have hfr := hown.frozenAt k
      have hset := set_word hown k ((x + ys.getD k 0 + cr) % W32)
      have hb2 := hb.setCell (p := ⟨w.heap.size, k, none⟩) (Nat.le_refl _) (.int .u32 (((x + ys.getD k 0 + cr) % W32 : Nat) : Int))
      by_cases hk2 : k < n2
      · obtain ⟨ad2, y, rfl, hyk, hcy⟩ := (h2.below hb).word_ hk2
        have ey : ys.getD k 0 = y := by rw [List.getD_eq_getElem?_getD, hyk]; rfl
        rw [ey] at hstep hyl hset hb2
        have hadd := add32_c wr x y cr hxl hyl hc1
        have HADD := Lib.hid hadd
        have HS := Lib.hid hstep
        clear hadd hstep hxk hyk ey hz hA hown hb
        go_wp2_with fail
        refine (HADD.out).mono ?_
        rintro e w2 ⟨rfl, rfl⟩
        generalize (x + y + cr) % W32 = r at hset hb2 HS ⊢
        generalize (x + y + cr) / W32 = d at HS ⊢
        go_wp2_with fail
        exact ⟨⟨k + 1, d, _, by omega, by go_num, rfl, HS.out, hset, hb2⟩, by simp [intOf]; omega⟩
      · have ey : ys.getD k 0 = 0 := by rw [List.getD_eq_getElem?_getD, List.getElem?_eq_none (by rw [HL2.out]; omega)]; rfl
        rw [ey] at hstep hyl hset hb2
        have hadd := add32_c wr x 0 cr hxl hyl hc1
        have HADD := Lib.hid hadd
        have HS := Lib.hid hstep
        clear hadd hstep hxk ey hz hA hown hb
        go_wp2_with fail
        refine (HADD.out).mono ?_
        rintro e w2 ⟨rfl, rfl⟩
        generalize (x + 0 + cr) % W32 = r at hset hb2 HS ⊢
        generalize (x + 0 + cr) / W32 = d at HS ⊢
        go_wp2_with fail
        exact ⟨⟨k + 1, d, _, by omega, by go_num, rfl, HS.out, hset, hb2⟩, by simp [intOf]; omega⟩
    · obtain rfl : k = n1 := by omega
      obtain ⟨z, hz⟩ : ∃ z, out[k]? = some z := ⟨_, List.getElem?_eq_getElem (by omega)⟩
      have hcell := row_word hown (show k < k + 1 by omega) hz
      have hfr := hown.frozenAt k
      have hset := set_word hown k cr
      have hb2 := hb.setCell (p := ⟨w.heap.size, k, none⟩) (Nat.le_refl _) (.int .u32 (cr : Int))
      have hval : val (out.set k cr) = val xs + val ys := by
        have e1 := val_set (b := W32) (v := cr) hz
        have e2 := hA.eq
        have e3 := hA.zero k z (Nat.le_refl _) hz
        subst e3
        rw [List.take_of_length_le (by rw [HL1.out]; exact Nat.le_refl _), List.take_of_length_le (by rw [HL2.out]; exact hle)] at e2
        unfold val at *
        omega
      have hok : OkB W32 (out.set k cr) := ok_set hA.ok (by have := hA.cr1; unfold W32; omega)
      have HV := Lib.hid hval
      clear hval hz hA hown hb hlt
      go_wp2_with fail
      refine (norm_own hset hok hb2).mono ?_
      rintro e w3 ⟨A, c, rfl, ho, hb3⟩
      go_wp2_with fail
      go_ret
      rw [HV.out] at ho ⊢
      exact ⟨A, c, rfl, ho, hb3⟩

set_option maxRecDepth 100000 in
set_option maxHeartbeats 1000000 in
theorem add_lt (w : World) (A1 A2 : Option Addr) (n1 n2 c1 c2 : Nat) (xs ys : List Nat) (h1 : Sl w A1 n1 (xs.map wv)) (h2 : Sl w A2 n2 (ys.map wv)) (o1 : OkB W32 xs) (o2 : OkB W32 ys) (hm : n1 ≤ 1000000000) (hle' : n2 < n1) :
    Calls Tryz.prog 70 #[.slice A2 n2 c2, .slice A1 n1 c1] w fun e w' => NatIs w (val xs + val ys) e w' := by
  have l1 : xs.length = n1 := by simpa using h1.1
  have l2 : ys.length = n2 := by simpa using h2.1
  have HL1 := Lib.hid l1
  have HL2 := Lib.hid l2
  clear l1 l2
  have hmk := run_make_row' (P := Tryz.prog) 66 103 (.int .u32 0) 4 tNat.und tNat.info rfl .i64 .i64 (n1 + 1) (by omega) (by omega)
  have hmk' : ∀ wz : World, (Instr.makeSlice 66 (.int .i64 ((n1 : Int) + 1)) (.int .i64 ((n1 : Int) + 1))).run Tryz.prog wz = .ok (.slice (some ⟨wz.heap.size, 0, none⟩) (n1 + 1) (n1 + 1)) (wz.alloc (.cells (madeCells #[.int .u32 0] (n1 + 1)) 103)) := hmk
  clear hmk
  have hown0 := make_u32 w (n1 + 1) (by simp only [maxLen]; omega)
  have hdec : decide (n2 < n1) = true := decide_eq_true hle'
  have hle : n2 ≤ n1 := by omega
  go_enter Tryz.func70, Tryz.ntmps70
  go_wp2_with fail
  clear hmk'
  go_loopw [6, 23] (fun cr i wr => ∃ (k c : Nat) (out : List Nat), k ≤ n1 ∧ i = .int .i64 k ∧ cr = .int .u32 (c : Nat) ∧ AddTo xs ys out k c ∧ wr.ownsRow w.heap.size 103 1 (.slice (some ⟨w.heap.size, 0, none⟩) (n1 + 1) (n1 + 1)) (n1 + 1) (out.map wv) ∧ Below w.heap.size w wr) (fun _ i _ => n1 - (intOf i).toNat)
  case atStart => exact ⟨0, 0, _, Nat.zero_le _, rfl, rfl, ⟨ok_zeros (by decide) _, fun j x _ hx => (List.eq_of_mem_replicate (List.mem_of_getElem? hx)), by omega, by simp [val, val_zeros, valB]⟩, hown0, (Below.refl _ _).alloc (Nat.le_refl _) _⟩
  case round =>
    obtain ⟨k, cr, out, hk, rfl, rfl, hA, hown, hb⟩ := hrel
    have hol : out.length = n1 + 1 := by simpa using hown.1
    by_cases hlt : k < n1
    · obtain ⟨ad, x, rfl, hxk, hcx⟩ := (h1.below hb).word_ hlt
      have hstep := hA.step o1 o2 hxk (by omega)
      have hxl := o1 x (List.mem_of_getElem? hxk)
      have hyl : ys.getD k 0 < W32 := ok_getD (by decide) o2 k
      have hc1 := hA.cr1
      obtain ⟨z, hz⟩ : ∃ z, out[k]? = some z := ⟨_, List.getElem?_eq_getElem (by omega)⟩
      have hcell := row_word hown (show k < n1 + 1 by omega) hz
      have hfr := hown.frozenAt k
      have hset := set_word hown k ((x + ys.getD k 0 + cr) % W32)
      have hb2 := hb.setCell (p := ⟨w.heap.size, k, none⟩) (Nat.le_refl _) (.int .u32 (((x + ys.getD k 0 + cr) % W32 : Nat) : Int))
      by_cases hk2 : k < n2
      · obtain ⟨ad2, y, rfl, hyk, hcy⟩ := (h2.below hb).word_ hk2
        have ey : ys.getD k 0 = y := by rw [List.getD_eq_getElem?_getD, hyk]; rfl
        rw [ey] at hstep hyl hset hb2
        have hadd := add32_c wr x y cr hxl hyl hc1
        have HADD := Lib.hid hadd
        have HS := Lib.hid hstep
        clear hadd hstep hxk hyk ey hz hA hown hb
        go_wp2_with fail
        refine (HADD.out).mono ?_
        rintro e w2 ⟨rfl, rfl⟩
        generalize (x + y + cr) % W32 = r at hset hb2 HS ⊢
        generalize (x + y + cr) / W32 = d at HS ⊢
        go_wp2_with fail
        exact ⟨⟨k + 1, d, _, by omega, by go_num, rfl, HS.out, hset, hb2⟩, by simp [intOf]; omega⟩
      · have ey : ys.getD k 0 = 0 := by rw [List.getD_eq_getElem?_getD, List.getElem?_eq_none (by rw [HL2.out]; omega)]; rfl
        rw [ey] at hstep hyl hset hb2
        have hadd := add32_c wr x 0 cr hxl hyl hc1
        have HADD := Lib.hid hadd
        have HS := Lib.hid hstep
        clear hadd hstep hxk ey hz hA hown hb
        go_wp2_with fail
        refine (HADD.out).mono ?_
        rintro e w2 ⟨rfl, rfl⟩
        generalize (x + 0 + cr) % W32 = r at hset hb2 HS ⊢
        generalize (x + 0 + cr) / W32 = d at HS ⊢
        go_wp2_with fail
        exact ⟨⟨k + 1, d, _, by omega, by go_num, rfl, HS.out, hset, hb2⟩, by simp [intOf]; omega⟩
    · obtain rfl : k = n1 := by omega
      obtain ⟨z, hz⟩ : ∃ z, out[k]? = some z := ⟨_, List.getElem?_eq_getElem (by omega)⟩
      have hcell := row_word hown (show k < k + 1 by omega) hz
      have hfr := hown.frozenAt k
      have hset := set_word hown k cr
      have hb2 := hb.setCell (p := ⟨w.heap.size, k, none⟩) (Nat.le_refl _) (.int .u32 (cr : Int))
      have hval : val (out.set k cr) = val xs + val ys := by
        have e1 := val_set (b := W32) (v := cr) hz
        have e2 := hA.eq
        have e3 := hA.zero k z (Nat.le_refl _) hz
        subst e3
        rw [List.take_of_length_le (by rw [HL1.out]; exact Nat.le_refl _), List.take_of_length_le (by rw [HL2.out]; exact hle)] at e2
        unfold val at *
        omega
      have hok : OkB W32 (out.set k cr) := ok_set hA.ok (by have := hA.cr1; unfold W32; omega)
      have HV := Lib.hid hval
      clear hval hz hA hown hb hlt
      go_wp2_with fail
      refine (norm_own hset hok hb2).mono ?_
      rintro e w3 ⟨A, c, rfl, ho, hb3⟩
      go_wp2_with fail
      go_ret
      rw [HV.out] at ho ⊢
      exact ⟨A, c, rfl, ho, hb3⟩

/-- nat.Add. -/
theorem add_c (w : World) (A1 A2 : Option Addr) (n1 n2 c1 c2 : Nat) (xs ys : List Nat) (h1 : Sl w A1 n1 (xs.map wv)) (h2 : Sl w A2 n2 (ys.map wv)) (o1 : OkB W32 xs) (o2 : OkB W32 ys) (m1 : n1 ≤ 1000000000) (m2 : n2 ≤ 1000000000) :
    Calls Tryz.prog 70 #[.slice A1 n1 c1, .slice A2 n2 c2] w fun e w' => NatIs w (val xs + val ys) e w' := by
  by_cases h : n2 ≤ n1
  · exact add_ge w A1 A2 n1 n2 c1 c2 xs ys h1 h2 o1 o2 m1 h
  · rw [Nat.add_comm]
    exact add_lt w A2 A1 n2 n1 c2 c1 ys xs h2 h1 o2 o1 m2 (by omega)

end Go.Proofs.YtpllojpgpejfmaaGreatDoor

namespace Go.Proofs.YtpllojpgpejfmaaGreatDoor
open Go.RowKit NatP

theorem sl_norm {w : World} {A : Option Addr} {n : Nat} {xs : List Nat} (h : Sl w A n (xs.map wv)) (ho : OkB W32 xs) : Sl w A (limbs (val xs)).length ((limbs (val xs)).map wv) := by
  have hl : xs.length = n := by simpa using h.1
  obtain ⟨m, hm, hz, hl'⟩ : ∃ m, m ≤ xs.length ∧ (∀ j x, m ≤ j → xs[j]? = some x → x = 0) ∧ (∀ x, 0 < m → xs[m - 1]? = some x → x ≠ 0) := cut_ex xs
  obtain ⟨e1, e2⟩ := limbs_take ho hm hz hl'
  have e3 : (xs.map wv).take (limbs (val xs)).length = (limbs (val xs)).map wv := by rw [← List.map_take, ← e2, e1]
  have ht := sl_take h (m := (limbs (val xs)).length) (by have := limbs_len ho; omega)
  rw [e3] at ht
  exact ht
theorem limbs_len_of_lt : ∀ (k v : Nat), v < W32 ^ k → (limbs v).length ≤ k := by
  intro k
  induction k with
  | zero => intro v h; have : v = 0 := by simpa using h
            subst this; simp [limbs, digs_zero]
  | succ k ih =>
    intro v h
    rcases Nat.eq_zero_or_pos v with rfl | hv
    · simp [limbs, digs_zero]
    · unfold limbs at *
      rw [digs_pos w32 hv, List.length_cons]
      have : v / W32 < W32 ^ k := Nat.div_lt_of_lt_mul (by rw [Nat.mul_comm, ← Nat.pow_succ]; exact h)
      have := ih _ this
      omega
end Go.Proofs.YtpllojpgpejfmaaGreatDoor

namespace Go.Proofs.YtpllojpgpejfmaaGreatDoor
open Go.RowKit NatP

end Go.Proofs.YtpllojpgpejfmaaGreatDoor

namespace Go.Proofs.YtpllojpgpejfmaaGreatDoor
open Go.RowKit NatP

/-- Behind i limbs of the first factor. -/
structure MulTo (xs ys out : List Nat) (n2 i : Nat) : Prop where
  ok : OkB W32 out
  zero : ∀ j x, i + n2 ≤ j → out[j]? = some x → x = 0
  eq : val out = val (xs.take i) * val ys
/-- And behind j limbs of the second. -/
structure MulIn (xs ys out : List Nat) (n2 i x j cr : Nat) : Prop where
  ok : OkB W32 out
  zero : ∀ j x, i + n2 ≤ j → out[j]? = some x → x = 0
  cr1 : cr < W32
  eq : val out + W32 ^ (i + j) * cr = val (xs.take i) * val ys + W32 ^ i * (x * val (ys.take j))

theorem MulTo.start {xs ys out : List Nat} {n2 i x : Nat} (h : MulTo xs ys out n2 i) : MulIn xs ys out n2 i x 0 0 :=
  ⟨h.ok, h.zero, by decide, by rw [h.eq]; simp [val, valB]⟩
theorem mul_small {x y o c : Nat} (hx : x < W32) (hy : y < W32) (ho : o < W32) (hc : c < W32) : x * y + o + c < W32 * W32 := by
  have h1 : x * y ≤ (W32 - 1) * (W32 - 1) := Nat.mul_le_mul (by omega) (by omega)
  unfold W32 at *
  omega
theorem MulIn.step {xs ys out : List Nat} {n2 i x j cr y o : Nat} (h : MulIn xs ys out n2 i x j cr) (hx : x < W32) (hy : OkB W32 ys) (hyj : ys[j]? = some y) (hjn : j < n2) (hoj : out[i + j]? = some o) :
    MulIn xs ys (out.set (i + j) ((x * y + o + cr) % W32)) n2 i x (j + 1) ((x * y + o + cr) / W32) := by
  have hyl : y < W32 := hy y (List.mem_of_getElem? hyj)
  have hol : o < W32 := h.ok o (List.mem_of_getElem? hoj)
  refine ⟨ok_set h.ok (Nat.mod_lt _ (by decide)), fun k z hk hz => ?_, ?_, ?_⟩
  · rw [List.getElem?_set_ne (by omega)] at hz
    exact h.zero k z hk hz
  · exact Nat.div_lt_of_lt_mul (mul_small hx hyl hol h.cr1)
  · have e1 := val_set (b := W32) (v := (x * y + o + cr) % W32) hoj
    have e3 := val_take_succ W32 ys j
    have e4 : ys.getD j 0 = y := by rw [List.getD_eq_getElem?_getD, hyj]; rfl
    have e5 := h.eq
    have e6 := Nat.mod_add_div (x * y + o + cr) W32
    unfold val at *
    rw [e4] at e3
    rw [e3, Nat.mul_add x, Nat.mul_add (W32 ^ i), ← Nat.add_assoc i, ← Nat.add_assoc (valB W32 (List.take i xs) * valB W32 ys), ← e5, Nat.pow_succ]
    generalize (x * y + o + cr) % W32 = r at *
    generalize (x * y + o + cr) / W32 = d at *
    have e7 : W32 ^ (i + j) * (r + W32 * d) = W32 ^ (i + j) * (x * y + o + cr) := by rw [e6]
    have e8 : W32 ^ i * (x * (W32 ^ j * y)) = W32 ^ (i + j) * (x * y) := by
      rw [Nat.pow_add, Nat.mul_assoc, Nat.mul_left_comm x]
    rw [e8]
    rw [Nat.mul_add, Nat.mul_add, Nat.mul_add, ← Nat.mul_assoc] at e7
    omega
theorem MulIn.stop {xs ys out : List Nat} {n2 i x cr o : Nat} (h : MulIn xs ys out n2 i x n2 cr) (hxi : xs[i]? = some x) (hl : ys.length = n2) (ho : out[i + n2]? = some o) :
    MulTo xs ys (out.set (i + n2) cr) n2 (i + 1) := by
  refine ⟨ok_set h.ok h.cr1, fun k z hk hz => ?_, ?_⟩
  · rw [List.getElem?_set_ne (by omega)] at hz
    exact h.zero k z (by omega) hz
  · have e1 := val_set (b := W32) (v := cr) ho
    have e2 := val_take_succ W32 xs i
    have e4 : xs.getD i 0 = x := by rw [List.getD_eq_getElem?_getD, hxi]; rfl
    have e5 := h.eq
    have e6 := h.zero _ o (Nat.le_refl _) ho
    subst e6
    rw [List.take_of_length_le (l := ys) (by omega)] at e5
    unfold val at *
    rw [e2, e4, Nat.add_mul]
    rw [Nat.mul_zero, Nat.add_zero] at e1
    rw [e1, e5, Nat.mul_assoc]

theorem u64_prod {x y : Nat} (hx : x < W32) (hy : y < W32) : x * y < 18446744073709551616 := by
  have := mul_small (o := 0) (c := 0) hx hy (by decide) (by decide)
  unfold W32 at *
  omega

theorem u64_nat {n : Nat} (h : n < 18446744073709551616) : IntKind.u64.wrap (n : Int) = (n : Int) := IntWalk.u64_in _ (by omega)
theorem u64_step {x y o c : Nat} (hx : x < W32) (hy : y < W32) (ho : o < W32) (hc : c < W32) :
    IntKind.u64.wrap (IntKind.u64.wrap (IntKind.u64.wrap (IntKind.u64.wrap (x : Int) * IntKind.u64.wrap (y : Int)) + IntKind.u64.wrap (o : Int)) + (c : Int)) = ((x * y + o + c : Nat) : Int) := by
  have h1 := u64_prod hx hy
  have h2 := mul_small hx hy ho hc
  unfold W32 at *
  rw [u64_nat (n := x) (by omega), u64_nat (n := y) (by omega), u64_nat (n := o) (by omega), ← Int.natCast_mul, u64_nat h1, ← Int.natCast_add, u64_nat (by omega), ← Int.natCast_add, u64_nat (by omega)]

set_option maxRecDepth 100000 in
set_option maxHeartbeats 2000000 in
theorem mul_c (w : World) (A1 A2 : Option Addr) (n1 n2 c1 c2 : Nat) (xs ys : List Nat) (h1 : Sl w A1 n1 (xs.map wv)) (h2 : Sl w A2 n2 (ys.map wv)) (o1 : OkB W32 xs) (o2 : OkB W32 ys) (m1 : n1 ≤ 1000000000) (m2 : n2 ≤ 1000000000) :
    Calls Tryz.prog 71 #[.slice A1 n1 c1, .slice A2 n2 c2] w fun e w' => NatIs w (val xs * val ys) e w' := by
  have l1 : xs.length = n1 := by simpa using h1.1
  have l2 : ys.length = n2 := by simpa using h2.1
  have HL1 := Lib.hid l1
  have HL2 := Lib.hid l2
  clear l1 l2
  have hmk := run_make_row' (P := Tryz.prog) 66 103 (.int .u32 0) 4 tNat.und tNat.info rfl .i64 .i64 (n1 + n2) (by omega) (by omega)
  have hmk' : ∀ wz : World, (Instr.makeSlice 66 (.int .i64 ((n1 : Int) + n2)) (.int .i64 ((n1 : Int) + n2))).run Tryz.prog wz = .ok (.slice (some ⟨wz.heap.size, 0, none⟩) (n1 + n2) (n1 + n2)) (wz.alloc (.cells (madeCells #[.int .u32 0] (n1 + n2)) 103)) := hmk
  clear hmk
  have hown0 := make_u32 w (n1 + n2) (by simp only [maxLen]; omega)
  go_enter Tryz.func71, Tryz.ntmps71
  go_wp2_with fail
  clear hmk'
  go_loopw [20] (fun i wr => ∃ (k : Nat) (out : List Nat), k ≤ n1 ∧ i = .int .i64 k ∧ MulTo xs ys out n2 k ∧ wr.ownsRow w.heap.size 103 1 (.slice (some ⟨w.heap.size, 0, none⟩) (n1 + n2) (n1 + n2)) (n1 + n2) (out.map wv) ∧ Below w.heap.size w wr) (fun i _ => n1 - (intOf i).toNat)
  case atStart => exact ⟨0, _, Nat.zero_le _, rfl, ⟨ok_zeros (by decide) _, fun j x _ hx => (List.eq_of_mem_replicate (List.mem_of_getElem? hx)), by simp [val, val_zeros, valB]⟩, hown0, (Below.refl _ _).alloc (Nat.le_refl _) _⟩
  case round =>
    obtain ⟨k, out, hk, rfl, hA, hown, hb⟩ := hrel
    by_cases hlt : k < n1
    · obtain ⟨ad, x, rfl, hxk, hcx⟩ := (h1.below hb).word_ hlt
      have hxl := o1 x (List.mem_of_getElem? hxk)
      have HX := Lib.hid hxk
      have hin := hA.start (x := x)
      clear hxk hA
      go_wp2_with fail
      go_loopw [8, 27] (fun cr j wr => ∃ (m c : Nat) (out : List Nat), m ≤ n2 ∧ j = .int .i64 m ∧ cr = .int .u64 (c : Nat) ∧ MulIn xs ys out n2 k x m c ∧ wr.ownsRow w.heap.size 103 1 (.slice (some ⟨w.heap.size, 0, none⟩) (n1 + n2) (n1 + n2)) (n1 + n2) (out.map wv) ∧ Below w.heap.size w wr) (fun _ j _ => n2 - (intOf j).toNat)
      case atStart => exact ⟨0, 0, _, Nat.zero_le _, rfl, rfl, hin, hown, hb⟩
      case round =>
        clear hin hown hb out hcx
        obtain ⟨m, cr, out, hm, rfl, rfl, hA, hown, hb⟩ := hrel
        have hol : out.length = n1 + n2 := by simpa using hown.1
        by_cases hlt2 : m < n2
        · obtain ⟨ad2, y, rfl, hyk, hcy⟩ := (h2.below hb).word_ hlt2
          obtain ⟨o, ho⟩ : ∃ o, out[k + m]? = some o := ⟨_, List.getElem?_eq_getElem (by omega)⟩
          have hyl := o2 y (List.mem_of_getElem? hyk)
          have hoo := hA.ok o (List.mem_of_getElem? ho)
          have hcr := hA.cr1
          have hstep := hA.step hxl o2 hyk hlt2 ho
          have hcell := row_word hown (show k + m < n1 + n2 by omega) ho
          have hfr := hown.frozenAt (k + m)
          have hset := set_word hown (k + m) ((x * y + o + cr) % W32)
          have hb2 := hb.setCell (p := ⟨w.heap.size, k + m, none⟩) (Nat.le_refl _) (.int .u32 (((x * y + o + cr) % W32 : Nat) : Int))
          have hu := u64_step hxl hyl hoo hcr
          have HU := Lib.hid hu
          have HS := Lib.hid hstep
          clear hstep hyk ho hA hown hb hu
          go_wp2_with fail
          have q1 : ((x * y + o + cr : Nat) : Int) % 4294967296 = (((x * y + o + cr) % W32 : Nat) : Int) := rfl
          have q2 : ((x * y + o + cr : Nat) : Int) / 4294967296 = (((x * y + o + cr) / W32 : Nat) : Int) := rfl
          simp only [HU.out, q1, q2]
          exact ⟨⟨m + 1, (x * y + o + cr) / W32, _, by omega, by go_num, rfl, HS.out, hset, hb2⟩, by simp [intOf]; omega⟩
        · obtain rfl : m = n2 := by omega
          obtain ⟨o, ho⟩ : ∃ o, out[k + m]? = some o := ⟨_, List.getElem?_eq_getElem (by omega)⟩
          have hstop := hA.stop HX.out HL2.out ho
          have hcr := hA.cr1
          have hcell := row_word hown (show k + m < n1 + m by omega) ho
          have hfr := hown.frozenAt (k + m)
          have hset := set_word hown (k + m) cr
          have hb2 := hb.setCell (p := ⟨w.heap.size, k + m, none⟩) (Nat.le_refl _) (.int .u32 (cr : Int))
          have HS := Lib.hid hstop
          have q1 : (cr : Int) % 4294967296 = (cr : Int) := Int.emod_eq_of_lt (by omega) (by unfold W32 at hcr; omega)
          have Q1 := Lib.hid q1
          clear hstop ho hA hown hb q1
          go_wp2_with fail
          simp only [Q1.out]
          exact ⟨⟨k + 1, _, by omega, by go_num, HS.out, hset, hb2⟩, by simp [intOf]; omega⟩
    · obtain rfl : k = n1 := by omega
      have e2 := hA.eq
      rw [List.take_of_length_le (by rw [HL1.out]; exact Nat.le_refl _)] at e2
      have hok := hA.ok
      have HV := Lib.hid e2
      clear hA e2
      go_wp2_with fail
      refine (norm_own hown hok hb).mono ?_
      rintro e w3 ⟨A, c, rfl, ho, hb3⟩
      go_wp2_with fail
      go_ret
      rw [HV.out] at ho ⊢
      exact ⟨A, c, rfl, ho, hb3⟩

end Go.Proofs.YtpllojpgpejfmaaGreatDoor

namespace Go.Proofs.YtpllojpgpejfmaaGreatDoor
open Go.RowKit NatP

theorem hi_lo {hi lo : Nat} (h1 : hi < W32) (h3 : lo < W32) : bits BinOp.or IntKind.u64 ((hi : Int) * 4294967296) (lo : Int) = ((hi * W32 + lo : Nat) : Int) := by
  unfold W32 at *
  have e : (hi : Int) * 4294967296 = ((hi * 4294967296 : Nat) : Int) := by omega
  rw [e, u64_or_nat _ _ (by omega) (by omega)]
  congr 1
  rw [show (4294967296 : Nat) = 2 ^ 32 from rfl, ← Nat.shiftLeft_eq, Nat.shiftLeft_add_eq_or_of_lt h3]

set_option maxRecDepth 100000 in
set_option maxHeartbeats 1000000 in
theorem div32_c (w : World) (hi lo y : Nat) (h1 : hi < y) (h2 : y < W32) (h3 : lo < W32) :
    Calls Tryz.prog 99 #[.int .u32 (hi : Int), .int .u32 (lo : Int), .int .u32 (y : Int)] w fun e w' =>
      e = .returned (.tuple #[.int .u32 (((hi * W32 + lo) / y : Nat) : Int), .int .u32 (((hi * W32 + lo) % y : Nat) : Int)]) ∧ ∃ k, w' = w.drewN k := by
  have d1 : ((y : Int) != 0) = true := by simp; omega
  have d2 : decide (y ≤ hi) = false := decide_eq_false (by omega)
  have hz := hi_lo (Nat.lt_trans h1 h2) h3
  have hq : (hi * W32 + lo) / y < W32 := Nat.div_lt_of_lt_mul (by
    have : (hi + 1) * W32 ≤ y * W32 := Nat.mul_le_mul_right _ h1
    rw [Nat.add_mul, Nat.one_mul] at this
    omega)
  have hr : (hi * W32 + lo) % y < y := Nat.mod_lt _ (by omega)
  have hzl : hi * W32 + lo < 18446744073709551616 := by unfold W32 at *; omega
  obtain ⟨Z, hZ⟩ : ∃ Z, hi * W32 + lo = Z := ⟨_, rfl⟩
  rw [hZ] at hz hq hr hzl ⊢
  have r1 : IntKind.u64.wrap ((Z : Int) / (y : Int)) % 4294967296 = ((Z / y : Nat) : Int) := by
    rw [show (Z : Int) / (y : Int) = ((Z / y : Nat) : Int) from rfl, u64_nat (Nat.lt_of_le_of_lt (Nat.div_le_self _ _) hzl)]
    exact Int.emod_eq_of_lt (Int.natCast_nonneg _) (Int.ofNat_lt.2 hq)
  have R1 := Lib.hid r1
  have r2 : (Z : Int) % (y : Int) % 4294967296 = ((Z % y : Nat) : Int) := by
    rw [show (Z : Int) % (y : Int) = ((Z % y : Nat) : Int) from rfl]
    exact Int.emod_eq_of_lt (Int.natCast_nonneg _) (Int.ofNat_lt.2 (Nat.lt_trans hr h2))
  have R2 := Lib.hid r2
  have d3 : ((y : Int) == 0) = false := by simp; omega
  have q5 : IntKind.u64.wrap (y : Int) = (y : Int) := u64_nat (by unfold W32 at *; omega)
  have d4 : y ≠ 0 := by omega
  clear hZ r1 r2 hq hr
  unfold W32 at *
  go_enter Tryz.func99, Tryz.ntmps99
  go_wp2_with fail
  go_quiet (fail)
  go_wp2_with fail
  go_ret2
  exact ⟨by rw [R1.out, R2.out]; rfl, _, rfl⟩

/-- A number's rest at one limb after the other, the highest first. -/
structure OverTo (xs out : List Nat) (d m rest : Nat) : Prop where
  len : out.length = xs.length
  ok : OkB W32 out
  rlt : rest < d
  zero : ∀ j x, j < m → out[j]? = some x → x = 0
  eq : val xs = val out * d + W32 ^ m * rest + val (xs.take m)
theorem OverTo.start {xs : List Nat} {d : Nat} (hd : 0 < d) : OverTo xs (List.replicate xs.length 0) d xs.length 0 :=
  ⟨by simp, ok_zeros (by decide) _, hd, fun j x _ hx => List.eq_of_mem_replicate (List.mem_of_getElem? hx), by simp [val, val_zeros]⟩
theorem OverTo.step {xs out : List Nat} {d k rest x : Nat} (h : OverTo xs out d (k + 1) rest) (hx : xs[k]? = some x) (hxl : x < W32) :
    OverTo xs (out.set k ((rest * W32 + x) / d)) d k ((rest * W32 + x) % d) := by
  have hk : k < out.length := by rw [h.len]; exact (List.getElem?_eq_some_iff.1 hx).1
  obtain ⟨z, hz⟩ : ∃ z, out[k]? = some z := ⟨_, List.getElem?_eq_getElem hk⟩
  have hz0 := h.zero k z (Nat.lt_succ_self k) hz
  subst hz0
  have hd : 0 < d := by have := h.rlt; omega
  have hq : (rest * W32 + x) / d < W32 := Nat.div_lt_of_lt_mul (by
    have : (rest + 1) * W32 ≤ d * W32 := Nat.mul_le_mul_right _ h.rlt
    rw [Nat.add_mul, Nat.one_mul] at this
    omega)
  refine ⟨by simp [h.len], ok_set h.ok hq, Nat.mod_lt _ hd, fun j y hj hy => ?_, ?_⟩
  · rw [List.getElem?_set_ne (by omega)] at hy
    exact h.zero j y (by omega) hy
  · have e1 := val_set (b := W32) (v := (rest * W32 + x) / d) hz
    have e2 := val_take_succ W32 xs k
    have e3 : xs.getD k 0 = x := by rw [List.getD_eq_getElem?_getD, hx]; rfl
    have e4 := h.eq
    have e5 := Nat.mod_add_div (rest * W32 + x) d
    unfold val at *
    rw [e3] at e2
    rw [e2] at e4
    generalize (rest * W32 + x) / d = q at *
    generalize (rest * W32 + x) % d = r at *
    rw [Nat.mul_zero, Nat.add_zero] at e1
    rw [e1, e4, Nat.pow_succ]
    have e6 : W32 ^ k * (r + d * q) = W32 ^ k * (rest * W32 + x) := by rw [e5]
    rw [Nat.mul_add, Nat.mul_add] at e6
    have e7 : W32 ^ k * (d * q) = W32 ^ k * q * d := by rw [Nat.mul_comm d q, Nat.mul_assoc]
    have e8 : W32 ^ k * (rest * W32) = W32 ^ k * W32 * rest := by rw [Nat.mul_comm rest, Nat.mul_assoc]
    rw [Nat.add_mul]
    omega

set_option maxRecDepth 100000 in
set_option maxHeartbeats 1000000 in
/-- nat.Over by a number that is not 0. -/
theorem over_c (w : World) (A : Option Addr) (n c d : Nat) (xs : List Nat) (h : Sl w A n (xs.map wv)) (o : OkB W32 xs) (hd : 0 < d) (hdl : d < W32) (m1 : n ≤ 1000000000) :
    Calls Tryz.prog 72 #[.slice A n c, .int .u32 (d : Int)] w fun e w' =>
      ∃ B c', e = .returned (.tuple #[.slice B (limbs (val xs / d)).length c', .int .u32 ((val xs % d : Nat) : Int), .nilIface]) ∧ w'.ownsRow w.heap.size 103 1 (.slice B (limbs (val xs / d)).length c') (limbs (val xs / d)).length ((limbs (val xs / d)).map wv) ∧ Below w.heap.size w w' := by
  have l1 : xs.length = n := by simpa using h.1
  have hst := OverTo.start (xs := xs) hd
  rw [l1] at hst
  have HL := Lib.hid l1
  clear l1
  have hmk := run_make_row' (P := Tryz.prog) 66 103 (.int .u32 0) 4 tNat.und tNat.info rfl .i64 .i64 n (by omega) (by omega)
  have hown0 := make_u32 w n (by simp only [maxLen]; omega)
  have d0 : ((d : Int) == 0) = false := by simp; omega
  go_enter Tryz.func72, Tryz.ntmps72
  go_wp2_with fail
  clear hmk
  go_loopw [8, 9] (fun rs i wr => ∃ (m rest : Nat) (z : Int) (out : List Nat), m ≤ n ∧ i = .int .i64 z ∧ z = (m : Int) - 1 ∧ rs = .int .u32 (rest : Nat) ∧ OverTo xs out d m rest ∧ wr.ownsRow w.heap.size 103 1 (.slice (some ⟨w.heap.size, 0, none⟩) n n) n (out.map wv) ∧ Below w.heap.size w wr) (fun _ i _ => (intOf i + 1).toNat)
  case atStart => exact ⟨n, 0, _, _, Nat.le_refl _, rfl, rfl, rfl, hst, hown0, (Below.refl _ _).alloc (Nat.le_refl _) _⟩
  case round =>
    clear hst hown0
    obtain ⟨m, rest, z, out, hm, rfl, hz, rfl, hA, hown, hb⟩ := hrel
    cases m with
    | zero =>
      obtain rfl : z = -1 := by omega
      clear hz
      have hge : decide ((0 : Int) ≤ -1) = false := by decide
      have e := hA.eq
      have hr := hA.rlt
      have hok := hA.ok
      have e1 : val out = val xs / d := by
        rw [e, List.take_zero, Nat.pow_zero, Nat.one_mul, show val [] = 0 from rfl, Nat.add_zero, Nat.mul_comm, Nat.mul_add_div hd, Nat.div_eq_of_lt hr, Nat.add_zero]
      have e2 : rest = val xs % d := by
        rw [e, List.take_zero, Nat.pow_zero, Nat.one_mul, show val [] = 0 from rfl, Nat.add_zero, Nat.mul_comm, Nat.mul_add_mod, Nat.mod_eq_of_lt hr]
      have E1 := Lib.hid e1
      have E2 := Lib.hid e2
      clear e e1 e2 hA
      go_wp2_with fail
      refine (norm_own hown hok hb).mono ?_
      rintro e w3 ⟨B, c', rfl, ho, hb3⟩
      go_wp2_with fail
      go_ret3
      rw [E1.out] at ho ⊢
      exact ⟨B, c', by rw [← E2.out]; rfl, ho, hb3⟩
    | succ k =>
      obtain rfl : z = (k : Int) := by omega
      clear hz
      obtain ⟨ad, x, rfl, hxk, hcx⟩ := (h.below hb).word_ (show k < n by omega)
      have hxl := o x (List.mem_of_getElem? hxk)
      have hstep := hA.step hxk hxl
      obtain ⟨y, hy⟩ : ∃ y, out[k]? = some y := ⟨_, List.getElem?_eq_getElem (by rw [hA.len]; exact (List.getElem?_eq_some_iff.1 hxk).1)⟩
      have hdiv := fun wz => div32_c wz rest x d hA.rlt hdl hxl
      have HDIV := Lib.hid hdiv
      have HS := Lib.hid hstep
      have hcell := row_word hown (show k < n by omega) hy
      have hfr := hown.frozenAt k
      have hset := set_word hown k ((rest * W32 + x) / d)
      have hb2 := hb.setCell (p := ⟨w.heap.size, k, none⟩) (Nat.le_refl _) (.int .u32 (((rest * W32 + x) / d : Nat) : Int))
      clear hdiv hstep hxk hy hown hA hb
      go_wp2_with fail
      refine (HDIV.out _).mono ?_
      rintro e w3 ⟨rfl, q, rfl⟩
      generalize (rest * W32 + x) / d = qq at hset hb2 HS ⊢
      generalize (rest * W32 + x) % d = rr at HS ⊢
      go_wp2_with fail
      exact ⟨⟨k, rr, _, _, by omega, rfl, by omega, rfl, HS.out, hset, below_drewN hb2 _⟩, by simp [intOf]⟩
end Go.Proofs.YtpllojpgpejfmaaGreatDoor
