/- The document's edenref02.Low, Fits, Bits, Sum, Sub; nat.Low, nat.Fits by value. Condition: the limbs read from memory. -/
import Derived.Test.YtkghilmdoabodaaDoorRef2D
import Derived.Test.YtkghilmdoabodaaDoorRef2P
import Derived.Test.YtkghilmdoabodaaDoorNatH
import Derived.Test.YtkghilmdoabodaaDoorNatL
import Derived.Test.YtkghilmdoabodaaDoorNatRing
namespace Go.Proofs.YtkghilmdoabodaaDoor
open Go.RowKit NatP

theorem limbs_two (v : Nat) : (limbs v).length ≤ 2 ↔ v < 18446744073709551616 := by
  constructor
  · intro h
    have h1 := val_lt w32 (ok_limbs v)
    rw [show valB W32 (limbs v) = v from val_limbs v] at h1
    exact Nat.lt_of_lt_of_le h1 (Nat.le_trans (Nat.pow_le_pow_right (by decide) h) (by decide))
  · intro h
    exact limbs_len_of_lt 2 v (Nat.lt_of_lt_of_le h (by decide))
theorem fits_n {w : World} {A : Option Addr} {n c v : Nat} (h : Num w A n c v) :
    Calls Tryd.prog 12 #[.slice A n c] w fun e w' => e = .returned (.bool (decide (v < 18446744073709551616))) ∧ Below w.heap.size w w' := by
  obtain ⟨xs, a1, b1, s1, o1, rfl⟩ := h
  refine (fits_c w A n c xs s1 o1 a1 b1).mono ?_
  rintro e w' ⟨rfl, rfl⟩
  exact ⟨by rw [decide_eq_decide.2 (limbs_two (val xs))], Below.refl _ _⟩

set_option maxRecDepth 100000 in
theorem refFits_n {w : World} {A : Option Addr} {n c v : Nat} (h : Num w A n c v) (hm : n ≤ 1000000000) :
    Calls Tryd.prog 13 #[.slice A n c] w fun e w' => e = .returned (.bool (decide (v < 18446744073709551616))) ∧ Below w.heap.size w w' := by
  have HH := Lib.hid (half_n h hm)
  have hd : decide (((halfs v).length : Int) ≤ 4) = decide (v < 18446744073709551616) := decide_eq_decide.2 ⟨fun h => (half_four v).1 (by unfold halfs at h; omega), fun h => by have := (half_four v).2 h; unfold halfs; omega⟩
  obtain ⟨R, hR⟩ : ∃ R, decide (v < 18446744073709551616) = R := ⟨_, rfl⟩
  rw [hR] at hd ⊢
  clear h hR
  go_enter Tryd.func13, Tryd.ntmps13
  go_wp2_with fail
  refine (HH.out).mono ?_
  rintro e w1 ⟨C, cc, rfl, ho, hb⟩
  clear ho
  generalize (halfs v).length = L at hd
  go_wp2_with fail
  go_ret
  exact ⟨rfl, hb⟩

set_option maxRecDepth 100000 in
set_option maxHeartbeats 1000000 in
theorem refLow_n {w : World} {A : Option Addr} {n c v : Nat} (h : Num w A n c v) (hm : n ≤ 1000000000) :
    Calls Tryd.prog 11 #[.slice A n c] w fun e w' => e = .returned (.int .u64 ((v % 18446744073709551616 : Nat) : Int)) ∧ Below w.heap.size w w' := by
  have HH := Lib.hid (half_n h hm)
  have HV := Lib.hid (lowD_zero v)
  have HO := Lib.hid (ok_digs h16 v)
  obtain ⟨V, hV⟩ : ∃ V, v % 18446744073709551616 = V := ⟨_, rfl⟩
  rw [hV] at HV ⊢
  have hl := halfs_len h
  clear h hV
  go_enter Tryd.func11, Tryd.ntmps11
  go_wp2_with fail
  refine (HH.out).mono ?_
  rintro e w1 ⟨C, cc, rfl, ho, hb⟩
  have hX := Sl.of_own ho
  obtain ⟨D, hD⟩ : ∃ D, halfs v = D := ⟨_, rfl⟩
  rw [show digs 65536 v = D from hD] at HV HO
  rw [hD] at hX hl ⊢
  obtain ⟨L, hL⟩ : ∃ L, D.length = L := ⟨_, rfl⟩
  rw [hL] at hX hl ⊢
  have HL := Lib.hid hL
  clear ho hD hL
  go_wp2_with fail
  go_loop [4, 5] (fun xv iv => ∃ (k lo : Nat) (z : Int), k ≤ 4 ∧ iv = .int .i64 z ∧ Hid (z = (k : Int) - 1) ∧ xv = .int .u64 (lo : Int) ∧ Hid (lo = lowD D k)) (fun _ iv => (intOf iv + 1).toNat)
  case atStart => exact ⟨4, 0, 3, Nat.le_refl _, rfl, Lib.hid rfl, rfl, Lib.hid (lowD_four D).symm⟩
  case round =>
    obtain ⟨k, lo, z, hk, rfl, hz, rfl, hlo⟩ := hrel
    cases k with
    | zero =>
      obtain rfl : z = -1 := by have := hz.out; omega
      have hge : decide ((0 : Int) ≤ -1) = false := by decide
      obtain rfl : lo = V := hlo.out.trans HV.out
      clear hz
      go_wp2_with fail
      go_ret
      exact ⟨rfl, hb⟩
    | succ j =>
      obtain rfl : z = (j : Int) := by have := hz.out; omega
      clear hz
      have hst := lowD_step D (k := j) (by omega)
      rw [← hlo.out] at hst
      have hlt : lo < 65536 ^ (4 - (j + 1)) := by rw [hlo.out]; exact lowD_lt HO.out (j + 1)
      have hlt2 : lo < 281474976710656 := Nat.lt_of_lt_of_le hlt (Nat.le_trans (Nat.pow_le_pow_right (by decide) (by omega : 4 - (j + 1) ≤ 3)) (by decide))
      have g1 : IntKind.u64.wrap ((lo : Int) * 65536) = (lo : Int) * 65536 := IntWalk.u64_in _ (by omega)
      by_cases hj : j < L
      · obtain ⟨ad, x, rfl, hxj, hcx⟩ := hX.word_ hj
        have hxl : x < 65536 := HO.out x (List.mem_of_getElem? hxj)
        have gx : D.getD j 0 = x := by rw [List.getD_eq_getElem?_getD, hxj]; rfl
        have g2 : IntKind.u64.wrap (x : Int) = (x : Int) := IntWalk.u64_in _ (by omega)
        have g3 : IntKind.u64.wrap ((lo : Int) * 65536 + (x : Int)) = ((x + 65536 * lo : Nat) : Int) := by rw [IntWalk.u64_in _ (by omega)]; omega
        rw [gx] at hst
        have HST := Lib.hid hst.symm
        clear hst gx hxj hlo hlt
        go_wp2_with fail
        exact ⟨⟨j, x + 65536 * lo, _, by omega, rfl, Lib.hid rfl, rfl, HST⟩, by simp [intOf]⟩
      · have gx : D.getD j 0 = 0 := by rw [List.getD_eq_getElem?_getD, List.getElem?_eq_none (by rw [HL.out]; omega)]; rfl
        rw [gx, Nat.zero_add] at hst
        have HST := Lib.hid hst.symm
        have g4 : (lo : Int) * 65536 = ((65536 * lo : Nat) : Int) := by omega
        clear hst gx hlo hlt
        go_wp2_with fail
        exact ⟨⟨j, 65536 * lo, _, by omega, rfl, Lib.hid rfl, by first | rfl | rw [g4], HST⟩, by simp [intOf]⟩

set_option maxRecDepth 100000 in
set_option maxHeartbeats 1000000 in
theorem refBits_n {w : World} {A : Option Addr} {n c v : Nat} (h : Num w A n c v) (hm : n ≤ 1000000000) :
    Calls Tryd.prog 17 #[.slice A n c] w fun e w' => e = .returned (.int .i64 ((blen v : Nat) : Int)) ∧ Below w.heap.size w w' := by
  have HH := Lib.hid (half_n h hm)
  have hl := halfs_len h
  have HO := Lib.hid (ok_digs h16 v)
  obtain ⟨V, hV⟩ : ∃ V, blen v = V := ⟨_, rfl⟩
  have HV := Lib.hid hV
  rw [hV]
  clear h hV
  go_enter Tryd.func17, Tryd.ntmps17
  go_wp2_with fail
  refine (HH.out).mono ?_
  rintro e w1 ⟨C, cc, rfl, ho, hb⟩
  have hX := Sl.of_own ho
  clear ho HH
  rcases List.eq_nil_or_concat (halfs v) with hnil | ⟨pre, x, hcat⟩
  · have hv0 : V = 0 := by
      have hv := val_digs h16 v
      rw [show digs 65536 v = [] from hnil] at hv
      rw [← HV.out, ← hv]
      rfl
    have hlen : (halfs v).length = 0 := by rw [hnil]; rfl
    rw [hlen] at hX ⊢
    subst hv0
    clear hnil hlen hX
    go_wp2_with fail
    go_ret
    exact ⟨rfl, hb⟩
  · have hbl := blen_top (s := 16) (v := v) (x := x) (pre := pre) (by decide) (by rw [show (2 : Nat) ^ 16 = 65536 by decide, ← List.concat_eq_append]; exact hcat)
    rw [HV.out] at hbl
    have hlen : (halfs v).length = pre.length + 1 := by rw [hcat]; simp
    have hxl : x < 65536 := HO.out x (by rw [show digs 65536 v = pre.concat x from hcat]; simp)
    have hat : (halfs v)[pre.length]? = some x := by rw [hcat]; simp
    rw [hlen] at hX hl ⊢
    obtain ⟨p, hp⟩ : ∃ p, pre.length = p := ⟨_, rfl⟩
    rw [hp] at hX hl hat hbl ⊢
    obtain ⟨ad, x', rfl, hx', hcx⟩ := hX.word_ (show p < p + 1 by omega)
    obtain rfl : x = x' := Option.some.inj (hat.symm.trans hx')
    have HB := Lib.hid hbl
    have HVL : Hid (V ≤ 40000000000) := Lib.hid (by have := blen_small (k := 16) hxl; omega)
    have hz : (((p + 1 : Nat) : Int) == 0) = false := by rw [beq_eq_false_iff_ne]; omega
    have e1 : ((p + 1 : Nat) : Int) - 1 = (p : Int) := by omega
    have hpp : (p : Int) < ((p + 1 : Nat) : Int) := by omega
    clear hlen hat hx' hX hcat hp
    go_wp2_with fail
    go_loop [4, 5] (fun nv xv => ∃ (m y : Nat), nv = .int .i64 (m : Int) ∧ xv = .int .u32 (y : Int) ∧ m ≤ 4000000000000 ∧ y < 65536 ∧ Hid (m + blen y = V)) (fun _ xv => (intOf xv).toNat)
    case atStart => exact ⟨16 * p, x, by simp, rfl, by omega, hxl, Lib.hid HB.out.symm⟩
    case round =>
      obtain ⟨m, y, rfl, rfl, hm', hy, hrel⟩ := hrel
      rcases Nat.eq_zero_or_pos y with h0 | h0
      · subst h0
        obtain rfl : m = V := by have := hrel.out; rw [blen_zero] at this; omega
        clear hcx
        go_wp2_with fail
        go_ret
        exact ⟨rfl, hb⟩
      · have hb2 := blen_pos h0
        have hrel2 : Hid (m + 1 + blen (y / 2) = V) := Lib.hid (by have := hrel.out; omega)
        have hpos : (0 : Int) < (y : Int) := by omega
        have g1 : IntKind.u32.wrap ((y : Int) / 2) = (y : Int) / 2 := IntWalk.u32_in _ (by omega)
        have hdv : Hid (y / 2 < y) := Lib.hid (Nat.div_lt_self h0 (by decide))
        clear hb2 hrel hcx
        go_wp2_with fail
        exact ⟨⟨m + 1, y / 2, by simp, by simp, by (have := HVL.out; have := hrel2.out; omega), by omega, hrel2⟩, by have := hdv.out; simp [intOf]; omega⟩

set_option maxRecDepth 100000 in
set_option maxHeartbeats 1000000 in
theorem refSum_c (w : World) (L : Option Addr) (n c : Nat) (R : List ((Option Addr × Nat × Nat) × Nat)) (h : Sl w L n (R.map fun x => slv x.1)) (hn : n ≤ 1000) (hR : ∀ x ∈ R, Num w x.1.1 x.1.2.1 x.1.2.2 x.2 ∧ x.1.2.1 ≤ 1000000) :
    Calls Tryd.prog 44 #[.slice L n c] w fun e w' => New w (sumV R) e w' := by
  have hl : R.length = n := by simpa using h.1
  have HL := Lib.hid hl
  have HR := Lib.hid hR
  clear hl hR
  go_enter Tryd.func44, Tryd.ntmps44
  go_wp2_with fail
  go_loopw [3, 4] (fun s i wr => ∃ (k cc : Nat) (B : Option Addr), k ≤ n ∧ i = .int .i64 (k : Int) ∧ s = .slice B (limbs (sumV (R.take k))).length cc ∧ (limbs (sumV (R.take k))).length ≤ 1000000 + k ∧ wr.ownsRow w.heap.size 27 1 (.slice B (limbs (sumV (R.take k))).length cc) (limbs (sumV (R.take k))).length ((limbs (sumV (R.take k))).map wv) ∧ Below w.heap.size w wr) (fun _ i _ => n - (intOf i).toNat)
  case atStart => exact ⟨0, 0, none, Nat.zero_le _, rfl, rfl, Nat.zero_le _, ⟨rfl, .inl ⟨rfl, rfl⟩⟩, Below.refl _ _⟩
  case round =>
    obtain ⟨k, cc, B, hk, rfl, rfl, hlen, hown, hb⟩ := hrel
    by_cases hlt : k < n
    · obtain ⟨ad, u, rfl, hxk, hcx⟩ := (h.below hb).at_ hlt
      rw [List.getElem?_map] at hxk
      cases hRk : R[k]? with
      | none => rw [hRk] at hxk; cases hxk
      | some x =>
        obtain ⟨⟨A, m, d⟩, v⟩ := x
        rw [hRk] at hxk
        obtain rfl := Option.some.inj hxk
        simp only [slv] at hcx
        obtain ⟨hx, hm⟩ := HR.out _ (List.mem_of_getElem? hRk)
        simp only at hx hm
        have hs : sumV (R.take (k + 1)) = sumV (R.take k) + v := by rw [List.take_add_one, hRk]; exact sumV_snoc _ _
        have hadd := refAdd_n (num_own hown) (hx.below hb) (by omega) (by omega) (r := sumV (R.take (k + 1))) hs.symm
        have hl2 : (limbs (sumV (R.take (k + 1)))).length ≤ 1000000 + (k + 1) := by
          rw [hs]
          exact limbs_add _ _ (1000000 + k) hlen (by have := hx.len; omega)
        have HADD := Lib.hid hadd
        have HL2 := Lib.hid hl2
        clear hs hadd hRk hxk hl2
        go_wp2_with fail
        refine (HADD.out).mono ?_
        rintro e w2 ⟨A2, c2, rfl, _, ho2, hb2⟩
        have hb3 := hb.trans (hb2.mono hb.size)
        have ho3 := own_base ho2 hb.size
        go_wp2_with fail
        exact ⟨⟨k + 1, c2, A2, by omega, by go_num, rfl, HL2.out, ho3, hb3⟩, by simp [intOf]; omega⟩
    · obtain rfl : k = n := by omega
      rw [List.take_of_length_le (by rw [HL.out]; exact Nat.le_refl _)] at hown hlen ⊢
      go_wp2_with fail
      go_ret
      exact ⟨B, cc, rfl, num_own hown, hown, hb⟩

/-- The lowest limbs of a number. -/
theorem low_step {xs : List Nat} {k x : Nat} (h : xs[k]? = some x) : valB W32 (xs.take (k + 1)) = valB W32 (xs.take k) + W32 ^ k * x := by
  have hk : k < xs.length := (List.getElem?_eq_some_iff.1 h).1
  rw [List.take_add_one, h, Option.toList_some, val_snoc, List.length_take, Nat.min_eq_left (by omega)]
theorem low_or0 {x y : Nat} (hx : x < 4294967296) (hy : y < 1) : bits .or .u64 (y : Int) (x : Int) = ((y + x : Nat) : Int) := by
  obtain rfl : y = 0 := by omega
  rw [u64_or_nat 0 x (by decide) (by omega)]
  simp
theorem low_or1 {x y : Nat} (hx : x < 4294967296) (hy : y < W32) : bits .or .u64 (y : Int) ((x : Int) * 4294967296) = ((y + 4294967296 * x : Nat) : Int) := by
  unfold W32 at hy
  have e : (x : Int) * 4294967296 = ((2 ^ 32 * x : Nat) : Int) := by simp; omega
  rw [e, u64_or_nat y (2 ^ 32 * x) (by omega) (by simp; omega), Nat.or_comm, ← Nat.two_pow_add_eq_or_of_lt (i := 32) hy]
  simp
  omega
theorem low_all {xs : List Nat} (ho : OkB W32 xs) (h : xs.length < 2) : valB W32 (xs.take xs.length) = val xs % 18446744073709551616 := by
  rw [List.take_of_length_le (Nat.le_refl _)]
  have := val_lt w32 ho
  have h2 : W32 ^ xs.length ≤ W32 ^ 1 := Nat.pow_le_pow_right (by decide) (by omega)
  exact (Nat.mod_eq_of_lt (Nat.lt_of_lt_of_le this (Nat.le_trans h2 (by decide)))).symm
theorem low_two {xs : List Nat} (ho : OkB W32 xs) (h : 2 ≤ xs.length) : valB W32 (xs.take 2) = val xs % 18446744073709551616 := by
  have e : val xs = valB W32 (xs.take 2) + W32 ^ 2 * valB W32 (xs.drop 2) := by
    conv => lhs; rw [← List.take_append_drop 2 xs]
    rw [show val (xs.take 2 ++ xs.drop 2) = valB W32 (xs.take 2 ++ xs.drop 2) from rfl, val_append, List.length_take, Nat.min_eq_left h]
  have hlt := val_lt w32 (l := xs.take 2) (fun z hz => ho z (List.mem_of_mem_take hz))
  rw [List.length_take, Nat.min_eq_left h] at hlt
  have hb : W32 ^ 2 = 18446744073709551616 := by decide
  rw [hb] at e hlt
  rw [e, Nat.add_mul_mod_self_left, Nat.mod_eq_of_lt hlt]
set_option maxRecDepth 100000 in
set_option maxHeartbeats 1000000 in
theorem low_n {w : World} {A : Option Addr} {n c v : Nat} (h : Num w A n c v) (hm : n ≤ 1000000000) :
    Calls Tryd.prog 10 #[.slice A n c] w fun e w' => e = .returned (.int .u64 ((v % 18446744073709551616 : Nat) : Int)) ∧ Below w.heap.size w w' := by
  obtain ⟨xs, a1, b1, hS, ho, hv⟩ := h
  have hl : xs.length = n := by simpa using hS.1
  have HO := Lib.hid ho
  have HL := Lib.hid hl
  have HV := Lib.hid hv
  unfold maxLen at b1
  obtain ⟨V, hV⟩ : ∃ V, v % 18446744073709551616 = V := ⟨_, rfl⟩
  have HVV := Lib.hid hV
  rw [hV]
  clear ho hl hv hV
  rcases Nat.lt_or_ge n 2 with h2 | h2
  · have h2' : (n : Int) < 2 := by omega
    have h2'' : min (2 : Int) (n : Int) = (n : Int) := by omega
    have h3'' : max (n : Int) 0 = (n : Int) := by omega
    go_enter Tryd.func10, Tryd.ntmps10
    go_wp2_with fail
    go_loop [3, 12] (fun xv iv => ∃ k : Nat, k ≤ n ∧ iv = .int .i64 (k : Int) ∧ ∃ y : Nat, xv = .int .u64 (y : Int) ∧ Hid (y = valB W32 (xs.take k))) (fun _ iv => n - (intOf iv).toNat)
    case atStart => exact ⟨0, Nat.zero_le _, rfl, 0, rfl, Lib.hid rfl⟩
    case round =>
      obtain ⟨k, hk, rfl, y, rfl, hy⟩ := hrel
      by_cases hlt : k < n
      · obtain ⟨ad, x, rfl, hxk, hcx⟩ := hS.word_ (show k < n by omega)
        have hxl : x < 4294967296 := HO.out x (List.mem_of_getElem? hxk)
        have hst := low_step hxk
        rw [← hy.out] at hst
        have hk2 : k = 0 ∨ k = 1 := by omega
        have hyl : y < W32 ^ k := by
          have := val_lt w32 (l := xs.take k) (fun z hz => HO.out z (List.mem_of_mem_take hz))
          rw [← hy.out] at this
          exact Nat.lt_of_lt_of_le this (Nat.pow_le_pow_right (by decide) (by simp; omega))
        have g1 : IntKind.u64.wrap (x : Int) = (x : Int) := IntWalk.u64_in _ (by omega)
        clear hxk
        rcases hk2 with rfl | rfl
        · have hcx1 : w.cell? ad = some (.int .u32 (x : Int)) := by simpa [Addr.add] using hcx
          have hor := low_or0 hxl (by simpa using hyl)
          have HST : Hid (y + x = valB W32 (xs.take 1)) := Lib.hid (by rw [hst]; simp)
          clear hst hy hyl
          go_wp2_with fail
          exact ⟨⟨1, by omega, rfl, y + x, rfl, HST⟩, by first | (simp [intOf]; done) | (simp [intOf]; omega)⟩
        · omega
      · obtain rfl : k = n := by omega
        have e : Hid (y = V) := Lib.hid (by rw [hy.out, ← HVV.out]; exact (by rw [← HV.out]; have := low_all HO.out (by rw [HL.out]; exact h2); rwa [HL.out] at this))
        obtain rfl := e.out
        clear hy
        go_wp2_with fail
        go_ret
        exact ⟨rfl, Below.refl _ _⟩
  · have h2' : ¬ ((n : Int) < 2) := by omega
    have h2'' : min (2 : Int) (n : Int) = 2 := by omega
    go_enter Tryd.func10, Tryd.ntmps10
    go_wp2_with fail
    go_loop [3, 12] (fun xv iv => ∃ k : Nat, k ≤ 2 ∧ iv = .int .i64 (k : Int) ∧ ∃ y : Nat, xv = .int .u64 (y : Int) ∧ Hid (y = valB W32 (xs.take k))) (fun _ iv => 2 - (intOf iv).toNat)
    case atStart => exact ⟨0, Nat.zero_le _, rfl, 0, rfl, Lib.hid rfl⟩
    case round =>
      obtain ⟨k, hk, rfl, y, rfl, hy⟩ := hrel
      by_cases hlt : k < 2
      · obtain ⟨ad, x, rfl, hxk, hcx⟩ := hS.word_ (show k < n by omega)
        have hxl : x < 4294967296 := HO.out x (List.mem_of_getElem? hxk)
        have hst := low_step hxk
        rw [← hy.out] at hst
        have hk2 : k = 0 ∨ k = 1 := by omega
        have hyl : y < W32 ^ k := by
          have := val_lt w32 (l := xs.take k) (fun z hz => HO.out z (List.mem_of_mem_take hz))
          rw [← hy.out] at this
          exact Nat.lt_of_lt_of_le this (Nat.pow_le_pow_right (by decide) (by simp; omega))
        have g1 : IntKind.u64.wrap (x : Int) = (x : Int) := IntWalk.u64_in _ (by omega)
        clear hxk
        rcases hk2 with rfl | rfl
        · have hcx1 : w.cell? ad = some (.int .u32 (x : Int)) := by simpa [Addr.add] using hcx
          have hor := low_or0 hxl (by simpa using hyl)
          have HST : Hid (y + x = valB W32 (xs.take 1)) := Lib.hid (by rw [hst]; simp)
          clear hst hy hyl
          go_wp2_with fail
          exact ⟨⟨1, by omega, rfl, y + x, rfl, HST⟩, by first | (simp [intOf]; done) | (simp [intOf]; omega)⟩
        · have hcx1 : w.cell? ⟨ad.block, ad.off + 1, none⟩ = some (.int .u32 (x : Int)) := by simpa [Addr.add] using hcx
          have hor := low_or1 hxl (by simpa using hyl)
          have HST : Hid (y + 4294967296 * x = valB W32 (xs.take 2)) := Lib.hid (by rw [hst]; unfold W32; simp)
          clear hst hy hyl
          go_wp2_with fail
          exact ⟨⟨2, by omega, rfl, y + 4294967296 * x, rfl, HST⟩, by first | (simp [intOf]; done) | (simp [intOf]; omega)⟩
      · obtain rfl : k = 2 := by omega
        have e : Hid (y = V) := Lib.hid (by rw [hy.out, ← HVV.out]; exact (by rw [← HV.out]; exact low_two HO.out (by rw [HL.out]; exact h2)))
        obtain rfl := e.out
        clear hy
        go_wp2_with fail
        go_ret
        exact ⟨rfl, Below.refl _ _⟩

/-- What the document answers: the limbs of v, and the tale of a refusal. -/
def RefNE (w : World) (v : Nat) (t : Option Tale) (e : Ending) (w' : World) : Prop :=
  ∃ (C : Option Addr) (cc N : Nat) (A1 : Option Addr) (n1 c1 : Nat) (A2 : Option Addr) (n2 c2 : Nat), e = .returned (.tuple #[.slice C (limbs v).length cc, .agg #[.int .i64 (N : Int), .slice A1 n1 c1, .slice A2 n2 c2]]) ∧
    w'.ownsRow w.heap.size 27 1 (.slice C (limbs v).length cc) (limbs v).length ((limbs v).map wv) ∧ WantB w' w.heap.size t (.agg #[.int .i64 (N : Int), .slice A1 n1 c1, .slice A2 n2 c2]) ∧ Below w.heap.size w w'
theorem RefNE.bad {w w' : World} {t : Option Tale} {N : Nat} {A1 A2 : Option Addr} {n1 c1 n2 c2 : Nat} (hu : WantB w' w.heap.size t (.agg #[.int .i64 (N : Int), .slice A1 n1 c1, .slice A2 n2 c2])) (hb : Below w.heap.size w w') :
    RefNE w 0 t (.returned (.tuple #[.slice none 0 0, .agg #[.int .i64 (N : Int), .slice A1 n1 c1, .slice A2 n2 c2]])) w' :=
  ⟨none, 0, N, A1, n1, c1, A2, n2, c2, rfl, ⟨rfl, .inl ⟨rfl, rfl⟩⟩, hu, hb⟩
theorem RefNE.ok {w w' : World} {v : Nat} {C : Option Addr} {cc : Nat} (ho : w'.ownsRow w.heap.size 27 1 (.slice C (limbs v).length cc) (limbs v).length ((limbs v).map wv)) (hb : Below w.heap.size w w') :
    RefNE w v none (.returned (.tuple #[.slice C (limbs v).length cc, .agg #[.int .i64 0, .slice none 0 0, .slice none 0 0]])) w' :=
  ⟨C, cc, 0, none, 0, 0, none, 0, 0, rfl, ho, WantB.zero _ _, hb⟩

set_option maxRecDepth 100000 in
set_option maxHeartbeats 1000000 in
theorem refSub_bad {w : World} {A B : Option Addr} {n c m d v u : Nat} (h1 : Num w A n c v) (h2 : Num w B m d u) (m1 : n ≤ 1000000000) (m2 : m ≤ 1000000000) (hlt : v < u) :
    Calls Tryd.prog 35 #[.slice A n c, .slice B m d] w fun e w' => RefNE w 0 (some (3, [(sNat, 0)])) e w' := by
  have hw0 := WantAt.new w (.int .i64 0) (.slice none 0 0) (.slice none 0 0)
  have hb0 := (Below.refl w.heap.size w).alloc (Nat.le_refl _) (.cells #[.int .i64 0, .slice none 0 0, .slice none 0 0] 50)
  have HC := Lib.hid (refCmp_n (h1.alloc (.cells #[.int .i64 0, .slice none 0 0, .slice none 0 0] 50)) (h2.alloc (.cells #[.int .i64 0, .slice none 0 0, .slice none 0 0] 50)) m1 m2 (cmpN_lt hlt))
  clear h1 h2 hlt
  go_enter Tryd.func35, Tryd.ntmps35
  go_wp2_with fail
  refine (HC.out).mono ?_
  rintro e w1 ⟨rfl, hb1⟩
  have hbw := hb0.trans (hb1.mono hb0.size)
  have hw1 := hw0.below hb1 (by simp)
  have HN := Lib.hid (newB_c w1 sNat 0 3)
  go_wp2_with fail
  refine (HN.out).mono ?_
  rintro e w2 ⟨A1, n1, c1, A2, n2, c2, rfl, hu, hb2⟩
  have hw2 := hw1.below hb2 hw1.lt
  have hu2 := hu.set3 (g := w.heap.size) hw1.lt (.int .i64 3) (.slice A1 n1 c1) (.slice A2 n2 c2)
  have hb3 := below_set3 (hbw.trans (hb2.mono hbw.size)) (Nat.le_refl _) (.int .i64 3) (.slice A1 n1 c1) (.slice A2 n2 c2)
  obtain ⟨d0, d1, d2, f0, f1, f2⟩ := hw2.facts
  have HU := Lib.hid (hu2.base (base' := w.heap.size) hbw.size)
  have HB := Lib.hid hb3
  clear hu hu2 hb1 hb2 hw1 hw0 hb0 hw2 hb3 hbw
  go_wp2_with fail
  exact bodyPost_ret (v := .tuple #[.slice none 0 0, .agg #[.int .i64 3, .slice A1 n1 c1, .slice A2 n2 c2]]) (by simp [results, Tryd.results35, go_sem, d0, d1, d2]) rfl (RefNE.bad (N := 3) HU.out HB.out)

set_option maxRecDepth 100000 in
set_option maxHeartbeats 2000000 in
theorem refSub_ok {w : World} {A B : Option Addr} {n c m d v u : Nat} (h1 : Num w A n c v) (h2 : Num w B m d u) (m1 : n ≤ 1000000000) (m2 : m ≤ 1000000000) (hle : u ≤ v) :
    Calls Tryd.prog 35 #[.slice A n c, .slice B m d] w fun e w' => RefNE w (v - u) none e w' := by
  have hw0 := WantAt.new w (.int .i64 0) (.slice none 0 0) (.slice none 0 0)
  have hb0 := (Below.refl w.heap.size w).alloc (Nat.le_refl _) (.cells #[.int .i64 0, .slice none 0 0, .slice none 0 0] 50)
  have hg1 := h1.alloc (.cells #[.int .i64 0, .slice none 0 0, .slice none 0 0] 50)
  have hg2 := h2.alloc (.cells #[.int .i64 0, .slice none 0 0, .slice none 0 0] 50)
  have hcz : ∃ r : Int, cmpN v u = r ∧ 0 ≤ r := by
    rcases Nat.lt_or_ge u v with h | h
    · exact ⟨1, cmpN_gt h, by decide⟩
    · obtain rfl : u = v := by omega
      exact ⟨0, cmpN_eq u, by decide⟩
  obtain ⟨r, hr, hr0⟩ := hcz
  have hrn : ¬ r < 0 := by omega
  have HC := Lib.hid (refCmp_n hg1 hg2 m1 m2 hr)
  have HH1 := Lib.hid (fun (wz : World) (hz : Below (w.heap.size + 1) (w.alloc (.cells #[.int .i64 0, .slice none 0 0, .slice none 0 0] 50)) wz) => half_n (hg1.below (by simpa using hz)) m1)
  have HH2 := Lib.hid (fun (wz : World) (hz : Below (w.heap.size + 1) (w.alloc (.cells #[.int .i64 0, .slice none 0 0, .slice none 0 0] 50)) wz) => half_n (hg2.below (by simpa using hz)) m2)
  have hl1 := halfs_len h1
  have hl2 := halfs_len h2
  have HXB := Lib.hid (ok_digs h16 v)
  have HYB := Lib.hid (ok_digs h16 u)
  have HVX := Lib.hid (val_digs h16 v)
  have HVY := Lib.hid (val_digs h16 u)
  have hll : (halfs u).length ≤ (halfs v).length := by
    rcases Nat.lt_or_ge (halfs v).length (halfs u).length with h | h
    · have := lt_of_lenB h16 h; omega
    · exact h
  clear h1 h2 hg1 hg2 hr
  go_enter Tryd.func35, Tryd.ntmps35
  go_wp2_with fail
  refine (HC.out).mono ?_
  rintro e w1 ⟨rfl, hb1⟩
  rw [World.size_alloc] at hb1
  go_wp2_with fail
  refine (HH1.out w1 hb1).mono ?_
  rintro e w2 ⟨C1, c1, rfl, ho1, hb2⟩
  have hb12 := hb1.trans (hb2.mono (by have := hb1.size; simpa using this))
  go_wp2_with fail
  refine (HH2.out w2 hb12).mono ?_
  rintro e w3 ⟨C2, c2, rfl, ho2, hb3⟩
  have hb13 := hb12.trans (hb3.mono (by have := hb12.size; simpa using this))
  have hbw := hb0.trans (hb13.mono (Nat.le_succ _))
  have hw3 := hw0.below hb13 (Nat.lt_succ_self _)
  have hX := (Sl.of_own ho1).below hb3
  have hY := Sl.of_own ho2
  obtain ⟨XL, hXL⟩ : ∃ XL, halfs v = XL := ⟨_, rfl⟩
  obtain ⟨YL, hYL⟩ : ∃ YL, halfs u = YL := ⟨_, rfl⟩
  rw [show digs 65536 v = XL from hXL] at HXB HVX
  rw [show digs 65536 u = YL from hYL] at HYB HVY
  rw [hXL] at hl1 hX hll ⊢
  rw [hYL] at hl2 hY hll ⊢
  have hst := SubG.start XL YL
  have hdone : Hid (∀ O br, SubG XL YL O XL.length br → valB 65536 O = v - u) := Lib.hid (fun O br hG => by
    have := hG.stop hll (by rw [HVX.out, HVY.out]; exact hle)
    rw [HVX.out, HVY.out] at this
    exact this)
  obtain ⟨lx, hlx⟩ : ∃ lx, XL.length = lx := ⟨_, rfl⟩
  obtain ⟨ly, hly⟩ : ∃ ly, YL.length = ly := ⟨_, rfl⟩
  rw [hlx] at hl1 hX hst hdone hll ⊢
  rw [hly] at hl2 hY hll ⊢
  have HLX := Lib.hid hlx
  have HLY := Lib.hid hly
  have hmk := run_make_row' (P := Tryd.prog) 24 27 (.int .u32 0) 4 tWords.und tWords.info rfl .i64 .i64 lx (by omega) (by omega)
  have hmk' : ∀ wz : World, (Instr.makeSlice 24 (.int .i64 (lx : Int)) (.int .i64 (lx : Int))).run Tryd.prog wz = .ok (.slice (some ⟨wz.heap.size, 0, none⟩) lx lx) (wz.alloc (.cells (madeCells #[.int .u32 0] lx) 27)) := hmk
  have hown0 := make_words w3 lx (by simp only [maxLen]; omega)
  have hb30 : Below w3.heap.size w3 (w3.alloc (.cells (madeCells #[.int .u32 0] lx) 27)) := (Below.refl _ _).alloc (Nat.le_refl _) _
  have HW3 := Lib.hid hw3
  have HBW := Lib.hid hbw
  clear hmk hlx hly hXL hYL ho1 ho2 hb1 hb2 hb3 hb12 hb13 hb0 hw0 hw3 hbw HC HH1 HH2 HVX HVY hle
  go_wp2_with fail
  clear hmk'
  go_loopw [9, 10] (fun bv iv wr => ∃ (i br : Nat) (O : List Nat), i ≤ lx ∧ iv = .int .i64 (i : Int) ∧ bv = .int .u32 (br : Int) ∧ br ≤ 1 ∧ Hid (SubG XL YL O i br) ∧ wr.ownsRow w3.heap.size 27 1 (.slice (some ⟨w3.heap.size, 0, none⟩) lx lx) lx (O.map wv) ∧ Below w3.heap.size w3 wr) (fun _ iv _ => lx - (intOf iv).toNat)
  case atStart => exact ⟨0, 0, _, Nat.zero_le _, rfl, rfl, Nat.zero_le _, Lib.hid hst, hown0, hb30⟩
  case round =>
    clear hown0 hst hb30
    obtain ⟨i, br, O, hi, rfl, rfl, hbr, hG, hown, hbz⟩ := hrel
    by_cases hlt : i < lx
    · obtain ⟨ad, x, rfl, hxi, hcx0⟩ := hX.word_ hlt
      have hcx := cell_later hbz hcx0
      have hxl : x < 65536 := HXB.out x (List.mem_of_getElem? hxi)
      obtain ⟨o, hok, hco⟩ := own_word hown hlt
      have hfr := hown.frozenAt i
      have hst := hG.out.step HXB.out HYB.out hxi
      have g1 : IntKind.u32.wrap ((x : Int) + 65536) = (x : Int) + 65536 := IntWalk.u32_in _ (by omega)
      have hlt' : (i : Int) < (lx : Int) := by omega
      by_cases hy : i < ly
      · obtain ⟨ady, y, rfl, hyi, hcy0⟩ := hY.word_ hy
        have hcy := cell_later hbz hcy0
        have hyl : y < 65536 := HYB.out y (List.mem_of_getElem? hyi)
        have gy : YL.getD i 0 = y := by rw [List.getD_eq_getElem?_getD, hyi]; rfl
        rw [gy] at hst
        obtain ⟨D, hD⟩ : ∃ D, x + 65536 - br - y = D := ⟨_, rfl⟩
        rw [hD] at hst
        have hDl : D < 131072 := by omega
        have g2 : IntKind.u32.wrap ((x : Int) + 65536 - (br : Int)) = (x : Int) + 65536 - (br : Int) := IntWalk.u32_in _ (by omega)
        have g3 : IntKind.u32.wrap ((x : Int) + 65536 - (br : Int) - (y : Int)) = (D : Int) := by rw [IntWalk.u32_in _ (by omega)]; omega
        have g4 : IntKind.u32.wrap ((D : Int) % 65536) = (D : Int) % 65536 := IntWalk.u32_in _ (by omega)
        have g5 : IntKind.u32.wrap ((D : Int) / 65536) = (D : Int) / 65536 := IntWalk.u32_in _ (by omega)
        have g6 : IntKind.u32.wrap (1 - (D : Int) / 65536) = ((1 - D / 65536 : Nat) : Int) := by rw [IntWalk.u32_in _ (by omega)]; omega
        have g7 : (D : Int).tmod 65536 = (D : Int) % 65536 := Int.tmod_eq_emod_of_nonneg (by omega)
        have hown2 := cut_hi hown i (D % 65536)
        have hm1 : ((D % 65536 : Nat) : Int) = (D : Int) % 65536 := by simp
        rw [hm1] at hown2
        have HST := Lib.hid hst
        have HO2 := Lib.hid hown2
        have HB3 := Lib.hid (hbz.setCell (p := ⟨w3.heap.size, i, none⟩) (Nat.le_refl _) (.int .u32 ((D : Int) % 65536)))
        clear hxi hok hst hD hG hown2 hown gy hyi hm1 hll
        go_wp2_with fail
        exact ⟨⟨i + 1, 1 - D / 65536, _, by omega, by go_num, rfl, by omega, HST, HO2.out, HB3.out⟩, by simp [intOf]; omega⟩
      · have gy : YL.getD i 0 = 0 := by rw [List.getD_eq_getElem?_getD, List.getElem?_eq_none (by rw [HLY.out]; omega)]; rfl
        rw [gy, Nat.sub_zero] at hst
        obtain ⟨D, hD⟩ : ∃ D, x + 65536 - br = D := ⟨_, rfl⟩
        rw [hD] at hst
        have hDl : D < 131072 := by omega
        have g2 : IntKind.u32.wrap ((x : Int) + 65536 - (br : Int)) = (D : Int) := by rw [IntWalk.u32_in _ (by omega)]; omega
        have g4 : IntKind.u32.wrap ((D : Int) % 65536) = (D : Int) % 65536 := IntWalk.u32_in _ (by omega)
        have g5 : IntKind.u32.wrap ((D : Int) / 65536) = (D : Int) / 65536 := IntWalk.u32_in _ (by omega)
        have g6 : IntKind.u32.wrap (1 - (D : Int) / 65536) = ((1 - D / 65536 : Nat) : Int) := by rw [IntWalk.u32_in _ (by omega)]; omega
        have g7 : (D : Int).tmod 65536 = (D : Int) % 65536 := Int.tmod_eq_emod_of_nonneg (by omega)
        have hown2 := cut_hi hown i (D % 65536)
        have hm1 : ((D % 65536 : Nat) : Int) = (D : Int) % 65536 := by simp
        rw [hm1] at hown2
        have HST := Lib.hid hst
        have HO2 := Lib.hid hown2
        have HB3 := Lib.hid (hbz.setCell (p := ⟨w3.heap.size, i, none⟩) (Nat.le_refl _) (.int .u32 ((D : Int) % 65536)))
        clear hxi hok hst hD hG hown2 hown gy hm1 hll
        go_wp2_with fail
        exact ⟨⟨i + 1, 1 - D / 65536, _, by omega, by go_num, rfl, by omega, HST, HO2.out, HB3.out⟩, by simp [intOf]; omega⟩
    · obtain rfl : i = lx := by omega
      have hv := hdone.out O br hG.out
      have HW := Lib.hid (whole_own (C := 0) hown hG.out.ok (by omega) hv)
      have hb := HBW.out.trans (hbz.mono HBW.out.size)
      have hw4 := HW3.out.below hbz HW3.out.lt
      clear hv hown hG hdone
      go_wp2_with fail
      refine (HW.out).mono ?_
      rintro e w5 ⟨C5, c5, rfl, hn5, ho5, hb5⟩
      have hw5 := hw4.below hb5 hw4.lt
      obtain ⟨d0, d1, d2, f0, f1, f2⟩ := hw5.facts
      have ho6 := own_base (own_setW ho5 hw5 (by decide) (.int .i64 0) (.slice none 0 0) (.slice none 0 0)) (base' := w.heap.size) (by have := hb.size; omega)
      have HB5 := Lib.hid (below_set3 (hb.trans (hb5.mono hb.size)) (Nat.le_refl _) (.int .i64 0) (.slice none 0 0) (.slice none 0 0))
      have HO5 := Lib.hid ho6
      clear ho5 ho6 hn5 hw5 hw4 hb hb5
      go_wp2_with fail
      exact bodyPost_ret (v := .tuple #[.slice C5 (limbs (v - u)).length c5, .agg #[.int .i64 0, .slice none 0 0, .slice none 0 0]]) (by simp [results, Tryd.results35, go_sem, d0, d1, d2]) rfl (RefNE.ok HO5.out HB5.out)
end Go.Proofs.YtkghilmdoabodaaDoor
