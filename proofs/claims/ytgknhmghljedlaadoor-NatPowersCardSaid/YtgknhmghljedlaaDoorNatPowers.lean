/- The call of NatPowers: it returns true. Condition: its numbers read from memory; the error variables hold what E says; the variable that errors.As reads. -/
import Derived.Test.YtgknhmghljedlaaDoorNatM
import Derived.Test.YtgknhmghljedlaaDoorNatRing
import Derived.Test.YtgknhmghljedlaaDoorNatBack
import Derived.Test.YtgknhmghljedlaaDoorNatL
namespace Go.Proofs.YtgknhmghljedlaaDoor
open Go.RowKit NatP


theorem tmod64 (x : Int) : -63 ≤ x.tmod 64 ∧ x.tmod 64 ≤ 63 := by
  rcases Int.lt_or_le x 0 with h | h
  · have : x.tmod 64 = -((-x) % 64) := by
      rw [← Int.tmod_eq_emod_of_nonneg (by omega : 0 ≤ -x), Int.neg_tmod, Int.neg_neg]
    omega
  · rw [Int.tmod_eq_emod_of_nonneg h]; omega
theorem pow_len {k m n : Nat} (hk : k < W32) (hm : m ≤ n) (hn : 0 < n) : (limbs (k ^ m)).length ≤ n := limbs_len_of_lt _ _ (by
  rcases Nat.eq_zero_or_pos k with h | h
  · subst h
    rcases Nat.eq_zero_or_pos m with h1 | h1
    · subst h1; exact Nat.one_lt_pow (by omega) (by decide)
    · rw [Nat.zero_pow h1]; exact Nat.pow_pos (by decide)
  · exact Nat.lt_of_le_of_lt (Nat.pow_le_pow_right h hm) (Nat.pow_lt_pow_left hk (by omega)))

theorem want_set3 {w : World} {g n : Nat} {op : ByteArray} {i : Int} {a b : Nat} (ha : a ≠ g) (hb : b ≠ g) (h1 : Sl w (some ⟨a, 0, none⟩) 1 [.string op]) (h2 : Sl w (some ⟨b, 0, none⟩) 1 [.int .i64 i]) (u0 u1 u2 : Value) :
    WantV (((w.setCell ⟨g, 0, none⟩ u0).setCell ⟨g, 1, none⟩ u1).setCell ⟨g, 2, none⟩ u2) (some (n, [(op, i)])) (.agg #[.int .i64 (n : Int), .slice (some ⟨a, 0, none⟩) 1 1, .slice (some ⟨b, 0, none⟩) 1 1]) := by
  have hk := ((Keeps.of_setCell w ⟨g, 0, none⟩ u0).trans (Keeps.of_setCell _ ⟨g, 1, none⟩ u1) (fun _ _ h => h)).trans (Keeps.of_setCell _ ⟨g, 2, none⟩ u2) (fun _ _ h => h)
  exact want_of (g := 0) (h1.keeps hk (fun ad e => by cases e; simpa using ha)) (h2.keeps hk (fun ad e => by cases e; simpa using hb))
theorem err_set3 {w : World} {E : Nat → Addr} {n g : Nat} {x0 x1 x2 : Value} {l : List (ByteArray × Int)} {v : Value} (h : ErrIs w E n l v) (hr : w.heap[g]? = some (.cells #[x0, x1, x2] 47 (0, 0))) (u0 u1 u2 : Value) :
    ErrIs (((w.setCell ⟨g, 0, none⟩ u0).setCell ⟨g, 1, none⟩ u1).setCell ⟨g, 2, none⟩ u2) E n l v := by
  have hk := ((Keeps.of_setCell w ⟨g, 0, none⟩ u0).trans (Keeps.of_setCell _ ⟨g, 1, none⟩ u1) (fun _ _ h => h)).trans (Keeps.of_setCell _ ⟨g, 2, none⟩ u2) (fun _ _ h => h)
  exact ErrIs.keeps' hk (fun k cs hk' e => by subst hk'; rw [hr] at e; injection e with e; injection e with _ e; exact absurd e (by decide)) h

set_option maxRecDepth 100000 in
set_option maxHeartbeats 2000000 in
theorem natPowers_bad (w : World) (E : Nat → Addr) (hE : Errs w E) (hT : ErrT w) (k : Nat) (m n : Int) (hbad : m < 0 ∨ 1024 < m) :
    Calls Tryd.prog 8 #[.int .u32 (k : Int), .int .i64 m, .int .i64 n] w fun e w' => e = .returned (.bool true) ∧ Below w.heap.size w w' := by
  have HE := Lib.hid hE
  have HT := Lib.hid hT
  clear hE hT
  by_cases hm : m < 0
  · have t1 : decide (m < 0) = true := decide_eq_true hm
    have hp := fun wz hz => powErr_n wz E hz (k : Int) m hbad
    rw [if_pos hm] at hp
    have HP := Lib.hid hp
    clear hp hbad
    go_enter Tryd.func8, Tryd.ntmps8
    go_wp2_with fail
    refine (awake2_c w E HE.out).mono ?_
    rintro e w1 ⟨rfl, b1⟩
    go_wp2_with fail
    refine (HP.out _ (HE.out.below b1)).mono ?_
    rintro e w2 ⟨bk, rfl, he, h2⟩
    have b2 := b1.trans (h2.mono b1.size)
    unfold errV at *
    go_wp2_with fail
    refine (rawNew_x _ sNat 0 4).mono ?_
    rintro e w3 ⟨rfl, q1, q2, h3⟩
    have b3 := b2.trans (h3.mono b2.size)
    have hs3 := b3.size
    have he3 := ErrIs.keep he h3
    obtain ⟨wq, hwq⟩ : ∃ wq, w3.alloc (.cells #[.int .i64 4, .slice (some ⟨w2.heap.size + 1, 0, none⟩) 1 1, .slice (some ⟨w2.heap.size + 1 + 1, 0, none⟩) 1 1] 47) = wq := ⟨_, rfl⟩
    have hblk : wq.heap[w3.heap.size]? = some (.cells #[.int .i64 4, .slice (some ⟨w2.heap.size + 1, 0, none⟩) 1 1, .slice (some ⟨w2.heap.size + 1 + 1, 0, none⟩) 1 1] 47 (0, 0)) := by rw [← hwq]; exact heap_new _ _
    have hsz : wq.heap.size = w3.heap.size + 1 := by rw [← hwq]; simp
    have he4 : ErrIs wq E 3 [(sNat, 0)] (.iface 70 (.pointer (some ⟨bk, 0, none⟩))) := by rw [← hwq]; exact ErrIs.keep he3 ((Below.refl _ _).alloc (Nat.le_refl _) _)
    have b4 : Below w.heap.size w wq := by rw [← hwq]; exact b3.alloc b3.size _
    have HWQ := Lib.hid hwq
    have HSZ := Lib.hid hsz
    clear hwq hsz he he3 h2 h3 q1 q2 b2 b3
    go_wp2_with fail
    rw [HWQ.out]
    refine (rawNew_x wq sNat 0 3).mono ?_
    rintro e w5 ⟨rfl, q1, q2, h5⟩
    have hblk5 := (h5.block w3.heap.size (by rw [HSZ.out]; omega)).trans hblk
    obtain ⟨c0, c1, c2, _⟩ := blk_cells hblk5
    have f0 := frozen_of_row _ _ 0 _ _ hblk5
    have f1 := frozen_of_row _ _ 1 _ _ hblk5
    have f2 := frozen_of_row _ _ 2 _ _ hblk5
    have b5 := b4.trans (h5.mono b4.size)
    have hu := want_set3 (g := w3.heap.size) (n := 3) (by rw [HSZ.out]; omega) (by rw [HSZ.out]; omega) q1 q2 (.int .i64 3) (.slice (some ⟨wq.heap.size + 1, 0, none⟩) 1 1) (.slice (some ⟨wq.heap.size + 1 + 1, 0, none⟩) 1 1)
    have he5 := err_set3 (ErrIs.keep he4 h5) hblk5 (.int .i64 3) (.slice (some ⟨wq.heap.size + 1, 0, none⟩) 1 1) (.slice (some ⟨wq.heap.size + 1 + 1, 0, none⟩) 1 1)
    have b6 := ((b5.setCell (p := ⟨w3.heap.size, 0, none⟩) hs3 (.int .i64 3)).setCell (p := ⟨w3.heap.size, 1, none⟩) hs3 (.slice (some ⟨wq.heap.size + 1, 0, none⟩) 1 1)).setCell (p := ⟨w3.heap.size, 2, none⟩) hs3 (.slice (some ⟨wq.heap.size + 1 + 1, 0, none⟩) 1 1)
    have HIS := Lib.hid (rawIs_some _ E (HE.out.below b6) (HT.out.below b6) 3 [(sNat, 0)] (by decide) (by decide) _ _ he5 hu)
    have HB6 := Lib.hid b6
    clear q1 q2 h5 hblk hblk5 b4 b5 hu he4 he5 b6
    go_wp2_with fail
    refine (HIS.out).mono ?_
    rintro e w7 ⟨rfl, h7⟩
    have b7 := HB6.out.trans (h7.mono HB6.out.size)
    go_wp2_with fail
    go_ret
    exact ⟨by first | rfl | simp, b7⟩
  · have hb : 1024 < m := by omega
    have t1 : decide (m < 0) = false := decide_eq_false hm
    have t2 : decide (1024 < m) = true := decide_eq_true hb
    have hp := fun wz hz => powErr_n wz E hz (k : Int) m hbad
    rw [if_neg hm] at hp
    have HP := Lib.hid hp
    clear hp hbad
    go_enter Tryd.func8, Tryd.ntmps8
    go_wp2_with fail
    refine (awake2_c w E HE.out).mono ?_
    rintro e w1 ⟨rfl, b1⟩
    go_wp2_with fail
    refine (HP.out _ (HE.out.below b1)).mono ?_
    rintro e w2 ⟨bk, rfl, he, h2⟩
    have b2 := b1.trans (h2.mono b1.size)
    unfold errV at *
    go_wp2_with fail
    refine (rawNew_x _ sNat 0 4).mono ?_
    rintro e w3 ⟨rfl, q1, q2, h3⟩
    have b3 := b2.trans (h3.mono b2.size)
    have he3 := ErrIs.keep he h3
    have hB := (Below.refl w3.heap.size w3).alloc (Nat.le_refl _) (.cells #[.int .i64 4, .slice (some ⟨w2.heap.size + 1, 0, none⟩) 1 1, .slice (some ⟨w2.heap.size + 1 + 1, 0, none⟩) 1 1] 47)
    have b4 := b3.alloc b3.size (.cells #[.int .i64 4, .slice (some ⟨w2.heap.size + 1, 0, none⟩) 1 1, .slice (some ⟨w2.heap.size + 1 + 1, 0, none⟩) 1 1] 47)
    have HIS := Lib.hid (rawIs_some _ E (HE.out.below b4) (HT.out.below b4) 4 [(sNat, 0)] (by decide) (by decide) _ _ (ErrIs.keep he3 hB) (want_of (g := 0) (n := 4) (q1.below hB) (q2.below hB)))
    have HB4 := Lib.hid b4
    clear he he3 h2 h3 q1 q2 b2 b3 hB b4
    go_wp2_with fail
    refine (HIS.out).mono ?_
    rintro e w7 ⟨rfl, h7⟩
    have b7 := HB4.out.trans (h7.mono HB4.out.size)
    go_wp2_with fail
    go_ret
    exact ⟨by first | rfl | simp, b7⟩

set_option maxRecDepth 100000 in
set_option maxHeartbeats 4000000 in
theorem natPowers_c (w : World) (E : Nat → Addr) (hE : Errs w E) (hT : ErrT w) (k : Nat) (hk : k < W32) (m n : Int) :
    Calls Tryd.prog 8 #[.int .u32 (k : Int), .int .i64 m, .int .i64 n] w fun e w' => e = .returned (.bool true) ∧ Below w.heap.size w w' := by
  have HE := Lib.hid hE
  have HT := Lib.hid hT
  have HK := Lib.hid hk
  clear hE hT hk
  by_cases hbad : m < 0 ∨ 1024 < m
  · exact natPowers_bad w E HE.out HT.out k m n hbad
  obtain ⟨M, rfl⟩ : ∃ M : Nat, m = (M : Int) := ⟨m.toNat, by omega⟩
  obtain ⟨t1, t2⟩ := tmod64 n
  obtain ⟨N, hN⟩ : ∃ N : Nat, (n.tmod 64 + 64) % 64 = (N : Int) := ⟨((n.tmod 64 + 64) % 64).toNat, by omega⟩
  have hNl : N < 64 := by omega
  have hMl : M ≤ 1024 := by omega
  have d1 : decide ((1024 : Int) < (M : Int)) = false := decide_eq_false (by omega)
  have HN2 := Lib.hid (show n.tmod 64 % 64 = (N : Int) from by rw [← hN]; omega)
  have HN := Lib.hid hN
  clear hN hbad
  have la := pow_len HK.out hMl (by decide)
  have lb := pow_len HK.out (Nat.le_of_lt hNl) (by decide)
  have l2 := pow_len (k := 2) (by decide) hMl (by decide)
  go_enter Tryd.func8, Tryd.ntmps8
  go_wp2_with fail
  refine (awake2_c w E HE.out).mono ?_
  rintro e w1 ⟨rfl, b1⟩
  go_wp2_with fail
  refine (pow_n _ k M HK.out hMl (r := k ^ M) rfl).mono ?_
  rintro e w2 ⟨A2, c2, rfl, _, pa, h2⟩
  have b2 := b1.trans (h2.mono b1.size)
  clear h2 b1
  go_wp2_with fail
  simp only [HN.out, HN2.out]
  refine (pow_n _ k N HK.out (by omega) (r := k ^ N) rfl).mono ?_
  rintro e w3 ⟨A3, c3, rfl, _, pb, h3⟩
  have b3 := b2.trans (h3.mono b2.size)
  have pa := own_below pa h3
  clear h3 b2
  go_wp2_with fail
  refine (pow_n _ 2 M (by decide) hMl (r := 2 ^ M) rfl).mono ?_
  rintro e w4 ⟨A4, c4, rfl, _, p2, h4⟩
  have b4 := b3.trans (h4.mono b3.size)
  have pa := own_below pa h4
  have pb := own_below pb h4
  clear h4 b3
  go_wp2_with fail
  refine (bits_n (num_own p2) (by omega) (r := M + 1) (blen_pow M)).mono ?_
  rintro e w' ⟨rfl, rfl⟩
  clear p2
  by_cases hbig : 1024 < M + N
  · have d2 : decide ((1024 : Int) < (M : Int) + (N : Int)) = true := decide_eq_true (by omega)
    go_wp2_with fail
    go_ret
    exact ⟨rfl, b4⟩
  have d2 : decide ((1024 : Int) < (M : Int) + (N : Int)) = false := decide_eq_false (by omega)
  go_wp2_with fail
  refine (pow_n _ k (M + N) HK.out (by omega) (r := k ^ (M + N)) rfl).mono ?_
  rintro e w5 ⟨A5, c5, rfl, _, pc, h5⟩
  have b5 := b4.trans (h5.mono b4.size)
  have pa := own_below pa h5
  have pb := own_below pb h5
  clear h5 b4
  go_wp2_with fail
  refine (mul_n (num_own pa) (num_own pb) (by omega) (by omega) (r := k ^ (M + N)) (Nat.pow_add _ _ _).symm).mono ?_
  rintro e w6 ⟨A6, c6, rfl, _, pm, h6⟩
  have b6 := b5.trans (h6.mono b5.size)
  have pc := own_below pc h6
  clear h6 b5
  clear pa pb
  go_wp2_with fail
  refine (cmp_n (num_own pc) (num_own pm) (r := 0) (cmpN_eq _)).mono ?_
  rintro e w7 ⟨rfl, h7⟩
  have b7 := b6.trans (h7.mono b6.size)
  have pc := own_below pc h7
  have pm := own_below pm h7
  clear h7 b6
  go_wp2_with fail
  go_ret
  exact ⟨rfl, b7⟩
end Go.Proofs.YtgknhmghljedlaaDoor
