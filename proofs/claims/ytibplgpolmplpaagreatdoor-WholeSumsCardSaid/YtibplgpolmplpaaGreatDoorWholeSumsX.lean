/- The call of WholeSums: it returns true. Condition: the lists read from memory; the error variables hold what E says. -/
import Derived.Test.YtibplgpolmplpaaGreatDoorX25
import Derived.Test.YtibplgpolmplpaaGreatDoorX26
namespace Go.Proofs.YtibplgpolmplpaaGreatDoor
open Go.RowKit RuleP SubP NatP

/-- Each number taken by k. -/
def byK (k : Nat) (T : List Int) : List Nat := T.map fun x => (x % (k : Int)).toNat
theorem byK_lt {k : Nat} (hk : 1 ≤ k) (T : List Int) : ∀ x ∈ byK k T, x < k := fun x hx => by
  obtain ⟨y, _, rfl⟩ := List.mem_map.1 hx
  have h1 := Int.emod_nonneg y (show (k : Int) ≠ 0 by omega)
  have h2 := Int.emod_lt_of_pos y (show (0 : Int) < (k : Int) by omega)
  omega
theorem byK_len (k : Nat) (T : List Int) : (byK k T).length = T.length := by simp [byK]
theorem tmodK (k : Nat) (hk : 1 ≤ k) (x : Int) : -(k : Int) < x.tmod (k : Int) ∧ x.tmod (k : Int) < (k : Int) ∧ (x.tmod (k : Int) + (k : Int)).tmod (k : Int) = x % (k : Int) := by
  have hk0 : (0 : Int) < (k : Int) := by omega
  have key : ∀ y : Int, 0 ≤ y → y.tmod (k : Int) = y % (k : Int) := fun y hy => Int.tmod_eq_emod_of_nonneg hy
  rcases Int.lt_or_le x 0 with h | h
  · have e : x.tmod (k : Int) = -((-x) % (k : Int)) := by
      rw [← key (-x) (by omega), Int.neg_tmod, Int.neg_neg]
    have h1 := Int.emod_nonneg (-x) (show (k : Int) ≠ 0 by omega)
    have h2 := Int.emod_lt_of_pos (-x) hk0
    refine ⟨by omega, by omega, ?_⟩
    rw [e, key _ (by omega)]
    have h3 : (-((-x) % (k : Int)) + (k : Int)) % (k : Int) = x % (k : Int) := by
      rw [Int.add_emod_right]
      have h4 : (-x) % (k : Int) = -x - (k : Int) * ((-x) / (k : Int)) := Int.emod_def _ _
      rw [h4, show -(-x - (k : Int) * ((-x) / (k : Int))) = x + (k : Int) * ((-x) / (k : Int)) from by omega, Int.add_mul_emod_self_left]
    exact h3
  · have h1 := Int.emod_nonneg x (show (k : Int) ≠ 0 by omega)
    have h2 := Int.emod_lt_of_pos x hk0
    rw [key x h]
    refine ⟨by omega, by omega, ?_⟩
    rw [key _ (by omega), Int.add_emod_right, Int.emod_emod_of_dvd _ (Int.dvd_refl _)]

theorem zero_has {k r : Nat} {t f : List Nat} (h : SumT k r t f) (k1 : 1 ≤ k) (n : Nat) : (preL k r t (zeroW n)).length ≠ 0 := by
  have hm : zeroW (n + 2 * r) ∈ preL k r t (zeroW n) := mem_preL.2 ⟨by simp [zeroW], zero_sym k1 _, by rw [img_zero h k1, Nat.add_sub_cancel]⟩
  exact Nat.pos_iff_ne_zero.1 (List.length_pos_of_mem hm)
theorem winC_zero {n : Nat} (hn : 0 < n) (m : Nat) (z : Int) : winC (zeroW n) m z = zeroW m := by
  apply List.ext_getElem?
  intro q
  rcases Nat.lt_or_ge q m with hq | hq
  · unfold winC
    rw [List.getElem?_map, List.getElem?_range hq]
    have hc : ∀ z : Int, cy (zeroW n) z = 0 := fun z => by
      have := cy_lt (k := 1) (s := zeroW n) (fun x hx => by rw [List.eq_of_mem_replicate hx]; decide) (zeroW_ne hn) z
      omega
    simp only [Option.map_some]
    rw [hc]
    unfold zeroW
    rw [List.getElem?_replicate, if_pos hq]
  · rw [List.getElem?_eq_none (by rw [winC_len]; exact hq), List.getElem?_eq_none (by simp [zeroW]; exact hq)]
theorem zero_ring {k r n : Nat} {t f : List Nat} (h : SumT k r t f) (k1 : 1 ≤ k) (hn : 0 < n) : (ringL k r n (fitQ t (zeroW n))).length ≠ 0 := by
  have hm : zeroW n ∈ ringL k r n (fitQ t (zeroW n)) := (mem_ringF h k1 hn).2 ⟨by simp [zeroW], zero_sym k1 _, fun j hj => by
    rw [winC_zero hn, lin_zero]
    unfold zeroW
    rw [List.getD_eq_getElem?_getD, List.getElem?_replicate, if_pos hj]
    rfl⟩
  exact Nat.pos_iff_ne_zero.1 (List.length_pos_of_mem hm)
theorem part_set {a : List Nat} {i x L : Nat} (hl : a.length = L) (hx : a[i]? = some x) (hi : i < L) : (a.take i ++ List.replicate (L - i) 0).set i x = a.take (i + 1) ++ List.replicate (L - (i + 1)) 0 := by
  have h1 : (a.take i).length = i := by rw [List.length_take]; omega
  rw [List.set_append, h1, if_neg (by omega), Nat.sub_self]
  rw [show L - i = (L - (i + 1)) + 1 by omega, List.replicate_succ, List.set_cons_zero, List.take_add_one, hx]
  simp
theorem part_at0 {a : List Nat} {i L : Nat} (hl : a.length = L) (hi : i < L) : (a.take i ++ List.replicate (L - i) 0)[i]? = some 0 := by
  rw [List.getElem?_append_right (by rw [List.length_take]; omega), List.length_take, hl, Nat.min_eq_left (by omega), Nat.sub_self, List.getElem?_replicate, if_pos (by omega)]
theorem own_mk0 (w : World) (g : Nat) (hg : w.heap.size = g) (n : Nat) (h : n ≤ maxLen) : (w.alloc (.cells (madeCells #[.int .i64 0] n) 3)).ownsRow g 3 1 (.slice (some ⟨g, 0, none⟩) n n) n ((ints (List.replicate n 0)).map (Value.int .i64)) := by
  subst hg
  exact make_ints w n h
/-- One entry by k, as the walk sees it. -/
theorem byK_at {k : Nat} (hk : 1 ≤ k) (hk4 : k ≤ 4) (y : Int) : ∃ (q : Int) (s u : Nat), y.tmod (k : Int) = q ∧ IntKind.i64.wrap q = q ∧ IntKind.i64.wrap (q + (k : Int)) = (s : Int) ∧ (s : Int).tmod (k : Int) = (u : Int) ∧ (s : Int) % (k : Int) = (u : Int) ∧ s % k = u ∧ IntKind.i64.wrap (u : Int) = (u : Int) ∧ (y % (k : Int)).toNat = u := by
  obtain ⟨h1, h2, h3⟩ := tmodK k hk y
  obtain ⟨q, hq⟩ : ∃ q, y.tmod (k : Int) = q := ⟨_, rfl⟩
  rw [hq] at h1 h2 h3
  obtain ⟨s, hs⟩ := Int.eq_ofNat_of_zero_le (show 0 ≤ q + (k : Int) by omega)
  have h5 : (s : Int).tmod (k : Int) = ((s % k : Nat) : Int) := by
    rw [Int.tmod_eq_emod_of_nonneg (by omega)]
    rfl
  have hsk : s % k < k := Nat.mod_lt _ hk
  refine ⟨q, s, s % k, hq, IntWalk.i64_in _ (by omega), by rw [hs]; exact IntWalk.i64_in _ (by omega), h5, rfl, rfl, IntWalk.i64_in _ (by omega), ?_⟩
  rw [← h3, hs, h5]
  exact Int.toNat_natCast _

set_option maxRecDepth 100000 in
set_option maxHeartbeats 4000000 in
theorem wholeSums_c (w : World) (E : Nat → Addr) (hE : ErrW w E) (K R : Int) (A : Option Addr) (n c : Nat) (F : List Int) (hS : Sl w A n (F.map (Value.int .i64))) (hn : n ≤ 9223372036854775807)
    (B : Option Addr) (m d : Nat) (X : List Int) (hX : Sl w B m (X.map (Value.int .i64))) (hm : m ≤ 9223372036854775807) :
    Calls Tryz.prog 4 #[.int .i64 K, .int .i64 R, .slice A n c, .slice B m d] w fun e w' => e = .returned (.bool true) ∧ Below w.heap.size w w' := by
  have hFl : F.length = n := by simpa using hS.1
  have hXl : X.length = m := by simpa using hX.1
  have HER := Lib.hid (fun (wz : World) (hz : Below w.heap.size w wz) => (⟨hE.below hz, hS.below hz, hX.below hz⟩ : _ ∧ _ ∧ _))
  have HAW := Lib.hid (counts_c w E hE)
  have HLL := Lib.hid (And.intro hFl hXl)
  clear hE hS hX hFl hXl
  go_enter Tryz.func4, Tryz.ntmps4
  go_wp2_with fail
  refine (HAW.out).mono ?_
  rintro e w1 ⟨rfl, b1⟩
  have HB1 := Lib.hid b1
  clear b1 HAW
  by_cases k1 : K < 1
  · have q1 : decide (K < 1) = true := decide_eq_true k1
    go_wp2_with fail
    go_ret
    exact ⟨rfl, HB1.out⟩
  by_cases k4 : 4 < K
  · have q2 : decide (4 < K) = true := decide_eq_true k4
    go_wp2_with fail
    go_ret
    exact ⟨rfl, HB1.out⟩
  by_cases r0 : R < 0
  · have q3 : decide (R < 0) = true := decide_eq_true r0
    go_wp2_with fail
    go_ret
    exact ⟨rfl, HB1.out⟩
  by_cases r3 : 3 < R
  · have q4 : decide (3 < R) = true := decide_eq_true r3
    go_wp2_with fail
    go_ret
    exact ⟨rfl, HB1.out⟩
  obtain ⟨k, rfl⟩ : ∃ k : Nat, K = (k : Int) := ⟨K.toNat, by omega⟩
  obtain ⟨r, rfl⟩ : ∃ r : Nat, R = (r : Int) := ⟨R.toNat, by omega⟩
  obtain ⟨M, hM⟩ : ∃ M, 2 * r + 1 = M := ⟨_, rfl⟩
  have hk1 : 1 ≤ k := by omega
  have hk4 : k ≤ 4 := by omega
  have hr3 : r ≤ 3 := by omega
  have e1 : IntKind.i64.wrap (2 * (r : Int)) = 2 * (r : Int) := IntWalk.i64_in _ (by omega)
  have e2 : IntKind.i64.wrap (2 * (r : Int) + 1) = (M : Int) := by rw [show 2 * (r : Int) + 1 = (M : Int) from by omega]; exact IntWalk.i64_in _ (by omega)
  by_cases hnM : n < M
  · have hnM' : (n : Int) < (M : Int) := by omega
    clear hM
    go_wp2_with fail
    go_ret
    exact ⟨rfl, HB1.out⟩
  have hnM' : ¬ (n : Int) < (M : Int) := by omega
  by_cases hm24 : 24 < m
  · have hm24' : (24 : Int) < (m : Int) := by omega
    clear hM
    go_wp2_with fail
    go_ret
    exact ⟨rfl, HB1.out⟩
  have hm24' : ¬ (24 : Int) < (m : Int) := by omega
  have HMM := Lib.hid hM
  -- g
  obtain ⟨g5, hg5⟩ : ∃ g5, w1.heap.size = g5 := ⟨_, rfl⟩
  have hmk := run_make_row' (P := Tryz.prog) 22 3 (.int .i64 0) 8 tInts.und tInts.info rfl .i64 .i64 M (by omega) (by omega) w1
  have ho5 := own_mk0 w1 g5 hg5 M (by simp only [maxLen]; omega)
  have ba := (Below.refl w1.heap.size w1).alloc (Nat.le_refl _) (.cells (madeCells #[.int .i64 0] M) 3)
  obtain ⟨w5, hw5⟩ : ∃ w5, w1.alloc (.cells (madeCells #[.int .i64 0] M) 3) = w5 := ⟨_, rfl⟩
  rw [hw5] at ho5 ba
  have HW5 := Lib.hid hw5
  have HG5 := Lib.hid hg5
  have HO5 := Lib.hid ho5
  have HG5W := Lib.hid (show g5 ≤ w5.heap.size by rw [← hg5]; exact ba.size)
  have hM7 : M ≤ 7 := by omega
  have hM0 : 0 < M := by omega
  clear ho5 ba hw5 hg5 hM k1 k4 r0 r3
  go_wp2_with fail
  rw [HG5.out, HW5.out]
  clear hmk
  have HGL : Hid ((byK k (F.take M)).length = M) := Lib.hid (by rw [byK_len, List.length_take, HLL.out.1]; omega)
  go_loopw [10] (fun iv wl => ∃ i : Nat, i ≤ M ∧ iv = .int .i64 (i : Int) ∧ wl.ownsRow g5 3 1 (.slice (some ⟨g5, 0, none⟩) M M) M ((ints ((byK k (F.take M)).take i ++ List.replicate (M - i) 0)).map (Value.int .i64)) ∧ Hid (Keeps (fun b => b = g5) w5 wl)) (fun iv _ => M - (intOf iv).toNat)
  case atStart => exact ⟨0, Nat.zero_le _, rfl, by have h := HO5.out; simpa using h, Lib.hid (Keeps.refl _ _)⟩
  case round =>
    obtain ⟨i, hi, rfl, hown, hK⟩ := hrel
    have hb5 : Below g5 w1 wr := by
      have h1 := (Below.refl g5 w1).alloc (Nat.le_of_eq HG5.out.symm) (.cells (madeCells #[.int .i64 0] M) 3)
      rw [HW5.out] at h1
      exact h1.trans (hK.out.below HG5W.out (fun b hb => by rw [show b = g5 from hb]; exact Nat.le_refl _))
    rw [← HG5.out] at hb5
    have hbb := HB1.out.trans (hb5.mono HB1.out.size)
    by_cases hlt : i < M
    · have hlt' : (i : Int) < (M : Int) := by omega
      obtain ⟨ad, y, hA, hy, hc⟩ := (HER.out wr hbb).2.1.int_ (show i < n by omega)
      subst hA
      have hi0 : (0 : Int) ≤ (i : Int) := by omega
      have hin : (i : Int) < (n : Int) := by omega
      obtain ⟨q, s, u, d1, d2, d3, d4, d5, d6, d7, d8⟩ := byK_at hk1 hk4 y
      have hgi : (byK k (F.take M))[i]? = some u := by
        unfold byK
        rw [List.getElem?_map, List.getElem?_take, if_pos hlt, hy]
        exact congrArg some d8
      have hst := part_set HGL.out hgi hlt
      have fa := hown.frozenAt i
      have ca : wr.cell? ⟨g5, i, none⟩ = some (.int .i64 0) := by
        rw [hown.cellAt i (by omega), ints_map, List.getElem?_map, part_at0 HGL.out hlt]
        rfl
      have o1 := (hown.stored i (.int .i64 (u : Int))).1
      have e3 : ((ints ((byK k (F.take M)).take i ++ List.replicate (M - i) 0)).map (Value.int .i64)).set i (.int .i64 (u : Int)) = (ints ((byK k (F.take M)).take (i + 1) ++ List.replicate (M - (i + 1)) 0)).map (Value.int .i64) := by
        rw [← hst, ints_map, ints_map, List.map_set]
      rw [e3] at o1
      have HOO := Lib.hid o1
      have HKK := Lib.hid (hK.out.trans (Keeps.of_setCell wr ⟨g5, i, none⟩ (.int .i64 (u : Int))) (fun _ _ h => h))
      have hk0 : ¬ (k : Int) = 0 := by omega
      have hk0n : ¬ k = 0 := by omega
      clear hst e3 o1 hy hown hK hbb hb5 hgi d6 d8
      go_wp2_with fail
      exact ⟨⟨i + 1, by omega, by go_num, HOO.out, HKK⟩, by simp [intOf]; omega⟩
    · have hlt' : ¬ (i : Int) < (M : Int) := by omega
      obtain rfl : i = M := by omega
      have hle : ((byK k (F.take i)).take i ++ List.replicate (i - i) 0) = byK k (F.take i) := by
        rw [Nat.sub_self, List.replicate_zero, List.append_nil, List.take_of_length_le (Nat.le_of_eq HGL.out)]
      rw [hle] at hown
      obtain ⟨v3, rfl⟩ : ∃ v3, v3 = wr := ⟨_, rfl⟩
      have HB3 := Lib.hid hbb
      obtain ⟨gs, hgs⟩ : ∃ gs, byK k (F.take i) = gs := ⟨_, rfl⟩
      have hgsk : ∀ x ∈ gs, x < k := by rw [← hgs]; exact byK_lt hk1 _
      rw [hgs] at hown HGL
      have HGS := Lib.hid (fun (wz : World) (hz : Below v3.heap.size v3 wz) => Sl.of_own (own_below hown hz))
      have HGK := Lib.hid (And.intro hgsk HGL.out)
      clear hle hown hK hbb hb5 hgs hgsk HGL hlt hi HO5 HG5W HG5 HW5
      -- v
      obtain ⟨g6, hg6⟩ : ∃ g6, v3.heap.size = g6 := ⟨_, rfl⟩
      have hmk := run_make_row' (P := Tryz.prog) 22 3 (.int .i64 0) 8 tInts.und tInts.info rfl .i64 .i64 m (by omega) (by omega) v3
      have ho6 := own_mk0 v3 g6 hg6 m (by simp only [maxLen]; omega)
      have ba := (Below.refl v3.heap.size v3).alloc (Nat.le_refl _) (.cells (madeCells #[.int .i64 0] m) 3)
      obtain ⟨w6, hw6⟩ : ∃ w6, v3.alloc (.cells (madeCells #[.int .i64 0] m) 3) = w6 := ⟨_, rfl⟩
      rw [hw6] at ho6 ba
      have HW6 := Lib.hid hw6
      have HG6 := Lib.hid hg6
      have HO6 := Lib.hid ho6
      have HG6W := Lib.hid (show g6 ≤ w6.heap.size by rw [← hg6]; exact ba.size)
      clear ho6 ba hw6 hg6
      go_wp2_with fail
      rw [HG6.out, HW6.out]
      clear hmk
      have HVL : Hid ((byK k X).length = m) := Lib.hid (by rw [byK_len, HLL.out.2])
      go_loopw [12] (fun jv wl => ∃ j : Nat, j ≤ m ∧ jv = .int .i64 (j : Int) ∧ wl.ownsRow g6 3 1 (.slice (some ⟨g6, 0, none⟩) m m) m ((ints ((byK k X).take j ++ List.replicate (m - j) 0)).map (Value.int .i64)) ∧ Hid (Keeps (fun b => b = g6) w6 wl)) (fun jv _ => m - (intOf jv).toNat)
      case atStart => exact ⟨0, Nat.zero_le _, rfl, by have h := HO6.out; simpa using h, Lib.hid (Keeps.refl _ _)⟩
      case round =>
        obtain ⟨j, hj, rfl, hown, hK⟩ := hrel
        have hb6 : Below g6 v3 wr := by
          have h1 := (Below.refl g6 v3).alloc (Nat.le_of_eq HG6.out.symm) (.cells (madeCells #[.int .i64 0] m) 3)
          rw [HW6.out] at h1
          exact h1.trans (hK.out.below HG6W.out (fun b hb => by rw [show b = g6 from hb]; exact Nat.le_refl _))
        rw [← HG6.out] at hb6
        have hbb := HB3.out.trans (hb6.mono HB3.out.size)
        by_cases hlt : j < m
        · have hlt' : (j : Int) < (m : Int) := by omega
          obtain ⟨ad, y, hA, hy, hc⟩ := (HER.out wr hbb).2.2.int_ hlt
          subst hA
          have hj0 : (0 : Int) ≤ (j : Int) := by omega
          obtain ⟨q, s, u, d1, d2, d3, d4, d5, d6, d7, d8⟩ := byK_at hk1 hk4 y
          have hgi : (byK k X)[j]? = some u := by
            unfold byK
            rw [List.getElem?_map, hy]
            exact congrArg some d8
          have hst := part_set HVL.out hgi hlt
          have fa := hown.frozenAt j
          have ca : wr.cell? ⟨g6, j, none⟩ = some (.int .i64 0) := by
            rw [hown.cellAt j (by omega), ints_map, List.getElem?_map, part_at0 HVL.out hlt]
            rfl
          have o1 := (hown.stored j (.int .i64 (u : Int))).1
          have e3 : ((ints ((byK k X).take j ++ List.replicate (m - j) 0)).map (Value.int .i64)).set j (.int .i64 (u : Int)) = (ints ((byK k X).take (j + 1) ++ List.replicate (m - (j + 1)) 0)).map (Value.int .i64) := by
            rw [← hst, ints_map, ints_map, List.map_set]
          rw [e3] at o1
          have HOO := Lib.hid o1
          have HKK := Lib.hid (hK.out.trans (Keeps.of_setCell wr ⟨g6, j, none⟩ (.int .i64 (u : Int))) (fun _ _ h => h))
          have hk0 : ¬ (k : Int) = 0 := by omega
          have hk0n : ¬ k = 0 := by omega
          clear hst e3 o1 hy hown hK hbb hb6 hgi d6 d8
          go_wp2_with fail
          exact ⟨⟨j + 1, by omega, by go_num, HOO.out, HKK⟩, by simp [intOf]; omega⟩
        · have hlt' : ¬ (j : Int) < (m : Int) := by omega
          obtain rfl : j = m := by omega
          have hle : ((byK k X).take j ++ List.replicate (j - j) 0) = byK k X := by
            rw [Nat.sub_self, List.replicate_zero, List.append_nil, List.take_of_length_le (Nat.le_of_eq HVL.out)]
          rw [hle] at hown
          obtain ⟨v5, rfl⟩ : ∃ v5, v5 = wr := ⟨_, rfl⟩
          have HB5 := Lib.hid hbb
          obtain ⟨x, hxs⟩ : ∃ x, byK k X = x := ⟨_, rfl⟩
          have hxk : ∀ y ∈ x, y < k := by rw [← hxs]; exact byK_lt hk1 _
          rw [hxs] at hown HVL
          have HXS := Lib.hid (fun (wz : World) (hz : Below v5.heap.size v5 wz) => Sl.of_own (own_below hown hz))
          have HXK := Lib.hid (And.intro hxk HVL.out)
          have hmc := make_c v5 k r hk1 hk4 hr3 (some ⟨g5, 0, none⟩) i i gs (HGS.out v5 hb6) HMM.out.symm HGK.out.1
          unfold MakePost at hmc
          obtain ⟨T, hT⟩ : ∃ T, sumTab k gs = T := ⟨_, rfl⟩
          rw [hT] at hmc
          have hsum : SumT k r T gs := by rw [← hT]; exact sumTab_sum hk1 (HGK.out.2.trans HMM.out.symm)
          have HSU := Lib.hid hsum
          have HMC := Lib.hid hmc
          clear hle hown hK hbb hb6 hxs hxk HVL hlt hj HO6 HG6W HG6 HW6 hmc hT hsum
          go_wp2_with fail
          refine (HMC.out).mono ?_
          rintro e v6 ⟨AR, N, cr, rfl, hN, hTb, b6⟩
          have b56 := b6
          have hb6 := HB5.out.trans (b6.mono HB5.out.size)
          have ba := (Below.refl v6.heap.size v6).alloc (Nat.le_refl _) (.cells #[.int .i64 (k : Int), .int .i64 (r : Int), .slice AR N cr] 24)
          have hx := RuleAt.new v6 (.int .i64 (k : Int)) (.int .i64 (r : Int)) (.slice AR N cr)
          obtain ⟨r0, r1, r2, _⟩ := hx.facts
          obtain ⟨w7, hw7⟩ : ∃ w7, v6.alloc (.cells #[.int .i64 (k : Int), .int .i64 (r : Int), .slice AR N cr] 24) = w7 := ⟨_, rfl⟩
          rw [hw7] at ba hx
          have hb7 := hb6.trans (ba.mono hb6.size)
          have hb57 := b56.trans (ba.mono b56.size)
          have hT7 := hTb.below ba
          have hNm : N ≤ 16384 := by
            have h1 : k ^ (2 * r + 1) ≤ 4 ^ 7 := Nat.le_trans (Nat.pow_le_pow_left hk4 _) (Nat.pow_le_pow_right (by decide) (by omega))
            rw [hN, HSU.out.1]
            exact Nat.le_trans h1 (by decide)
          have HT7 := Lib.hid (fun (wz : World) (hz : Below w7.heap.size w7 wz) => hT7.below hz)
          have HR7 := Lib.hid hx
          have HB7 := Lib.hid hb7
          have HB57 := Lib.hid hb57
          have HW7 := Lib.hid hw7
          have HNN := Lib.hid (And.intro hN hNm)
          have hsc := small_c w7 E (HER.out w7 hb7).1.1 (k : Int) (r : Int) AR N cr (ints T) hT7 (by omega)
          unfold ruleV at hsc
          unfold ruleV
          have HSC := Lib.hid hsc
          clear hsc hT7 hNm hN hTb b6 b56 hb6 ba hx hb7 hb57 hw7 HMC
          go_wp2_with fail
          rw [HW7.out]
          refine (HSC.out).mono ?_
          rintro e v8 ⟨vs, rfl, hvs, b8⟩
          clear r0 r1 r2
          have hb8 := HB7.out.trans (b8.mono HB7.out.size)
          cases hsm : small (k : Int) (r : Int) (ints T) with
          | some tl =>
            rw [hsm] at hvs
            obtain ⟨u3, p3, rfl⟩ : ∃ u p, vs = .iface u p := ErrIs.iface (show ErrIs v8 E tl.1 _ vs from hvs)
            have HB8 := Lib.hid hb8
            clear hvs b8 hb8 hsm HSC
            go_wp2_with fail
            go_ret
            exact ⟨rfl, HB8.out⟩
          | none =>
            rw [hsm] at hvs
            obtain rfl : vs = .nilIface := hvs
            have h256 : T.length ≤ 256 := by
              obtain ⟨k', r', t', e1', e2', e3', hr', h'⟩ := small_parts hsm
              have : T.length = t'.length := by have := congrArg List.length e3'; rwa [ints_len, ints_len] at this
              omega
            have hr8 := HR7.out.below b8 HR7.out.lt
            obtain ⟨r0, r1, r2, _⟩ := hr8.facts
            have HRU := Lib.hid (And.intro (HSU.out.rule hk1 hk4 hr3) h256)
            have HR8 := Lib.hid hr8
            have HB8 := Lib.hid hb8
            have HB58 := Lib.hid (HB57.out.trans (b8.mono HB57.out.size))
            have HT8 := Lib.hid (fun (wz : World) (hz : Below v8.heap.size v8 wz) => HT7.out wz (b8.trans (hz.mono b8.size)))
            have hcw := cWords_c v8 E (HER.out v8 hb8).1.1 (k : Int) (r : Int) AR N cr (ints T) (HT7.out v8 b8) (by have := HNN.out.2; omega) (some ⟨g6, 0, none⟩) j j (ints x) (HXS.out v8 HB58.out) (by omega)
            rw [wordsV_good HRU.out.1 HRU.out.2 HXK.out.1 (by have := HXK.out.2; omega)] at hcw
            unfold ruleV at hcw
            have HCW := Lib.hid hcw
            clear hsm b8 hb8 hr8 h256 hcw HSC
            go_wp2_with fail
            refine (HCW.out).mono ?_
            rintro e v9 ⟨C9, c9, _, rfl, ho9, rfl, b9⟩
            have hr9 := HR8.out.below b9 HR8.out.lt
            have hmk := run_make_row' (P := Tryz.prog) 22 3 (.int .i64 0) 8 tInts.und tInts.info rfl .i64 .i64 j (by omega) (by omega)
            have HR9 := Lib.hid hr9
            have HO9 := Lib.hid ho9
            have HB9 := Lib.hid (HB8.out.trans (b9.mono HB8.out.size))
            have HB89 := Lib.hid b9
            clear r0 r1 r2
            obtain ⟨r0, r1, r2, _⟩ := hr9.facts
            have hzs := make_ints v9 j (by simp only [maxLen]; omega)
            have hbz := ((Below.refl v9.heap.size v9).alloc (Nat.le_refl _) (.cells (madeCells #[.int .i64 0] j) 3)).drew
            have hb9 := HB9.out.trans (hbz.mono HB9.out.size)
            have hb8z := HB89.out.trans (hbz.mono HB89.out.size)
            have hzs' : Sl (v9.alloc (.cells (madeCells #[.int .i64 0] j) 3)).drew (some ⟨v9.heap.size, 0, none⟩) j ((ints (zeroW j)).map (Value.int .i64)) := Sl.of_own hzs
            have hcz := cWords_c (v9.alloc (.cells (madeCells #[.int .i64 0] j) 3)).drew E (HER.out _ hb9).1.1 (k : Int) (r : Int) AR N cr (ints T) (HT8.out _ hb8z) (by have := HNN.out.2; omega) (some ⟨v9.heap.size, 0, none⟩) j j (ints (zeroW j)) hzs' (by omega)
            rw [wordsV_good HRU.out.1 HRU.out.2 (zero_sym hk1 j) (by simp [zeroW]; omega)] at hcz
            unfold ruleV at hcz
            have HCZ := Lib.hid hcz
            have HBZ := Lib.hid (And.intro hbz (And.intro hb9 hb8z))
            have hlt9 := hr9.lt
            clear hr9 ho9 b9 HCW hzs hbz hb9 hb8z hzs' hcz
            go_wp2_with fail
            go_region_with (go_at_call 13; refine (HCZ.out).mono ?_; rintro e v10 ⟨C10, c10, _, rfl, ho10, rfl, b10⟩)
            all_goals
              have hb10 := HBZ.out.2.1.trans (b10.mono HBZ.out.2.1.size)
              have hb810 := HBZ.out.2.2.trans (b10.mono HBZ.out.2.2.size)
              have hb910 := HBZ.out.1.trans (b10.mono HBZ.out.1.size)
              have hr10 := HR9.out.below hb910 HR9.out.lt
              clear r0 r1 r2 hmk hlt9
              obtain ⟨r0, r1, r2, _⟩ := hr10.facts
              have hcase := words_sum HSU.out hk1 (w := x) HXK.out.1
              rw [HXK.out.2] at hcase
              have hzne := zero_has HSU.out hk1 j
              obtain ⟨pa, hpa⟩ : ∃ pa, (preL k r T x).length = pa := ⟨_, rfl⟩
              obtain ⟨pz, hpz⟩ : ∃ pz, (preL k r T (zeroW j)).length = pz := ⟨_, rfl⟩
              have hor : pa = 0 ∨ pa = pz := by
                rcases hcase with h | h
                · exact .inl (by rw [← hpa, h]; rfl)
                · exact .inr (by rw [← hpa, ← hpz, h])
              rw [hpz] at hzne
              rw [hpa] at HO9 ⊢
              rw [hpz] at ho10 ⊢
              have ho9b := own_below HO9.out hb910
              have hsa := Sl.of_own ho9b
              have hsz := Sl.of_own ho10
              have hlam := own_le ho9b
              have hlzm := limbs_nz hzne
              have hlan : ¬ pa = 0 → (limbs pa).length ≠ 0 := limbs_nz
              obtain ⟨la, hla⟩ : ∃ la, (limbs pa).length = la := ⟨_, rfl⟩
              obtain ⟨lz, hlz⟩ : ∃ lz, (limbs pz).length = lz := ⟨_, rfl⟩
              have hp0 : la ≠ 0 → pa = pz := fun h => by
                rcases hor with h1 | h1
                · exact absurd (by rw [← hla, h1]; decide) h
                · exact h1
              rw [hla] at hsa hlam hlan ⊢
              rw [hlz] at hsz hlzm ⊢
              have HP0 := Lib.hid hp0
              have HSA := Lib.hid hsa
              have HSZ := Lib.hid hsz
              have HB10 := Lib.hid hb10
              have HB810 := Lib.hid hb810
              have HR10 := Lib.hid hr10
              have hlz0 : ¬ (lz : Int) = 0 := by omega
              have hlz1 : ¬ lz = 0 := hlzm
              have hlzq : ((lz : Int) == 0) = false := beq_false_of_ne hlz0
              have hlmx : la ≤ maxLen := Nat.le_trans hlam.1 hlam.2
              have HLA := Lib.hid hlmx
              clear hb10 hb810 hb910 hr10 hcase hzne hpa hpz hor ho9b hsa hsz hlam hlzm hlan hla hlz hp0 hlmx ho10 b10
              by_cases hj0 : j = 0
              · subst hj0
                by_cases hla0 : la = 0
                · subst hla0
                  go_wp2_with fail
                  go_ret
                  exact ⟨rfl, HB10.out⟩
                · have hla1 : (0 : Int) < (la : Int) := by omega
                  have hla2 : 0 < la := by omega
                  have HNT := Lib.hid (nats_b v10 C9 C10 la lz c9 c10 _ _ HSA.out HSZ.out HLA.out)
                  rw [HP0.out hla0, decide_eq_true rfl] at HNT
                  go_wp2_with fail
                  refine (HNT.out).mono ?_
                  rintro e v11 ⟨rfl, b11⟩
                  have HB11 := Lib.hid (HB10.out.trans (b11.mono HB10.out.size))
                  clear b11 HNT
                  go_wp2_with fail
                  go_ret
                  exact ⟨rfl, HB11.out⟩
              by_cases hj10 : 10 < j
              · have hj10' : (10 : Int) < (j : Int) := by omega
                have hj0' : ¬ (j : Int) = 0 := by omega
                by_cases hla0 : la = 0
                · subst hla0
                  go_wp2_with fail
                  go_ret
                  exact ⟨rfl, HB10.out⟩
                · have hla1 : (0 : Int) < (la : Int) := by omega
                  have hla2 : 0 < la := by omega
                  have HNT := Lib.hid (nats_b v10 C9 C10 la lz c9 c10 _ _ HSA.out HSZ.out HLA.out)
                  rw [HP0.out hla0, decide_eq_true rfl] at HNT
                  go_wp2_with fail
                  refine (HNT.out).mono ?_
                  rintro e v11 ⟨rfl, b11⟩
                  have HB11 := Lib.hid (HB10.out.trans (b11.mono HB10.out.size))
                  clear b11 HNT
                  go_wp2_with fail
                  go_ret
                  exact ⟨rfl, HB11.out⟩
              have hj0' : ¬ (j : Int) = 0 := by omega
              have hj10' : ¬ (10 : Int) < (j : Int) := by omega
              have hcr := fun (wz : World) (hz : Below w.heap.size w wz) (hz8 : Below v8.heap.size v8 wz) => cRings_c wz E (HER.out wz hz).1.1 (k : Int) (r : Int) AR N cr (ints T) (HT8.out wz hz8) (by have := HNN.out.2; omega) (some ⟨g6, 0, none⟩) j j (ints x) (HXS.out wz (HB58.out.trans (hz8.mono HB58.out.size))) (by omega)
              rw [ringsV_good HRU.out.1 HRU.out.2 HXK.out.1 (by have := HXK.out.2; omega) (by have := HXK.out.2; omega), HXK.out.2] at hcr
              unfold ruleV at hcr
              have HCRF := Lib.hid hcr
              clear hcr
              by_cases hla0 : la = 0
              case' pos =>
                subst hla0
                go_wp2_with fail
                obtain ⟨v11, hv11⟩ : ∃ v11, v11 = v10 := ⟨_, rfl⟩
                subst hv11
                have HB11 := HB10
                have HB811 := HB810
                have HR11 := HR10
              case' neg =>
                have hla1 : (0 : Int) < (la : Int) := by omega
                have hla2 : 0 < la := by omega
                have HNT := Lib.hid (nats_b v10 C9 C10 la lz c9 c10 _ _ HSA.out HSZ.out HLA.out)
                rw [HP0.out hla0, decide_eq_true rfl] at HNT
                go_wp2_with fail
                refine (HNT.out).mono ?_
                rintro e v11 ⟨rfl, b11⟩
                clear r0 r1 r2
                have HB11 := Lib.hid (HB10.out.trans (b11.mono HB10.out.size))
                have HB811 := Lib.hid (HB810.out.trans (b11.mono HB810.out.size))
                have HR11 := Lib.hid (HR10.out.below b11 HR10.out.lt)
                obtain ⟨r0, r1, r2, _⟩ := HR11.out.facts
                clear b11 HNT
                have hj10'' : ¬ (10 : Int) < (j : Int) := by omega
                have hjq : ((j : Int) == 0) = false := beq_false_of_ne (by omega)
                go_wp2_with fail
              all_goals
                clear HP0 HSA HSZ HB10 HB810 HR10
                have hjp : 0 < j := by omega
                have HCR := Lib.hid (HCRF.out v11 HB11.out HB811.out)
                refine (HCR.out).mono ?_
                rintro e v12 ⟨C12, c12, _, rfl, ho12, rfl, b12⟩
                clear r0 r1 r2
                have hr12 := HR11.out.below b12 HR11.out.lt
                obtain ⟨r0, r1, r2, _⟩ := hr12.facts
                have hmk := run_make_row' (P := Tryz.prog) 22 3 (.int .i64 0) 8 tInts.und tInts.info rfl .i64 .i64 j (by omega) (by omega)
                have hzs := make_ints v12 j (by simp only [maxLen]; omega)
                have hbz := ((Below.refl v12.heap.size v12).alloc (Nat.le_refl _) (.cells (madeCells #[.int .i64 0] j) 3)).drew
                have hb12 := (HB11.out.trans (b12.mono HB11.out.size)).trans (hbz.mono (HB11.out.trans (b12.mono HB11.out.size)).size)
                have hb812 := (HB811.out.trans (b12.mono HB811.out.size)).trans (hbz.mono (HB811.out.trans (b12.mono HB811.out.size)).size)
                have hzs' : Sl (v12.alloc (.cells (madeCells #[.int .i64 0] j) 3)).drew (some ⟨v12.heap.size, 0, none⟩) j ((ints (zeroW j)).map (Value.int .i64)) := Sl.of_own hzs
                have hcz := cRings_c (v12.alloc (.cells (madeCells #[.int .i64 0] j) 3)).drew E (HER.out _ hb12).1.1 (k : Int) (r : Int) AR N cr (ints T) (HT8.out _ hb812) (by have := HNN.out.2; omega) (some ⟨v12.heap.size, 0, none⟩) j j (ints (zeroW j)) hzs' (by omega)
                have hzwl : (zeroW j).length = j := by simp [zeroW]
                rw [ringsV_good HRU.out.1 HRU.out.2 (zero_sym hk1 j) (by rw [hzwl]; exact hjp) (by rw [hzwl]; omega), hzwl] at hcz
                unfold ruleV at hcz
                have hlt12 := hr12.lt
                have HCZ2 := Lib.hid hcz
                have HBZ2 := Lib.hid (And.intro hbz hb12)
                have HO12 := Lib.hid ho12
                clear hr12 ho12 b12 HCR hzs hbz hb12 hb812 hzs' hcz hzwl
                go_wp2_with fail
                go_region_with (go_at_call 18; refine (HCZ2.out).mono ?_; rintro e v13 ⟨C13, c13, _, rfl, ho13, rfl, b13⟩)
                all_goals
                  have HB13 := Lib.hid (HBZ2.out.2.trans (b13.mono HBZ2.out.2.size))
                  have hb1213 := HBZ2.out.1.trans (b13.mono HBZ2.out.1.size)
                  clear r0 r1 r2 hmk hlt12
                  have hcase := rings_sum HSU.out hk1 hjp HXK.out.2 HXK.out.1
                  have hzne := zero_ring HSU.out hk1 hjp
                  change ringL k r j (fitP T x) = [] ∨ (ringL k r j (fitP T x)).length = (ringL k r j (fitP T (zeroW j))).length at hcase
                  change (ringL k r j (fitP T (zeroW j))).length ≠ 0 at hzne
                  obtain ⟨qa, hqa⟩ : ∃ qa, (ringL k r j (fitP T x)).length = qa := ⟨_, rfl⟩
                  obtain ⟨qz, hqz⟩ : ∃ qz, (ringL k r j (fitP T (zeroW j))).length = qz := ⟨_, rfl⟩
                  have hor : qa = 0 ∨ qa = qz := by
                    rcases hcase with h | h
                    · exact .inl (by rw [← hqa, h]; rfl)
                    · exact .inr (by rw [← hqa, ← hqz, h])
                  rw [hqz] at hzne
                  rw [hqa] at HO12 ⊢
                  rw [hqz] at ho13 ⊢
                  have ho12b := own_below HO12.out hb1213
                  have hsa := Sl.of_own ho12b
                  have hsz := Sl.of_own ho13
                  have hlam := own_le ho12b
                  have hlzm := limbs_nz hzne
                  obtain ⟨ma, hma⟩ : ∃ ma, (limbs qa).length = ma := ⟨_, rfl⟩
                  obtain ⟨mz, hmz⟩ : ∃ mz, (limbs qz).length = mz := ⟨_, rfl⟩
                  have hp0 : ma ≠ 0 → qa = qz := fun h => by
                    rcases hor with h1 | h1
                    · exact absurd (by rw [← hma, h1]; decide) h
                    · exact h1
                  rw [hma] at hsa hlam ⊢
                  rw [hmz] at hsz hlzm ⊢
                  have HP0 := Lib.hid hp0
                  have HSA := Lib.hid hsa
                  have HSZ := Lib.hid hsz
                  have hmz1 : (0 : Int) < (mz : Int) := by omega
                  have hmz2 : 0 < mz := by omega
                  have hmmx : ma ≤ maxLen := Nat.le_trans hlam.1 hlam.2
                  have HMA := Lib.hid hmmx
                  clear hb1213 hcase hzne hqa hqz hor ho12b hsa hsz hlam hlzm hma hmz hp0 hmmx ho13 b13
                  by_cases hma0 : ma = 0
                  · subst hma0
                    go_wp2_with fail
                    go_ret
                    exact ⟨rfl, HB13.out⟩
                  · have hma1 : ¬ (ma : Int) = 0 := by omega
                    have hma2 : ((ma : Int) == 0) = false := beq_false_of_ne hma1
                    have HNT := Lib.hid (nats_b v13 C12 C13 ma mz c12 c13 _ _ HSA.out HSZ.out HMA.out)
                    rw [HP0.out hma0, decide_eq_true rfl] at HNT
                    go_wp2_with fail
                    refine (HNT.out).mono ?_
                    rintro e v14 ⟨rfl, b14⟩
                    have HB14 := Lib.hid (HB13.out.trans (b14.mono HB13.out.size))
                    clear b14 HNT
                    go_wp2_with fail
                    go_ret
                    exact ⟨rfl, HB14.out⟩
end Go.Proofs.YtibplgpolmplpaaGreatDoor
