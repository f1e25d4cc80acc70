/- permut.Left. Condition: the lists read from memory; the error variables hold what E says. -/
import Derived.Test.YtibplgpolmplpaaGreatDoorX28
namespace Go.Proofs.YtibplgpolmplpaaGreatDoor
open Go.RowKit RuleP

theorem splice_tail (m : Nat) (ys : List Value) (z : Value) : splice (List.replicate (m + ys.length) z) m ys = List.replicate m z ++ ys := by
  unfold splice
  rw [List.take_replicate, List.drop_replicate, Nat.min_eq_left (by omega), Nat.sub_self, List.replicate_zero, List.append_nil]

set_option maxRecDepth 100000 in
set_option maxHeartbeats 4000000 in
theorem left_c (w : World) (E : Nat → Addr) (hE : Errs w E) (k r n c : Nat) (A : Option Addr) (t : List Nat) (hr : IsRule k r t) (hT : Sl w A n ((ints t).map (Value.int .i64))) (B : Option Addr) (m d : Nat) (X : List Int) (hX : Sl w B m (X.map (Value.int .i64))) (hm : m ≤ 9223372036854775807)
    (D : Option Addr) (l q : Nat) (Y : List Int) (hY : Sl w D l (Y.map (Value.int .i64))) (hl : l ≤ 9223372036854775807) :
    Calls Tryz.prog 28 #[ruleV (k : Int) (r : Int) A n c, .slice B m d, .slice D l q] w (EndPost w k r X Y (leftF k (k ^ (2 * r)) t)) := by
  have htn : t.length = n := by simpa [ints] using hT.1
  obtain ⟨hdv, hln⟩ := nodes_div hr
  rw [htn] at hdv hln
  have hk1 := hr.k1
  have hk4 := hr.k4
  have hr3 := hr.r3
  have hN0 : 0 < k ^ (2 * r) := Nat.pow_pos hk1
  have hN4 : k ^ (2 * r) ≤ 4096 := pow6 hk4 hr3
  obtain ⟨N, hN⟩ : ∃ N, k ^ (2 * r) = N := ⟨_, rfl⟩
  rw [hN] at hdv hln hN0 hN4 ⊢
  have hn16 : n ≤ 16384 := by
    have := Nat.mul_le_mul hN4 hk4
    omega
  have hb1 := (Below.refl w.heap.size w).alloc (Nat.le_refl _) (.cells #[.int .i64 (k : Int), .int .i64 (r : Int), .slice A n c] 24)
  have hr1 := RuleAt.new w (.int .i64 (k : Int)) (.int .i64 (r : Int)) (.slice A n c)
  obtain ⟨r0, r1, r2, _⟩ := hr1.facts
  obtain ⟨w1, hw1⟩ : ∃ w1, w.alloc (.cells #[.int .i64 (k : Int), .int .i64 (r : Int), .slice A n c] 24) = w1 := ⟨_, rfl⟩
  rw [hw1] at hb1 hr1
  have HER := Lib.hid (fun (wz : World) (hz : Below w.heap.size w wz) => (⟨hE.below hz, hT.below hz, hX.below hz, hY.below hz⟩ : _ ∧ _ ∧ _ ∧ _))
  have hsd := sides_c w1 E (HER.out w1 hb1).1 (k : Int) (r : Int) A n c (ints t) (HER.out w1 hb1).2.1 (by omega)
  have HW1 := Lib.hid hw1
  have HB1 := Lib.hid hb1
  have HR1 := Lib.hid hr1
  have HRU := Lib.hid hr
  have HNN := Lib.hid (And.intro hdv hln)
  have HLL := Lib.hid (And.intro hm hl)
  have HNP := Lib.hid hN
  unfold ruleV at hsd ⊢
  have HSD := Lib.hid hsd
  clear hw1 hb1 hr1 hr hE hT hX hY hsd htn hdv hln hN hm hl
  have hk0 : ¬ ((k : Int) = 0) := by omega
  have hk0n : ¬ k = 0 := by omega
  go_enter Tryz.func28, Tryz.ntmps28
  go_wp2_with fail
  rw [HW1.out]
  refine (HSD.out).mono ?_
  rintro e w2 ⟨la, ri, v, rfl, hb, hor⟩
  have hb2 := HB1.out.trans (hb.mono HB1.out.size)
  have hr2 := HR1.out.below hb HR1.out.lt
  rcases hor with ⟨u, p, rfl⟩ | ⟨rfl, _⟩
  · have HB2 := Lib.hid hb2
    clear hb hb2 hr2 r0 r1 r2
    go_wp2_with fail
    go_ret2
    exact ⟨_, _, _, _, rfl, HB2.out, .inl ⟨_, _, rfl⟩⟩
  cases la with
  | false =>
    have HWR := Lib.hid (permWrong_c w2 E (HER.out w2 hb2).1 0 3 (by decide) (by decide))
    have HB2 := Lib.hid hb2
    clear hb hb2 hr2 r0 r1 r2
    go_wp2_with fail
    refine (HWR.out).mono ?_
    rintro e w3 ⟨rfl, he, hb⟩
    have HB3 := Lib.hid (HB2.out.trans (hb.mono HB2.out.size))
    clear he hb
    go_wp2_with fail
    go_ret2
    exact ⟨_, _, _, _, rfl, HB3.out, .inl ⟨_, _, rfl⟩⟩
  | true =>
    have hpc := permCheck_c w2 E (HER.out w2 hb2).1 k r n c A hr3 B m d X (HER.out w2 hb2).2.2.1 HLL.out.1 D l q Y (HER.out w2 hb2).2.2.2 HLL.out.2
    unfold ruleV at hpc
    have HPC := Lib.hid hpc
    have HB2 := Lib.hid hb2
    have HR2 := Lib.hid hr2
    clear r0 r1 r2
    obtain ⟨r0, r1, r2, _⟩ := hr2.facts
    clear hb hb2 hr2 hpc
    go_wp2_with fail
    refine (HPC.out).mono ?_
    rintro e w3 ⟨v, rfl, hb, hor⟩
    have hb3 := HB2.out.trans (hb.mono HB2.out.size)
    have hr3 := HR2.out.below hb HR2.out.lt
    rcases hor with ⟨u, p, rfl⟩ | ⟨rfl, hm4, rfl, x, y, rfl, rfl, hxk, hyk⟩
    · have HB3 := Lib.hid hb3
      clear hb hb3 hr3 r0 r1 r2
      go_wp2_with fail
      go_ret2
      exact ⟨_, _, _, _, rfl, HB3.out, .inl ⟨_, _, rfl⟩⟩
    have hxl : x.length = m := by have := (HER.out w3 hb3).2.2.1.1; simpa [ints] using this
    have hyl : y.length = 2 * r := by have := (HER.out w3 hb3).2.2.2.1; simpa [ints] using this
    obtain ⟨L, hL⟩ : ∃ L, 2 * r = L := ⟨_, rfl⟩
    rw [hL] at hyl HER ⊢
    have hL6 : L ≤ 6 := by omega
    have HXY := Lib.hid (And.intro hxk (And.intro hyk (And.intro hxl hyl)))
    have HB3 := Lib.hid hb3
    have HR3 := Lib.hid hr3
    have HL := Lib.hid hL
    obtain ⟨Q, hQ⟩ : ∃ Q, m + L = Q := ⟨_, rfl⟩
    obtain ⟨g, hg⟩ : ∃ g, w3.heap.size = g := ⟨_, rfl⟩
    have hmk := run_make_row' (P := Tryz.prog) 22 3 (.int .i64 0) 8 tInts.und tInts.info rfl .i64 .i64 Q (by omega) (by omega) w3
    rw [hg] at hmk
    have b4 := (Below.refl w3.heap.size w3).alloc (Nat.le_refl _) (.cells (madeCells #[.int .i64 0] Q) 3)
    have hblk : (w3.alloc (.cells (madeCells #[.int .i64 0] Q) 3)).heap[w3.heap.size]? = some (.cells (List.replicate Q (Value.int .i64 0)).toArray 3 (0, 0)) :=
      (heap_new w3 (.cells (madeCells #[.int .i64 0] Q) 3)).trans (by rw [show (madeCells #[Value.int .i64 0] Q) = (List.replicate Q (Value.int .i64 0)).toArray by rw [← toList_madeCells_one]])
    have hsz : (Tryz.prog.info? 3).map (·.size) = some 1 := by rw [show (Tryz.prog.info? 3).map (·.size) = some 1 by kernel_rfl]
    obtain ⟨w4, hw4⟩ : ∃ w4, w3.alloc (.cells (madeCells #[.int .i64 0] Q) 3) = w4 := ⟨_, rfl⟩
    rw [hw4] at hmk b4 hblk
    rw [hg] at hblk
    have hY4 := (HER.out w4 (hb3.trans (b4.mono hb3.size))).2.2.2
    have hylen : ((ints y).map (Value.int .i64)).length = L := by rw [List.length_map, ints_len]; exact hyl
    have HYL := Lib.hid hylen
    have HYC := Lib.hid (show 0 < ((ints y).map (Value.int .i64)).length → ∃ ad, D = some ad ∧ ∀ j v, ((ints y).map (Value.int .i64))[j]? = some v → w4.cell? (ad.add j) = some v from fun h => by
      obtain ⟨v, hv⟩ : ∃ v, ((ints y).map (Value.int .i64))[0]? = some v := ⟨_, List.getElem?_eq_getElem h⟩
      obtain ⟨ad, e, _⟩ := hY4.2 0 v hv
      refine ⟨ad, e, fun j u hj => ?_⟩
      obtain ⟨ad', e', hc⟩ := hY4.2 j u hj
      rw [e] at e'
      cases e'
      exact hc)
    have HBLK := Lib.hid hblk
    have HB4 := Lib.hid b4
    have HONE := Lib.hid (ints_one (q := .i64) (ints y))
    have HFIT := Lib.hid (show m + ((ints y).map (Value.int .i64)).length ≤ (List.replicate Q (Value.int .i64 0)).length by rw [hylen, List.length_replicate]; omega)
    have HR3F := Lib.hid (fun (wz : World) (hz : Below w3.heap.size w3 wz) => (hr3.below hz hr3.lt).facts)
    have HSPL := Lib.hid (show splice (List.replicate Q (Value.int .i64 0)) m ((ints y).map (Value.int .i64)) = (ints (leftP k N t x y m)).map (Value.int .i64) by
      rw [← hQ, ← hylen, splice_tail, ← hxl, leftP_start]
      simp [ints])
    have HG := Lib.hid hg
    have s1 : IntKind.i64.wrap ((m : Int) + (L : Int)) = (Q : Int) := by rw [← Int.natCast_add, hQ]; exact IntWalk.i64_in _ (by omega)
    have s2 : (m : Int) ≤ (Q : Int) := by omega
    have s3 : Q - m = L := by omega
    have s4 : (0 : Int) ≤ (m : Int) := by omega
    have HQ := Lib.hid hQ
    have HMN := Lib.hid (show Nat.min L L = L from Nat.min_self L)
    have HBG := Lib.hid (Nat.le_of_eq hg)
    have hn0 : (n : Int).tdiv (k : Int) = (N : Int) := by rw [← HNN.out.1]; rfl
    have hn1 : (n : Int) / (k : Int) = (N : Int) := by rw [← HNN.out.1]; rfl
    have hn2 : IntKind.i64.wrap (N : Int) = (N : Int) := IntWalk.i64_in _ (by omega)
    clear r0 r1 r2
    obtain ⟨r0, r1, r2, _⟩ := hr3.facts
    clear hb hb3 hr3 hxk hyk hxl hyl hL hQ hg b4 hblk hw4 hY4 hylen
    go_wp2_with (refine wpList_copy_splice rfl _ _ _ _ rfl 3 tInts.und hsz _ D L L L q rfl rfl g m (List.replicate Q (Value.int .i64 0)) 3 HBLK.out ((ints y).map (Value.int .i64)) (HYL.out.trans HMN.out.symm) (fun h => ⟨?_, HYC.out h⟩) HFIT.out HONE.out w3.heap.size w3 HB4.out HBG.out ?_)
    · exfalso
      have h1 := HYL.out
      have h2 := HQ.out
      omega
    · intro w5 hblk5 hb5
      have hQm : Q = m := by assumption
      rw [hQm] at HSPL HQ
      clear hQm
      try clear h
      rw [HSPL.out] at hblk5
      have hlen : ((ints (leftP k N t x y m)).map (Value.int .i64)).length = m := by
        rw [List.length_map, ints_len, leftP_len HXY.out.2.2.2 (by rw [HXY.out.2.2.1]; exact Nat.le_refl _), HXY.out.2.2.1]
        exact HQ.out
      have HO5 : Hid (w5.ownsRow w3.heap.size 3 1 (.slice (some ⟨g, 0, none⟩) m m) m ((ints (leftP k N t x y m)).map (Value.int .i64))) := Lib.hid
        ⟨by rw [hlen, Nat.mul_one], .inr ⟨g, m, _, rfl, HBG.out, hblk5.out, Nat.le_refl _, by simp only [maxLen]; omega, by simpa using hlen, by
          rw [Nat.mul_one, List.take_of_length_le (by simpa using Nat.le_of_eq hlen)]⟩⟩
      have HB5 := Lib.hid hb5
      clear hblk5 hlen hb5 r0 r1 r2 hmk hsz
      obtain ⟨r0, r1, r2, _⟩ := HR3F.out w5 HB5.out
      go_wp2_with fail
      go_loopw [14, 58] (fun nv iv wl => ∃ i : Nat, iv = .int .i64 (i : Int) ∧ i ≤ L ∧ nv = .int .i64 ((wval k (y.take i) : Nat) : Int) ∧ Hid (Below w5.heap.size w5 wl)) (fun _ iv _ => L - (intOf iv).toNat)
      case atStart => exact ⟨0, rfl, Nat.zero_le _, by rw [List.take_zero, wval_nil]; rfl, Lib.hid (Below.refl _ _)⟩
      case round =>
        obtain ⟨i, rfl, hi, rfl, hwe⟩ := hrel
        obtain ⟨v0, rfl⟩ : ∃ v0, v0 = wr := ⟨_, rfl⟩
        have HB35 := Lib.hid (HB5.out.trans (hwe.out.mono HB5.out.size))
        clear r0 r1 r2
        obtain ⟨r0, r1, r2, _⟩ := HR3F.out v0 HB35.out
        have HBv := Lib.hid (HB3.out.trans (HB35.out.mono HB3.out.size))
        have hnl := wval_take_lt HXY.out.2.1 hk4 hk1 (by rw [HXY.out.2.2.2]; exact hL6) i
        by_cases hiL : i < L
        · have hiL' : (i : Int) < (L : Int) := by omega
          have hi0 : (0 : Int) ≤ (i : Int) := by omega
          obtain ⟨ad, s, rfl, hs, hcs⟩ := perm_at (HER.out v0 HBv.out).2.2.2 hiL
          have hnx := wval_take (k := k) hs
          have hnl2 := wval_take_lt HXY.out.2.1 hk4 hk1 (by rw [HXY.out.2.2.2]; exact hL6) (i + 1)
          obtain ⟨a, ha⟩ : ∃ a, wval k (y.take i) = a := ⟨_, rfl⟩
          obtain ⟨b, hb⟩ : ∃ b, wval k (y.take (i + 1)) = b := ⟨_, rfl⟩
          rw [ha, hb] at hnx
          rw [hb] at hnl2
          rw [ha] at hnl ⊢
          obtain ⟨p, hp⟩ : ∃ p, a * k = p := ⟨_, rfl⟩
          rw [hp] at hnx
          have d1 : IntKind.i64.wrap ((a : Int) * (k : Int)) = (p : Int) := by rw [← Int.natCast_mul, hp]; exact IntWalk.i64_in _ (by omega)
          have d2 : IntKind.i64.wrap ((p : Int) + (s : Int)) = (b : Int) := by rw [← Int.natCast_add, ← hnx]; exact IntWalk.i64_in _ (by omega)
          have HBB := Lib.hid hb
          clear ha hb hnx hp hs
          go_wp2_with fail
          exact ⟨⟨i + 1, by go_num, by omega, by rw [HBB.out], hwe⟩, by simp [intOf]; omega⟩
        · obtain rfl : i = L := by omega
          have hiL' : ¬ (i : Int) < (i : Int) := by omega
          have hyt : y.take i = y := List.take_of_length_le (by rw [HXY.out.2.2.2]; exact Nat.le_refl _)
          rw [hyt] at hnl ⊢
          have hnN : wval k y < N := by
            have h1 := wval_lt HXY.out.2.1
            rw [HXY.out.2.2.2, ← HL.out, HNP.out] at h1
            exact h1
          have HO6 := Lib.hid (own_below HO5.out hwe.out)
          have HNN0 := Lib.hid hnN
          clear hyt hnl hnN HO5 hwe
          obtain ⟨nd, hnd⟩ : ∃ nd, wval k y = nd := ⟨_, rfl⟩
          rw [hnd] at HNN0 ⊢
          have HND := Lib.hid hnd
          clear hnd
          have hm1 : IntKind.i64.wrap ((m : Int) - 1) = (m : Int) - 1 := IntWalk.i64_in _ (by omega)
          go_wp2_with fail
          clear r0 r1 r2 hm1
          go_loopw [14, 17] (fun nv zv wl => ∃ (j u : Nat) (z : Int), zv = .int .i64 z ∧ Hid (z = (j : Int) - 1) ∧ j ≤ m ∧ nv = .int .i64 (u : Int) ∧ Hid (u = leftN k N t (x.drop j).reverse nd) ∧ u < N ∧ Hid (wl.ownsRow w3.heap.size 3 1 (.slice (some ⟨g, 0, none⟩) m m) m ((ints (leftP k N t x y j)).map (Value.int .i64))) ∧ Hid (Below w3.heap.size w3 wl)) (fun _ zv _ => (intOf zv + 1).toNat)
          case atStart => exact ⟨m, nd, (m : Int) - 1, rfl, Lib.hid rfl, Nat.le_refl _, rfl, Lib.hid (by rw [← HXY.out.2.2.1, List.drop_length]; rfl), HNN0.out, HO6, HB35⟩
          case round =>
            obtain ⟨j, u, z, rfl, HZ, hj, rfl, HU, huN, HO, HB⟩ := hrel
            obtain ⟨v1, rfl⟩ : ∃ v1, v1 = wr := ⟨_, rfl⟩
            obtain ⟨r0, r1, r2, _⟩ := HR3F.out v1 HB.out
            have HB6 := Lib.hid (HB3.out.trans (HB.out.mono HB3.out.size))
            cases j with
            | zero =>
              have hz0 : z < 0 := by have := HZ.out; omega
              have hl5 : m ≤ 5000 := by omega
              have HFN : Hid (Sl v1 (some ⟨g, 0, none⟩) m ((ints (leftF k N t x y)).map (Value.int .i64))) := Lib.hid (by
                have h := Sl.of_own HO.out
                rw [leftP_zero] at h
                exact h)
              go_wp2_with fail
              go_ret2
              exact ⟨_, _, _, _, rfl, HB6.out, .inr ⟨rfl, x, y, rfl, rfl, HXY.out.1, HXY.out.2.1, by rw [HXY.out.2.2.2]; exact HL.out.symm, hl5, HFN.out⟩⟩
            | succ j =>
              obtain rfl : z = (j : Int) := by have := HZ.out; omega
              have hjm' : (j : Int) < (m : Int) := by omega
              have hjQ : (j : Int) < (m : Int) := by omega
              have hj0 : (0 : Int) ≤ (j : Int) := by omega
              have hj1 : ¬ (j : Int) < 0 := by omega
              obtain ⟨ad, z, rfl, hz, hcz⟩ := perm_at (HER.out v1 HB6.out).2.2.1 (show j < m by omega)
              have hft := permFits_c v1.drew k r n c u N z A t HRU.out (HER.out v1.drew HB6.out.drew).2.1 hn16 (fun s hs => by
                have h3 : (s + 1) * N ≤ k * N := Nat.mul_le_mul_right _ hs
                rw [Nat.add_mul, Nat.one_mul, Nat.mul_comm k N, ← HNN.out.2] at h3
                omega)
              obtain ⟨σ, hσ⟩ : ∃ σ, fitU k t u N z = σ := ⟨_, rfl⟩
              have hσk : σ < k := by rw [← hσ]; exact fitU_lt hk1 t u N z
              have hnl := node_left (show 0 < k by omega) hσk huN
              rw [hσ] at hft
              unfold ruleV at hft
              have HFT := Lib.hid hft
              obtain ⟨p, hp⟩ : ∃ p, σ * N = p := ⟨_, rfl⟩
              have hpn : p ≤ 16384 := by rw [← hp]; exact Nat.le_trans (Nat.mul_le_mul (show σ ≤ 4 by omega) hN4) (by decide)
              obtain ⟨b, hb⟩ : ∃ b, p + u = b := ⟨_, rfl⟩
              obtain ⟨u', hu'⟩ : ∃ u', b / k = u' := ⟨_, rfl⟩
              rw [hp, hb, hu'] at hnl
              have d1 : IntKind.i64.wrap ((σ : Int) * (N : Int)) = (p : Int) := by rw [← Int.natCast_mul, hp]; exact IntWalk.i64_in _ (by omega)
              have d2 : IntKind.i64.wrap ((p : Int) + (u : Int)) = (b : Int) := by rw [← Int.natCast_add, hb]; exact IntWalk.i64_in _ (by omega)
              have d4 : (b : Int).tdiv (k : Int) = (u' : Int) := by rw [← hu']; rfl
              have d4' : (b : Int) / (k : Int) = (u' : Int) := by rw [← hu']; rfl
              have d6 : IntKind.i64.wrap (u' : Int) = (u' : Int) := IntWalk.i64_in _ (by omega)
              have d7 : IntKind.i64.wrap ((j : Int) - 1) = (j : Int) - 1 := IntWalk.i64_in _ (by omega)
              have hst := leftP_step (k := k) (N := N) (t := t) (a := y) hz
              have hns := leftN_step (k := k) (N := N) (t := t) (node := nd) hz
              rw [HND.out, ← HU.out, hσ] at hst
              rw [← HU.out, hσ, hp, hb, hu'] at hns
              have HST := Lib.hid (And.intro hst hns.symm)
              clear hz hp hσ hft hb hu' hst hns
              go_wp2_with fail
              go_region_held3 (fun w' => w'.cell? ⟨w.heap.size, 0, none⟩ = some (.int .i64 (k : Int)) ∧ w'.cell? ⟨w.heap.size, 1, none⟩ = some (.int .i64 (r : Int)) ∧ w'.cell? ⟨w.heap.size, 2, none⟩ = some (.slice A n c) ∧ w'.cell? (ad.add j) = some (.int .i64 (z : Int)))
                (first | go_keep)
                (first
                  | (go_at_call 75
                     refine (HFT.out).mono ?_
                     rintro e v2 ⟨rfl, hb2⟩
                     have x0 := cell_later hb2 r0
                     have x1 := cell_later hb2 r1
                     have x2 := cell_later hb2 r2
                     have x3 := cell_later hb2 hcz
                     have hb2' : Below v1.heap.size v1 v2 := (Below.refl _ _).drew.trans hb2))
              have hO := own_below HO.out hb2'
              have fa := hO.frozenAt j
              have hcur : (leftP k N t x y (j + 1)).length = m := by
                rw [leftP_len HXY.out.2.2.2 (by rw [HXY.out.2.2.1]; omega), HXY.out.2.2.1]
                exact HQ.out
              obtain ⟨o, ho⟩ : ∃ o, (leftP k N t x y (j + 1))[j]? = some o := ⟨_, List.getElem?_eq_getElem (by omega)⟩
              have ca : v2.cell? ⟨g, j, none⟩ = some (.int .i64 (o : Int)) := by
                rw [hO.cellAt j (by omega), ints_map, List.getElem?_map, ho]
                rfl
              have o1 := (hO.stored j (.int .i64 (σ : Int))).1
              have e3 : ((ints (leftP k N t x y (j + 1))).map (Value.int .i64)).set j (.int .i64 (σ : Int)) = (ints (leftP k N t x y j)).map (Value.int .i64) := by
                rw [← HST.out.1, ints_map, ints_map, List.map_set]
              rw [e3] at o1
              have hb3v := HB.out.trans (hb2'.mono HB.out.size)
              have hrs := (HR3.out.below hb3v HR3.out.lt).keeps (Keeps.of_setCell v2 ⟨g, j, none⟩ (.int .i64 (σ : Int))) (by have h1 := HR3.out.lt; have h2 := HBG.out; simp; omega)
              obtain ⟨s0, s1, s2, _⟩ := hrs.facts
              have HOO := Lib.hid o1
              have HKK := Lib.hid (hb3v.setCell (p := ⟨g, j, none⟩) HBG.out (.int .i64 (σ : Int)))
              have hk0' : ¬ (k : Int) = 0 := by omega
              clear r0 r1 r2 x0 x1 x2 x3 hcz hO hcur ho o1 e3 hb3v hrs hb2 hb2'
              go_wp2_with fail
              exact ⟨⟨j, u', (j : Int) - 1, by first | rfl | go_num, Lib.hid rfl, by omega, rfl, Lib.hid HST.out.2, hnl, HOO, HKK⟩, by simp [intOf]⟩
    · intro w5 hblk5 hb5
      rw [HSPL.out] at hblk5
      have hlen : ((ints (leftP k N t x y m)).map (Value.int .i64)).length = Q := by
        rw [List.length_map, ints_len, leftP_len HXY.out.2.2.2 (by rw [HXY.out.2.2.1]; exact Nat.le_refl _), HXY.out.2.2.1]
        exact HQ.out
      have HO5 : Hid (w5.ownsRow w3.heap.size 3 1 (.slice (some ⟨g, 0, none⟩) Q Q) Q ((ints (leftP k N t x y m)).map (Value.int .i64))) := Lib.hid
        ⟨by rw [hlen, Nat.mul_one], .inr ⟨g, Q, _, rfl, HBG.out, hblk5.out, Nat.le_refl _, by simp only [maxLen]; omega, by simpa using hlen, by
          rw [Nat.mul_one, List.take_of_length_le (by simpa using Nat.le_of_eq hlen)]⟩⟩
      have HB5 := Lib.hid hb5
      clear hblk5 hlen hb5 r0 r1 r2 hmk hsz
      obtain ⟨r0, r1, r2, _⟩ := HR3F.out w5 HB5.out
      go_wp2_with fail
      go_loopw [14, 58] (fun nv iv wl => ∃ i : Nat, iv = .int .i64 (i : Int) ∧ i ≤ L ∧ nv = .int .i64 ((wval k (y.take i) : Nat) : Int) ∧ Hid (Below w5.heap.size w5 wl)) (fun _ iv _ => L - (intOf iv).toNat)
      case atStart => exact ⟨0, rfl, Nat.zero_le _, by rw [List.take_zero, wval_nil]; rfl, Lib.hid (Below.refl _ _)⟩
      case round =>
        obtain ⟨i, rfl, hi, rfl, hwe⟩ := hrel
        obtain ⟨v0, rfl⟩ : ∃ v0, v0 = wr := ⟨_, rfl⟩
        have HB35 := Lib.hid (HB5.out.trans (hwe.out.mono HB5.out.size))
        clear r0 r1 r2
        obtain ⟨r0, r1, r2, _⟩ := HR3F.out v0 HB35.out
        have HBv := Lib.hid (HB3.out.trans (HB35.out.mono HB3.out.size))
        have hnl := wval_take_lt HXY.out.2.1 hk4 hk1 (by rw [HXY.out.2.2.2]; exact hL6) i
        by_cases hiL : i < L
        · have hiL' : (i : Int) < (L : Int) := by omega
          have hi0 : (0 : Int) ≤ (i : Int) := by omega
          obtain ⟨ad, s, rfl, hs, hcs⟩ := perm_at (HER.out v0 HBv.out).2.2.2 hiL
          have hnx := wval_take (k := k) hs
          have hnl2 := wval_take_lt HXY.out.2.1 hk4 hk1 (by rw [HXY.out.2.2.2]; exact hL6) (i + 1)
          obtain ⟨a, ha⟩ : ∃ a, wval k (y.take i) = a := ⟨_, rfl⟩
          obtain ⟨b, hb⟩ : ∃ b, wval k (y.take (i + 1)) = b := ⟨_, rfl⟩
          rw [ha, hb] at hnx
          rw [hb] at hnl2
          rw [ha] at hnl ⊢
          obtain ⟨p, hp⟩ : ∃ p, a * k = p := ⟨_, rfl⟩
          rw [hp] at hnx
          have d1 : IntKind.i64.wrap ((a : Int) * (k : Int)) = (p : Int) := by rw [← Int.natCast_mul, hp]; exact IntWalk.i64_in _ (by omega)
          have d2 : IntKind.i64.wrap ((p : Int) + (s : Int)) = (b : Int) := by rw [← Int.natCast_add, ← hnx]; exact IntWalk.i64_in _ (by omega)
          have HBB := Lib.hid hb
          clear ha hb hnx hp hs
          go_wp2_with fail
          exact ⟨⟨i + 1, by go_num, by omega, by rw [HBB.out], hwe⟩, by simp [intOf]; omega⟩
        · obtain rfl : i = L := by omega
          have hiL' : ¬ (i : Int) < (i : Int) := by omega
          have hyt : y.take i = y := List.take_of_length_le (by rw [HXY.out.2.2.2]; exact Nat.le_refl _)
          rw [hyt] at hnl ⊢
          have hnN : wval k y < N := by
            have h1 := wval_lt HXY.out.2.1
            rw [HXY.out.2.2.2, ← HL.out, HNP.out] at h1
            exact h1
          have HO6 := Lib.hid (own_below HO5.out hwe.out)
          have HNN0 := Lib.hid hnN
          clear hyt hnl hnN HO5 hwe
          obtain ⟨nd, hnd⟩ : ∃ nd, wval k y = nd := ⟨_, rfl⟩
          rw [hnd] at HNN0 ⊢
          have HND := Lib.hid hnd
          clear hnd
          have hm1 : IntKind.i64.wrap ((m : Int) - 1) = (m : Int) - 1 := IntWalk.i64_in _ (by omega)
          go_wp2_with fail
          clear r0 r1 r2 hm1
          go_loopw [14, 17] (fun nv zv wl => ∃ (j u : Nat) (z : Int), zv = .int .i64 z ∧ Hid (z = (j : Int) - 1) ∧ j ≤ m ∧ nv = .int .i64 (u : Int) ∧ Hid (u = leftN k N t (x.drop j).reverse nd) ∧ u < N ∧ Hid (wl.ownsRow w3.heap.size 3 1 (.slice (some ⟨g, 0, none⟩) Q Q) Q ((ints (leftP k N t x y j)).map (Value.int .i64))) ∧ Hid (Below w3.heap.size w3 wl)) (fun _ zv _ => (intOf zv + 1).toNat)
          case atStart => exact ⟨m, nd, (m : Int) - 1, rfl, Lib.hid rfl, Nat.le_refl _, rfl, Lib.hid (by rw [← HXY.out.2.2.1, List.drop_length]; rfl), HNN0.out, HO6, HB35⟩
          case round =>
            obtain ⟨j, u, z, rfl, HZ, hj, rfl, HU, huN, HO, HB⟩ := hrel
            obtain ⟨v1, rfl⟩ : ∃ v1, v1 = wr := ⟨_, rfl⟩
            obtain ⟨r0, r1, r2, _⟩ := HR3F.out v1 HB.out
            have HB6 := Lib.hid (HB3.out.trans (HB.out.mono HB3.out.size))
            cases j with
            | zero =>
              have hz0 : z < 0 := by have := HZ.out; omega
              have hl5 : Q ≤ 5000 := by omega
              have HFN : Hid (Sl v1 (some ⟨g, 0, none⟩) Q ((ints (leftF k N t x y)).map (Value.int .i64))) := Lib.hid (by
                have h := Sl.of_own HO.out
                rw [leftP_zero] at h
                exact h)
              go_wp2_with fail
              go_ret2
              exact ⟨_, _, _, _, rfl, HB6.out, .inr ⟨rfl, x, y, rfl, rfl, HXY.out.1, HXY.out.2.1, by rw [HXY.out.2.2.2]; exact HL.out.symm, hl5, HFN.out⟩⟩
            | succ j =>
              obtain rfl : z = (j : Int) := by have := HZ.out; omega
              have hjm' : (j : Int) < (m : Int) := by omega
              have hjQ : (j : Int) < (Q : Int) := by omega
              have hj0 : (0 : Int) ≤ (j : Int) := by omega
              have hj1 : ¬ (j : Int) < 0 := by omega
              obtain ⟨ad, z, rfl, hz, hcz⟩ := perm_at (HER.out v1 HB6.out).2.2.1 (show j < m by omega)
              have hft := permFits_c v1.drew k r n c u N z A t HRU.out (HER.out v1.drew HB6.out.drew).2.1 hn16 (fun s hs => by
                have h3 : (s + 1) * N ≤ k * N := Nat.mul_le_mul_right _ hs
                rw [Nat.add_mul, Nat.one_mul, Nat.mul_comm k N, ← HNN.out.2] at h3
                omega)
              obtain ⟨σ, hσ⟩ : ∃ σ, fitU k t u N z = σ := ⟨_, rfl⟩
              have hσk : σ < k := by rw [← hσ]; exact fitU_lt hk1 t u N z
              have hnl := node_left (show 0 < k by omega) hσk huN
              rw [hσ] at hft
              unfold ruleV at hft
              have HFT := Lib.hid hft
              obtain ⟨p, hp⟩ : ∃ p, σ * N = p := ⟨_, rfl⟩
              have hpn : p ≤ 16384 := by rw [← hp]; exact Nat.le_trans (Nat.mul_le_mul (show σ ≤ 4 by omega) hN4) (by decide)
              obtain ⟨b, hb⟩ : ∃ b, p + u = b := ⟨_, rfl⟩
              obtain ⟨u', hu'⟩ : ∃ u', b / k = u' := ⟨_, rfl⟩
              rw [hp, hb, hu'] at hnl
              have d1 : IntKind.i64.wrap ((σ : Int) * (N : Int)) = (p : Int) := by rw [← Int.natCast_mul, hp]; exact IntWalk.i64_in _ (by omega)
              have d2 : IntKind.i64.wrap ((p : Int) + (u : Int)) = (b : Int) := by rw [← Int.natCast_add, hb]; exact IntWalk.i64_in _ (by omega)
              have d4 : (b : Int).tdiv (k : Int) = (u' : Int) := by rw [← hu']; rfl
              have d4' : (b : Int) / (k : Int) = (u' : Int) := by rw [← hu']; rfl
              have d6 : IntKind.i64.wrap (u' : Int) = (u' : Int) := IntWalk.i64_in _ (by omega)
              have d7 : IntKind.i64.wrap ((j : Int) - 1) = (j : Int) - 1 := IntWalk.i64_in _ (by omega)
              have hst := leftP_step (k := k) (N := N) (t := t) (a := y) hz
              have hns := leftN_step (k := k) (N := N) (t := t) (node := nd) hz
              rw [HND.out, ← HU.out, hσ] at hst
              rw [← HU.out, hσ, hp, hb, hu'] at hns
              have HST := Lib.hid (And.intro hst hns.symm)
              clear hz hp hσ hft hb hu' hst hns
              go_wp2_with fail
              go_region_held3 (fun w' => w'.cell? ⟨w.heap.size, 0, none⟩ = some (.int .i64 (k : Int)) ∧ w'.cell? ⟨w.heap.size, 1, none⟩ = some (.int .i64 (r : Int)) ∧ w'.cell? ⟨w.heap.size, 2, none⟩ = some (.slice A n c) ∧ w'.cell? (ad.add j) = some (.int .i64 (z : Int)))
                (first | go_keep)
                (first
                  | (go_at_call 75
                     refine (HFT.out).mono ?_
                     rintro e v2 ⟨rfl, hb2⟩
                     have x0 := cell_later hb2 r0
                     have x1 := cell_later hb2 r1
                     have x2 := cell_later hb2 r2
                     have x3 := cell_later hb2 hcz
                     have hb2' : Below v1.heap.size v1 v2 := (Below.refl _ _).drew.trans hb2))
              have hO := own_below HO.out hb2'
              have fa := hO.frozenAt j
              have hcur : (leftP k N t x y (j + 1)).length = Q := by
                rw [leftP_len HXY.out.2.2.2 (by rw [HXY.out.2.2.1]; omega), HXY.out.2.2.1]
                exact HQ.out
              obtain ⟨o, ho⟩ : ∃ o, (leftP k N t x y (j + 1))[j]? = some o := ⟨_, List.getElem?_eq_getElem (by omega)⟩
              have ca : v2.cell? ⟨g, j, none⟩ = some (.int .i64 (o : Int)) := by
                rw [hO.cellAt j (by omega), ints_map, List.getElem?_map, ho]
                rfl
              have o1 := (hO.stored j (.int .i64 (σ : Int))).1
              have e3 : ((ints (leftP k N t x y (j + 1))).map (Value.int .i64)).set j (.int .i64 (σ : Int)) = (ints (leftP k N t x y j)).map (Value.int .i64) := by
                rw [← HST.out.1, ints_map, ints_map, List.map_set]
              rw [e3] at o1
              have hb3v := HB.out.trans (hb2'.mono HB.out.size)
              have hrs := (HR3.out.below hb3v HR3.out.lt).keeps (Keeps.of_setCell v2 ⟨g, j, none⟩ (.int .i64 (σ : Int))) (by have h1 := HR3.out.lt; have h2 := HBG.out; simp; omega)
              obtain ⟨s0, s1, s2, _⟩ := hrs.facts
              have HOO := Lib.hid o1
              have HKK := Lib.hid (hb3v.setCell (p := ⟨g, j, none⟩) HBG.out (.int .i64 (σ : Int)))
              have hk0' : ¬ (k : Int) = 0 := by omega
              clear r0 r1 r2 x0 x1 x2 x3 hcz hO hcur ho o1 e3 hb3v hrs hb2 hb2'
              go_wp2_with fail
              exact ⟨⟨j, u', (j : Int) - 1, by first | rfl | go_num, Lib.hid rfl, by omega, rfl, Lib.hid HST.out.2, hnl, HOO, HKK⟩, by simp [intOf]⟩
end Go.Proofs.YtibplgpolmplpaaGreatDoor
