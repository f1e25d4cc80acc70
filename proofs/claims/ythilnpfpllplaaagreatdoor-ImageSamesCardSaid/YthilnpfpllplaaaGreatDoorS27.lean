/- image.Words, the walk: any rule, any length. Condition: the table reads from memory; the error variables hold what E says. What the statements of chapter 11 ask first. Condition: the error variables hold what E says. -/
import Derived.Test.YthilnpfpllplaaaGreatDoorS26
namespace Go.Proofs.YthilnpfpllplaaaGreatDoor
open Go.RowKit BagP RuleP SubP NatP

set_option maxRecDepth 100000 in
set_option maxHeartbeats 1500000 in
theorem words_u (w : World) (E : Nat → Addr) (hE : Errs w E) (hEt : ErrT w) (hA : Apart12 E) (hB : ErrBlk w E) (K R : Int) (A : Option Addr) (n c : Nat) (T : List Int) (hT : Sl w A n (T.map (Value.int .i64))) (hm : n ≤ 9223372036854775807) (N : Int) :
    Calls Tryz.prog 14 #[ruleV K R A n c, .int .i64 N] w fun e w' => ∃ (B : Option Addr) (d : Nat) (v : Value), e = .returned (.tuple #[.slice B (limbs (wordsF K R T N).1).length d, v]) ∧
      w'.ownsRow w.heap.size 75 1 (.slice B (limbs (wordsF K R T N).1).length d) (limbs (wordsF K R T N).1).length ((limbs (wordsF K R T N).1).map wv) ∧ ErrV w' E (wordsF K R T N).2 v ∧ Below w.heap.size w w' := by
  have hb1 := (Below.refl w.heap.size w).alloc (Nat.le_refl _) (.cells #[.int .i64 K, .int .i64 R, .slice A n c] 24)
  obtain ⟨w1, hw1⟩ : ∃ w1, w.alloc (.cells #[.int .i64 K, .int .i64 R, .slice A n c] 24) = w1 := ⟨_, rfl⟩
  rw [hw1] at hb1
  have hr1 : RuleAt w1 w.heap.size (.int .i64 K) (.int .i64 R) (.slice A n c) := by rw [← hw1]; exact RuleAt.new w _ _ _
  have hof := of_u w1 E (hE.below hb1) (hEt.below hb1) hA (hB.below hb1) 0 K R A n c T (hT.below hb1) hm
  have HER := Lib.hid (fun (wz : World) (hz : Below w.heap.size w wz) => hE.below hz)
  have HW1 := Lib.hid hw1
  have HB1 := Lib.hid hb1
  have HR1 := Lib.hid hr1
  clear hw1 hb1 hr1 hE hEt hA hB hT
  rcases ofF_cases 0 K R T with ⟨tl, h⟩ | ⟨k, r, t, S, rfl, rfl, rfl, hr, hl, hS, h, hau⟩
  · rw [h] at hof
    rw [wordsF_bad h]
    dsimp only at hof
    dsimp only
    unfold ruleV autoV at hof
    have HOF := Lib.hid hof
    clear hof h
    unfold ruleV
    go_enter Tryz.func14, Tryz.ntmps14
    go_wp2_with fail
    rw [HW1.out]
    refine (HOF.out).mono ?_
    rintro e w3 ⟨C, cc, rows, v, rfl, _, hv, hb3⟩
    have hv3 : ErrIs w3 E tl.1 tl.2 v := hv
    obtain ⟨u, p, rfl⟩ := hv3.iface
    have hb34 := (Below.refl w3.heap.size w3).alloc (Nat.le_refl _) (.cells #[.int .i64 0, .slice C 0 cc] 50)
    have HV4 := Lib.hid (hv.below hb34)
    have HB4 := Lib.hid (HB1.out.trans ((hb3.trans (hb34.mono hb3.size)).mono HB1.out.size))
    clear HOF hv3 hv hb34 hb3
    go_wp2_with fail
    go_ret2
    exact ⟨none, 0, _, rfl, World.ownsRow_nil _ _ _ _, HV4.out, HB4.out⟩
  · rw [h] at hof
    obtain ⟨L, hL⟩ : ∃ L, leastA k S.next = L := ⟨_, rfl⟩
    have hm4 : L.length ≤ 4096 := by
      rw [← hL]
      have hN := Nat.pow_pos (n := 2 * r) hr.k1
      have h1 := least_le (fin_rows hN hS).auto
      have h2 := (fin_ok hN hS).2
      have h3 := (fin_inv hN hS).2.1
      omega
    have hkk := (⟨hr.k1, hr.k4⟩ : _ ∧ _)
    rw [hL] at hof h hau
    obtain ⟨m, hmL⟩ : ∃ m, L.length = m := ⟨_, rfl⟩
    dsimp only at hof
    rw [hmL] at hof hm4
    have hm0 : 0 < m := by rw [← hmL]; exact hau.pos
    have HML := Lib.hid hmL
    unfold ruleV autoV at hof
    have HOF := Lib.hid hof
    have HO := Lib.hid h
    have HAU := Lib.hid hau
    obtain ⟨xx, tt, hp⟩ : ∃ xx tt, wordsF (k : Int) (r : Int) (ints t) N = (xx, tt) := ⟨_, _, rfl⟩
    rw [hp]
    dsimp only
    have HP := Lib.hid hp
    have HKK := Lib.hid hkk
    clear hof h hau hL hS hr hl hp hkk hmL
    unfold ruleV
    go_enter Tryz.func14, Tryz.ntmps14
    go_wp2_with fail
    rw [HW1.out]
    refine (HOF.out).mono ?_
    rintro e w3 ⟨C, cc, rows, v, rfl, hR, hv, hb3⟩
    obtain rfl : v = .nilIface := hv
    have hb34 := (Below.refl w3.heap.size w3).alloc (Nat.le_refl _) (.cells #[.int .i64 (k : Int), .slice C m cc] 50)
    have ha4 := heap_new w3 (.cells #[.int .i64 (k : Int), .slice C m cc] 50)
    obtain ⟨w4, hw4⟩ : ∃ w4, w3.alloc (.cells #[.int .i64 (k : Int), .slice C m cc] 50) = w4 := ⟨_, rfl⟩
    rw [hw4] at hb34 ha4
    have ha4 : AutoAt w4 w3.heap.size (.int .i64 (k : Int)) (.slice C m cc) := ha4
    have hb14 := hb3.trans (hb34.mono hb3.size)
    have hb4 := HB1.out.trans (hb14.mono HB1.out.size)
    have hr4 := HR1.out.below hb14 HR1.out.lt
    obtain ⟨a0, a1, _, _⟩ := ha4.facts
    obtain ⟨r0, r1, r2, _⟩ := hr4.facts
    have HLI : Hid (ListAt w4 C m L) := Lib.hid (by
      have h1 : RowsAt w3 w1.heap.size (.slice C L.length cc) rows L (fun _ => False) := by rw [HML.out]; exact hR
      have h2 := h1.list.keep hb34
      rwa [HML.out] at h2)
    have HW4 := Lib.hid hw4
    have HB4 := Lib.hid hb4
    have HE4 := Lib.hid (HER.out w4 hb4)
    have HAA := Lib.hid ha4
    clear HOF hR hb34 ha4 hw4 hb14 hb4 hr4 hb3
    rcases Int.lt_or_le N 0 with hN | hN
    · obtain ⟨rfl, rfl⟩ : xx = 0 ∧ tt = some (3, [(sImage, 1)]) := by
        have h := HP.out
        rw [wordsF_neg HO.out hN] at h
        exact ⟨(Prod.mk.inj h).1.symm, (Prod.mk.inj h).2.symm⟩
      have HWR := Lib.hid (imageWrong_c w4 E HE4.out 1 3 (by omega) (by omega))
      go_wp2_with fail
      rw [show w3.alloc (.cells #[.int .i64 (k : Int), .slice C m cc] 50) = w4 from HW4.out]
      refine (HWR.out).mono ?_
      rintro e w5 ⟨rfl, hv5, hb5⟩
      go_wp2_with fail
      go_ret2
      exact ⟨none, 0, _, rfl, World.ownsRow_nil _ _ _ _, hv5, HB4.out.trans (hb5.mono HB4.out.size)⟩
    · obtain ⟨q, rfl⟩ : ∃ q : Nat, N = (q : Int) := ⟨N.toNat, by omega⟩
      have hN' : ¬ (q : Int) < 0 := by omega
      by_cases hbig : 256 < q
      · obtain ⟨rfl, rfl⟩ : xx = 0 ∧ tt = some (4, [(sImage, 1)]) := by
          have h := HP.out
          rw [wordsF_big HO.out (by omega)] at h
          exact ⟨(Prod.mk.inj h).1.symm, (Prod.mk.inj h).2.symm⟩
        have hbig' : (q : Int) > 256 := by omega
        have HWR := Lib.hid (imageWrong_c w4 E HE4.out 1 4 (by omega) (by omega))
        clear hN hbig
        go_wp2_with fail
        rw [show w3.alloc (.cells #[.int .i64 (k : Int), .slice C m cc] 50) = w4 from HW4.out]
        refine (HWR.out).mono ?_
        rintro e w5 ⟨rfl, hv5, hb5⟩
        go_wp2_with fail
        go_ret2
        exact ⟨none, 0, _, rfl, World.ownsRow_nil _ _ _ _, hv5, HB4.out.trans (hb5.mono HB4.out.size)⟩
      · obtain ⟨rfl, rfl⟩ : xx = (waysV L q).sum ∧ tt = none := by
          have h := HP.out
          rw [wordsF_run HO.out (by omega)] at h
          exact ⟨(Prod.mk.inj h).1.symm, (Prod.mk.inj h).2.symm⟩
        have hbig' : ¬ (q : Int) > 256 := by omega
        have hmk := run_make_row' (P := Tryz.prog) 82 38 (.slice none 0 0) 24 tNats.und tNats.info rfl .i64 .i64 m (by omega) (by omega)
        have hnm : m ≤ maxLen := by simp only [maxLen]; omega
        have hmd := NatsAt.made w4 m hnm
        have hb45 := (Below.refl w4.heap.size w4).alloc (Nat.le_refl _) (.cells (madeCells #[.slice none 0 0] m) 38)
        obtain ⟨w5, hw5⟩ : ∃ w5, w4.alloc (.cells (madeCells #[.slice none 0 0] m) 38) = w5 := ⟨_, rfl⟩
        rw [hw5] at hmd hb45
        have hFR := fromL_n w5 1 (by decide)
        obtain ⟨g0, hg0⟩ : ∃ g0, w4.heap.size = g0 := ⟨_, rfl⟩
        have hg3 : w3.heap.size + 1 = g0 := by rw [← hg0, ← HW4.out]; simp
        rw [hg0] at hmd
        have HG3 := Lib.hid hg3
        have HMD := Lib.hid hmd
        have HB45 := Lib.hid hb45
        have HW5 := Lib.hid hw5
        have HG0 := Lib.hid hg0
        have HFR : Hid (Calls Tryz.prog 34 #[.int .u64 1] w5 fun e w' => New w5 1 e w') := Lib.hid hFR
        have hz5 : g0 < w5.heap.size := hmd.lt.2
        have HM0 := Lib.hid hm0
        clear hN hbig hmd hb45 hw5 hg0 hg3 hFR r0 r1 r2
        go_wp2_with fail
        rw [show w3.alloc (.cells #[.int .i64 (k : Int), .slice C m cc] 50) = w4 from HW4.out, HW5.out, HG3.out]
        refine (HFR.out).mono ?_
        rintro e w6 ⟨A6, c6, rfl, _, ho6, hb6⟩
        have hN6 := HMD.out.below hb6
        obtain ⟨_, _, _, _, q0, p0⟩ := hN6.at_ (i := 0) (by rw [List.length_replicate]; exact hm0)
        have hB4g : w.heap.size ≤ g0 := by have h1 := HB4.out.size; have h2 := HG0.out; omega
        have hput := (hN6.base (B' := w.heap.size) hB4g).put (j := 0) (own_base ho6 (Nat.le_trans hB4g (by omega)))
        have HPUT : Hid (NatsAt (w6.setCell ⟨g0, 0, none⟩ (.slice A6 (limbs 1).length c6)) w.heap.size g0 ((List.replicate m (none, 0, 0)).set 0 (A6, (limbs 1).length, c6)) (waysV L 0)) := Lib.hid (by
          rw [waysV, HML.out]
          exact hput)
        have hb46 := HB45.out.trans (hb6.mono HB45.out.size)
        have HB6 := Lib.hid ((HB4.out.trans (hb46.mono HB4.out.size)).setCell (p := ⟨g0, 0, none⟩) hB4g (.slice A6 (limbs 1).length c6))
        have HB46 := Lib.hid (hb46.setCell (p := ⟨g0, 0, none⟩) (by rw [HG0.out]; exact Nat.le_refl _) (.slice A6 (limbs 1).length c6))
        clear hput hb46 hb6 ho6 hN6 hmk
        go_wp2_with fail
        go_loopw [8, 38] (fun gv jv wl => ∃ (g j : Nat) (Q : List (Option Addr × Nat × Nat)), gv = .slice (some ⟨g, 0, none⟩) m m ∧ jv = .int .i64 (j : Int) ∧ j ≤ q ∧ Hid (NatsAt wl w.heap.size g Q (waysV L j)) ∧ Hid (Below w4.heap.size w4 wl)) (fun _ jv _ => q - (intOf jv).toNat)
        case atStart => exact ⟨g0, 0, _, rfl, rfl, Nat.zero_le _, HPUT, HB46⟩
        case round =>
          obtain ⟨g, j, Q, rfl, rfl, hj, hV, hBl⟩ := hrel
          clear HPUT HB46 HB6
          obtain ⟨v0, rfl⟩ : ∃ v0, v0 = wr := ⟨_, rfl⟩
          by_cases hjq : j < q
          · have hjq' : (j : Int) < (q : Int) := by omega
            have hj0 : (0 : Int) ≤ (j : Int) := by omega
            have hlV : (waysV L j).length = m := by rw [waysV_len, HML.out]
            have hmk := run_make_row' (P := Tryz.prog) 82 38 (.slice none 0 0) 24 tNats.und tNats.info rfl .i64 .i64 m (by omega) (by omega)
            have hmd := NatsAt.made v0 m hnm
            have hb01 := (Below.refl v0.heap.size v0).alloc (Nat.le_refl _) (.cells (madeCells #[.slice none 0 0] m) 38)
            obtain ⟨v1, hv1⟩ : ∃ v1, v0.alloc (.cells (madeCells #[.slice none 0 0] m) 38) = v1 := ⟨_, rfl⟩
            rw [hv1] at hmd hb01
            obtain ⟨g2, hg2⟩ : ∃ g2, v0.heap.size = g2 := ⟨_, rfl⟩
            have hgg : g ≠ g2 := by have := hV.out.lt.2; omega
            have hwg : w.heap.size ≤ g2 := by have h1 := HB4.out.size; have h2 := hBl.out.size; omega
            rw [hg2] at hmd
            have hm2 : NatsAt v1 w.heap.size g2 (List.replicate m (none, 0, 0)) (stepTo L (waysV L j) 0) := by
              rw [stepTo, hlV]
              exact hmd.base hwg
            have HMD := Lib.hid hm2
            have HB01 := Lib.hid hb01
            have HV1 := Lib.hid hv1
            have HG2 := Lib.hid hg2
            have HLV := Lib.hid hlV
            clear hmd hm2 hb01 hv1 hg2 hlV
            go_wp2_with fail
            rw [HV1.out, HG2.out]
            clear hmk
            go_loopw [45] (fun iv wl => ∃ (i : Nat) (Q2 : List (Option Addr × Nat × Nat)), iv = .int .i64 (i : Int) ∧ i ≤ m ∧ Hid (NatsAt wl w.heap.size g2 Q2 (stepTo L (waysV L j) i)) ∧ Hid (Below v0.heap.size v0 wl)) (fun iv _ => m - (intOf iv).toNat)
            case atStart => exact ⟨0, _, rfl, Nat.zero_le _, HMD, HB01⟩
            case round =>
              obtain ⟨i, Q2, rfl, hi, hN2, hB2⟩ := hrel
              clear HMD HB01
              obtain ⟨v2, rfl⟩ : ∃ v2, v2 = wr := ⟨_, rfl⟩
              by_cases him : i < m
              · have him' : (i : Int) < (m : Int) := by omega
                have hi0 : (0 : Int) ≤ (i : Int) := by omega
                have hb42 := hBl.out.trans (hB2.out.mono hBl.out.size)
                obtain ⟨Ac, ccn, _, hoc, qc0, pc⟩ := hV.out.at_ (i := i) (by rw [HLV.out]; exact him)
                have qc := cell_later hB2.out qc0
                obtain ⟨adn, l, P, pcap, rfl, hl, hcl4, _, hsl⟩ := HLI.out.at_ him
                have hcl := cell_later hb42 hcl4
                have hlk : l.length = k := HAU.out.len l (List.mem_of_getElem? hl)
                have hld : L.getD i [] = l := by rw [List.getD_eq_getElem?_getD, hl]; rfl
                rw [hlk] at hcl hsl
                have ha2 : AutoAt v2 w3.heap.size (.int .i64 (k : Int)) (.slice (some adn) m cc) := HAA.out.below hb42 (Array.getElem?_eq_some_iff.1 HAA.out).1
                obtain ⟨a0, a1, _, _⟩ := ha2.facts
                have hstep : Hid (NatsAt v2 w.heap.size g2 Q2 (rowV ((waysV L j).getD i 0) (stepTo L (waysV L j) i) ((L.getD i []).take 0))) := Lib.hid (by
                  rw [List.take_zero, rowV_nil]
                  exact hN2.out)
                have hxl := ways_len HAU.out HKK.out.2 (m := j) (by omega) i
                obtain ⟨x, hx⟩ : ∃ x, (waysV L j).getD i 0 = x := ⟨_, rfl⟩
                have HXX := Lib.hid hx
                rw [hx] at hoc qc hxl
                obtain ⟨lx, hlx⟩ : ∃ lx, (limbs x).length = lx := ⟨_, rfl⟩
                rw [hlx] at qc hxl
                have HLX := Lib.hid hlx
                have HOC := Lib.hid hoc
                have HSL := Lib.hid hsl
                have HLD := Lib.hid (⟨hld, hlk⟩ : _ ∧ _)
                have HAY := Lib.hid (fun y (hy : y ∈ l) => HAU.out.ok l (List.mem_of_getElem? hl) y hy)
                have HB42 := Lib.hid hb42
                clear hoc hld hl hlk hsl ha2 hx hlx qc0 pc hcl4 hb42
                go_wp2_with fail
                go_loopw [56] (fun sv wl => ∃ (s : Nat) (Q3 : List (Option Addr × Nat × Nat)), sv = .int .i64 (s : Int) ∧ s ≤ k ∧ Hid (NatsAt wl w.heap.size g2 Q3 (rowV ((waysV L j).getD i 0) (stepTo L (waysV L j) i) ((L.getD i []).take s))) ∧ Hid (Below v0.heap.size v0 wl)) (fun sv _ => k - (intOf sv).toNat)
                case atStart => exact ⟨0, Q2, rfl, Nat.zero_le _, hstep, hB2⟩
                case round =>
                  obtain ⟨s, Q3, rfl, hs, hN3, hB3⟩ := hrel
                  clear hstep
                  obtain ⟨v3, rfl⟩ : ∃ v3, v3 = wr := ⟨_, rfl⟩
                  have hk4 : k ≤ 4 := HKK.out.2
                  by_cases hsk : s < k
                  · have hsk' : (s : Int) < (k : Int) := by omega
                    have hs0 : (0 : Int) ≤ (s : Int) := by omega
                    have hb43 := hBl.out.trans (hB3.out.mono hBl.out.size)
                    obtain ⟨adp, y, rfl, hy, hcy⟩ := (HSL.out.below hb43).int_ hsk
                    have htk : (L.getD i []).take (s + 1) = (L.getD i []).take s ++ [y] := by rw [HLD.out.1, List.take_add_one, hy]; rfl
                    rcases HAY.out y (List.mem_of_getElem? hy) with rfl | ⟨t, rfl, htm⟩
                    · have HNX : Hid (NatsAt v3 w.heap.size g2 Q3 (rowV ((waysV L j).getD i 0) (stepTo L (waysV L j) i) ((L.getD i []).take (s + 1)))) := Lib.hid (by
                        rw [htk, rowV_snoc, addTo, if_pos (by omega)]
                        exact hN3.out)
                      clear htk hy hb43
                      go_wp2_with fail
                      exact ⟨⟨s + 1, Q3, by go_num, by omega, HNX, hB3⟩, by simp [intOf]; omega⟩
                    · have ht0 : (0 : Int) ≤ (t : Int) := by omega
                      have ht0' : (t : Int) ≥ 0 := by omega
                      rw [HML.out] at htm
                      have htm' : (t : Int) < (m : Int) := by omega
                      by_cases hl0 : lx = 0
                      · have HNX : Hid (NatsAt v3 w.heap.size g2 Q3 (rowV ((waysV L j).getD i 0) (stepTo L (waysV L j) i) ((L.getD i []).take (s + 1)))) := Lib.hid (by
                          have hx0 : (waysV L j).getD i 0 = 0 := by rw [HXX.out]; exact limbs_zero (by rw [HLX.out]; exact hl0)
                          rw [hx0, rowV_zero]
                          have := hN3.out
                          rwa [hx0, rowV_zero] at this)
                        have hl0' : ¬ (lx : Int) > 0 := by omega
                        clear htk hy hb43 hl0
                        go_wp2_with fail
                        exact ⟨⟨s + 1, Q3, by go_num, by omega, HNX, hB3⟩, by simp [intOf]; omega⟩
                      · have hl0' : (lx : Int) > 0 := by omega
                        have hlr : (rowV ((waysV L j).getD i 0) (stepTo L (waysV L j) i) ((L.getD i []).take s)).length = m := by rw [rowV_len, stepTo_len, HLV.out]
                        obtain ⟨A3, c3, _, ho3, q3, p3⟩ := hN3.out.at_ (i := t) (by rw [hlr]; exact htm)
                        have hul := mid_len HAU.out HKK.out.2 (m := j) (by omega) (i := i) (by rw [HML.out]; exact him) hs t
                        have hN3' := hN3.out
                        have hgo : rowV ((waysV L j).getD i 0) (stepTo L (waysV L j) i) ((L.getD i []).take (s + 1)) = (rowV ((waysV L j).getD i 0) (stepTo L (waysV L j) i) ((L.getD i []).take s)).set t ((rowV ((waysV L j).getD i 0) (stepTo L (waysV L j) i) ((L.getD i []).take s)).getD t 0 + x) := by
                          rw [htk, rowV_snoc, addTo, if_neg (by omega), Int.toNat_natCast, HXX.out]
                        have HGO := Lib.hid hgo
                        obtain ⟨Z, hZ⟩ : ∃ Z, rowV ((waysV L j).getD i 0) (stepTo L (waysV L j) i) ((L.getD i []).take s) = Z := ⟨_, rfl⟩
                        rw [hZ] at hlr ho3 q3 hul hN3' HGO
                        obtain ⟨u, hu⟩ : ∃ u, Z.getD t 0 = u := ⟨_, rfl⟩
                        rw [hu] at ho3 q3 hul HGO
                        have hocl := own_below HOC.out hB3.out
                        have hadd := add_n (num_own ho3) (num_own hocl) (by omega) (by rw [HLX.out]; omega) (r := u + x) rfl
                        rw [HLX.out] at hadd
                        obtain ⟨lu, hlu⟩ : ∃ lu, (limbs u).length = lu := ⟨_, rfl⟩
                        rw [hlu] at hadd q3
                        have HADD := Lib.hid hadd
                        have HN3 := Lib.hid hN3'
                        have hwz : w.heap.size ≤ v3.heap.size := by have h1 := HB4.out.size; have h2 := hb43.size; omega
                        have HT := Lib.hid (⟨hlr, htm⟩ : _ ∧ _)
                        clear htk hy hb43 hl0 hgo hZ hu hocl hadd hlu ho3 hN3' hul hlr
                        go_wp2_with fail
                        refine (HADD.out).mono ?_
                        rintro e v4 ⟨A4, c4, rfl, _, ho4, hb4⟩
                        have hN4 := HN3.out.below hb4
                        obtain ⟨_, _, _, _, q4, p4⟩ := hN4.at_ (i := t) (by rw [HT.out.1]; exact HT.out.2)
                        have HNX : Hid (NatsAt (v4.setCell ⟨g2, t, none⟩ (.slice A4 (limbs (u + x)).length c4)) w.heap.size g2 (Q3.set t (A4, (limbs (u + x)).length, c4)) (rowV ((waysV L j).getD i 0) (stepTo L (waysV L j) i) ((L.getD i []).take (s + 1)))) := Lib.hid (by
                          rw [HGO.out]
                          exact hN4.put (own_base ho4 hwz))
                        have HBX := Lib.hid ((hB3.out.trans (hb4.mono hB3.out.size)).setCell (p := ⟨g2, t, none⟩) (by rw [HG2.out]; exact Nat.le_refl _) (.slice A4 (limbs (u + x)).length c4))
                        clear hN4 ho4 hb4
                        go_wp2_with fail
                        exact ⟨⟨s + 1, _, by go_num, by omega, HNX, HBX⟩, by simp [intOf]; omega⟩
                  · obtain rfl : s = k := by omega
                    have hsk' : ¬ (s : Int) < (s : Int) := by omega
                    have HNX : Hid (NatsAt v3 w.heap.size g2 Q3 (stepTo L (waysV L j) (i + 1))) := Lib.hid (by
                      have h1 := hN3.out
                      rw [List.take_of_length_le (by rw [HLD.out.1, HLD.out.2]; exact Nat.le_refl _)] at h1
                      rw [stepTo]
                      exact h1)
                    go_wp2_with fail
                    exact ⟨⟨i + 1, Q3, by go_num, by omega, HNX, hB3⟩, by simp [intOf]; omega⟩
              · obtain rfl : i = m := by omega
                have him' : ¬ (i : Int) < (i : Int) := by omega
                have HNX : Hid (NatsAt v2 w.heap.size g2 Q2 (waysV L (j + 1))) := Lib.hid (by
                  rw [waysV, HML.out]
                  exact hN2.out)
                have HBX := Lib.hid (hBl.out.trans (hB2.out.mono hBl.out.size))
                go_wp2_with fail
                exact ⟨⟨g2, j + 1, Q2, rfl, by go_num, by omega, HNX, HBX⟩, by simp [intOf]; omega⟩
          · obtain rfl : j = q := by omega
            have hjq' : ¬ (j : Int) < (j : Int) := by omega
            have hlV : (waysV L j).length = m := by rw [waysV_len, HML.out]
            have hsm := sum_nats (c := m) hV.out (by rw [hlV]; omega) (fun i => Nat.le_trans (ways_len HAU.out HKK.out.2 (by omega) i) (by omega))
            rw [hlV] at hsm
            have HSM := Lib.hid hsm
            have HBX := Lib.hid (HB4.out.trans (hBl.out.mono HB4.out.size))
            clear hsm hlV
            go_wp2_with fail
            refine (HSM.out).mono ?_
            rintro e v5 ⟨A5, c5, rfl, _, ho5, hb5⟩
            go_wp2_with fail
            go_ret2
            exact ⟨A5, c5, _, rfl, own_base ho5 HBX.out.size, rfl, HBX.out.trans (hb5.mono HBX.out.size)⟩
end Go.Proofs.YthilnpfpllplaaaGreatDoor

namespace Go.Proofs.YthilnpfpllplaaaGreatDoor
open Go.RowKit BagP RuleP SubP NatP

theorem limbs31 : limbs 31 = [31] := limbs_of (ok_one (by decide)) (by intro x hx; simp at hx; omega) (by simp [val, valB])
set_option maxRecDepth 100000 in
set_option maxHeartbeats 2000000 in
theorem awake11_c (w : World) (E : Nat → Addr) (hE : Errs w E) (hEt : ErrT w) (hAp : Apart12 E) (hB : ErrBlk w E) :
    Calls Tryz.prog 9 #[] w fun e w' => e = .returned (.bool true) ∧ Below w.heap.size w w' := by
  have HER := Lib.hid (fun (wz : World) (hz : Below w.heap.size w wz) => (⟨hE.below hz, hEt.below hz, hB.below hz⟩ : _ ∧ _ ∧ _))
  clear hE hEt hB
  go_enter Tryz.func9, Tryz.ntmps9
  have hA0 : Sl (w.alloc (.cells #[.int .i64 0, .int .i64 1, .int .i64 1, .int .i64 1, .int .i64 0, .int .i64 1, .int .i64 1, .int .i64 0] 3)) (some ⟨w.heap.size, 0, none⟩) 8 (([0, 1, 1, 1, 0, 1, 1, 0] : List Int).map (Value.int .i64)) := lit_ints w [0, 1, 1, 1, 0, 1, 1, 0] 8 rfl (by decide) 3
  have hA := hA0.alloc (.cells #[.int .i64 2, .int .i64 1, .slice (some ⟨w.heap.size, 0, none⟩) 8 8] 24)
  have hb1 := ((Below.refl w.heap.size w).alloc (Nat.le_refl _) (.cells #[.int .i64 0, .int .i64 1, .int .i64 1, .int .i64 1, .int .i64 0, .int .i64 1, .int .i64 1, .int .i64 0] 3)).alloc (by simp) (.cells #[.int .i64 2, .int .i64 1, .slice (some ⟨w.heap.size, 0, none⟩) 8 8] 24)
  have hr1 := RuleAt.new (w.alloc (.cells #[.int .i64 0, .int .i64 1, .int .i64 1, .int .i64 1, .int .i64 0, .int .i64 1, .int .i64 1, .int .i64 0] 3)) (.int .i64 2) (.int .i64 1) (.slice (some ⟨w.heap.size, 0, none⟩) 8 8)
  rw [World.size_alloc] at hr1
  obtain ⟨w1, hw1⟩ : ∃ w1, (w.alloc (.cells #[.int .i64 0, .int .i64 1, .int .i64 1, .int .i64 1, .int .i64 0, .int .i64 1, .int .i64 1, .int .i64 0] 3)).alloc (.cells #[.int .i64 2, .int .i64 1, .slice (some ⟨w.heap.size, 0, none⟩) 8 8] 24) = w1 := ⟨_, rfl⟩
  rw [hw1] at hA hb1 hr1
  have hwd := words_u w1 E (HER.out w1 hb1).1 (HER.out w1 hb1).2.1 hAp (HER.out w1 hb1).2.2 2 1 (some ⟨w.heap.size, 0, none⟩) 8 8 _ hA (by decide) 5
  rw [aw_words, limbs31] at hwd
  unfold ruleV at hwd
  have HWD := Lib.hid hwd
  have HW1 := Lib.hid hw1
  have HB1 := Lib.hid hb1
  have HR1 := Lib.hid hr1
  have HA1 := Lib.hid hA
  obtain ⟨r0, r1, r2, _⟩ := hr1.facts
  have r3 := hr1.lt
  clear hwd hw1 hb1 hr1 hA hA0
  go_wp2_with fail
  rw [HW1.out]
  refine (HWD.out).mono ?_
  rintro e w2 ⟨C2, c2, v2, rfl, ho2, hv2, z2⟩
  obtain rfl : v2 = .nilIface := hv2
  have hx2 : Sl w2 C2 1 ([31].map wv) := Sl.of_own ho2
  have HX2 := Lib.hid hx2
  clear r0 r1 r2 r3 HWD ho2 hx2
  have hV3 : Sl (w2.alloc (.cells #[.int .i64 0, .int .i64 1, .int .i64 0, .int .i64 1, .int .i64 1] 3)) (some ⟨w2.heap.size, 0, none⟩) 5 (([0, 1, 0, 1, 1] : List Int).map (Value.int .i64)) := lit_ints w2 [0, 1, 0, 1, 1] 5 rfl (by decide) 3
  have b3 := (Below.refl w2.heap.size w2).alloc (Nat.le_refl _) (.cells #[.int .i64 0, .int .i64 1, .int .i64 0, .int .i64 1, .int .i64 1] 3)
  obtain ⟨w3, hw3⟩ : ∃ w3, w2.alloc (.cells #[.int .i64 0, .int .i64 1, .int .i64 0, .int .i64 1, .int .i64 1] 3) = w3 := ⟨_, rfl⟩
  rw [hw3] at hV3 b3
  have z3 := pure_trans z2 b3
  have hb3 := HB1.out.trans (z3.mono HB1.out.size)
  have hh3 := has_u w3 E (HER.out w3 hb3).1 (HER.out w3 hb3).2.1 hAp (HER.out w3 hb3).2.2 2 1 (some ⟨w.heap.size, 0, none⟩) 8 8 _ (HA1.out.below z3) (by decide) (some ⟨w2.heap.size, 0, none⟩) 5 5 _ hV3 (by decide)
  rw [aw_has] at hh3
  unfold ruleV at hh3
  have HH3 := Lib.hid hh3
  have HW3 := Lib.hid hw3
  obtain ⟨r0, r1, r2, _⟩ := (HR1.out.below z2 HR1.out.lt).facts
  have r3 := Nat.lt_of_lt_of_le HR1.out.lt z2.size
  clear hh3 hw3 hV3 hb3
  go_wp2_with fail
  rw [HW3.out]
  refine (HH3.out).mono ?_
  rintro e w4 ⟨v4, rfl, hv4, b4⟩
  obtain rfl : v4 = .nilIface := hv4
  have z4 := pure_trans z3 b4
  clear r0 r1 r2 r3 HH3
  have hV5 : Sl (w4.alloc (.cells #[.int .i64 0, .int .i64 1, .int .i64 0, .int .i64 1, .int .i64 0] 3)) (some ⟨w4.heap.size, 0, none⟩) 5 (([0, 1, 0, 1, 0] : List Int).map (Value.int .i64)) := lit_ints w4 [0, 1, 0, 1, 0] 5 rfl (by decide) 3
  have b5 := (Below.refl w4.heap.size w4).alloc (Nat.le_refl _) (.cells #[.int .i64 0, .int .i64 1, .int .i64 0, .int .i64 1, .int .i64 0] 3)
  obtain ⟨w5, hw5⟩ : ∃ w5, w4.alloc (.cells #[.int .i64 0, .int .i64 1, .int .i64 0, .int .i64 1, .int .i64 0] 3) = w5 := ⟨_, rfl⟩
  rw [hw5] at hV5 b5
  have z5 := pure_trans z4 b5
  have hb5 := HB1.out.trans (z5.mono HB1.out.size)
  have hh5 := has_u w5 E (HER.out w5 hb5).1 (HER.out w5 hb5).2.1 hAp (HER.out w5 hb5).2.2 2 1 (some ⟨w.heap.size, 0, none⟩) 8 8 _ (HA1.out.below z5) (by decide) (some ⟨w4.heap.size, 0, none⟩) 5 5 _ hV5 (by decide)
  rw [aw_not] at hh5
  unfold ruleV at hh5
  have HH5 := Lib.hid hh5
  have HW5 := Lib.hid hw5
  obtain ⟨r0, r1, r2, _⟩ := (HR1.out.below z4 HR1.out.lt).facts
  have r3 := Nat.lt_of_lt_of_le HR1.out.lt z4.size
  clear hh5 hw5 hV5 hb5
  go_wp2_with fail
  rw [HW5.out]
  refine (HH5.out).mono ?_
  rintro e w6 ⟨v6, rfl, hv6, b6⟩
  obtain rfl : v6 = .nilIface := hv6
  have z6 := pure_trans z5 b6
  clear r0 r1 r2 r3 HH5
  have hl7 : Sl (w6.alloc (.cells #[.int .u32 31] 75)) (some ⟨w6.heap.size, 0, none⟩) 1 ([31].map wv) := lit_words w6 [31] 1 rfl (by decide) 75
  have b7 := (Below.refl w6.heap.size w6).alloc (Nat.le_refl _) (.cells #[.int .u32 31] 75)
  have z26 := pure_trans b3 (pure_trans b4 (pure_trans b5 b6))
  have hnn := nats_b (w6.alloc (.cells #[.int .u32 31] 75)) C2 (some ⟨w6.heap.size, 0, none⟩) 1 1 c2 1 [31] [31] (HX2.out.below (pure_trans z26 b7)) hl7 (by decide)
  rw [decide_eq_true rfl] at hnn
  have HNN := Lib.hid hnn
  have HB7 := Lib.hid (HB1.out.trans ((pure_trans z6 b7).mono HB1.out.size))
  clear hnn hl7 b7 z26 b3 b4 b5 b6 z2 z3 z4 z5 z6
  go_wp2_with fail
  refine (HNN.out).mono ?_
  rintro e w8 ⟨rfl, b8⟩
  have HB8 := Lib.hid (HB7.out.trans (b8.mono HB7.out.size))
  clear b8
  go_wp2_with fail
  go_ret
  exact ⟨rfl, HB8.out⟩
end Go.Proofs.YthilnpfpllplaaaGreatDoor
