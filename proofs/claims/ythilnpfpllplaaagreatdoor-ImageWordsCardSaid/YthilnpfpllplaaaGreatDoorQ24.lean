/- edenref11.Has, the walk: any rule, any word. Condition: the lists read from memory. Digits to the base 65536 and limbs to the base 2^32: plain lists, no program. No condition. Schoolbook rules on digits to any base: plain lists, no program. No condition. -/
import Derived.Test.YthilnpfpllplaaaGreatDoorQ1
import Derived.Test.YthilnpfpllplaaaGreatDoorQ23
namespace Go.Proofs.YthilnpfpllplaaaGreatDoor
open Go.RowKit BagP RuleP SubP

theorem odd_range {k : Int} {ws : List Int} (h : odd k ws = none) : ∀ y ∈ ws, 0 ≤ y ∧ y < k := by
  unfold odd at h
  rw [List.findIdx?_eq_none_iff] at h
  intro y hy
  have := h y hy
  simp at this
  omega

set_option maxRecDepth 100000 in
set_option maxHeartbeats 1000000 in
theorem refHas_bad (w : World) (K R : Int) (A : Option Addr) (n c : Nat) (T : List Int) (hT : Sl w A n (T.map (Value.int .i64))) (hm : n ≤ 9223372036854775807) (B : Option Addr) (M d : Nat) (tl : Tale) (hbad : walkF K R T = (0, [], [], some tl)) :
    Calls Tryz.prog 13 #[ruleV K R A n c, .slice B M d] w fun e w' => ∃ (N : Nat) (A1 : Option Addr) (n1 c1 : Nat) (A2 : Option Addr) (n2 c2 : Nat),
      e = .returned (.tuple #[.bool false, .agg #[.int .i64 (N : Int), .slice A1 n1 c1, .slice A2 n2 c2]]) ∧
      WantB w' w.heap.size (some (tl.1, (sImage, 0) :: tl.2)) (.agg #[.int .i64 (N : Int), .slice A1 n1 c1, .slice A2 n2 c2]) ∧ Below w.heap.size w w' := by
  have hw0 := WantAt.new (w.alloc (.cells #[.int .i64 K, .int .i64 R, .slice A n c] 24)) (.int .i64 0) (.slice none 0 0) (.slice none 0 0)
  rw [World.size_alloc] at hw0
  have hb0 := ((Below.refl w.heap.size w).alloc (Nat.le_refl _) (.cells #[.int .i64 K, .int .i64 R, .slice A n c] 24)).alloc (by simp) (.cells #[.int .i64 0, .slice none 0 0, .slice none 0 0] 34)
  obtain ⟨wx, hwx⟩ : ∃ wx, (w.alloc (.cells #[.int .i64 K, .int .i64 R, .slice A n c] 24)).alloc (.cells #[.int .i64 0, .slice none 0 0, .slice none 0 0] 34) = wx := ⟨_, rfl⟩
  have hsx : wx.heap.size = w.heap.size + 2 := by rw [← hwx]; simp
  rw [hwx] at hw0 hb0
  have hwk := walked_c wx 0 K R A n c T (hT.below hb0) hm
  have hto := under_ok (op := sImage) (i := 0) (walkF_ok K R T)
  rw [hbad] at hto
  rw [hbad] at hwk
  dsimp only [under] at hwk
  unfold ruleV autoV at hwk
  have HWK := Lib.hid hwk
  have HWX := Lib.hid hwx
  have HTO := Lib.hid hto
  have HW0 := Lib.hid hw0
  have HB0 := Lib.hid hb0
  have HSX := Lib.hid hsx
  clear hwk hwx hto hw0 hb0 hsx hT hbad
  unfold ruleV
  go_enter Tryz.func13, Tryz.ntmps13
  go_wp2_with fail
  rw [HWX.out]
  refine (HWK.out).mono ?_
  rintro e w1 ⟨C, cc, rows, N, A1, n1, c1, A2, n2, c2, rfl, _, hu, hb1⟩
  clear HWK
  have hs1 := hb1.size
  have hsx := HSX.out
  have hw1 := HW0.out.below hb1 (by omega)
  have hb12 := (Below.refl w1.heap.size w1).alloc (Nat.le_refl _) (.cells #[.int .i64 0, .slice C 0 cc] 50)
  have hE3 := WantAt.new (w1.alloc (.cells #[.int .i64 0, .slice C 0 cc] 50)) (.int .i64 (N : Int)) (.slice A1 n1 c1) (.slice A2 n2 c2)
  have hb23 := (Below.refl (w1.alloc (.cells #[.int .i64 0, .slice C 0 cc] 50)).heap.size (w1.alloc (.cells #[.int .i64 0, .slice C 0 cc] 50))).alloc (Nat.le_refl _) (.cells #[.int .i64 (N : Int), .slice A1 n1 c1, .slice A2 n2 c2] 34)
  have hb13 := hb12.trans (hb23.mono hb12.size)
  rw [World.size_alloc] at hE3
  obtain ⟨w3, hw3⟩ : ∃ w3, (w1.alloc (.cells #[.int .i64 0, .slice C 0 cc] 50)).alloc (.cells #[.int .i64 (N : Int), .slice A1 n1 c1, .slice A2 n2 c2] 34) = w3 := ⟨_, rfl⟩
  rw [hw3] at hE3 hb13
  have HUN := Lib.hid (errBad_c w3 N A1 n1 c1 A2 n2 c2)
  have hN := hu.num
  have ht := (HTO.out _ rfl).1
  have hNz : decide (N ≠ 0) = true := decide_eq_true (by simp only [tnum] at hN; simp only at ht; omega)
  rw [hNz] at HUN
  have HU3 := Lib.hid (hu.below hb13)
  obtain ⟨k2, k3, k4, _, _, _⟩ := hE3.facts
  have HW3 := Lib.hid (hw1.below hb13 (by omega))
  have HB3 := Lib.hid (HB0.out.trans ((hb1.trans (hb13.mono hb1.size)).mono HB0.out.size))
  have HQ3 := Lib.hid hw3
  have hz3 : w1.heap.size ≤ w3.heap.size := hb13.size
  obtain ⟨ga, hga⟩ : ∃ ga, w1.heap.size = ga := ⟨_, rfl⟩
  have hga1 : w.heap.size + 2 ≤ ga := by omega
  rw [hga] at k2 k3 k4 hz3
  have HGA := Lib.hid hga
  clear hu hb13 hb12 hb23 hE3 hw3 hN ht hNz hw1 hs1 hsx hb1 hga
  go_wp2_with fail
  rw [HQ3.out, HGA.out]
  refine (HUN.out).mono ?_
  rintro e w5 ⟨rfl, hb5⟩
  have x2 := cell_later hb5 k2
  have x3 := cell_later hb5 k3
  have x4 := cell_later hb5 k4
  obtain ⟨d0, d1, d2, f0, f1, f2⟩ := (HW3.out.below hb5 (by omega)).facts
  have HU := Lib.hid (((HU3.out.below hb5.drew).set3 (g := w.heap.size + 1) (by have := HSX.out; omega) (.int .i64 (N : Int)) (.slice A1 n1 c1) (.slice A2 n2 c2)).base (base' := w.heap.size) (by have := HSX.out; omega))
  have HB := Lib.hid (below_set3 (HB3.out.trans (hb5.drew.mono HB3.out.size)) (Nat.le_succ _) (.int .i64 (N : Int)) (.slice A1 n1 c1) (.slice A2 n2 c2))
  clear k2 k3 k4 hb5
  go_wp2_with fail
  go_still_tail 2, (by kernel_rfl)
  change wpList _ _ _ _ _ (World.drew w5)
  go_wp2_with fail
  exact bodyPost_ret (v := .tuple #[.bool false, .agg #[.int .i64 (N : Int), .slice A1 n1 c1, .slice A2 n2 c2]]) (by simp [results, Tryz.results13, go_sem, d0, d1, d2]) rfl ⟨N, A1, n1, c1, A2, n2, c2, rfl, HU.out, HB.out⟩

set_option maxRecDepth 100000 in
set_option maxHeartbeats 1000000 in
theorem refHas_good (w : World) (k r : Nat) (A : Option Addr) (n c : Nat) (t : List Nat) (hT : Sl w A n ((ints t).map (Value.int .i64))) (hm : n ≤ 9223372036854775807) (hr : IsRule k r t) (h256 : t.length ≤ 256) (S : St) (h : fin k (k ^ (2 * r)) t false = .go S [])
    (B : Option Addr) (M d : Nat) (W : List Int) (hW : Sl w B M (W.map (Value.int .i64))) (hM : M ≤ 9223372036854775807) :
    Calls Tryz.prog 13 #[ruleV (k : Int) (r : Int) A n c, .slice B M d] w fun e w' => ∃ (N : Nat) (A1 : Option Addr) (n1 c1 : Nat) (A2 : Option Addr) (n2 c2 : Nat),
      e = .returned (.tuple #[.bool (hasF (k : Int) (r : Int) (ints t) W).1, .agg #[.int .i64 (N : Int), .slice A1 n1 c1, .slice A2 n2 c2]]) ∧
      WantB w' w.heap.size (hasF (k : Int) (r : Int) (ints t) W).2 (.agg #[.int .i64 (N : Int), .slice A1 n1 c1, .slice A2 n2 c2]) ∧ Below w.heap.size w w' := by
  have hlw : W.length = M := by simpa using hW.1
  have HLW := Lib.hid hlw
  have HWS := Lib.hid (fun (wz : World) (hz : Below w.heap.size w wz) => hW.below hz)
  have hlw2 := hlw
  clear hlw hW
  obtain ⟨bb, tt, hp⟩ : ∃ bb tt, hasF (k : Int) (r : Int) (ints t) W = (bb, tt) := ⟨_, _, rfl⟩
  rw [hp]
  dsimp only
  have HP := Lib.hid hp
  clear hp hlw2
  have hw0 := WantAt.new (w.alloc (.cells #[.int .i64 (k : Int), .int .i64 (r : Int), .slice A n c] 24)) (.int .i64 0) (.slice none 0 0) (.slice none 0 0)
  rw [World.size_alloc] at hw0
  have hr0 := (RuleAt.new w (.int .i64 (k : Int)) (.int .i64 (r : Int)) (.slice A n c)).alloc (.cells #[.int .i64 0, .slice none 0 0, .slice none 0 0] 34)
  have hb0 := ((Below.refl w.heap.size w).alloc (Nat.le_refl _) (.cells #[.int .i64 (k : Int), .int .i64 (r : Int), .slice A n c] 24)).alloc (by simp) (.cells #[.int .i64 0, .slice none 0 0, .slice none 0 0] 34)
  obtain ⟨wx, hwx⟩ : ∃ wx, (w.alloc (.cells #[.int .i64 (k : Int), .int .i64 (r : Int), .slice A n c] 24)).alloc (.cells #[.int .i64 0, .slice none 0 0, .slice none 0 0] 34) = wx := ⟨_, rfl⟩
  have hsx : wx.heap.size = w.heap.size + 2 := by rw [← hwx]; simp
  rw [hwx] at hw0 hb0 hr0
  have hwk := walked_c wx 0 (k : Int) (r : Int) A n c (ints t) (hT.below hb0) hm
  rw [walkF_good hr h256 h] at hwk
  dsimp only [under] at hwk
  have hN0 : 0 < k ^ (2 * r) := Nat.pow_pos hr.k1
  have hnl := (fin_inv hN0 h).2.1
  have hbg := (fin_ok hN0 h).2
  have hau0 := (fin_rows hN0 h).auto
  have hle := least_le hau0
  have hau : IsAuto k (S.next) := hau0
  have hbg2 : (S.next).length ≤ 4096 := by omega
  have HAU0 := Lib.hid hau0
  obtain ⟨L, hL⟩ : ∃ L, S.next = L := ⟨_, rfl⟩
  rw [hL] at hwk hau hbg2
  obtain ⟨m, hmL⟩ : ∃ m, L.length = m := ⟨_, rfl⟩
  rw [hmL] at hwk hbg2
  have hm0 : 0 < m := by rw [← hmL]; exact hau.pos
  have HAU := Lib.hid hau
  have HML := Lib.hid hmL
  have HLL := Lib.hid hL
  have HK := Lib.hid (⟨hr.k1, hr.k4⟩ : _ ∧ _)
  have HHR := Lib.hid (⟨hr, h256, h⟩ : _ ∧ _ ∧ _)
  unfold ruleV autoV at hwk
  have HWK := Lib.hid hwk
  have HWX := Lib.hid hwx
  have HW0 := Lib.hid hw0
  have HR0 := Lib.hid hr0
  have HB0 := Lib.hid hb0
  have HSX := Lib.hid hsx
  clear hwk hwx hw0 hr0 hb0 hsx hT hr h256 h hN0 hnl hbg hau0 hle hau hL hmL
  unfold ruleV
  go_enter Tryz.func13, Tryz.ntmps13
  go_wp2_with fail
  rw [HWX.out]
  refine (HWK.out).mono ?_
  rintro e w1 ⟨C, cc, rows, Nz, A1, n1, c1, A2, n2, c2, rfl, hR, hu, hb1⟩
  have hz : Value.agg #[.int .i64 (Nz : Int), .slice A1 n1 c1, .slice A2 n2 c2] = .agg #[.int .i64 0, .slice none 0 0, .slice none 0 0] := hu.none_eq
  rw [hz]
  clear HWK hz hu
  have hs1 := hb1.size
  have hsx := HSX.out
  have hw1 := HW0.out.below hb1 (by omega)
  have hr1 := HR0.out.below hb1 (by omega)
  have hb12 := (Below.refl w1.heap.size w1).alloc (Nat.le_refl _) (.cells #[.int .i64 (k : Int), .slice C m cc] 50)
  have hb23 := (Below.refl (w1.alloc (.cells #[.int .i64 (k : Int), .slice C m cc] 50)).heap.size (w1.alloc (.cells #[.int .i64 (k : Int), .slice C m cc] 50))).alloc (Nat.le_refl _) (.cells #[.int .i64 0, .slice none 0 0, .slice none 0 0] 34)
  have hA2 := heap_new w1 (.cells #[.int .i64 (k : Int), .slice C m cc] 50)
  have hA3 : AutoAt _ w1.heap.size (.int .i64 (k : Int)) (.slice C m cc) := (show AutoAt _ w1.heap.size (.int .i64 (k : Int)) (.slice C m cc) from hA2).below hb23 (by simp)
  have hb13 := hb12.trans (hb23.mono hb12.size)
  obtain ⟨w3, hw3⟩ : ∃ w3, (w1.alloc (.cells #[.int .i64 (k : Int), .slice C m cc] 50)).alloc (.cells #[.int .i64 0, .slice none 0 0, .slice none 0 0] 34) = w3 := ⟨_, rfl⟩
  rw [hw3] at hA3 hb13
  have hbd : Calls Tryz.prog 40 #[.agg #[.int .i64 0, .slice none 0 0, .slice none 0 0]] w3 fun e w' => e = .returned (.bool false) ∧ Below w3.heap.size w3 w' := errBad_c w3 0 none 0 0 none 0 0
  have HUN := Lib.hid hbd
  clear hbd
  have HLI : Hid (ListAt w3 C m L) := Lib.hid (by
    have h1 : RowsAt w1 wx.heap.size (.slice C L.length cc) rows L (fun _ => False) := by rw [HML.out]; exact hR
    have h2 := h1.list.keep hb13
    rwa [HML.out] at h2)
  have HA3 := Lib.hid hA3
  have HW3 := Lib.hid (hw1.below hb13 (by omega))
  have HR3 := Lib.hid (hr1.below hb13 (by omega))
  have HB3 := Lib.hid (HB0.out.trans ((hb1.trans (hb13.mono hb1.size)).mono HB0.out.size))
  have HQ3 := Lib.hid hw3
  have hga1 : w.heap.size + 2 ≤ w1.heap.size := by omega
  have hga3 : w1.heap.size < w3.heap.size := (Array.getElem?_eq_some_iff.1 hA3).1
  clear hb13 hb12 hb23 hA2 hA3 hR hw3 hw1 hr1 hs1 hsx hb1
  go_wp2_with fail
  rw [HQ3.out]
  refine (HUN.out).mono ?_
  rintro e w5 ⟨rfl, hb5⟩
  have HB5 := Lib.hid (HB3.out.trans (hb5.mono HB3.out.size))
  have HLI5 := Lib.hid (HLI.out.keep hb5)
  have HA5 := Lib.hid (HA3.out.below hb5 (by omega))
  have HW5 := Lib.hid (HW3.out.below hb5 (by omega))
  have HR5 := Lib.hid (HR3.out.below hb5 (by omega))
  have hs35 := hb5.size
  have hga5 : w1.heap.size < w5.heap.size := by omega
  clear hb5 HLI HA3 HW3 HR3 HB3 HUN
  by_cases hlong : 4096 < W.length
  · obtain ⟨rfl, rfl⟩ : bb = false ∧ tt = some (4, [(sImage, 1)]) := by
      have h := HP.out
      rw [hasF_long (ofF_good HHR.out.1 HHR.out.2.1 HHR.out.2.2) hlong] at h
      exact ⟨(Prod.mk.inj h).1.symm, (Prod.mk.inj h).2.symm⟩
    have hlong' : (M : Int) > 4096 := by have := HLW.out; omega
    have HN := Lib.hid (newB_c w5 sImage 1 4)
    clear hlong
    go_wp2_with fail
    refine (HN.out).mono ?_
    rintro e w6 ⟨A6, n6, c6, B6, m6, d6, rfl, hu6, hb6⟩
    obtain ⟨d0, d1, d2, f0, f1, f2⟩ := (HW5.out.below hb6 (by omega)).facts
    have HU := Lib.hid ((hu6.set3 (g := w.heap.size + 1) (by omega) (.int .i64 4) (.slice A6 n6 c6) (.slice B6 m6 d6)).base (base' := w.heap.size) (by omega))
    have HB := Lib.hid (below_set3 (HB5.out.trans (hb6.mono HB5.out.size)) (Nat.le_succ _) (.int .i64 4) (.slice A6 n6 c6) (.slice B6 m6 d6))
    clear hu6 hb6
    go_wp2_with fail
    exact bodyPost_ret (v := .tuple #[.bool false, .agg #[.int .i64 4, .slice A6 n6 c6, .slice B6 m6 d6]]) (by simp [results, Tryz.results13, go_sem, d0, d1, d2]) rfl ⟨4, A6, n6, c6, B6, m6, d6, rfl, HU.out, HB.out⟩
  · have hlong' : ¬ (M : Int) > 4096 := by have := HLW.out; omega
    have HLG := Lib.hid hlong
    have hbd := bad_c w5 (k : Int) B M d W (HWS.out w5 HB5.out) (by omega)
    have HBD := Lib.hid hbd
    obtain ⟨r0, r1, r2, _⟩ := HR5.out.facts
    have hrl := HR5.out.lt
    clear hbd hlong
    go_wp2_with fail
    refine (HBD.out).mono ?_
    rintro e w6 ⟨rfl, q6, hq6⟩
    have hb6 : Below w5.heap.size w5 w6 := by rw [hq6]; exact pure_drewN _ _
    cases hod : odd (k : Int) W with
    | some i =>
      obtain ⟨rfl, rfl⟩ : bb = false ∧ tt = some (2, [(sImage, (i : Int))]) := by
        have h := HP.out
        rw [hasF_odd (ofF_good HHR.out.1 HHR.out.2.1 HHR.out.2.2) HLG.out hod] at h
        exact ⟨(Prod.mk.inj h).1.symm, (Prod.mk.inj h).2.symm⟩
      have HN := Lib.hid (newB_c w6 sImage (i : Int) 2)
      have hi0 : (i : Int) ≥ 0 := by omega
      have HW6 := Lib.hid (HW5.out.below hb6 (by omega))
      have HB6 := Lib.hid (HB5.out.trans (hb6.mono HB5.out.size))
      have hs6 := hb6.size
      simp only [place]
      clear hod hb6 hq6
      go_wp2_with fail
      refine (HN.out).mono ?_
      rintro e w7 ⟨A6, n6, c6, B6, m6, d6, rfl, hu6, hb7⟩
      obtain ⟨d0, d1, d2, f0, f1, f2⟩ := (HW6.out.below hb7 (by omega)).facts
      have HU := Lib.hid ((hu6.set3 (g := w.heap.size + 1) (by omega) (.int .i64 2) (.slice A6 n6 c6) (.slice B6 m6 d6)).base (base' := w.heap.size) (by omega))
      have HB := Lib.hid (below_set3 (HB6.out.trans (hb7.mono HB6.out.size)) (Nat.le_succ _) (.int .i64 2) (.slice A6 n6 c6) (.slice B6 m6 d6))
      clear hu6 hb7
      go_wp2_with fail
      exact bodyPost_ret (v := .tuple #[.bool false, .agg #[.int .i64 2, .slice A6 n6 c6, .slice B6 m6 d6]]) (by simp [results, Tryz.results13, go_sem, d0, d1, d2]) rfl ⟨2, A6, n6, c6, B6, m6, d6, rfl, HU.out, HB.out⟩
    | none =>
      have hall := odd_range hod
      have hres : hasF (k : Int) (r : Int) (ints t) W = ((runA L 0 (W.map Int.toNat)).isSome, none) := by
        rw [hasF_run (ofF_good HHR.out.1 HHR.out.2.1 HHR.out.2.2) HLG.out hod, ← HLL.out]
        have := least_eqv HAU0.out (W.map Int.toNat) (fun c hc => by
          obtain ⟨y, hy, rfl⟩ := List.mem_map.1 hc
          have := hall y hy
          omega)
        rw [this]
      obtain ⟨rfl, rfl⟩ : bb = (runA L 0 (W.map Int.toNat)).isSome ∧ tt = none := by
        have h := HP.out
        rw [hres] at h
        exact ⟨(Prod.mk.inj h).1.symm, (Prod.mk.inj h).2.symm⟩
      have HALL := Lib.hid hall
      have HB6 := Lib.hid hb6
      simp only [place]
      clear hod hb6 hq6 hres hall
      go_wp2_with fail
      go_loopw [9, 10] (fun sv jv wl => ∃ (j : Nat) (st : Int), jv = .int .i64 (j : Int) ∧ sv = .int .i64 st ∧ j ≤ M ∧ Hid (StAt L (W.take j) st) ∧ Hid (Below w5.heap.size w5 wl)) (fun _ jv _ => M - (intOf jv).toNat)
      case atStart => exact ⟨0, 0, rfl, rfl, Nat.zero_le _, Lib.hid (.inr ⟨0, rfl, rfl, HAU.out.pos⟩), HB6⟩
      case round =>
        obtain ⟨j, st, rfl, rfl, hj, hst, hBl⟩ := hrel
        clear HB6
        obtain ⟨v0, rfl⟩ : ∃ v0, v0 = wr := ⟨_, rfl⟩
        have HEND := Lib.hid (show ∀ (b : Bool), b = (runA L 0 (W.map Int.toNat)).isSome → WantB (((v0.setCell ⟨w.heap.size + 1, 0, none⟩ (.int .i64 0)).setCell ⟨w.heap.size + 1, 1, none⟩ (.slice none 0 0)).setCell ⟨w.heap.size + 1, 2, none⟩ (.slice none 0 0)) w.heap.size none (.agg #[.int .i64 0, .slice none 0 0, .slice none 0 0]) ∧ Below w.heap.size w (((v0.setCell ⟨w.heap.size + 1, 0, none⟩ (.int .i64 0)).setCell ⟨w.heap.size + 1, 1, none⟩ (.slice none 0 0)).setCell ⟨w.heap.size + 1, 2, none⟩ (.slice none 0 0)) from fun b hb =>
          ⟨WantB.zero _ _, below_set3 (HB5.out.trans (hBl.out.mono HB5.out.size)) (Nat.le_succ _) _ _ _⟩)
        have hs5v := hBl.out.size
        rcases hst.out with ⟨h1, rfl⟩ | ⟨q, h1, rfl, hq⟩
        · have hrn : (runA L 0 (W.map Int.toNat)).isSome = false := by
            rw [← List.take_append_drop j W, List.map_append, runA_app, h1]; rfl
          obtain ⟨d0, d1, d2, f0, f1, f2⟩ := (HW5.out.below hBl.out (by omega)).facts
          rw [hrn] at HEND
          have HRN := Lib.hid hrn
          clear hrn
          by_cases hjl : j < M
          · have hjl' : (j : Int) < (M : Int) := by omega
            clear h1 hst
            go_wp2_with fail
            exact bodyPost_ret (v := .tuple #[.bool false, .agg #[.int .i64 0, .slice none 0 0, .slice none 0 0]]) (by simp [results, Tryz.results13, go_sem, d0, d1, d2]) rfl ⟨0, none, 0, 0, none, 0, 0, by rw [HRN.out]; rfl, (HEND.out _ rfl).1, (HEND.out _ rfl).2⟩
          · have hjl' : ¬ (j : Int) < (M : Int) := by omega
            clear h1 hst
            go_wp2_with fail
            exact bodyPost_ret (v := .tuple #[.bool false, .agg #[.int .i64 0, .slice none 0 0, .slice none 0 0]]) (by simp [results, Tryz.results13, go_sem, d0, d1, d2]) rfl ⟨0, none, 0, 0, none, 0, 0, by rw [HRN.out]; rfl, (HEND.out _ rfl).1, (HEND.out _ rfl).2⟩
        · have hq0 : (q : Int) ≥ 0 := by omega
          have hq0' : (0 : Int) ≤ (q : Int) := by omega
          by_cases hjl : j < M
          · have hjl' : (j : Int) < (M : Int) := by omega
            have hj0 : (0 : Int) ≤ (j : Int) := by omega
            obtain ⟨adb, x, rfl, hx, hcx⟩ := ((HWS.out w5 HB5.out).below hBl.out).int_ hjl
            have htk : W.take (j + 1) = W.take j ++ [x] := by rw [List.take_add_one, hx]; rfl
            have hxr := HALL.out x (List.mem_of_getElem? hx)
            obtain ⟨s, rfl⟩ : ∃ s : Nat, x = (s : Int) := ⟨x.toNat, by omega⟩
            have hsk : s < k := by omega
            have hs0 : (0 : Int) ≤ (s : Int) := by omega
            have hsk' : (s : Int) < (k : Int) := by omega
            have HST := Lib.hid (show StAt L (W.take (j + 1)) (nxt L q s) by rw [htk]; exact StAt.snoc HAU.out h1 hq hsk)
            rw [HML.out] at hq
            have hq' : (q : Int) < (m : Int) := by omega
            obtain ⟨adn, l, P, pc, rfl, hl, hcl, _, hsl⟩ := (HLI5.out.keep hBl.out).at_ hq
            have hlk : l.length = k := HAU.out.len l (List.mem_of_getElem? hl)
            rw [hlk] at hcl hsl
            obtain ⟨adp, y, rfl, hy, hcy⟩ := hsl.int_ hsk
            have hny : nxt L q s = y := by
              unfold nxt
              rw [List.getD_eq_getElem?_getD (l := L), hl, Option.getD_some, List.getD_eq_getElem?_getD, hy]; rfl
            rw [hny] at HST
            obtain ⟨a0, a1, _, _⟩ := (HA5.out.below hBl.out hga5).facts
            have HBX := Lib.hid (fun nq => pure_trans hBl.out (pure_drewN v0 nq))
            clear htk hxr hst h1 hl hlk hsl hny hy hx HEND
            go_wp2_with (go_quiet (fail))
            exact ⟨⟨j + 1, y, by go_num, rfl, by omega, HST, Lib.hid (HBX.out _)⟩, by simp [intOf]; omega⟩
          · have hjl' : ¬ (j : Int) < (M : Int) := by omega
            obtain ⟨d0, d1, d2, f0, f1, f2⟩ := (HW5.out.below hBl.out (by omega)).facts
            rw [List.take_of_length_le (by have := HLW.out; omega)] at h1
            have hrn : (runA L 0 (W.map Int.toNat)).isSome = true := by rw [h1]; rfl
            rw [hrn] at HEND
            have HRN := Lib.hid hrn
            clear h1 hst hrn
            go_wp2_with fail
            exact bodyPost_ret (v := .tuple #[.bool true, .agg #[.int .i64 0, .slice none 0 0, .slice none 0 0]]) (by simp [results, Tryz.results13, go_sem, d0, d1, d2]) rfl ⟨0, none, 0, 0, none, 0, 0, by rw [HRN.out]; rfl, (HEND.out _ rfl).1, (HEND.out _ rfl).2⟩

theorem refHas_u (w : World) (K R : Int) (A : Option Addr) (n c : Nat) (T : List Int) (hT : Sl w A n (T.map (Value.int .i64))) (hm : n ≤ 9223372036854775807)
    (B : Option Addr) (M d : Nat) (W : List Int) (hW : Sl w B M (W.map (Value.int .i64))) (hM : M ≤ 9223372036854775807) :
    Calls Tryz.prog 13 #[ruleV K R A n c, .slice B M d] w fun e w' => ∃ (N : Nat) (A1 : Option Addr) (n1 c1 : Nat) (A2 : Option Addr) (n2 c2 : Nat),
      e = .returned (.tuple #[.bool (hasF K R T W).1, .agg #[.int .i64 (N : Int), .slice A1 n1 c1, .slice A2 n2 c2]]) ∧
      WantB w' w.heap.size (hasF K R T W).2 (.agg #[.int .i64 (N : Int), .slice A1 n1 c1, .slice A2 n2 c2]) ∧ Below w.heap.size w w' := by
  rcases walkF_cases K R T with ⟨tl, h⟩ | ⟨k, r, t, S, rfl, rfl, rfl, hr, hl, h⟩ | ⟨k, r, t, rfl, rfl, rfl, hr, hl, h⟩
  · rw [hasF_bad (ofF_bad (walkF_bad h))]
    exact refHas_bad w K R A n c T hT hm B M d _ (walkF_bad h)
  · exact refHas_good w k r A n c t hT hm hr hl S h B M d W hW hM
  · have hb : walkF (k : Int) (r : Int) (ints t) = (0, [], [], some (4, [(sSubset, 0)])) := by rw [walkF_good hr hl h]
    rw [hasF_bad (ofF_bad hb)]
    exact refHas_bad w k r A n c (ints t) hT hm B M d _ hb
end Go.Proofs.YthilnpfpllplaaaGreatDoor

namespace Go.Proofs.YthilnpfpllplaaaGreatDoor
namespace NatP

theorem h16 : 2 ≤ 65536 := by decide
theorem w32' : 2 ≤ 4294967296 := by decide
def flat (xs : List Nat) : List Nat := xs.flatMap fun x => [x % 65536, x / 65536]
theorem flat_cons (x : Nat) (l : List Nat) : flat (x :: l) = x % 65536 :: x / 65536 :: flat l := rfl
theorem flat_append (a b : List Nat) : flat (a ++ b) = flat a ++ flat b := by simp [flat]
theorem val_flat : ∀ xs : List Nat, valB 65536 (flat xs) = valB 4294967296 xs
  | [] => rfl
  | x :: l => by
    rw [flat_cons]
    simp only [valB]
    rw [val_flat l]
    have := Nat.mod_add_div x 65536
    omega
theorem ok_flat {xs : List Nat} (h : OkB 4294967296 xs) : OkB 65536 (flat xs) := by
  intro y hy
  simp only [flat, List.mem_flatMap, List.mem_cons, List.not_mem_nil, or_false] at hy
  obtain ⟨x, hx, rfl | rfl⟩ := hy
  · exact Nat.mod_lt _ (by decide)
  · have := h x hx; omega
theorem len_flat (xs : List Nat) : (flat xs).length = 2 * xs.length := by
  induction xs with
  | nil => rfl
  | cons x l ih => rw [flat_cons]; simp [ih]; omega
theorem flat_take {xs : List Nat} {k x : Nat} (h : xs[k]? = some x) : flat (xs.take (k + 1)) = flat (xs.take k) ++ [x % 65536, x / 65536] := by
  rw [List.take_add_one, h, flat_append]; rfl

/-- The first j limbs out of digits. -/
def pairTo (D : List Nat) (j : Nat) : List Nat := (List.range j).map fun q => D.getD (2 * q) 0 + 65536 * D.getD (2 * q + 1) 0
theorem pairTo_len (D : List Nat) (j : Nat) : (pairTo D j).length = j := by simp [pairTo]
theorem pairTo_succ (D : List Nat) (j : Nat) : pairTo D (j + 1) = pairTo D j ++ [D.getD (2 * j) 0 + 65536 * D.getD (2 * j + 1) 0] := by
  simp [pairTo, List.range_succ]
theorem val_pairs (D : List Nat) : ∀ j, valB 4294967296 (pairTo D j) = valB 65536 (D.take (2 * j))
  | 0 => rfl
  | j + 1 => by
    rw [pairTo_succ, val_snoc, val_pairs D j, pairTo_len, show 2 * (j + 1) = 2 * j + 1 + 1 from by omega, val_take_succ, val_take_succ]
    have e : (4294967296 : Nat) ^ j = 65536 ^ (2 * j) := by rw [Nat.pow_mul]
    rw [e, Nat.pow_succ, Nat.mul_add, Nat.add_assoc, Nat.mul_assoc]
theorem ok_pairs {D : List Nat} (h : OkB 65536 D) (j : Nat) : OkB 4294967296 (pairTo D j) := by
  intro y hy
  simp only [pairTo, List.mem_map] at hy
  obtain ⟨q, _, rfl⟩ := hy
  have h1 := ok_getD (b := 65536) (by decide) h (2 * q)
  have h2 := ok_getD (b := 65536) (by decide) h (2 * q + 1)
  omega
theorem norm_pairs {D : List Nat} (h : Norm D) : Norm (pairTo D ((D.length + 1) / 2)) := by
  intro x hx
  rcases Nat.eq_zero_or_pos D.length with h0 | h0
  · rw [h0] at hx; simp [pairTo] at hx
  · obtain ⟨j, hj⟩ : ∃ j, (D.length + 1) / 2 = j + 1 := ⟨(D.length + 1) / 2 - 1, by omega⟩
    rw [hj, pairTo_succ, List.getLast?_append] at hx
    simp at hx
    have hl : D.getLast? = some (D.getD (D.length - 1) 0) := by
      rw [List.getLast?_eq_getElem?, List.getD_eq_getElem?_getD, List.getElem?_eq_getElem (by omega)]; rfl
    have hn := h _ hl
    subst hx
    simp only [← List.getD_eq_getElem?_getD]
    rcases (show D.length = 2 * j + 1 ∨ D.length = 2 * j + 2 by omega) with e | e
    · rw [show D.length - 1 = 2 * j from by omega] at hn; omega
    · rw [show D.length - 1 = 2 * j + 1 from by omega] at hn; omega
theorem pairs_all {D : List Nat} (ho : OkB 65536 D) (hn : Norm D) : pairTo D ((D.length + 1) / 2) = digs 4294967296 (valB 65536 D) := by
  have h1 := digs_val w32' (ok_pairs ho ((D.length + 1) / 2)) (norm_pairs hn)
  rw [val_pairs, List.take_of_length_le (by omega)] at h1
  exact h1.symm
theorem len_half (v : Nat) : (digs 65536 v).length ≤ 2 * (digs 4294967296 v).length := by
  have h := length_digs_le h16 (ok_flat (ok_digs w32' v))
  rw [val_flat, val_digs w32', len_flat] at h
  exact h
theorem take_digs {b : Nat} (hb : 2 ≤ b) {D : List Nat} (ho : OkB b D) : D.take (digs b (valB b D)).length = digs b (valB b D) := by
  obtain ⟨m, hm, hz, hl⟩ := cut_ex D
  have e := cut_eq hb ho hm hz hl
  have hlen : (digs b (valB b D)).length = m := by rw [← e, List.length_take, Nat.min_eq_left hm]
  rw [hlen, e]
end NatP
end Go.Proofs.YthilnpfpllplaaaGreatDoor

namespace Go.Proofs.YthilnpfpllplaaaGreatDoor
namespace NatP

/-- A sum, digit by digit. -/
structure AddG (b : Nat) (X Y D : List Nat) (i cr v : Nat) : Prop where
  len : D.length = i
  ok : OkB b D
  cr1 : cr ≤ 1
  eq : valB b D + b ^ i * (cr + valB b (X.drop i) + valB b (Y.drop i)) = v
theorem drop_val {b : Nat} (l : List Nat) (i : Nat) : valB b (l.drop i) = l.getD i 0 + b * valB b (l.drop (i + 1)) := by
  rcases Nat.lt_or_ge i l.length with h | h
  · rw [List.drop_eq_getElem_cons h, List.getD_eq_getElem?_getD, List.getElem?_eq_getElem h]; rfl
  · rw [List.drop_of_length_le h, List.drop_of_length_le (by omega), List.getD_eq_getElem?_getD, List.getElem?_eq_none h]; rfl
theorem AddG.step {b : Nat} (hb : 2 ≤ b) {X Y D : List Nat} {i cr v : Nat} (h : AddG b X Y D i cr v) (hx : OkB b X) (hy : OkB b Y) :
    AddG b X Y (D ++ [(cr + X.getD i 0 + Y.getD i 0) % b]) (i + 1) ((cr + X.getD i 0 + Y.getD i 0) / b) v := by
  have h1 := ok_getD (by omega) hx i
  have h2 := ok_getD (by omega) hy i
  refine ⟨by simp [h.len], fun z hz => ?_, ?_, ?_⟩
  · rcases List.mem_append.1 hz with hz | hz
    · exact h.ok z hz
    · simp at hz; subst hz; exact Nat.mod_lt _ (by omega)
  · have : (cr + X.getD i 0 + Y.getD i 0) / b < 2 := Nat.div_lt_of_lt_mul (by have := h.cr1; omega)
    omega
  · have e := h.eq
    rw [drop_val X i, drop_val Y i] at e
    rw [val_snoc, h.len, Nat.pow_succ]
    have e5 := Nat.mod_add_div (cr + X.getD i 0 + Y.getD i 0) b
    generalize (cr + X.getD i 0 + Y.getD i 0) / b = q at *
    generalize (cr + X.getD i 0 + Y.getD i 0) % b = r at *
    generalize valB b (X.drop (i + 1)) = P at *
    generalize valB b (Y.drop (i + 1)) = Q at *
    have e6 : b ^ i * (r + b * q + b * P + b * Q) = b ^ i * (cr + (X.getD i 0 + b * P) + (Y.getD i 0 + b * Q)) := by rw [e5]; congr 1; omega
    rw [← e, ← e6]
    rw [Nat.mul_assoc]
    simp only [Nat.mul_add]
    omega
theorem AddG.done {b : Nat} {X Y D : List Nat} {i v : Nat} (h : AddG b X Y D i 0 v) (hx : X.length ≤ i) (hy : Y.length ≤ i) : valB b D = v := by
  have e := h.eq
  rw [List.drop_of_length_le hx, List.drop_of_length_le hy] at e
  simpa [valB] using e

/-- A product, digit by digit: behind i digits of the first factor. -/
structure MulG (b : Nat) (X Y out : List Nat) (i : Nat) : Prop where
  ok : OkB b out
  eq : valB b out = valB b (X.take i) * valB b Y
/-- And behind j digits of the second. -/
structure MulH (b : Nat) (X Y out : List Nat) (i x j cr : Nat) : Prop where
  ok : OkB b out
  cr1 : cr < b
  eq : valB b out + b ^ (i + j) * cr = valB b (X.take i) * valB b Y + b ^ i * (x * valB b (Y.take j))
/-- And where the rest is carried on to place k. -/
structure MulC (b : Nat) (X Y out : List Nat) (i k cr : Nat) : Prop where
  ok : OkB b out
  cr1 : cr < b
  eq : valB b out + b ^ k * cr = valB b (X.take (i + 1)) * valB b Y
theorem MulG.start {b : Nat} (hb : 2 ≤ b) {X Y out : List Nat} {i x : Nat} (h : MulG b X Y out i) : MulH b X Y out i x 0 0 :=
  ⟨h.ok, by omega, by rw [h.eq]; simp [valB]⟩
theorem mul_lt2 {b x y o c : Nat} (hx : x < b) (hy : y < b) (ho : o < b) (hc : c < b) : x * y + o + c < b * b := by
  have h1 : x * y ≤ (b - 1) * (b - 1) := Nat.mul_le_mul (by omega) (by omega)
  obtain ⟨a, rfl⟩ : ∃ a, b = a + 1 := ⟨b - 1, by omega⟩
  simp only [Nat.add_sub_cancel] at h1
  have : (a + 1) * (a + 1) = a * a + a + a + 1 := by rw [Nat.add_mul, Nat.mul_add]; omega
  omega
theorem MulH.step {b : Nat} (hb : 2 ≤ b) {X Y out : List Nat} {i x j cr y o : Nat} (h : MulH b X Y out i x j cr) (hx : x < b) (hy : OkB b Y) (hyj : Y[j]? = some y) (hoj : out[i + j]? = some o) :
    MulH b X Y (out.set (i + j) ((x * y + o + cr) % b)) i x (j + 1) ((x * y + o + cr) / b) := by
  have hyl : y < b := hy y (List.mem_of_getElem? hyj)
  have hol : o < b := h.ok o (List.mem_of_getElem? hoj)
  refine ⟨ok_set h.ok (Nat.mod_lt _ (by omega)), Nat.div_lt_of_lt_mul (mul_lt2 hx hyl hol h.cr1), ?_⟩
  have e1 := val_set (b := b) (v := (x * y + o + cr) % b) hoj
  have e3 := val_take_succ b Y j
  have e4 : Y.getD j 0 = y := by rw [List.getD_eq_getElem?_getD, hyj]; rfl
  have e5 := h.eq
  have e6 := Nat.mod_add_div (x * y + o + cr) b
  rw [e4] at e3
  rw [e3, Nat.mul_add x, Nat.mul_add (b ^ i), ← Nat.add_assoc i, ← Nat.add_assoc (valB b (List.take i X) * valB b Y), ← e5, Nat.pow_succ]
  generalize (x * y + o + cr) % b = r at *
  generalize (x * y + o + cr) / b = d at *
  have e7 : b ^ (i + j) * (r + b * d) = b ^ (i + j) * (x * y + o + cr) := by rw [e6]
  have e8 : b ^ i * (x * (b ^ j * y)) = b ^ (i + j) * (x * y) := by
    rw [Nat.pow_add, Nat.mul_assoc, Nat.mul_left_comm x]
  rw [e8]
  rw [Nat.mul_add, Nat.mul_add, Nat.mul_add, ← Nat.mul_assoc] at e7
  omega
theorem MulC.step {b : Nat} (hb : 2 ≤ b) {X Y out : List Nat} {i k cr o : Nat} (h : MulC b X Y out i k cr) (ho : out[k]? = some o) :
    MulC b X Y (out.set k ((o + cr) % b)) i (k + 1) ((o + cr) / b) := by
  have hol : o < b := h.ok o (List.mem_of_getElem? ho)
  have hcr := h.cr1
  refine ⟨ok_set h.ok (Nat.mod_lt _ (by omega)), ?_, ?_⟩
  · have : (o + cr) / b < 2 := Nat.div_lt_of_lt_mul (by omega)
    omega
  · have e1 := val_set (b := b) (v := (o + cr) % b) ho
    have e6 := Nat.mod_add_div (o + cr) b
    rw [← h.eq, Nat.pow_succ]
    generalize (o + cr) % b = r at *
    generalize (o + cr) / b = d at *
    have e7 : b ^ k * (r + b * d) = b ^ k * (o + cr) := by rw [e6]
    rw [Nat.mul_add, Nat.mul_add, ← Nat.mul_assoc] at e7
    omega
/-- The rest dies before the row's end. -/
theorem MulC.lt {b : Nat} (hb : 2 ≤ b) {X Y out : List Nat} {i k cr : Nat} (h : MulC b X Y out i k cr) (hx : OkB b X) (hy : OkB b Y) (hi : i < X.length) (hc : 0 < cr) : k < X.length + Y.length := by
  have h1 := val_lt hb (ok_take hx (i + 1))
  have h2 := val_lt hb hy
  rw [List.length_take, Nat.min_eq_left (by omega)] at h1
  have h3 : b ^ k ≤ valB b (X.take (i + 1)) * valB b Y := by
    rw [← h.eq]
    have : b ^ k * 1 ≤ b ^ k * cr := Nat.mul_le_mul_left _ hc
    omega
  have h4 : valB b (X.take (i + 1)) * valB b Y < b ^ (i + 1) * b ^ Y.length := by
    rcases Nat.eq_zero_or_pos (valB b Y) with h0 | h0
    · rw [h0, Nat.mul_zero]; exact Nat.mul_pos (Nat.pow_pos (by omega)) (Nat.pow_pos (by omega))
    · exact Nat.mul_lt_mul'' h1 h2
  rw [← Nat.pow_add] at h4
  have h5 : b ^ k < b ^ (i + 1 + Y.length) := Nat.lt_of_le_of_lt h3 h4
  have := (Nat.pow_lt_pow_iff_right (by omega : 1 < b)).1 h5
  omega
theorem MulC.done {b : Nat} {X Y out : List Nat} {i k : Nat} (h : MulC b X Y out i k 0) : MulG b X Y out (i + 1) := ⟨h.ok, by simpa using h.eq⟩

/-- A number's rest at one digit after the other, the highest first. -/
structure OverG (b : Nat) (X out : List Nat) (d m rest : Nat) : Prop where
  len : out.length = X.length
  ok : OkB b out
  rlt : rest < d
  zero : ∀ j x, j < m → out[j]? = some x → x = 0
  eq : valB b X = valB b out * d + b ^ m * rest + valB b (X.take m)
theorem OverG.start {b : Nat} (hb : 2 ≤ b) {X : List Nat} {d : Nat} (hd : 0 < d) : OverG b X (List.replicate X.length 0) d X.length 0 :=
  ⟨by simp, ok_zeros (by omega) _, hd, fun j x _ hx => List.eq_of_mem_replicate (List.mem_of_getElem? hx), by simp [val_zeros]⟩
theorem OverG.step {b : Nat} {X out : List Nat} {d k rest x : Nat} (h : OverG b X out d (k + 1) rest) (hx : X[k]? = some x) (hxl : x < b) :
    OverG b X (out.set k ((rest * b + x) / d)) d k ((rest * b + x) % d) := by
  have hk : k < out.length := by rw [h.len]; exact (List.getElem?_eq_some_iff.1 hx).1
  obtain ⟨z, hz⟩ : ∃ z, out[k]? = some z := ⟨_, List.getElem?_eq_getElem hk⟩
  have hz0 := h.zero k z (Nat.lt_succ_self k) hz
  subst hz0
  have hd : 0 < d := by have := h.rlt; omega
  have hq : (rest * b + x) / d < b := Nat.div_lt_of_lt_mul (by
    have : (rest + 1) * b ≤ d * b := Nat.mul_le_mul_right _ h.rlt
    rw [Nat.add_mul, Nat.one_mul] at this
    omega)
  refine ⟨by simp [h.len], ok_set h.ok hq, Nat.mod_lt _ hd, fun j y hj hy => ?_, ?_⟩
  · rw [List.getElem?_set_ne (by omega)] at hy
    exact h.zero j y (by omega) hy
  · have e1 := val_set (b := b) (v := (rest * b + x) / d) hz
    have e2 := val_take_succ b X k
    have e3 : X.getD k 0 = x := by rw [List.getD_eq_getElem?_getD, hx]; rfl
    have e4 := h.eq
    have e5 := Nat.mod_add_div (rest * b + x) d
    rw [e3] at e2
    rw [e2] at e4
    generalize (rest * b + x) / d = q at *
    generalize (rest * b + x) % d = r at *
    rw [Nat.mul_zero, Nat.add_zero] at e1
    rw [e1, e4, Nat.pow_succ]
    have e6 : b ^ k * (r + d * q) = b ^ k * (rest * b + x) := by rw [e5]
    rw [Nat.mul_add, Nat.mul_add] at e6
    have e7 : b ^ k * (d * q) = b ^ k * q * d := by rw [Nat.mul_comm d q, Nat.mul_assoc]
    have e8 : b ^ k * (rest * b) = b ^ k * b * rest := by rw [Nat.mul_comm rest, Nat.mul_assoc]
    rw [Nat.add_mul]
    omega
theorem OverG.done {b : Nat} {X out : List Nat} {d rest : Nat} (h : OverG b X out d 0 rest) : valB b out = valB b X / d ∧ rest = valB b X % d := by
  have e := h.eq
  have hr := h.rlt
  simp only [Nat.pow_zero, Nat.one_mul, List.take_zero, valB, Nat.add_zero] at e
  rw [e]
  constructor
  · rw [Nat.mul_comm, Nat.mul_add_div (by omega), Nat.div_eq_of_lt hr]; rfl
  · rw [Nat.mul_comm, Nat.mul_add_mod, Nat.mod_eq_of_lt hr]

end NatP
end Go.Proofs.YthilnpfpllplaaaGreatDoor
