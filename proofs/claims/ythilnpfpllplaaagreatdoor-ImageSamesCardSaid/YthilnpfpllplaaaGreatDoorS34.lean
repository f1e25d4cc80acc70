/- edenref11.Same, the walk: any two rules. Condition: the tables read from memory. -/
import Derived.Test.YthilnpfpllplaaaGreatDoorS30
import Derived.Test.YthilnpfpllplaaaGreatDoorS33
namespace Go.Proofs.YthilnpfpllplaaaGreatDoor
open Go.RowKit BagP RuleP SubP

set_option maxRecDepth 100000 in
set_option maxHeartbeats 1000000 in
theorem refSame_bad (w : World) (K R : Int) (A : Option Addr) (n c : Nat) (T : List Int) (hT : Sl w A n (T.map (Value.int .i64))) (hm : n ≤ 9223372036854775807) (K2 R2 : Int) (B : Option Addr) (m d : Nat) (tl : Tale) (hbad : walkF K R T = (0, [], [], some tl)) :
    Calls Tryz.prog 28 #[ruleV K R A n c, ruleV K2 R2 B m d] w fun e w' => ∃ (N : Nat) (A1 : Option Addr) (n1 c1 : Nat) (A2 : Option Addr) (n2 c2 : Nat),
      e = .returned (.tuple #[.bool false, .agg #[.int .i64 (N : Int), .slice A1 n1 c1, .slice A2 n2 c2]]) ∧
      WantB w' w.heap.size (some (tl.1, (sImage, 0) :: tl.2)) (.agg #[.int .i64 (N : Int), .slice A1 n1 c1, .slice A2 n2 c2]) ∧ Below w.heap.size w w' := by
  have hb0 := (((Below.refl w.heap.size w).alloc (Nat.le_refl _) (.cells #[.int .i64 K, .int .i64 R, .slice A n c] 24)).alloc (by simp) (.cells #[.int .i64 K2, .int .i64 R2, .slice B m d] 24)).alloc (by simp; omega) (.cells #[.int .i64 0, .slice none 0 0, .slice none 0 0] 34)
  have hw0 := WantAt.new ((w.alloc (.cells #[.int .i64 K, .int .i64 R, .slice A n c] 24)).alloc (.cells #[.int .i64 K2, .int .i64 R2, .slice B m d] 24)) (.int .i64 0) (.slice none 0 0) (.slice none 0 0)
  rw [World.size_alloc, World.size_alloc] at hw0
  change WantAt _ (w.heap.size + 2) _ _ _ at hw0
  have hr0 := ((RuleAt.new w (.int .i64 K) (.int .i64 R) (.slice A n c)).alloc (.cells #[.int .i64 K2, .int .i64 R2, .slice B m d] 24)).alloc (.cells #[.int .i64 0, .slice none 0 0, .slice none 0 0] 34)
  have hq0 := (RuleAt.new (w.alloc (.cells #[.int .i64 K, .int .i64 R, .slice A n c] 24)) (.int .i64 K2) (.int .i64 R2) (.slice B m d)).alloc (.cells #[.int .i64 0, .slice none 0 0, .slice none 0 0] 34)
  rw [World.size_alloc] at hq0
  obtain ⟨wx, hwx⟩ : ∃ wx, ((w.alloc (.cells #[.int .i64 K, .int .i64 R, .slice A n c] 24)).alloc (.cells #[.int .i64 K2, .int .i64 R2, .slice B m d] 24)).alloc (.cells #[.int .i64 0, .slice none 0 0, .slice none 0 0] 34) = wx := ⟨_, rfl⟩
  have hsx : wx.heap.size = w.heap.size + 3 := by rw [← hwx]; simp
  rw [hwx] at hw0 hb0 hr0 hq0
  have hwk := walked_c wx 0 K R A n c T (hT.below hb0) hm
  have hto := under_ok (op := sImage) (i := 0) (walkF_ok K R T)
  rw [hbad] at hto
  rw [hbad] at hwk
  dsimp only [under] at hwk
  unfold ruleV autoV at hwk
  have HWK := Lib.hid hwk
  have HWX := Lib.hid hwx
  have HTO := Lib.hid hto
  have HW0 := Lib.hid hw0
  have HB0 := Lib.hid hb0
  have HSX := Lib.hid hsx
  clear hwk hwx hto hw0 hb0 hsx hT hbad hr0 hq0
  unfold ruleV
  go_enter Tryz.func28, Tryz.ntmps28
  go_wp2_with fail
  rw [HWX.out]
  refine (HWK.out).mono ?_
  rintro e w1 ⟨C, cc, rows, N, A1, n1, c1, A2, n2, c2, rfl, _, hu, hb1⟩
  clear HWK
  have hs1 := hb1.size
  have hsx := HSX.out
  have hw1 := HW0.out.below hb1 (by omega)
  have hb12 := (Below.refl w1.heap.size w1).alloc (Nat.le_refl _) (.cells #[.int .i64 0, .slice C 0 cc] 50)
  have hE3 := WantAt.new (w1.alloc (.cells #[.int .i64 0, .slice C 0 cc] 50)) (.int .i64 (N : Int)) (.slice A1 n1 c1) (.slice A2 n2 c2)
  have hb23 := (Below.refl (w1.alloc (.cells #[.int .i64 0, .slice C 0 cc] 50)).heap.size (w1.alloc (.cells #[.int .i64 0, .slice C 0 cc] 50))).alloc (Nat.le_refl _) (.cells #[.int .i64 (N : Int), .slice A1 n1 c1, .slice A2 n2 c2] 34)
  have hb13 := hb12.trans (hb23.mono hb12.size)
  rw [World.size_alloc] at hE3
  obtain ⟨w3, hw3⟩ : ∃ w3, (w1.alloc (.cells #[.int .i64 0, .slice C 0 cc] 50)).alloc (.cells #[.int .i64 (N : Int), .slice A1 n1 c1, .slice A2 n2 c2] 34) = w3 := ⟨_, rfl⟩
  rw [hw3] at hE3 hb13
  have HUN := Lib.hid (errBad_c w3 N A1 n1 c1 A2 n2 c2)
  have hN := hu.num
  have ht := (HTO.out _ rfl).1
  have hNz : decide (N ≠ 0) = true := decide_eq_true (by simp only [tnum] at hN; simp only at ht; omega)
  rw [hNz] at HUN
  have HU3 := Lib.hid (hu.below hb13)
  obtain ⟨k2, k3, k4, _, _, _⟩ := hE3.facts
  have HW3 := Lib.hid (hw1.below hb13 (by omega))
  have HB3 := Lib.hid (HB0.out.trans ((hb1.trans (hb13.mono hb1.size)).mono HB0.out.size))
  have HQ3 := Lib.hid hw3
  have hz3 : w1.heap.size ≤ w3.heap.size := hb13.size
  obtain ⟨ga, hga⟩ : ∃ ga, w1.heap.size = ga := ⟨_, rfl⟩
  have hga1 : w.heap.size + 3 ≤ ga := by omega
  rw [hga] at k2 k3 k4 hz3
  have HGA := Lib.hid hga
  clear hu hb13 hb12 hb23 hE3 hw3 hN ht hNz hw1 hs1 hsx hb1 hga
  go_wp2_with fail
  rw [HQ3.out, HGA.out]
  refine (HUN.out).mono ?_
  rintro e w5 ⟨rfl, hb5⟩
  have x2 := cell_later hb5 k2
  have x3 := cell_later hb5 k3
  have x4 := cell_later hb5 k4
  obtain ⟨d0, d1, d2, f0, f1, f2⟩ := (HW3.out.below hb5 (by omega)).facts
  have HU := Lib.hid (((HU3.out.below hb5.drew).set3 (g := w.heap.size + 2) (by have := HSX.out; omega) (.int .i64 (N : Int)) (.slice A1 n1 c1) (.slice A2 n2 c2)).base (base' := w.heap.size) (by have := HSX.out; omega))
  have HB := Lib.hid (below_set3 (HB3.out.trans (hb5.drew.mono HB3.out.size)) (show w.heap.size ≤ w.heap.size + 2 by omega) (.int .i64 (N : Int)) (.slice A1 n1 c1) (.slice A2 n2 c2))
  clear k2 k3 k4 hb5
  go_wp2_with fail
  go_still_tail 2, (by kernel_rfl)
  change wpList _ _ _ _ _ (World.drew w5)
  go_wp2_with fail
  exact bodyPost_ret (v := .tuple #[.bool false, .agg #[.int .i64 (N : Int), .slice A1 n1 c1, .slice A2 n2 c2]]) (by simp [results, Tryz.results28, go_sem, d0, d1, d2]) rfl ⟨N, A1, n1, c1, A2, n2, c2, rfl, HU.out, HB.out⟩

set_option maxRecDepth 100000 in
set_option maxHeartbeats 2000000 in
theorem refSame_bad2 (w : World) (k r : Nat) (A : Option Addr) (n c : Nat) (t : List Nat) (hT : Sl w A n ((ints t).map (Value.int .i64))) (hm : n ≤ 9223372036854775807) (hr : IsRule k r t) (h256 : t.length ≤ 256) (S : St) (h : fin k (k ^ (2 * r)) t false = .go S [])
    (K2 R2 : Int) (B : Option Addr) (m d : Nat) (T2 : List Int) (hT2 : Sl w B m (T2.map (Value.int .i64))) (hm2 : m ≤ 9223372036854775807) (tl : Tale) (hbad : walkF K2 R2 T2 = (0, [], [], some tl)) :
    Calls Tryz.prog 28 #[ruleV (k : Int) (r : Int) A n c, ruleV K2 R2 B m d] w fun e w' => ∃ (N : Nat) (A1 : Option Addr) (n1 c1 : Nat) (A2 : Option Addr) (n2 c2 : Nat),
      e = .returned (.tuple #[.bool false, .agg #[.int .i64 (N : Int), .slice A1 n1 c1, .slice A2 n2 c2]]) ∧
      WantB w' w.heap.size (some (tl.1, (sImage, 1) :: tl.2)) (.agg #[.int .i64 (N : Int), .slice A1 n1 c1, .slice A2 n2 c2]) ∧ Below w.heap.size w w' := by
  have hb0 := (((Below.refl w.heap.size w).alloc (Nat.le_refl _) (.cells #[.int .i64 (k : Int), .int .i64 (r : Int), .slice A n c] 24)).alloc (by simp) (.cells #[.int .i64 K2, .int .i64 R2, .slice B m d] 24)).alloc (by simp; omega) (.cells #[.int .i64 0, .slice none 0 0, .slice none 0 0] 34)
  have hw0 := WantAt.new ((w.alloc (.cells #[.int .i64 (k : Int), .int .i64 (r : Int), .slice A n c] 24)).alloc (.cells #[.int .i64 K2, .int .i64 R2, .slice B m d] 24)) (.int .i64 0) (.slice none 0 0) (.slice none 0 0)
  rw [World.size_alloc, World.size_alloc] at hw0
  change WantAt _ (w.heap.size + 2) _ _ _ at hw0
  have hr0 := ((RuleAt.new w (.int .i64 (k : Int)) (.int .i64 (r : Int)) (.slice A n c)).alloc (.cells #[.int .i64 K2, .int .i64 R2, .slice B m d] 24)).alloc (.cells #[.int .i64 0, .slice none 0 0, .slice none 0 0] 34)
  have hq0 := (RuleAt.new (w.alloc (.cells #[.int .i64 (k : Int), .int .i64 (r : Int), .slice A n c] 24)) (.int .i64 K2) (.int .i64 R2) (.slice B m d)).alloc (.cells #[.int .i64 0, .slice none 0 0, .slice none 0 0] 34)
  rw [World.size_alloc] at hq0
  obtain ⟨wx, hwx⟩ : ∃ wx, ((w.alloc (.cells #[.int .i64 (k : Int), .int .i64 (r : Int), .slice A n c] 24)).alloc (.cells #[.int .i64 K2, .int .i64 R2, .slice B m d] 24)).alloc (.cells #[.int .i64 0, .slice none 0 0, .slice none 0 0] 34) = wx := ⟨_, rfl⟩
  have hsx : wx.heap.size = w.heap.size + 3 := by rw [← hwx]; simp
  rw [hwx] at hw0 hb0 hr0 hq0
  have hwk := walked_c wx 0 (k : Int) (r : Int) A n c (ints t) (hT.below hb0) hm
  rw [walkF_good hr h256 h] at hwk
  dsimp only [under] at hwk
  have hN0 : 0 < k ^ (2 * r) := Nat.pow_pos hr.k1
  have hnl := (fin_inv hN0 h).2.1
  have hbg := (fin_ok hN0 h).2
  have hau := (fin_rows hN0 h).auto
  have hbg2 : S.next.length ≤ 4096 := by omega
  obtain ⟨L, hL⟩ : ∃ L, S.next = L := ⟨_, rfl⟩
  rw [hL] at hwk hau hbg2
  obtain ⟨l1, hl1⟩ : ∃ l1, L.length = l1 := ⟨_, rfl⟩
  rw [hl1] at hwk hbg2
  have HAU := Lib.hid hau
  have HL1 := Lib.hid hl1
  have HLL := Lib.hid hL
  have HBG := Lib.hid hbg2
  have HK := Lib.hid (⟨hr.k1, hr.k4⟩ : _ ∧ _)
  unfold ruleV autoV at hwk
  have HWK := Lib.hid hwk
  have HWX := Lib.hid hwx
  have HW0 := Lib.hid hw0
  have HR0 := Lib.hid hr0
  have HQ0 := Lib.hid hq0
  have HB0 := Lib.hid hb0
  have HSX := Lib.hid hsx
  have HT2 := Lib.hid (fun (wz : World) (hz : Below w.heap.size w wz) => hT2.below hz)
  clear hwk hwx hw0 hr0 hq0 hb0 hsx hT hT2 hr h256 h hN0 hnl hbg hau hL hl1 hbg2
  unfold ruleV
  go_enter Tryz.func28, Tryz.ntmps28
  go_wp2_with fail
  rw [HWX.out]
  refine (HWK.out).mono ?_
  rintro e w1 ⟨C, cc, rows, Nz, A1, n1, c1, A2, n2, c2, rfl, hR, hu, hb1⟩
  have hz : Value.agg #[.int .i64 (Nz : Int), .slice A1 n1 c1, .slice A2 n2 c2] = .agg #[.int .i64 0, .slice none 0 0, .slice none 0 0] := hu.none_eq
  rw [hz]
  clear HWK hz hu
  have hs1 := hb1.size
  have hsx := HSX.out
  have hw1 := HW0.out.below hb1 (by omega)
  have hr1 := HR0.out.below hb1 (by omega)
  have hq1 := HQ0.out.below hb1 (by omega)
  have hb12 := (Below.refl w1.heap.size w1).alloc (Nat.le_refl _) (.cells #[.int .i64 (k : Int), .slice C l1 cc] 50)
  have hb23 := (Below.refl (w1.alloc (.cells #[.int .i64 (k : Int), .slice C l1 cc] 50)).heap.size (w1.alloc (.cells #[.int .i64 (k : Int), .slice C l1 cc] 50))).alloc (Nat.le_refl _) (.cells #[.int .i64 0, .slice none 0 0, .slice none 0 0] 34)
  have hA2 := heap_new w1 (.cells #[.int .i64 (k : Int), .slice C l1 cc] 50)
  have hA3 : AutoAt _ w1.heap.size (.int .i64 (k : Int)) (.slice C l1 cc) := (show AutoAt _ w1.heap.size (.int .i64 (k : Int)) (.slice C l1 cc) from hA2).below hb23 (by simp)
  have hE3 := WantAt.new (w1.alloc (.cells #[.int .i64 (k : Int), .slice C l1 cc] 50)) (.int .i64 0) (.slice none 0 0) (.slice none 0 0)
  rw [World.size_alloc] at hE3
  have hb13 := hb12.trans (hb23.mono hb12.size)
  obtain ⟨w3, hw3⟩ : ∃ w3, (w1.alloc (.cells #[.int .i64 (k : Int), .slice C l1 cc] 50)).alloc (.cells #[.int .i64 0, .slice none 0 0, .slice none 0 0] 34) = w3 := ⟨_, rfl⟩
  rw [hw3] at hA3 hb13 hE3
  have hbd : Calls Tryz.prog 40 #[.agg #[.int .i64 0, .slice none 0 0, .slice none 0 0]] w3 fun e w' => e = .returned (.bool false) ∧ Below w3.heap.size w3 w' := errBad_c w3 0 none 0 0 none 0 0
  have HUN := Lib.hid hbd
  clear hbd
  have HLI : Hid (ListAt w3 C l1 L) := Lib.hid (by
    have h1 : RowsAt w1 wx.heap.size (.slice C L.length cc) rows L (fun _ => False) := by rw [HL1.out]; exact hR
    have h2 := h1.list.keep hb13
    rwa [HL1.out] at h2)
  have HRW : Hid (RowsAt w3 wx.heap.size (.slice C L.length cc) rows L (fun _ => False)) := Lib.hid (by
    have h1 : RowsAt w1 wx.heap.size (.slice C L.length cc) rows L (fun _ => False) := by rw [HL1.out]; exact hR
    exact h1.pure hb13)
  have HA3 := Lib.hid hA3
  have HE3 := Lib.hid hE3
  have HW3 := Lib.hid (hw1.below hb13 (by omega))
  have HR3 := Lib.hid (hr1.below hb13 (by omega))
  have HQR3 := Lib.hid (hq1.below hb13 (by omega))
  have HB3 := Lib.hid (HB0.out.trans ((hb1.trans (hb13.mono hb1.size)).mono HB0.out.size))
  have HQ3 := Lib.hid hw3
  have hga1 : w.heap.size + 3 ≤ w1.heap.size := by omega
  have hga3 : w1.heap.size + 1 < w3.heap.size := hE3.lt
  clear hb13 hb12 hb23 hA2 hA3 hR hw3 hw1 hr1 hq1 hs1 hsx hb1 hE3
  go_wp2_with fail
  rw [HQ3.out]
  refine (HUN.out).mono ?_
  rintro e w5 ⟨rfl, hb5⟩
  have HB5 := Lib.hid (HB3.out.trans (hb5.mono HB3.out.size))
  have HLI5 := Lib.hid (HLI.out.keep hb5)
  have HRW5 := Lib.hid (HRW.out.pure hb5)
  have HA5 := Lib.hid (HA3.out.below hb5 (by omega))
  have HE5 := Lib.hid (HE3.out.below hb5 (by omega))
  have HW5 := Lib.hid (HW3.out.below hb5 (by omega))
  have HR5 := Lib.hid (HR3.out.below hb5 (by omega))
  have HQR5 := Lib.hid (HQR3.out.below hb5 (by omega))
  have hs35 := hb5.size
  have hga5 : w1.heap.size + 1 < w5.heap.size := by omega
  obtain ⟨q0, q1, q2, _⟩ := HQR5.out.facts
  have ql := HQR5.out.lt
  clear hb5 HLI HA3 HW3 HR3 HQR3 HB3 HUN HE3
  have hwk2 := walked_c w5 1 K2 R2 B m d T2 (HT2.out _ HB5.out) hm2
  have hto := under_ok (op := sImage) (i := 1) (walkF_ok K2 R2 T2)
  rw [hbad] at hto hwk2
  dsimp only [under] at hwk2
  unfold ruleV autoV at hwk2
  have HWK2 := Lib.hid hwk2
  have HTO := Lib.hid hto
  clear hwk2 hto hbad
  go_wp2_with fail
  refine (HWK2.out).mono ?_
  rintro e w6 ⟨C6, cc6, rows6, N, A6, n6, c6, B6, m6, d6, rfl, _, hu, hb6⟩
  clear HWK2
  have hE6 := HE5.out.below hb6 (by omega)
  have hW6 := HW5.out.below hb6 (by omega)
  obtain ⟨u0, u1, u2, g0, g1, g2⟩ := hE6.facts
  have ul := hE6.lt
  have hE7 := (hE6.set3 (.int .i64 (N : Int)) (.slice A6 n6 c6) (.slice B6 m6 d6)).alloc (.cells #[.int .i64 0, .slice C6 0 cc6] 50)
  have hW7 := (hW6.keeps (keeps_set3 w6 (w1.heap.size + 1) (.int .i64 (N : Int)) (.slice A6 n6 c6) (.slice B6 m6 d6)) (by intro e; have e : w.heap.size + 2 = w1.heap.size + 1 := e; omega)).alloc (.cells #[.int .i64 0, .slice C6 0 cc6] 50)
  have hu7 := (hu.set3 (g := w1.heap.size + 1) (by omega) (.int .i64 (N : Int)) (.slice A6 n6 c6) (.slice B6 m6 d6)).below ((Below.refl _ _).alloc (Nat.le_refl _) (.cells #[.int .i64 0, .slice C6 0 cc6] 50))
  have hb7 := (below_set3 (HB5.out.trans (hb6.mono HB5.out.size)) (show w.heap.size ≤ w1.heap.size + 1 by omega) (.int .i64 (N : Int)) (.slice A6 n6 c6) (.slice B6 m6 d6)).alloc (by simp; have := HB5.out.size; have := hb6.size; omega) (.cells #[.int .i64 0, .slice C6 0 cc6] 50)
  obtain ⟨w7, hw7⟩ : ∃ w7, ((((w6.setCell ⟨w1.heap.size + 1, 0, none⟩ (.int .i64 (N : Int))).setCell ⟨w1.heap.size + 1, 1, none⟩ (.slice A6 n6 c6)).setCell ⟨w1.heap.size + 1, 2, none⟩ (.slice B6 m6 d6)).alloc (.cells #[.int .i64 0, .slice C6 0 cc6] 50)) = w7 := ⟨_, rfl⟩
  rw [hw7] at hE7 hW7 hu7 hb7
  have HW7 := Lib.hid hw7
  have HUN := Lib.hid (errBad_c w7 N A6 n6 c6 B6 m6 d6)
  have hN := hu.num
  have ht := (HTO.out _ rfl).1
  have hNz : decide (N ≠ 0) = true := decide_eq_true (by simp only [tnum] at hN; simp only at ht; omega)
  rw [hNz] at HUN
  have HE7 := Lib.hid hE7
  have HWW7 := Lib.hid hW7
  have HU7 := Lib.hid hu7
  have HB7 := Lib.hid hb7
  have hz67 : w6.heap.size < w7.heap.size := by rw [← hw7]; simp
  have hz56 := hb6.size
  clear hE6 hW6 hE7 hW7 hu7 hb7 hw7 hN ht hNz hu q0 q1 q2 ql hb6
  go_wp2_with fail
  rw [HW7.out]
  refine (HUN.out).mono ?_
  rintro e w9 ⟨rfl, hb9⟩
  obtain ⟨x0, x1, x2, _⟩ := (HE7.out.below hb9 HE7.out.lt).facts
  obtain ⟨d0, d1, d2, f0, f1, f2⟩ := (HWW7.out.below hb9 HWW7.out.lt).facts
  have HU := Lib.hid (((HU7.out.below hb9.drew).set3 (g := w.heap.size + 2) (by omega) (.int .i64 (N : Int)) (.slice A6 n6 c6) (.slice B6 m6 d6)).base (base' := w.heap.size) (by have := HB5.out.size; omega))
  have HB := Lib.hid (below_set3 (HB7.out.trans (hb9.drew.mono HB7.out.size)) (show w.heap.size ≤ w.heap.size + 2 by omega) (.int .i64 (N : Int)) (.slice A6 n6 c6) (.slice B6 m6 d6))
  clear hb9 u0 u1 u2 g0 g1 g2
  go_wp2_with fail
  go_still_tail 2, (by kernel_rfl)
  change wpList _ _ _ _ _ (World.drew w9)
  go_wp2_with fail
  exact bodyPost_ret (v := .tuple #[.bool false, .agg #[.int .i64 (N : Int), .slice A6 n6 c6, .slice B6 m6 d6]]) (by simp [results, Tryz.results28, go_sem, d0, d1, d2]) rfl ⟨N, A6, n6, c6, B6, m6, d6, rfl, HU.out, HB.out⟩

set_option maxRecDepth 100000 in
set_option maxHeartbeats 4000000 in
theorem refSame_good (w : World) (k r : Nat) (A : Option Addr) (n c : Nat) (t : List Nat) (hT : Sl w A n ((ints t).map (Value.int .i64))) (hm : n ≤ 9223372036854775807) (hr : IsRule k r t) (h256 : t.length ≤ 256) (S : St) (h : fin k (k ^ (2 * r)) t false = .go S [])
    (k' r' : Nat) (B : Option Addr) (m d : Nat) (t' : List Nat) (hT2 : Sl w B m ((ints t').map (Value.int .i64))) (hm2 : m ≤ 9223372036854775807) (hr' : IsRule k' r' t') (h256' : t'.length ≤ 256) (S' : St) (h' : fin k' (k' ^ (2 * r')) t' false = .go S' []) :
    Calls Tryz.prog 28 #[ruleV (k : Int) (r : Int) A n c, ruleV (k' : Int) (r' : Int) B m d] w fun e w' => ∃ (N : Nat) (A1 : Option Addr) (n1 c1 : Nat) (A2 : Option Addr) (n2 c2 : Nat),
      e = .returned (.tuple #[.bool (decide (k = k' ∧ leastA k S.next = leastA k' S'.next)), .agg #[.int .i64 (N : Int), .slice A1 n1 c1, .slice A2 n2 c2]]) ∧
      WantB w' w.heap.size none (.agg #[.int .i64 (N : Int), .slice A1 n1 c1, .slice A2 n2 c2]) ∧ Below w.heap.size w w' := by
  have hb0 := (((Below.refl w.heap.size w).alloc (Nat.le_refl _) (.cells #[.int .i64 (k : Int), .int .i64 (r : Int), .slice A n c] 24)).alloc (by simp) (.cells #[.int .i64 (k' : Int), .int .i64 (r' : Int), .slice B m d] 24)).alloc (by simp; omega) (.cells #[.int .i64 0, .slice none 0 0, .slice none 0 0] 34)
  have hw0 := WantAt.new ((w.alloc (.cells #[.int .i64 (k : Int), .int .i64 (r : Int), .slice A n c] 24)).alloc (.cells #[.int .i64 (k' : Int), .int .i64 (r' : Int), .slice B m d] 24)) (.int .i64 0) (.slice none 0 0) (.slice none 0 0)
  rw [World.size_alloc, World.size_alloc] at hw0
  change WantAt _ (w.heap.size + 2) _ _ _ at hw0
  have hr0 := ((RuleAt.new w (.int .i64 (k : Int)) (.int .i64 (r : Int)) (.slice A n c)).alloc (.cells #[.int .i64 (k' : Int), .int .i64 (r' : Int), .slice B m d] 24)).alloc (.cells #[.int .i64 0, .slice none 0 0, .slice none 0 0] 34)
  have hq0 := (RuleAt.new (w.alloc (.cells #[.int .i64 (k : Int), .int .i64 (r : Int), .slice A n c] 24)) (.int .i64 (k' : Int)) (.int .i64 (r' : Int)) (.slice B m d)).alloc (.cells #[.int .i64 0, .slice none 0 0, .slice none 0 0] 34)
  rw [World.size_alloc] at hq0
  obtain ⟨wx, hwx⟩ : ∃ wx, ((w.alloc (.cells #[.int .i64 (k : Int), .int .i64 (r : Int), .slice A n c] 24)).alloc (.cells #[.int .i64 (k' : Int), .int .i64 (r' : Int), .slice B m d] 24)).alloc (.cells #[.int .i64 0, .slice none 0 0, .slice none 0 0] 34) = wx := ⟨_, rfl⟩
  have hsx : wx.heap.size = w.heap.size + 3 := by rw [← hwx]; simp
  rw [hwx] at hw0 hb0 hr0 hq0
  obtain ⟨bb, hbb⟩ : ∃ bb, decide (k = k' ∧ leastA k S.next = leastA k' S'.next) = bb := ⟨_, rfl⟩
  rw [hbb]
  have HBB := Lib.hid hbb
  clear hbb
  have hwk := walked_c wx 0 (k : Int) (r : Int) A n c (ints t) (hT.below hb0) hm
  rw [walkF_good hr h256 h] at hwk
  dsimp only [under] at hwk
  have hN0 : 0 < k ^ (2 * r) := Nat.pow_pos hr.k1
  have hnl := (fin_inv hN0 h).2.1
  have hbg := (fin_ok hN0 h).2
  have hau := (fin_rows hN0 h).auto
  have hbg2 : S.next.length ≤ 4096 := by omega
  obtain ⟨L, hL⟩ : ∃ L, S.next = L := ⟨_, rfl⟩
  rw [hL] at hwk hau hbg2
  obtain ⟨l1, hl1⟩ : ∃ l1, L.length = l1 := ⟨_, rfl⟩
  rw [hl1] at hwk hbg2
  have HAU := Lib.hid hau
  have HL1 := Lib.hid hl1
  have HLL := Lib.hid hL
  have HBG := Lib.hid hbg2
  have HK := Lib.hid (⟨hr.k1, hr.k4⟩ : _ ∧ _)
  unfold ruleV autoV at hwk
  have HWK := Lib.hid hwk
  have HWX := Lib.hid hwx
  have HW0 := Lib.hid hw0
  have HR0 := Lib.hid hr0
  have HQ0 := Lib.hid hq0
  have HB0 := Lib.hid hb0
  have HSX := Lib.hid hsx
  have HT2 := Lib.hid (fun (wz : World) (hz : Below w.heap.size w wz) => hT2.below hz)
  clear hwk hwx hw0 hr0 hq0 hb0 hsx hT hT2 hr h256 h hN0 hnl hbg hau hL hl1 hbg2
  unfold ruleV
  go_enter Tryz.func28, Tryz.ntmps28
  go_wp2_with fail
  rw [HWX.out]
  refine (HWK.out).mono ?_
  rintro e w1 ⟨C, cc, rows, Nz, A1, n1, c1, A2, n2, c2, rfl, hR, hu, hb1⟩
  have hz : Value.agg #[.int .i64 (Nz : Int), .slice A1 n1 c1, .slice A2 n2 c2] = .agg #[.int .i64 0, .slice none 0 0, .slice none 0 0] := hu.none_eq
  rw [hz]
  clear HWK hz hu
  have hs1 := hb1.size
  have hsx := HSX.out
  have hw1 := HW0.out.below hb1 (by omega)
  have hr1 := HR0.out.below hb1 (by omega)
  have hq1 := HQ0.out.below hb1 (by omega)
  have hb12 := (Below.refl w1.heap.size w1).alloc (Nat.le_refl _) (.cells #[.int .i64 (k : Int), .slice C l1 cc] 50)
  have hb23 := (Below.refl (w1.alloc (.cells #[.int .i64 (k : Int), .slice C l1 cc] 50)).heap.size (w1.alloc (.cells #[.int .i64 (k : Int), .slice C l1 cc] 50))).alloc (Nat.le_refl _) (.cells #[.int .i64 0, .slice none 0 0, .slice none 0 0] 34)
  have hA2 := heap_new w1 (.cells #[.int .i64 (k : Int), .slice C l1 cc] 50)
  have hA3 : AutoAt _ w1.heap.size (.int .i64 (k : Int)) (.slice C l1 cc) := (show AutoAt _ w1.heap.size (.int .i64 (k : Int)) (.slice C l1 cc) from hA2).below hb23 (by simp)
  have hE3 := WantAt.new (w1.alloc (.cells #[.int .i64 (k : Int), .slice C l1 cc] 50)) (.int .i64 0) (.slice none 0 0) (.slice none 0 0)
  rw [World.size_alloc] at hE3
  have hb13 := hb12.trans (hb23.mono hb12.size)
  obtain ⟨w3, hw3⟩ : ∃ w3, (w1.alloc (.cells #[.int .i64 (k : Int), .slice C l1 cc] 50)).alloc (.cells #[.int .i64 0, .slice none 0 0, .slice none 0 0] 34) = w3 := ⟨_, rfl⟩
  rw [hw3] at hA3 hb13 hE3
  have hbd : Calls Tryz.prog 40 #[.agg #[.int .i64 0, .slice none 0 0, .slice none 0 0]] w3 fun e w' => e = .returned (.bool false) ∧ Below w3.heap.size w3 w' := errBad_c w3 0 none 0 0 none 0 0
  have HUN := Lib.hid hbd
  clear hbd
  have HLI : Hid (ListAt w3 C l1 L) := Lib.hid (by
    have h1 : RowsAt w1 wx.heap.size (.slice C L.length cc) rows L (fun _ => False) := by rw [HL1.out]; exact hR
    have h2 := h1.list.keep hb13
    rwa [HL1.out] at h2)
  have HRW : Hid (RowsAt w3 wx.heap.size (.slice C L.length cc) rows L (fun _ => False)) := Lib.hid (by
    have h1 : RowsAt w1 wx.heap.size (.slice C L.length cc) rows L (fun _ => False) := by rw [HL1.out]; exact hR
    exact h1.pure hb13)
  have HA3 := Lib.hid hA3
  have HE3 := Lib.hid hE3
  have HW3 := Lib.hid (hw1.below hb13 (by omega))
  have HR3 := Lib.hid (hr1.below hb13 (by omega))
  have HQR3 := Lib.hid (hq1.below hb13 (by omega))
  have HB3 := Lib.hid (HB0.out.trans ((hb1.trans (hb13.mono hb1.size)).mono HB0.out.size))
  have HQ3 := Lib.hid hw3
  have hga1 : w.heap.size + 3 ≤ w1.heap.size := by omega
  have hga3 : w1.heap.size + 1 < w3.heap.size := hE3.lt
  clear hb13 hb12 hb23 hA2 hA3 hR hw3 hw1 hr1 hq1 hs1 hsx hb1 hE3
  go_wp2_with fail
  rw [HQ3.out]
  refine (HUN.out).mono ?_
  rintro e w5 ⟨rfl, hb5⟩
  have HB5 := Lib.hid (HB3.out.trans (hb5.mono HB3.out.size))
  have HLI5 := Lib.hid (HLI.out.keep hb5)
  have HRW5 := Lib.hid (HRW.out.pure hb5)
  have HA5 := Lib.hid (HA3.out.below hb5 (by omega))
  have HE5 := Lib.hid (HE3.out.below hb5 (by omega))
  have HW5 := Lib.hid (HW3.out.below hb5 (by omega))
  have HR5 := Lib.hid (HR3.out.below hb5 (by omega))
  have HQR5 := Lib.hid (HQR3.out.below hb5 (by omega))
  have hs35 := hb5.size
  have hga5 : w1.heap.size + 1 < w5.heap.size := by omega
  obtain ⟨q0, q1, q2, _⟩ := HQR5.out.facts
  have ql := HQR5.out.lt
  clear hb5 HLI HA3 HW3 HR3 HQR3 HB3 HUN HE3
  have hwk2 := walked_c w5 1 (k' : Int) (r' : Int) B m d (ints t') (HT2.out _ HB5.out) hm2
  rw [walkF_good hr' h256' h'] at hwk2
  dsimp only [under] at hwk2
  have hN0 : 0 < k' ^ (2 * r') := Nat.pow_pos hr'.k1
  have hnl := (fin_inv hN0 h').2.1
  have hbg := (fin_ok hN0 h').2
  have hau := (fin_rows hN0 h').auto
  have hbg2 : S'.next.length ≤ 4096 := by omega
  obtain ⟨L2, hL2⟩ : ∃ L2, S'.next = L2 := ⟨_, rfl⟩
  rw [hL2] at hwk2 hau hbg2
  obtain ⟨l2, hl2⟩ : ∃ l2, L2.length = l2 := ⟨_, rfl⟩
  rw [hl2] at hwk2 hbg2
  have HAU2 := Lib.hid hau
  have HL2 := Lib.hid hl2
  have HLL2 := Lib.hid hL2
  have HBG2 := Lib.hid hbg2
  have HK2 := Lib.hid (⟨hr'.k1, hr'.k4⟩ : _ ∧ _)
  unfold ruleV autoV at hwk2
  have HWK2 := Lib.hid hwk2
  clear hwk2 hN0 hnl hbg hau hL2 hl2 hbg2 hr' h256' h'
  go_wp2_with fail
  refine (HWK2.out).mono ?_
  rintro e w6 ⟨C6, cc6, rows6, N, A6, n6, c6, B6, m6, d6, rfl, hR6, hu, hb6⟩
  have hz : Value.agg #[.int .i64 (N : Int), .slice A6 n6 c6, .slice B6 m6 d6] = .agg #[.int .i64 0, .slice none 0 0, .slice none 0 0] := hu.none_eq
  rw [hz]
  clear HWK2 hz hu
  have hE6 := HE5.out.below hb6 (by omega)
  have hW6 := HW5.out.below hb6 (by omega)
  have hA6 := HA5.out.below hb6 (by omega)
  have hr6 := HR5.out.below hb6 (by omega)
  have hq6 := HQR5.out.below hb6 (by omega)
  obtain ⟨u0, u1, u2, g0, g1, g2⟩ := hE6.facts
  have ul := hE6.lt
  have hk7 := keeps_set3 w6 (w1.heap.size + 1) (.int .i64 0) (.slice none 0 0) (.slice none 0 0)
  have HW7 := Lib.hid ((hW6.keeps hk7 (by intro e; have e : w.heap.size + 2 = w1.heap.size + 1 := e; omega)).alloc (.cells #[.int .i64 (k' : Int), .slice C6 l2 cc6] 50))
  have hA7 : AutoAt ((((w6.setCell ⟨w1.heap.size + 1, 0, none⟩ (.int .i64 0)).setCell ⟨w1.heap.size + 1, 1, none⟩ (.slice none 0 0)).setCell ⟨w1.heap.size + 1, 2, none⟩ (.slice none 0 0)).alloc (.cells #[.int .i64 (k' : Int), .slice C6 l2 cc6] 50)) w1.heap.size (.int .i64 (k : Int)) (.slice C l1 cc) :=
    (Below.heap_alloc _ _ _ (by simp; omega)).trans ((hk7.block w1.heap.size (by omega) (by intro e; have e : w1.heap.size = w1.heap.size + 1 := e; omega)).trans hA6)
  have hX7 : AutoAt ((((w6.setCell ⟨w1.heap.size + 1, 0, none⟩ (.int .i64 0)).setCell ⟨w1.heap.size + 1, 1, none⟩ (.slice none 0 0)).setCell ⟨w1.heap.size + 1, 2, none⟩ (.slice none 0 0)).alloc (.cells #[.int .i64 (k' : Int), .slice C6 l2 cc6] 50)) w6.heap.size (.int .i64 (k' : Int)) (.slice C6 l2 cc6) := by
    have := heap_new (((w6.setCell ⟨w1.heap.size + 1, 0, none⟩ (.int .i64 0)).setCell ⟨w1.heap.size + 1, 1, none⟩ (.slice none 0 0)).setCell ⟨w1.heap.size + 1, 2, none⟩ (.slice none 0 0)) (.cells #[.int .i64 (k' : Int), .slice C6 l2 cc6] 50)
    unfold AutoAt
    simpa using this
  have hr7 := (hr6.keeps hk7 (by intro e; have e : w.heap.size = w1.heap.size + 1 := e; omega)).alloc (.cells #[.int .i64 (k' : Int), .slice C6 l2 cc6] 50)
  have hq7 := (hq6.keeps hk7 (by intro e; have e : w.heap.size + 1 = w1.heap.size + 1 := e; omega)).alloc (.cells #[.int .i64 (k' : Int), .slice C6 l2 cc6] 50)
  have hE7 := (hE6.set3 (.int .i64 0) (.slice none 0 0) (.slice none 0 0)).alloc (.cells #[.int .i64 (k' : Int), .slice C6 l2 cc6] 50)
  have hblk : ∀ b, b = w1.heap.size + 1 → w6.heap[b]? = some (.cells #[.int .i64 0, .slice none 0 0, .slice none 0 0] 34 (0, 0)) := fun b e => by rw [e]; exact hE6
  have hli5 : RowsAt w6 w5.heap.size (.slice C6 L2.length cc6) rows6 L2 (fun _ => False) := by rw [HL2.out]; exact hR6
  have hli7 := (hli5.keeps hk7 (fun b hb => hli5.not_lst (hblk b hb) (by decide)) (fun b hb => hli5.not_el (hblk b hb) (by decide))).list.keep ((Below.refl _ _).alloc (Nat.le_refl _) (.cells #[.int .i64 (k' : Int), .slice C6 l2 cc6] 50))
  have hlj5 := HRW5.out.pure hb6
  have hlj7 := (hlj5.keeps hk7 (fun b hb => hlj5.not_lst (hblk b hb) (by decide)) (fun b hb => hlj5.not_el (hblk b hb) (by decide))).list.keep ((Below.refl _ _).alloc (Nat.le_refl _) (.cells #[.int .i64 (k' : Int), .slice C6 l2 cc6] 50))
  have hb7 := (below_set3 (HB5.out.trans (hb6.mono HB5.out.size)) (show w.heap.size ≤ w1.heap.size + 1 by omega) (.int .i64 0) (.slice none 0 0) (.slice none 0 0)).alloc (by simp; have := HB5.out.size; have := hb6.size; omega) (.cells #[.int .i64 (k' : Int), .slice C6 l2 cc6] 50)
  obtain ⟨w7, hw7⟩ : ∃ w7, ((((w6.setCell ⟨w1.heap.size + 1, 0, none⟩ (.int .i64 0)).setCell ⟨w1.heap.size + 1, 1, none⟩ (.slice none 0 0)).setCell ⟨w1.heap.size + 1, 2, none⟩ (.slice none 0 0)).alloc (.cells #[.int .i64 (k' : Int), .slice C6 l2 cc6] 50)) = w7 := ⟨_, rfl⟩
  rw [hw7] at hA7 hX7 hr7 hq7 hE7 hli7 hlj7 hb7 HW7
  rw [HL1.out] at hlj7
  rw [HL2.out] at hli7
  have hbd : Calls Tryz.prog 40 #[.agg #[.int .i64 0, .slice none 0 0, .slice none 0 0]] w7 fun e w' => e = .returned (.bool false) ∧ Below w7.heap.size w7 w' := errBad_c w7 0 none 0 0 none 0 0
  have HUN := Lib.hid hbd
  have HA7 := Lib.hid hA7
  have HX7 := Lib.hid hX7
  have HR7 := Lib.hid hr7
  have HQ7 := Lib.hid hq7
  have HE7 := Lib.hid hE7
  have HLI7 := Lib.hid hli7
  have HLJ7 := Lib.hid hlj7
  have HB7 := Lib.hid hb7
  have HW77 := Lib.hid hw7
  clear hblk hbd hA7 hX7 hr7 hq7 hE7 hli7 hlj7 hb7 hw7 hli5 hlj5 hk7 hE6 hW6 hA6 hr6 hq6 hR6 q0 q1 q2 ql
  go_wp2_with fail
  rw [HW77.out]
  refine (HUN.out).mono ?_
  rintro e w9 ⟨rfl, hb9⟩
  have hA9 := HA7.out.below hb9 (Array.getElem?_eq_some_iff.1 HA7.out).1
  have hX9 := HX7.out.below hb9 (Array.getElem?_eq_some_iff.1 HX7.out).1
  have HB9 := Lib.hid (HB7.out.trans (hb9.mono HB7.out.size))
  have HW9 := Lib.hid (HW7.out.below hb9 HW7.out.lt)
  obtain ⟨a0, a1, _, _⟩ := hA9.facts
  obtain ⟨x0, x1, _, _⟩ := hX9.facts
  obtain ⟨r0, r1, r2, _⟩ := (HR7.out.below hb9 HR7.out.lt).facts
  obtain ⟨q0, q1, q2, _⟩ := (HQ7.out.below hb9 HQ7.out.lt).facts
  have HLI9 := Lib.hid (HLI7.out.keep hb9)
  have HLJ9 := Lib.hid (HLJ7.out.keep hb9)
  have hbb := HBB.out
  rw [HLL.out, HLL2.out] at hbb
  have hsz9 : w.heap.size + 2 < w9.heap.size := HW9.out.lt
  obtain ⟨d0, d1, d2, f0, f1, f2⟩ := HW9.out.facts
  clear u0 u1 u2 g0 g1 g2 hb9 hA9 hX9
  by_cases hkk : k = k'
  · subst hkk
    have hkeq : ((k : Int) == (k : Int)) = true := by simp
    have hbd : decide (leastA k L = leastA k L2) = bb := by rw [← hbb]; simp
    have HF1 := Lib.hid (fun (wz : World) (hz : Below w9.heap.size w9 wz) => (by
      have h := fold_c classes_c wz k l1 cc C L HL1.out HAU.out (HLJ9.out.keep hz) HK.out.1 HK.out.2 HBG.out
      unfold autoV at h
      exact h : Calls Tryz.prog 49 #[.agg #[.int .i64 (k : Int), .slice C l1 cc]] wz fun e w' => ∃ (nv : Value) (nr : List Value), e = .returned (.agg #[.int .i64 (k : Int), nv]) ∧ RowsAt w' wz.heap.size nv nr (leastA k L) (fun _ => False) ∧ Below wz.heap.size wz w'))
    have HF2 := Lib.hid (fun (wz : World) (hz : Below w9.heap.size w9 wz) => (by
      have h := fold_c classes_c wz k l2 cc6 C6 L2 HL2.out HAU2.out (HLI9.out.keep hz) HK2.out.1 HK2.out.2 HBG2.out
      unfold autoV at h
      exact h : Calls Tryz.prog 49 #[.agg #[.int .i64 (k : Int), .slice C6 l2 cc6]] wz fun e w' => ∃ (nv : Value) (nr : List Value), e = .returned (.agg #[.int .i64 (k : Int), nv]) ∧ RowsAt w' wz.heap.size nv nr (leastA k L2) (fun _ => False) ∧ Below wz.heap.size wz w'))
    have HAC := Lib.hid (fun (wz : World) (P1 P2 : Option Addr) (n1 n2 c1 c2 : Nat) (h1 : ListAt wz P1 n1 (leastA k L)) (h2 : ListAt wz P2 n2 (leastA k L2)) (m1 : n1 ≤ 9223372036854775807) (m2 : n2 ≤ 9223372036854775807) => (by
      have h := autos_k wz (k : Int) P1 P2 n1 n2 c1 c2 _ _ h1 h2 m1 m2
      rw [hbd] at h
      unfold autoV at h
      exact h : Calls Tryz.prog 22 #[.agg #[.int .i64 (k : Int), .slice P1 n1 c1], .agg #[.int .i64 (k : Int), .slice P2 n2 c2]] wz fun e w' => e = .returned (.bool bb) ∧ Below wz.heap.size wz w'))
    clear hbb hbd
    go_wp2_with fail
    have hdr := (Below.refl w9.heap.size w9).drew
    have l1m : (leastA k L).length ≤ 9223372036854775807 := by have h1 := least_le HAU.out; have h2 := HL1.out; have h3 := HBG.out; omega
    have l2m : (leastA k L2).length ≤ 9223372036854775807 := by have h1 := least_le HAU2.out; have h2 := HL2.out; have h3 := HBG2.out; omega
    go_region_with (first
      | (go_at_call 49; refine (HF1.out _ hdr).mono ?_; rintro e v1 ⟨nv1, nr1, rfl, hRa, hva⟩; obtain ⟨P1, p1, rfl, _, _⟩ := own_slice hRa.lst; have z1 := pure_trans hdr hva; have y0 := cell_later z1 x0; have y1 := cell_later z1 x1; clear HF1)
      | (go_at_call 49; refine (HF2.out _ z1).mono ?_; rintro e v2 ⟨nv2, nr2, rfl, hRb, hvb⟩; obtain ⟨P2, p2, rfl, _, _⟩ := own_slice hRb.lst; have z2 := pure_trans z1 hvb; clear HF2)
      | (go_at_call 22; refine (HAC.out _ P1 P2 _ _ p1 p2 (hRa.list.keep hvb) hRb.list l1m l2m).mono ?_; rintro e v3 ⟨rfl, hvc⟩; have z3 := pure_trans z2 hvc; obtain ⟨d0, d1, d2, f0, f1, f2⟩ := (HW9.out.below z3 HW9.out.lt).facts))
    all_goals
      have HB := Lib.hid (below_set3 (HB9.out.trans (z3.mono HB9.out.size)) (show w.heap.size ≤ w.heap.size + 2 by omega) (.int .i64 0) (.slice none 0 0) (.slice none 0 0))
      clear hRa hRb hva hvb hvc z1 z2 z3 hdr y0 y1 a0 a1 x0 x1 r0 r1 r2 q0 q1 q2
      go_wp2_with fail
      exact bodyPost_ret (v := .tuple #[.bool bb, .agg #[.int .i64 0, .slice none 0 0, .slice none 0 0]]) (by simp [results, Tryz.results28, go_sem, d0, d1, d2]) rfl ⟨0, none, 0, 0, none, 0, 0, rfl, WantB.zero _ _, HB.out⟩
  · have hkeq : ((k : Int) == (k' : Int)) = false := by simp; omega
    obtain rfl : bb = false := by rw [← hbb]; exact decide_eq_false (fun h => hkk h.1)
    have hdr := (Below.refl w9.heap.size w9).drew
    have HB := Lib.hid (below_set3 (HB9.out.trans (hdr.mono HB9.out.size)) (show w.heap.size ≤ w.heap.size + 2 by omega) (.int .i64 0) (.slice none 0 0) (.slice none 0 0))
    have HB1 := Lib.hid (below_set3 HB9.out (show w.heap.size ≤ w.heap.size + 2 by omega) (.int .i64 0) (.slice none 0 0) (.slice none 0 0)).drew
    clear hbb hkk
    go_wp2_with fail
    go_region
    all_goals
      go_wp2_with fail
      first
      | exact bodyPost_ret (v := .tuple #[.bool false, .agg #[.int .i64 0, .slice none 0 0, .slice none 0 0]]) (by simp [results, Tryz.results28, go_sem, d0, d1, d2]) rfl ⟨0, none, 0, 0, none, 0, 0, rfl, WantB.zero _ _, HB.out⟩
      | exact bodyPost_ret (v := .tuple #[.bool false, .agg #[.int .i64 0, .slice none 0 0, .slice none 0 0]]) (by simp [results, Tryz.results28, go_sem, d0, d1, d2]) rfl ⟨0, none, 0, 0, none, 0, 0, rfl, WantB.zero _ _, HB1.out⟩
      | fail

theorem refSame_u (w : World) (K R : Int) (A : Option Addr) (n c : Nat) (T : List Int) (hT : Sl w A n (T.map (Value.int .i64))) (hm : n ≤ 9223372036854775807)
    (K2 R2 : Int) (B : Option Addr) (m d : Nat) (T2 : List Int) (hT2 : Sl w B m (T2.map (Value.int .i64))) (hm2 : m ≤ 9223372036854775807) :
    Calls Tryz.prog 28 #[ruleV K R A n c, ruleV K2 R2 B m d] w fun e w' => ∃ (N : Nat) (A1 : Option Addr) (n1 c1 : Nat) (A2 : Option Addr) (n2 c2 : Nat),
      e = .returned (.tuple #[.bool (sameF K R T K2 R2 T2).1, .agg #[.int .i64 (N : Int), .slice A1 n1 c1, .slice A2 n2 c2]]) ∧
      WantB w' w.heap.size (sameF K R T K2 R2 T2).2 (.agg #[.int .i64 (N : Int), .slice A1 n1 c1, .slice A2 n2 c2]) ∧ Below w.heap.size w w' := by
  have bad1 : ∀ tl, walkF K R T = (0, [], [], some tl) → Calls Tryz.prog 28 #[ruleV K R A n c, ruleV K2 R2 B m d] w fun e w' => ∃ (N : Nat) (A1 : Option Addr) (n1 c1 : Nat) (A2 : Option Addr) (n2 c2 : Nat),
      e = .returned (.tuple #[.bool (sameF K R T K2 R2 T2).1, .agg #[.int .i64 (N : Int), .slice A1 n1 c1, .slice A2 n2 c2]]) ∧
      WantB w' w.heap.size (sameF K R T K2 R2 T2).2 (.agg #[.int .i64 (N : Int), .slice A1 n1 c1, .slice A2 n2 c2]) ∧ Below w.heap.size w w' := fun tl h => by
    rw [sameF_bad (ofF_bad h)]
    exact refSame_bad w K R A n c T hT hm K2 R2 B m d tl h
  have bad2 : ∀ k r t S, K = ((k : Nat) : Int) → R = ((r : Nat) : Int) → T = ints t → IsRule k r t → t.length ≤ 256 → fin k (k ^ (2 * r)) t false = .go S [] → ∀ tl, walkF K2 R2 T2 = (0, [], [], some tl) → Calls Tryz.prog 28 #[ruleV K R A n c, ruleV K2 R2 B m d] w fun e w' => ∃ (N : Nat) (A1 : Option Addr) (n1 c1 : Nat) (A2 : Option Addr) (n2 c2 : Nat),
      e = .returned (.tuple #[.bool (sameF K R T K2 R2 T2).1, .agg #[.int .i64 (N : Int), .slice A1 n1 c1, .slice A2 n2 c2]]) ∧
      WantB w' w.heap.size (sameF K R T K2 R2 T2).2 (.agg #[.int .i64 (N : Int), .slice A1 n1 c1, .slice A2 n2 c2]) ∧ Below w.heap.size w w' := by
    rintro k r t S rfl rfl rfl hr hl h tl h2
    rw [sameF_bad2 (ofF_good hr hl h) (ofF_bad h2)]
    exact refSame_bad2 w k r A n c t hT hm hr hl S h K2 R2 B m d T2 hT2 hm2 tl h2
  rcases walkF_cases K R T with ⟨tl, h⟩ | ⟨k, r, t, S, e1, e2, e3, hr, hl, h⟩ | ⟨k, r, t, rfl, rfl, rfl, hr, hl, h⟩
  · exact bad1 _ (walkF_bad h)
  · rcases walkF_cases K2 R2 T2 with ⟨tl', h'⟩ | ⟨k', r', t', S', rfl, rfl, rfl, hr', hl', h'⟩ | ⟨k', r', t', rfl, rfl, rfl, hr', hl', h'⟩
    · exact bad2 k r t S e1 e2 e3 hr hl h _ (walkF_bad h')
    · subst e1 e2 e3
      rw [sameF_good (ofF_good hr hl h) (ofF_good hr' hl' h')]
      refine (refSame_good w k r A n c t hT hm hr hl S h k' r' B m d t' hT2 hm2 hr' hl' S' h').mono ?_
      rintro e w' ⟨N, A1, n1, c1, A2, n2, c2, rfl, hu, hb⟩
      refine ⟨N, A1, n1, c1, A2, n2, c2, ?_, hu, hb⟩
      have e : decide (k = k' ∧ leastA k S.next = leastA k' S'.next) = decide ((k : Int) = (k' : Int) ∧ leastA k S.next = leastA k' S'.next) := by rw [decide_eq_decide]; exact ⟨fun h => ⟨by rw [h.1], h.2⟩, fun h => ⟨Int.ofNat.inj h.1, h.2⟩⟩
      rw [e]
    · exact bad2 k r t S e1 e2 e3 hr hl h (4, [(sSubset, 0)]) (by rw [walkF_good hr' hl' h'])
  · have hb : walkF (k : Int) (r : Int) (ints t) = (0, [], [], some (4, [(sSubset, 0)])) := by rw [walkF_good hr hl h]
    exact bad1 _ hb
end Go.Proofs.YthilnpfpllplaaaGreatDoor
