/- The call of WholeMirror: it returns true. Condition: the lists read from memory; the error variables hold what E says. -/
import Derived.Test.YtibplgpolmplpaaGreatDoorX3
import Derived.Test.YtibplgpolmplpaaGreatDoorX17
import Derived.Test.YtibplgpolmplpaaGreatDoorX23
import Derived.Test.YtibplgpolmplpaaGreatDoorX27
namespace Go.Proofs.YtibplgpolmplpaaGreatDoor
open Go.RowKit RuleP NatP

set_option maxRecDepth 100000 in
theorem revNilM_c (w : World) (cp : Nat) :
    Calls Tryz.prog 65 #[.slice none 0 cp] w fun e w' => e = .returned (.tuple #[]) ∧ w' = w := by
  go_enter Tryz.func65, Tryz.ntmps65
  go_wp2_with fail
  go_loop [2, 3] (fun iv jv => iv = .int .i64 0 ∧ jv = .int .i64 (-1)) (fun _ _ => 0)
  case atStart => exact ⟨rfl, rfl⟩
  case round =>
    obtain ⟨rfl, rfl⟩ := hrel
    go_wp2_with fail
    first | go_end0 | refine bodyPost_ret (results_none rfl _ _ _) rfl ?_
    exact ⟨rfl, rfl⟩
set_option maxRecDepth 100000 in
set_option maxHeartbeats 1000000 in
theorem backM_c (w : World) (B : Option Addr) (m d : Nat) (xs : List Int) (hB : Sl w B m (xs.map (Value.int .i64))) (hm : m ≤ 1000000) :
    Calls Tryz.prog 23 #[.slice B m d] w fun e w' => ∃ C c, e = .returned (.slice C m c) ∧ Sl w' C m (xs.reverse.map (Value.int .i64)) ∧ Below w.heap.size w w' := by
  have HCL := Lib.hid (clone_c w B m d _ (ints_one (q := .i64) xs) (by omega) hB)
  clear hB
  go_enter Tryz.func23, Tryz.ntmps23
  go_wp2_with fail
  refine (HCL.out).mono ?_
  rintro e w1 ⟨C, cc, rfl, hC, hb1⟩
  rcases hC.2 with ⟨h, h0⟩ | ⟨g1, cap, cur, h, _⟩
  · injection h with h1 h2 h3
    subst h1 h2 h3
    have hx : xs = [] := by
      have h4 := hC.1
      rw [List.length_map] at h4
      exact List.eq_nil_of_length_eq_zero h4
    subst hx
    have HO := Lib.hid hC
    have HB1 := Lib.hid hb1
    clear hC hb1 h0
    have HRV := Lib.hid (revNilM_c w1 0)
    go_wp2_with fail
    refine (HRV.out).mono ?_
    rintro e w2 ⟨rfl, rfl⟩
    go_wp2_with fail
    go_ret
    exact ⟨_, _, rfl, Sl.of_own HO.out, HB1.out⟩
  · injection h with h1 h2 h3
    subst h1 h3
    have HRV := Lib.hid (reverse_c w1 w.heap.size g1 m cc xs hC hm)
    have HB1 := Lib.hid hb1
    have HGE := Lib.hid (hC.lt g1 rfl).1
    clear hb1 hC h2
    go_wp2_with fail
    refine (HRV.out).mono ?_
    rintro e w2 ⟨rfl, hC2, hk2⟩
    have HB2 := Lib.hid (HB1.out.trans (hk2.below HB1.out.size (fun b hb => by rw [show b = g1 from hb]; exact HGE.out)))
    have HC2 := Lib.hid hC2
    clear hC2 hk2
    go_wp2_with fail
    go_ret
    exact ⟨_, _, rfl, Sl.of_own HC2.out, HB2.out⟩
theorem putM {a : List Nat} {i x L : Nat} (hl : a.length = L) (hx : a[i]? = some x) (hi : i < L) : (a.take i ++ List.replicate (L - i) 0).set i x = a.take (i + 1) ++ List.replicate (L - (i + 1)) 0 := by
  have h1 : (a.take i).length = i := by rw [List.length_take]; omega
  rw [List.set_append, h1, if_neg (by omega), Nat.sub_self]
  rw [show L - i = (L - (i + 1)) + 1 by omega, List.replicate_succ, List.set_cons_zero, List.take_add_one, hx]
  simp
theorem putM0 {a : List Nat} {i L : Nat} (hl : a.length = L) (hi : i < L) : (a.take i ++ List.replicate (L - i) 0)[i]? = some 0 := by
  rw [List.getElem?_append_right (by rw [List.length_take]; omega), List.length_take, hl, Nat.min_eq_left (by omega), Nat.sub_self, List.getElem?_replicate, if_pos (by omega)]
theorem mkM (w : World) (g : Nat) (hg : w.heap.size = g) (n : Nat) (h : n ≤ maxLen) : (w.alloc (.cells (madeCells #[.int .i64 0] n) 3)).ownsRow g 3 1 (.slice (some ⟨g, 0, none⟩) n n) n ((ints (List.replicate n 0)).map (Value.int .i64)) := by
  subst hg
  exact make_ints w n h
theorem ints_rev (x : List Nat) : ints x.reverse = (ints x).reverse := by simp [ints]
theorem wordM {w : World} {A : Option Addr} {n : Nat} {l : List Nat} (h : Sl w A n ((ints l).map (Value.int .i64))) {i : Nat} (hi : i < n) : ∃ ad v, A = some ad ∧ l[i]? = some v ∧ w.cell? (ad.add i) = some (.int .i64 ((v : Nat) : Int)) := by
  rw [ints_map] at h
  exact h.word_ hi

set_option maxRecDepth 100000 in
set_option maxHeartbeats 8000000 in
theorem wholeMirror_c (w : World) (E : Nat → Addr) (hE : ErrW w E) (K R : Int) (A : Option Addr) (n c : Nat) (T : List Int) (hS : Sl w A n (T.map (Value.int .i64))) (hn : n ≤ 9223372036854775807)
    (B : Option Addr) (m d : Nat) (X : List Int) (hX : Sl w B m (X.map (Value.int .i64))) (hm : m ≤ 9223372036854775807)
    (D : Option Addr) (l q : Nat) (Q : List Int) (hQ : Sl w D l (Q.map (Value.int .i64))) (hl : l * 8 ≤ 140737488351232) :
    Calls Tryz.prog 6 #[ruleV K R A n c, .slice B m d, .slice D l q] w fun e w' => e = .returned (.bool true) ∧ Below w.heap.size w w' := by
  have hb0 := (Below.refl w.heap.size w).alloc (Nat.le_refl _) (.cells #[.int .i64 K, .int .i64 R, .slice A n c] 24)
  have hxm : X.length = m := by simpa using hX.1
  have HER := Lib.hid (fun (wz : World) (hz : Below w.heap.size w wz) => (⟨hE.below hz, hS.below hz, hX.below hz, hQ.below hz⟩ : _ ∧ _ ∧ _ ∧ _))
  have HAW := Lib.hid (counts_c _ E (HER.out _ hb0).1)
  have hr0 := RuleAt.new w (.int .i64 K) (.int .i64 R) (.slice A n c)
  have HNL := Lib.hid (And.intro hn (And.intro hm (And.intro hl hxm)))
  clear hE hS hX hQ hn hm hl hxm
  unfold ruleV at *
  go_enter Tryz.func6, Tryz.ntmps6
  go_wp2_with fail
  refine (HAW.out).mono ?_
  rintro e w1 ⟨rfl, b1⟩
  have hr1 := hr0.below b1 (by simp)
  have hb1 := below_box b1
  obtain ⟨r0, r1, r2, _⟩ := hr1.facts
  have hA := cWordsU_c w1 E (HER.out w1 hb1).1.1 K R A n c T (HER.out w1 hb1).2.1 HNL.out.1 B m d X (HER.out w1 hb1).2.2.1 HNL.out.2.1
  have hBf := fun (wz : World) (hz : Below w.heap.size w wz) => cRingsU_c wz E (HER.out wz hz).1.1 K R A n c T (HER.out wz hz).2.1 HNL.out.1 B m d X (HER.out wz hz).2.2.1 HNL.out.2.1
  have hCf := fun (wz : World) (hz : Below w.heap.size w wz) => cFixedU_c wz E (HER.out wz hz).1.1 K R A n c T (HER.out wz hz).2.1 HNL.out.1 (m : Int)
  unfold ruleV at hA hBf hCf
  have HA := Lib.hid hA
  have HBF := Lib.hid hBf
  have HCF := Lib.hid hCf
  have HB1 := Lib.hid hb1
  have HR1 := Lib.hid hr1
  clear hr0 hb0 b1 hr1 hb1 HAW hA hBf hCf
  go_wp2_with fail
  refine (HA.out).mono ?_
  rintro e w2 ⟨C2, l2, c2, v2, rfl, b2, hor2⟩
  have hb2 := HB1.out.trans (b2.mono HB1.out.size)
  have hr2 := HR1.out.below b2 HR1.out.lt
  clear r0 r1 r2
  obtain ⟨r0, r1, r2, _⟩ := hr2.facts
  have HB2 := Lib.hid hb2
  have HR2 := Lib.hid hr2
  have HO2 := Lib.hid hor2
  have HBC := Lib.hid (HBF.out w2 hb2)
  clear b2 hb2 hr2 hor2
  go_wp2_with fail
  refine (HBC.out).mono ?_
  rintro e w3 ⟨C3, l3, c3, v3, rfl, b3, hor3⟩
  have hb3 := HB2.out.trans (b3.mono HB2.out.size)
  have hr3 := HR2.out.below b3 HR2.out.lt
  clear r0 r1 r2
  obtain ⟨r0, r1, r2, _⟩ := hr3.facts
  have HB3 := Lib.hid hb3
  have HB23 := Lib.hid b3
  have HR3 := Lib.hid hr3
  have HO3 := Lib.hid hor3
  have HCC := Lib.hid (HCF.out w3 hb3)
  clear b3 hb3 hr3 hor3
  go_wp2_with fail
  refine (HCC.out).mono ?_
  rintro e w4 ⟨C4, l4, c4, v4, rfl, b4, hor4⟩
  have hb4 := HB3.out.trans (b4.mono HB3.out.size)
  have hr4 := HR3.out.below b4 HR3.out.lt
  clear r0 r1 r2
  obtain ⟨r0, r1, r2, _⟩ := hr4.facts
  have HB4 := Lib.hid hb4
  have HB34 := Lib.hid b4
  have HR4 := Lib.hid hr4
  have HO4 := Lib.hid hor4
  clear b4 hb4 hr4 hor4 HA HBF HCF HBC HCC
  rcases HO2.out with ⟨u, p, rfl⟩ | ⟨rfl, k, r, t, x, rfl, rfl, rfl, rfl, hr, h256, hx, _, hat2⟩
  · go_wp2_with fail
    go_ret
    exact ⟨rfl, HB4.out⟩
  rcases HO3.out with ⟨u, p, rfl⟩ | ⟨rfl, hx0, hat3⟩
  · clear hat2 hr h256 hx
    go_wp2_with fail
    go_ret
    exact ⟨rfl, HB4.out⟩
  rcases HO4.out with ⟨u, p, rfl⟩ | ⟨rfl, hat4⟩
  · clear hat2 hr h256 hx hat3 hx0
    go_wp2_with fail
    go_ret
    exact ⟨rfl, HB4.out⟩
  have hxm : x.length = m := by have := HNL.out.2.2.2; rwa [ints_len] at this
  by_cases hm16 : 16 < m
  · have hm16' : (16 : Int) < (m : Int) := by omega
    clear hat2 hr h256 hx hat3 hx0 hat4 hxm
    go_wp2_with fail
    go_ret
    exact ⟨rfl, HB4.out⟩
  have hm16' : ¬ (16 : Int) < (m : Int) := by omega
  rw [ints_len, hxm] at hx0
  simp only [natL_ints, Int.toNat_natCast, ints_len, hxm] at hat3 hat4
  have hm0 : 0 < m := by omega
  have hrm := mir_rule hr
  have hwm := words_mir (w := x) hr
  have hgm := rings_mir (w := x) hr hm0 hxm
  have hfm := fixed_mir (n := m) hr hm0
  obtain ⟨t2, ht2⟩ : ∃ t2, mir k r t = t2 := ⟨_, rfl⟩
  rw [ht2] at hrm hwm hgm hfm
  have h2562 : t2.length ≤ 256 := by rw [hrm.len, ← hr.len]; exact h256
  have HT2 := Lib.hid ht2
  have HNA := Lib.hid (fun (wz : World) (hz : Below w4.heap.size w4 wz) => (⟨(hat2.below HB23.out |>.below HB34.out).below hz, (hat3.below HB34.out).below hz, hat4.below hz⟩ : _ ∧ _ ∧ _))
  have HRU := Lib.hid (And.intro hr h256)
  have HRM := Lib.hid (And.intro hrm h2562)
  have HXX := Lib.hid (And.intro hx hxm)
  have HEQ := Lib.hid (And.intro hwm (And.intro hgm hfm))
  have hmg := mirror_good w4 E (HER.out w4 HB4.out).1.1 k r A n c t hr (HER.out w4 HB4.out).2.1
  rw [ht2] at hmg
  unfold ruleV at hmg
  have HMG := Lib.hid hmg
  clear hat2 hr h256 hx hat3 hx0 hat4 hxm hrm h2562 hwm hgm hfm ht2 hmg HO2 HO3 HO4
  go_wp2_with fail
  refine (HMG.out).mono ?_
  rintro e w5 ⟨CM, NM, cm, v5, rfl, ho5, hv5, b5⟩
  obtain rfl : v5 = .nilIface := hv5
  have ba := (Below.refl w5.heap.size w5).alloc (Nat.le_refl _) (.cells #[.int .i64 (k : Int), .int .i64 (r : Int), .slice CM NM cm] 24)
  have hx5 := RuleAt.new w5 (.int .i64 (k : Int)) (.int .i64 (r : Int)) (.slice CM NM cm)
  obtain ⟨u5, hu5⟩ : ∃ u, w5.alloc (.cells #[.int .i64 (k : Int), .int .i64 (r : Int), .slice CM NM cm] 24) = u := ⟨_, rfl⟩
  rw [hu5] at ba hx5
  have Hu5 := Lib.hid hu5
  have hT5 := (Sl.of_own ho5).below ba
  have hb4u := b5.trans (ba.mono b5.size)
  have hbu := HB4.out.trans (hb4u.mono HB4.out.size)
  obtain ⟨x0, x1, x2, _⟩ := hx5.facts
  have HBK := Lib.hid (fun (wz : World) (hz : Below u5.heap.size u5 wz) => backM_c wz B m d (ints x) (HER.out wz (hbu.trans (hz.mono hbu.size))).2.2.1 (by omega))
  have hWm := fun (wz : World) (hz : Below u5.heap.size u5 wz) (C : Option Addr) (cc : Nat) (hC : Sl wz C m ((ints x).reverse.map (Value.int .i64))) => cWordsY_c wz E (HER.out wz (hbu.trans (hz.mono hbu.size))).1.1 k r NM cm m cc CM C t2 x.reverse (hT5.below hz) HRM.out.1 HRM.out.2 (by rw [ints_rev]; exact hC) (rev_sym HXX.out.1) (by rw [List.length_reverse, HXX.out.2]; omega)
  have hRm := fun (wz : World) (hz : Below u5.heap.size u5 wz) (C : Option Addr) (cc : Nat) (hC : Sl wz C m ((ints x).reverse.map (Value.int .i64))) => cRingsY_c wz E (HER.out wz (hbu.trans (hz.mono hbu.size))).1.1 k r NM cm m cc CM C t2 x.reverse (hT5.below hz) HRM.out.1 HRM.out.2 (by rw [ints_rev]; exact hC) (rev_sym HXX.out.1) (by rw [List.length_reverse, HXX.out.2]; omega) (by rw [List.length_reverse, HXX.out.2]; omega)
  have hFm := fun (wz : World) (hz : Below u5.heap.size u5 wz) => cFixedY_c wz E (HER.out wz (hbu.trans (hz.mono hbu.size))).1.1 k r NM cm CM t2 (hT5.below hz) HRM.out.1 HRM.out.2 m hm0 (by omega)
  simp only [List.length_reverse, HXX.out.2, HEQ.out.1, HEQ.out.2.1, HEQ.out.2.2] at hWm hRm hFm
  unfold ruleV at hWm hRm hFm
  have HWM := Lib.hid hWm
  have HRMM := Lib.hid hRm
  have HFM := Lib.hid hFm
  have HBU := Lib.hid hbu
  have HB4U := Lib.hid hb4u
  have HX5 := Lib.hid hx5
  have HLR := Lib.hid (HR4.out.below hb4u HR4.out.lt)
  clear ho5 b5 ba hx5 hu5 hT5 hb4u hbu hWm hRm hFm
  unfold ruleV
  go_wp2_with fail
  rw [Hu5.out]
  clear r0 r1 r2
  have HBP := Lib.hid (Below.refl u5.heap.size u5)
  go_region_held3 (fun w' => w'.cell? ⟨w5.heap.size, 0, none⟩ = some (.int .i64 (k : Int)) ∧ w'.cell? ⟨w5.heap.size, 1, none⟩ = some (.int .i64 (r : Int)) ∧ w'.cell? ⟨w5.heap.size, 2, none⟩ = some (.slice CM NM cm))
    (first | go_keep)
    (first
      | (go_at_call 13
         refine (HWM.out w6 hw6 _ _ hSw6).mono ?_
         rintro e9 w7 ⟨C7, l7, c7, rfl, hbw7, hatw7⟩
         have y0 := cell_later hbw7 z0
         have y1 := cell_later hbw7 z1
         have y2 := cell_later hbw7 z2)
      | (go_at_call 23
         refine (HBK.out u5.drew HBP.out.drew).mono ?_
         rintro e8 w6 ⟨C8, d8, rfl, hSw6, hb8'⟩
         have hw6 := HBP.out.trans (((Below.refl u5.heap.size u5).drew.trans hb8').mono HBP.out.size)
         have z0 := cell_later hb8' x0
         have z1 := cell_later hb8' x1
         have z2 := cell_later hb8' x2)
      | fail)
  have hst := (Below.refl u5.heap.size u5).drew.trans hb8'
  have HSTw7 := Lib.hid (hst.trans (hbw7.mono hst.size))
  clear HBP x0 x1 x2 z0 z1 z2 y0 y1 y2 hst
  have hb := hw6.trans (hbw7.mono hw6.size)
  have HBP := Lib.hid hb
  have HNw7 := Lib.hid hatw7
  obtain ⟨x0, x1, x2, _⟩ := (HX5.out.below hb HX5.out.lt).facts
  clear hb hw6 hbw7 hatw7 hSw6 hb8'
  go_wp2_with fail
  go_region_held3 (fun w' => w'.cell? ⟨w5.heap.size, 0, none⟩ = some (.int .i64 (k : Int)) ∧ w'.cell? ⟨w5.heap.size, 1, none⟩ = some (.int .i64 (r : Int)) ∧ w'.cell? ⟨w5.heap.size, 2, none⟩ = some (.slice CM NM cm))
    (first | go_keep)
    (first
      | (go_at_call 18
         refine (HRMM.out w8 hw8 _ _ hSw8).mono ?_
         rintro e9 w9 ⟨C9, l9, c9, rfl, hbw9, hatw9⟩
         have y0 := cell_later hbw9 z0
         have y1 := cell_later hbw9 z1
         have y2 := cell_later hbw9 z2)
      | (go_at_call 23
         refine (HBK.out w7.drew HBP.out.drew).mono ?_
         rintro e8 w8 ⟨C8, d8, rfl, hSw8, hb8'⟩
         have hw8 := HBP.out.trans (((Below.refl w7.heap.size w7).drew.trans hb8').mono HBP.out.size)
         have z0 := cell_later hb8' x0
         have z1 := cell_later hb8' x1
         have z2 := cell_later hb8' x2)
      | fail)
  have hst := (Below.refl w7.heap.size w7).drew.trans hb8'
  have HSTw9 := Lib.hid (hst.trans (hbw9.mono hst.size))
  clear HBP x0 x1 x2 z0 z1 z2 y0 y1 y2 hst
  have hb := hw8.trans (hbw9.mono hw8.size)
  have HBP := Lib.hid hb
  have HNw9 := Lib.hid hatw9
  obtain ⟨x0, x1, x2, _⟩ := (HX5.out.below hb HX5.out.lt).facts
  clear hb hw8 hbw9 hatw9 hSw8 hb8'
  have HF9 := Lib.hid (HFM.out w9 HBP.out)
  go_wp2_with fail
  refine (HF9.out).mono ?_
  rintro e wA ⟨CA, lA, cA, rfl, bA, hatA⟩
  clear x0 x1 x2
  have hBPA := HBP.out.trans (bA.mono HBP.out.size)
  have HBPA := Lib.hid hBPA
  have hBA := HBU.out.trans (hBPA.mono HBU.out.size)
  have hB4A := HB4U.out.trans (hBPA.mono HB4U.out.size)
  have hLR := HLR.out.below hBPA HLR.out.lt
  obtain ⟨r0, r1, r2, _⟩ := hLR.facts
  have hst79 := HSTw9.out.trans (bA.mono HSTw9.out.size)
  have HNX := Lib.hid (HNw7.out.below hst79)
  have HNY := Lib.hid (HNw9.out.below bA)
  have HNZ := Lib.hid hatA
  have HBA := Lib.hid hBA
  have HB4A := Lib.hid hB4A
  have HLA := Lib.hid hLR
  have HNT1 := Lib.hid (natsY_c (c := c7) (d := c2) HNX.out (HNA.out wA hB4A).1 rfl)
  have HNT2 := Lib.hid (fun (wz : World) (hz : Below wA.heap.size wA wz) => natsY_c (c := c9) (d := c3) (HNY.out.below hz) (HNA.out wz (hB4A.trans (hz.mono hB4A.size))).2.1 rfl)
  have HNT3 := Lib.hid (fun (wz : World) (hz : Below wA.heap.size wA wz) => natsY_c (c := cA) (d := c4) (HNZ.out.below hz) (HNA.out wz (hB4A.trans (hz.mono hB4A.size))).2.2 rfl)
  clear hBPA hBA hB4A hLR bA hatA hst79
  go_wp2_with fail
  refine (HNT1.out).mono ?_
  rintro e wB ⟨rfl, bB⟩
  have HBB := Lib.hid bB
  have HNT2' := Lib.hid (HNT2.out wB bB)
  clear bB
  go_wp2_with fail
  refine (HNT2'.out).mono ?_
  rintro e wC ⟨rfl, bC⟩
  have HBC := Lib.hid (HBB.out.trans (bC.mono HBB.out.size))
  have HNT3' := Lib.hid (HNT3.out wC HBC.out)
  clear bC
  clear r0 r1 r2
  obtain ⟨r0, r1, r2, _⟩ := (HLA.out.below HBC.out HLA.out.lt).facts
  go_wp2_with fail
  refine (HNT3'.out).mono ?_
  rintro e wD ⟨rfl, bD⟩
  have hAD := HBC.out.trans (bD.mono HBC.out.size)
  have hBD := HBA.out.trans (hAD.mono HBA.out.size)
  have hb4D := HB4A.out.trans (hAD.mono HB4A.out.size)
  have HBD := Lib.hid hBD
  have HB4D := Lib.hid hb4D
  have HLD := Lib.hid (HLA.out.below hAD HLA.out.lt)
  clear r0 r1 r2
  obtain ⟨r0, r1, r2, _⟩ := HLD.out.facts
  clear bD hAD hBD hb4D HNX HNY HNZ HNT1 HNT2 HNT3 HNT2' HNT3'
  rcases rename_any k r t HRU.out.1 Q with ⟨p, hQp, hp⟩ | hbad
  case' inr =>
    have hra := rename_arg wD E (HER.out wD HBD.out).1.1 k r A D n c l q t Q HRU.out.1 (HER.out wD HBD.out).2.1 (HER.out wD HBD.out).2.2.2 HNL.out.2.2.1 hbad
    unfold ruleV at hra
    have HRA := Lib.hid hra
    clear hra hbad
    go_wp2_with fail
    refine (HRA.out).mono ?_
    rintro e wE ⟨CQ, NQ, cq, vq, rfl, hoq, hvq, bq⟩
    obtain ⟨u, p, rfl⟩ := ErrIs.iface (show ErrIs wE E 3 [(sForms, 0)] vq from hvq)
    have hbE := HBD.out.trans (bq.mono HBD.out.size)
    have HBE := Lib.hid (hbE.alloc hbE.size (.cells #[.int .i64 0, .int .i64 0, .slice CQ NQ cq] 24))
    clear hoq hvq bq hbE
    unfold ruleV
    go_wp2_with fail
    go_ret
    exact ⟨rfl, HBE.out⟩
  subst hQp
  have hpl := hp.len
  have hlk : l = k := by have := (HER.out wD HBD.out).2.2.2.1; rw [List.length_map, ints_len] at this; omega
  have HLK := Lib.hid hlk
  have hrq := renT_rule HRU.out.1 hp
  have hwq := words_ren HRU.out.1 hp HXX.out.1
  have hgq := rings_ren (w := x) HRU.out.1 hp hm0 HXX.out.2 HXX.out.1
  have hfq := fixed_ren (n := m) HRU.out.1 hp hm0
  have hrg := rename_good wD E (HER.out wD HBD.out).1.1 k r A D n c l q t p HRU.out.1 (HER.out wD HBD.out).2.1 hp (HER.out wD HBD.out).2.2.2
  obtain ⟨t3, ht3⟩ : ∃ t3, renT k r t p = t3 := ⟨_, rfl⟩
  rw [ht3] at hrq hwq hgq hfq hrg
  have h2563 : t3.length ≤ 256 := by rw [hrq.len, ← HRU.out.1.len]; exact HRU.out.2
  have HRQ := Lib.hid (And.intro hrq h2563)
  have HEQ3 := Lib.hid (And.intro hwq (And.intro hgq hfq))
  have HP := Lib.hid hp
  have hk4 := HRU.out.1.k4
  unfold ruleV at hrg
  have HRG := Lib.hid hrg
  clear hpl hlk hrq hwq hgq hfq hrg ht3 h2563 hp
  go_wp2_with fail
  refine (HRG.out).mono ?_
  rintro e wE ⟨CQ, NQ, cq, vq, rfl, hoq, hvq, bq⟩
  obtain rfl : vq = .nilIface := hvq

  have ba := (Below.refl wE.heap.size wE).alloc (Nat.le_refl _) (.cells #[.int .i64 (k : Int), .int .i64 (r : Int), .slice CQ NQ cq] 24)
  have hxE := RuleAt.new wE (.int .i64 (k : Int)) (.int .i64 (r : Int)) (.slice CQ NQ cq)
  obtain ⟨uE, huE⟩ : ∃ u, wE.alloc (.cells #[.int .i64 (k : Int), .int .i64 (r : Int), .slice CQ NQ cq] 24) = u := ⟨_, rfl⟩
  rw [huE] at ba hxE
  have HuE := Lib.hid huE
  have hTq := (Sl.of_own hoq).below ba
  have hbDE := bq.trans (ba.mono bq.size)
  have hbE := HBD.out.trans (hbDE.mono HBD.out.size)
  have hb4E := HB4D.out.trans (hbDE.mono HB4D.out.size)
  have HTQ := Lib.hid (fun (wz : World) (hz : Below uE.heap.size uE wz) => hTq.below hz)
  have HBE := Lib.hid hbE
  have HB4E := Lib.hid hb4E
  have HXE := Lib.hid hxE
  obtain ⟨g5, hg5⟩ : ∃ g5, uE.heap.size = g5 := ⟨_, rfl⟩
  have hmk := run_make_row' (P := Tryz.prog) 22 3 (.int .i64 0) 8 tInts.und tInts.info rfl .i64 .i64 m (by omega) (by omega) uE
  rw [hg5] at hmk
  have hmx : m ≤ maxLen := by simp only [maxLen]; omega
  have ho5 := mkM uE g5 hg5 m hmx
  have ba5 := (Below.refl uE.heap.size uE).alloc (Nat.le_refl _) (.cells (madeCells #[.int .i64 0] m) 3)
  obtain ⟨wF, hwF⟩ : ∃ wF, uE.alloc (.cells (madeCells #[.int .i64 0] m) 3) = wF := ⟨_, rfl⟩
  rw [hwF] at ho5 ba5 hmk
  have HG5 := Lib.hid hg5
  have HO5 := Lib.hid ho5
  have HG5W := Lib.hid (show g5 ≤ wF.heap.size by rw [← hg5]; exact ba5.size)
  have HWF := Lib.hid hwF
  rw [← huE] at hmk
  have hgW : wE.heap.size + 1 = g5 := by rw [← hg5, ← huE]; simp
  have HGW := Lib.hid hgW
  clear hoq bq ba hxE huE hTq hbDE hbE hb4E hg5 ho5 ba5 hwF hgW hmx
  unfold ruleV
  go_wp2_with fail
  clear r0 r1 r2 hmk
  go_loopw [23] (fun iv wl => ∃ i : Nat, i ≤ m ∧ iv = .int .i64 (i : Int) ∧ wl.ownsRow g5 3 1 (.slice (some ⟨g5, 0, none⟩) m m) m ((ints ((nam p x).take i ++ List.replicate (m - i) 0)).map (Value.int .i64)) ∧ Hid (Keeps (fun b => b = g5) wF wl)) (fun iv _ => m - (intOf iv).toNat)
  case atStart => exact ⟨0, Nat.zero_le _, rfl, by have h := HO5.out; simpa using h, Lib.hid (Keeps.refl _ _)⟩
  case round =>
    obtain ⟨i, hi, rfl, hown, hK⟩ := hrel
    have hb5 : Below g5 uE wr := by
      have h1 := (Below.refl g5 uE).alloc (Nat.le_of_eq HG5.out.symm) (.cells (madeCells #[.int .i64 0] m) 3)
      rw [HWF.out] at h1
      exact h1.trans (hK.out.below HG5W.out (fun b hb => by rw [show b = g5 from hb]; exact Nat.le_refl _))
    rw [← HG5.out] at hb5
    have hbb := HBE.out.trans (hb5.mono HBE.out.size)
    by_cases hlt : i < m
    · have hlt' : (i : Int) < (m : Int) := by omega
      obtain ⟨ad, xx, hB, hxi, hc⟩ := wordM (HER.out wr hbb).2.2.1 hlt
      have hxk := HXX.out.1 xx (List.mem_of_getElem? hxi)
      obtain ⟨ad2, yy, hB2, hyi, hc2⟩ := wordM (HER.out wr hbb).2.2.2 (show xx < l by have := HLK.out; omega)
      subst hB hB2
      have hni : (nam p x)[i]? = some yy := by
        unfold nam
        rw [List.getElem?_map, hxi]
        show some (p.getD xx 0) = _
        rw [List.getD_eq_getElem?_getD, hyi]
        rfl
      have hst := putM (L := m) (by rw [nam_len]; exact HXX.out.2) hni hlt
      have fa := hown.frozenAt i
      have ca : wr.cell? ⟨g5, i, none⟩ = some (.int .i64 0) := by
        rw [hown.cellAt i (by omega), ints_map, List.getElem?_map, putM0 (by rw [nam_len]; exact HXX.out.2) hlt]
        rfl
      have o1 := (hown.stored i (.int .i64 (yy : Int))).1
      have e1 : ((ints ((nam p x).take i ++ List.replicate (m - i) 0)).map (Value.int .i64)).set i (.int .i64 (yy : Int)) = (ints ((nam p x).take (i + 1) ++ List.replicate (m - (i + 1)) 0)).map (Value.int .i64) := by
        rw [← hst, ints_map, ints_map, List.map_set]
      rw [e1] at o1
      have HOO := Lib.hid o1
      have HKK := Lib.hid (hK.out.trans (Keeps.of_setCell wr ⟨g5, i, none⟩ (.int .i64 (yy : Int))) (fun _ _ h => h))
      have hi0 : (0 : Int) ≤ (i : Int) := by omega
      have hx0 : (0 : Int) ≤ (xx : Int) := by omega
      have hx1 : (xx : Int) < (l : Int) := by have := HLK.out; omega
      clear hst e1 o1 hxi hyi hni hown hK hbb hb5
      go_wp2_with fail
      exact ⟨⟨i + 1, by omega, by go_num, HOO.out, HKK⟩, by simp [intOf]; omega⟩
    · have hlt' : ¬ (i : Int) < (m : Int) := by omega
      obtain rfl : i = m := by omega
      have hle : ((nam p x).take i ++ List.replicate (i - i) 0) = nam p x := by
        rw [Nat.sub_self, List.replicate_zero, List.append_nil, List.take_of_length_le (by rw [nam_len, HXX.out.2]; exact Nat.le_refl _)]
      rw [hle] at hown
      obtain ⟨wG, rfl⟩ : ∃ wG, wG = wr := ⟨_, rfl⟩
      have hsl := Sl.of_own hown
      have HBG := Lib.hid hbb
      have HB4G := Lib.hid (HB4E.out.trans (hb5.mono HB4E.out.size))
      have HEG := Lib.hid hb5
      have HXG := Lib.hid (HXE.out.below hb5 HXE.out.lt)
      have hWq := cWordsY_c wG E (HER.out wG hbb).1.1 k r NQ cq i i CQ (some ⟨g5, 0, none⟩) t3 (nam p x) (HTQ.out wG hb5) HRQ.out.1 HRQ.out.2 hsl (nam_sym HP.out HXX.out.1) (by rw [nam_len, HXX.out.2]; omega)
      have hRq := fun (wz : World) (hz : Below wG.heap.size wG wz) => cRingsY_c wz E (HER.out wz (hbb.trans (hz.mono hbb.size))).1.1 k r NQ cq i i CQ (some ⟨g5, 0, none⟩) t3 (nam p x) (HTQ.out wz (hb5.trans (hz.mono hb5.size))) HRQ.out.1 HRQ.out.2 (hsl.below hz) (nam_sym HP.out HXX.out.1) (by rw [nam_len, HXX.out.2]; omega) (by rw [nam_len, HXX.out.2]; omega)
      have hFq := fun (wz : World) (hz : Below wG.heap.size wG wz) => cFixedY_c wz E (HER.out wz (hbb.trans (hz.mono hbb.size))).1.1 k r NQ cq CQ t3 (HTQ.out wz (hb5.trans (hz.mono hb5.size))) HRQ.out.1 HRQ.out.2 i hm0 (by omega)
      simp only [nam_len, HXX.out.2, HEQ3.out.1, HEQ3.out.2.1, HEQ3.out.2.2] at hWq hRq hFq
      unfold ruleV at hWq hRq hFq
      have HWQ := Lib.hid hWq
      have HRQ2 := Lib.hid hRq
      have HFQ := Lib.hid hFq
      obtain ⟨x0, x1, x2, _⟩ := HXG.out.facts
      clear hle hown hK hbb hb5 hsl hWq hRq hFq hlt hi
      go_wp2_with fail
      refine (HWQ.out).mono ?_
      rintro e wH ⟨CH, lH, cH, rfl, bH, hatH⟩
      clear x0 x1 x2
      obtain ⟨x0, x1, x2, _⟩ := (HXG.out.below bH HXG.out.lt).facts
      have HBH := Lib.hid bH
      have HNH := Lib.hid hatH
      have HRH := Lib.hid (HRQ2.out wH bH)
      clear bH hatH
      go_wp2_with fail
      refine (HRH.out).mono ?_
      rintro e wI ⟨CI, lI, cI, rfl, bI, hatI⟩
      clear x0 x1 x2
      have hGI := HBH.out.trans (bI.mono HBH.out.size)
      obtain ⟨x0, x1, x2, _⟩ := (HXG.out.below hGI HXG.out.lt).facts
      have HGI := Lib.hid hGI
      have HHI := Lib.hid bI
      have HNI := Lib.hid hatI
      have HFI := Lib.hid (HFQ.out wI hGI)
      clear bI hatI hGI
      go_wp2_with fail
      refine (HFI.out).mono ?_
      rintro e wJ ⟨CJ, lJ, cJ, rfl, bJ, hatJ⟩
      clear x0 x1 x2
      have hGJ := HGI.out.trans (bJ.mono HGI.out.size)
      have h4J := HB4G.out.trans (hGJ.mono HB4G.out.size)
      have hbJ := HBG.out.trans (hGJ.mono HBG.out.size)
      have hHJ := HHI.out.trans (bJ.mono HHI.out.size)
      have HMT1 := Lib.hid (natsY_c (c := cH) (d := c2) (HNH.out.below hHJ) (HNA.out wJ h4J).1 rfl)
      have HMT2 := Lib.hid (fun (wz : World) (hz : Below wJ.heap.size wJ wz) => natsY_c (c := cI) (d := c3) ((HNI.out.below bJ).below hz) (HNA.out wz (h4J.trans (hz.mono h4J.size))).2.1 rfl)
      have HMT3 := Lib.hid (fun (wz : World) (hz : Below wJ.heap.size wJ wz) => natsY_c (c := cJ) (d := c4) (hatJ.below hz) (HNA.out wz (h4J.trans (hz.mono h4J.size))).2.2 rfl)
      have HBJ := Lib.hid hbJ
      clear hGJ h4J hbJ hHJ bJ hatJ
      go_wp2_with fail
      refine (HMT1.out).mono ?_
      rintro e wK ⟨rfl, bK⟩
      have HBK := Lib.hid bK
      have HMT2' := Lib.hid (HMT2.out wK bK)
      clear bK
      go_wp2_with fail
      refine (HMT2'.out).mono ?_
      rintro e wL ⟨rfl, bL⟩
      have HBL := Lib.hid (HBK.out.trans (bL.mono HBK.out.size))
      have HMT3' := Lib.hid (HMT3.out wL HBL.out)
      clear bL
      go_wp2_with fail
      refine (HMT3'.out).mono ?_
      rintro e wM ⟨rfl, bM⟩
      have HBM := Lib.hid (HBJ.out.trans ((HBL.out.trans (bM.mono HBL.out.size)).mono HBJ.out.size))
      clear bM
      go_wp2_with fail
      go_ret
      exact ⟨rfl, HBM.out⟩
end Go.Proofs.YtibplgpolmplpaaGreatDoor
