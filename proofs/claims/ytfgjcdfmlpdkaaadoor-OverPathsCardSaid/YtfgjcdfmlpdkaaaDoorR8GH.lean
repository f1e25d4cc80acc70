/- The document's overlap where it refuses: edenref08.Has, Path, Before. Condition: the lists read from memory. The document's overlap: edenref08.Can, Has where it succeeds. Condition: the rule is small, the word one over its symbols; both read from memory. -/
import Derived.Test.YtfgjcdfmlpdkaaaDoorR8AF
import Derived.Test.YtfgjcdfmlpdkaaaDoorR8WS
import Derived.Test.YtfgjcdfmlpdkaaaDoorOverR
namespace Go.Proofs.YtfgjcdfmlpdkaaaDoor
open Go.RowKit RuleP

set_option maxRecDepth 100000 in
set_option maxHeartbeats 4000000 in
theorem refHas_bad (w : World) (K R : Int) (A B : Option Addr) (n c m d : Nat) (T W : List Int) (hT : Sl w A n (T.map (Value.int .i64))) (hm : n ≤ 9223372036854775807) (hW : Sl w B m (W.map (Value.int .i64))) (hm2 : m ≤ 9223372036854775807) (tl : Tale) (hbad : checkO K R T W 256 = some tl) :
    Calls Tryd.prog 42 #[ruleV K R A n c, .slice B m d] w fun e w' => ∃ (N : Nat) (A1 : Option Addr) (n1 c1 : Nat) (A2 : Option Addr) (n2 c2 : Nat), e = .returned (.tuple #[(Value.bool false), .agg #[.int .i64 (N : Int), .slice A1 n1 c1, .slice A2 n2 c2]]) ∧
      WantB w' w.heap.size (some tl) (.agg #[.int .i64 (N : Int), .slice A1 n1 c1, .slice A2 n2 c2]) ∧ Below w.heap.size w w' := by
  have hr0 := (RuleAt.new w (.int .i64 K) (.int .i64 R) (.slice A n c)).alloc (.cells #[.int .i64 0, .slice none 0 0, .slice none 0 0] 60)
  have hw0 := WantAt.new (w.alloc (.cells #[.int .i64 K, .int .i64 R, .slice A n c] 24)) (.int .i64 0) (.slice none 0 0) (.slice none 0 0)
  rw [World.size_alloc] at hw0
  have hb0 := ((Below.refl w.heap.size w).alloc (Nat.le_refl _) (.cells #[.int .i64 K, .int .i64 R, .slice A n c] 24)).alloc (by simp) (.cells #[.int .i64 0, .slice none 0 0, .slice none 0 0] 60)
  have hT0 := hT.below ((((Below.refl w.heap.size w).alloc (Nat.le_refl _) (.cells #[.int .i64 K, .int .i64 R, .slice A n c] 24)).alloc (by simp) (.cells #[.int .i64 0, .slice none 0 0, .slice none 0 0] 60)))
  have hW0 := hW.below ((((Below.refl w.heap.size w).alloc (Nat.le_refl _) (.cells #[.int .i64 K, .int .i64 R, .slice A n c] 24)).alloc (by simp) (.cells #[.int .i64 0, .slice none 0 0, .slice none 0 0] 60)))
  obtain ⟨wx, hwx⟩ : ∃ wx, (w.alloc (.cells #[.int .i64 K, .int .i64 R, .slice A n c] 24)).alloc (.cells #[.int .i64 0, .slice none 0 0, .slice none 0 0] 60) = wx := ⟨_, rfl⟩
  have hsx : wx.heap.size = w.heap.size + 2 := by rw [← hwx]; simp
  have HWX := Lib.hid hwx
  rw [hwx] at hr0 hw0 hb0 hT0 hW0
  have HC := Lib.hid (refFault_c wx sOver K R A n c T hT0 hm)
  have HW0 := Lib.hid hw0
  have HB0 := Lib.hid hb0
  have HR0 := Lib.hid hr0
  have HWW := Lib.hid hW0
  obtain ⟨r0, r1, r2, _⟩ := hr0.facts
  rw [checkO_word] at hbad
  clear hw0 hb0 hT hT0 hW hW0 hr0 hwx
  unfold ruleV at *
  go_enter Tryd.func42, Tryd.ntmps42
  go_wp2_with fail
  rw [HWX.out]
  refine (HC.out).mono ?_
  rintro e w1 ⟨N, A1, n1, c1, A2, n2, c2, rfl, hu, hb1⟩
  change WantB w1 wx.heap.size (smallO K R T) _ at hu
  have hw1 := HW0.out.below hb1 (by omega)
  have hr1 := HR0.out.below hb1 (by omega)
  have hw2 := hw1.alloc (.cells #[.int .i64 (N : Int), .slice A1 n1 c1, .slice A2 n2 c2] 60)
  have hr2 := hr1.alloc (.cells #[.int .i64 (N : Int), .slice A1 n1 c1, .slice A2 n2 c2] 60)
  have hv2 := WantAt.new w1 (.int .i64 (N : Int)) (.slice A1 n1 c1) (.slice A2 n2 c2)
  have hb2 := (HB0.out.trans (hb1.mono HB0.out.size)).alloc (by have := HB0.out.size; have := hb1.size; omega) (.cells #[.int .i64 (N : Int), .slice A1 n1 c1, .slice A2 n2 c2] 60)
  have hu2 := hu.below ((Below.refl w1.heap.size w1).alloc (Nat.le_refl _) (.cells #[.int .i64 (N : Int), .slice A1 n1 c1, .slice A2 n2 c2] 60))
  have hx2 := HWW.out.below (pure_trans hb1 ((Below.refl w1.heap.size w1).alloc (Nat.le_refl _) (.cells #[.int .i64 (N : Int), .slice A1 n1 c1, .slice A2 n2 c2] 60)))
  obtain ⟨wy, hwy⟩ : ∃ wy, w1.alloc (.cells #[.int .i64 (N : Int), .slice A1 n1 c1, .slice A2 n2 c2] 60) = wy := ⟨_, rfl⟩
  have HWY := Lib.hid hwy
  have hsy : w1.heap.size < wy.heap.size := by rw [← hwy]; simp
  have hs1 := hb1.size
  rw [hwy] at hw2 hr2 hv2 hb2 hu2 hx2
  obtain ⟨ge, hge⟩ : ∃ ge, w1.heap.size = ge := ⟨_, rfl⟩
  have HGE := Lib.hid hge
  rw [hge] at hv2 hs1 hsy
  have HBAD := Lib.hid (errBad_c wy N A1 n1 c1 A2 n2 c2)
  have HW2 := Lib.hid hw2
  have HR2 := Lib.hid hr2
  have HV2 := Lib.hid hv2
  have HB2 := Lib.hid hb2
  have HU2 := Lib.hid hu2
  have HX2 := Lib.hid hx2
  obtain ⟨v0, v1, v2, _⟩ := hv2.facts
  clear hw1 hr1 hw2 hr2 hv2 hb2 hu2 hx2 hu hb1 hwy r0 r1 r2 hge
  have hN := HU2.out.num
  cases ho : smallO K R T with
  | some t =>
    rw [ho] at hN HU2 hbad
    obtain rfl : t = tl := Option.some.inj hbad
    have ht := (smallO_ok K R T t ho).1
    have hNz : decide (N ≠ 0) = true := decide_eq_true (by simp only [tnum] at hN; omega)
    rw [hNz] at HBAD
    have HT1 := Lib.hid ht
    clear ho hN ht hNz hbad
    go_wp2_with fail
    rw [HWY.out, HGE.out]
    refine (HBAD.out).mono ?_
    rintro e w3 ⟨rfl, hb3⟩
    have g0 := cell_later hb3 v0
    have g1 := cell_later hb3 v1
    have g2 := cell_later hb3 v2
    have HB3 := Lib.hid hb3
    have HBAD2 := Lib.hid (errBad_c w3 N A1 n1 c1 A2 n2 c2)
    clear v0 v1 v2 hb3
    go_wp2_with fail
    refine (HBAD2.out).mono ?_
    rintro e w4 ⟨hde, hb4⟩
    obtain rfl : e = .returned (.bool true) := by
      rw [hde]
      have hN := HU2.out.num
      have ht := HT1.out
      rw [decide_eq_true (by simp only [tnum] at hN; omega)]
    have hb34 := pure_trans HB3.out hb4
    have k0 := cell_later hb4 g0
    have k1 := cell_later hb4 g1
    have k2 := cell_later hb4 g2
    obtain ⟨d0, d1, d2, f0, f1, f2⟩ := (HW2.out.below hb34 (by omega)).facts
    have HU := Lib.hid (((HU2.out.below hb34.drew).set3 (g := w.heap.size + 1) (by omega) (.int .i64 (N : Int)) (.slice A1 n1 c1) (.slice A2 n2 c2)).base (base' := w.heap.size) (by omega))
    have HB := Lib.hid (below_set3 (HB2.out.trans (hb34.drew.mono HB2.out.size)) (Nat.le_succ _) (.int .i64 (N : Int)) (.slice A1 n1 c1) (.slice A2 n2 c2))
    clear g0 g1 g2 hb4 hb34 hde
    go_wp2_with fail
    go_still_tail 2, (by kernel_rfl)
    change wpList _ _ _ _ _ (World.drew w4)
    go_wp2_with fail
    exact bodyPost_ret (v := .tuple #[(Value.bool false), .agg #[.int .i64 (N : Int), .slice A1 n1 c1, .slice A2 n2 c2]]) (by simp [results, Tryd.results42, go_sem, d0, d1, d2]) rfl ⟨N, A1, n1, c1, A2, n2, c2, rfl, HU.out, HB.out⟩
  | none =>
    rw [ho] at hN hbad
    obtain rfl : N = 0 := hN
    obtain ⟨rfl, rfl, rfl, rfl, rfl, rfl⟩ : A1 = none ∧ n1 = 0 ∧ c1 = 0 ∧ A2 = none ∧ n2 = 0 ∧ c2 = 0 := by
      have := HU2.out
      rw [ho] at this
      have e := this.none_eq
      simp at e
      obtain ⟨⟨q1, q2, q3⟩, q4, q5, q6⟩ := e
      exact ⟨q1, q2, q3, q4, q5, q6⟩
    rw [show decide ((0 : Nat) ≠ 0) = false from rfl, show ((0 : Nat) : Int) = 0 from rfl] at HBAD
    rw [show ((0 : Nat) : Int) = 0 from rfl] at HWY v0
    have HBW := Lib.hid (show wordT sOver K W 256 = some tl from hbad)
    have HN5 := Lib.hid ((wordT_ok sOver K W 256 tl hbad).1)
    clear ho hbad
    go_wp2_with fail
    rw [HWY.out, HGE.out]
    refine (HBAD.out).mono ?_
    rintro e w3 ⟨rfl, hb3⟩
    obtain ⟨r0, r1, r2, _⟩ := (HR2.out.below hb3 (by omega)).facts
    have hv3 := HV2.out.below hb3 (by omega)
    have HV3 := Lib.hid hv3
    have HW3 := Lib.hid (HW2.out.below hb3 (by omega))
    have HB3 := Lib.hid (HB2.out.trans (hb3.mono HB2.out.size))
    have HWF := Lib.hid (wordFault_c w3 sOver K B m d W 256 (HX2.out.below hb3) hm2 (by decide))
    have hs3 := hb3.size
    clear v0 v1 v2 hb3 hv3
    go_wp2_with fail
    refine (HWF.out).mono ?_
    rintro e w4 ⟨N, A1, n1, c1, A2, n2, c2, rfl, hu, hb4⟩
    rw [HBW.out] at hu
    have hs4 := hb4.size
    obtain ⟨e0, e1, e2, ef0, ef1, ef2⟩ := (HV3.out.below hb4 (by omega)).facts
    have hw4 := (HW3.out.below hb4 (by omega)).keeps (keeps_set3 w4 ge (.int .i64 (N : Int)) (.slice A1 n1 c1) (.slice A2 n2 c2)) (by omega)
    have hv4 := (HV3.out.below hb4 (by omega)).set3 (.int .i64 (N : Int)) (.slice A1 n1 c1) (.slice A2 n2 c2)
    have hu4 := hu.set3 (g := ge) (by omega) (.int .i64 (N : Int)) (.slice A1 n1 c1) (.slice A2 n2 c2)
    have hb44 := below_set3 (HB3.out.trans (hb4.mono HB3.out.size)) (show w.heap.size ≤ ge by omega) (.int .i64 (N : Int)) (.slice A1 n1 c1) (.slice A2 n2 c2)
    have hNn := hu.num
    have hsz : (((w4.setCell ⟨ge, 0, none⟩ (.int .i64 (N : Int))).setCell ⟨ge, 1, none⟩ (.slice A1 n1 c1)).setCell ⟨ge, 2, none⟩ (.slice A2 n2 c2)).heap.size = w4.heap.size := by simp [World.setCell]
    obtain ⟨w5, hw5⟩ : ∃ w5, (((w4.setCell ⟨ge, 0, none⟩ (.int .i64 (N : Int))).setCell ⟨ge, 1, none⟩ (.slice A1 n1 c1)).setCell ⟨ge, 2, none⟩ (.slice A2 n2 c2)) = w5 := ⟨_, rfl⟩
    rw [hw5] at hw4 hv4 hu4 hb44 hsz
    have HW5 := Lib.hid hw5
    have HBAD3 := Lib.hid (errBad_c w5 N A1 n1 c1 A2 n2 c2)
    have HW4 := Lib.hid hw4
    have HU4 := Lib.hid hu4
    have HB4 := Lib.hid hb44
    have HV4 := Lib.hid hv4
    have HNN := Lib.hid hNn
    clear hu hb4 hw4 hv4 hu4 hb44 hw5 hNn r0 r1 r2
    go_wp2_with fail
    rw [HW5.out]
    refine (HBAD3.out).mono ?_
    rintro e w6 ⟨hde, hb6⟩
    obtain rfl : e = .returned (.bool true) := by
      rw [hde]
      have h1 := HN5.out
      have h2 := HNN.out
      rw [decide_eq_true (by simp only [tnum] at h2; omega)]
    obtain ⟨k0, k1, k2, _⟩ := (HV4.out.below hb6 (by omega)).facts
    obtain ⟨d0, d1, d2, f0, f1, f2⟩ := (HW4.out.below hb6 (by omega)).facts
    have HU := Lib.hid (((HU4.out.below hb6.drew).set3 (g := w.heap.size + 1) (by omega) (.int .i64 (N : Int)) (.slice A1 n1 c1) (.slice A2 n2 c2)).base (base' := w.heap.size) (by omega))
    have HB := Lib.hid (below_set3 (HB4.out.trans (hb6.drew.mono HB4.out.size)) (Nat.le_succ _) (.int .i64 (N : Int)) (.slice A1 n1 c1) (.slice A2 n2 c2))
    clear hb6 hde e0 e1 e2 ef0 ef1 ef2
    go_wp2_with fail
    go_still_tail 2, (by kernel_rfl)
    change wpList _ _ _ _ _ (World.drew w6)
    go_wp2_with fail
    exact bodyPost_ret (v := .tuple #[(Value.bool false), .agg #[.int .i64 (N : Int), .slice A1 n1 c1, .slice A2 n2 c2]]) (by simp [results, Tryd.results42, go_sem, d0, d1, d2]) rfl ⟨N, A1, n1, c1, A2, n2, c2, rfl, HU.out, HB.out⟩

set_option maxRecDepth 100000 in
set_option maxHeartbeats 4000000 in
theorem refPath_bad (w : World) (K R : Int) (A B : Option Addr) (n c m d : Nat) (T W : List Int) (hT : Sl w A n (T.map (Value.int .i64))) (hm : n ≤ 9223372036854775807) (hW : Sl w B m (W.map (Value.int .i64))) (hm2 : m ≤ 9223372036854775807) (tl : Tale) (hbad : checkO K R T W 4096 = some tl) :
    Calls Tryd.prog 41 #[ruleV K R A n c, .slice B m d] w fun e w' => ∃ (N : Nat) (A1 : Option Addr) (n1 c1 : Nat) (A2 : Option Addr) (n2 c2 : Nat), e = .returned (.tuple #[(Value.slice none 0 0), (Value.slice none 0 0), .agg #[.int .i64 (N : Int), .slice A1 n1 c1, .slice A2 n2 c2]]) ∧
      WantB w' w.heap.size (some tl) (.agg #[.int .i64 (N : Int), .slice A1 n1 c1, .slice A2 n2 c2]) ∧ Below w.heap.size w w' := by
  have hr0 := (RuleAt.new w (.int .i64 K) (.int .i64 R) (.slice A n c)).alloc (.cells #[.int .i64 0, .slice none 0 0, .slice none 0 0] 60)
  have hw0 := WantAt.new (w.alloc (.cells #[.int .i64 K, .int .i64 R, .slice A n c] 24)) (.int .i64 0) (.slice none 0 0) (.slice none 0 0)
  rw [World.size_alloc] at hw0
  have hb0 := ((Below.refl w.heap.size w).alloc (Nat.le_refl _) (.cells #[.int .i64 K, .int .i64 R, .slice A n c] 24)).alloc (by simp) (.cells #[.int .i64 0, .slice none 0 0, .slice none 0 0] 60)
  have hT0 := hT.below ((((Below.refl w.heap.size w).alloc (Nat.le_refl _) (.cells #[.int .i64 K, .int .i64 R, .slice A n c] 24)).alloc (by simp) (.cells #[.int .i64 0, .slice none 0 0, .slice none 0 0] 60)))
  have hW0 := hW.below ((((Below.refl w.heap.size w).alloc (Nat.le_refl _) (.cells #[.int .i64 K, .int .i64 R, .slice A n c] 24)).alloc (by simp) (.cells #[.int .i64 0, .slice none 0 0, .slice none 0 0] 60)))
  obtain ⟨wx, hwx⟩ : ∃ wx, (w.alloc (.cells #[.int .i64 K, .int .i64 R, .slice A n c] 24)).alloc (.cells #[.int .i64 0, .slice none 0 0, .slice none 0 0] 60) = wx := ⟨_, rfl⟩
  have hsx : wx.heap.size = w.heap.size + 2 := by rw [← hwx]; simp
  have HWX := Lib.hid hwx
  rw [hwx] at hr0 hw0 hb0 hT0 hW0
  have HC := Lib.hid (refFault_c wx sOver K R A n c T hT0 hm)
  have HW0 := Lib.hid hw0
  have HB0 := Lib.hid hb0
  have HR0 := Lib.hid hr0
  have HWW := Lib.hid hW0
  obtain ⟨r0, r1, r2, _⟩ := hr0.facts
  rw [checkO_word] at hbad
  clear hw0 hb0 hT hT0 hW hW0 hr0 hwx
  unfold ruleV at *
  go_enter Tryd.func41, Tryd.ntmps41
  go_wp2_with fail
  rw [HWX.out]
  refine (HC.out).mono ?_
  rintro e w1 ⟨N, A1, n1, c1, A2, n2, c2, rfl, hu, hb1⟩
  change WantB w1 wx.heap.size (smallO K R T) _ at hu
  have hw1 := HW0.out.below hb1 (by omega)
  have hr1 := HR0.out.below hb1 (by omega)
  have hw2 := hw1.alloc (.cells #[.int .i64 (N : Int), .slice A1 n1 c1, .slice A2 n2 c2] 60)
  have hr2 := hr1.alloc (.cells #[.int .i64 (N : Int), .slice A1 n1 c1, .slice A2 n2 c2] 60)
  have hv2 := WantAt.new w1 (.int .i64 (N : Int)) (.slice A1 n1 c1) (.slice A2 n2 c2)
  have hb2 := (HB0.out.trans (hb1.mono HB0.out.size)).alloc (by have := HB0.out.size; have := hb1.size; omega) (.cells #[.int .i64 (N : Int), .slice A1 n1 c1, .slice A2 n2 c2] 60)
  have hu2 := hu.below ((Below.refl w1.heap.size w1).alloc (Nat.le_refl _) (.cells #[.int .i64 (N : Int), .slice A1 n1 c1, .slice A2 n2 c2] 60))
  have hx2 := HWW.out.below (pure_trans hb1 ((Below.refl w1.heap.size w1).alloc (Nat.le_refl _) (.cells #[.int .i64 (N : Int), .slice A1 n1 c1, .slice A2 n2 c2] 60)))
  obtain ⟨wy, hwy⟩ : ∃ wy, w1.alloc (.cells #[.int .i64 (N : Int), .slice A1 n1 c1, .slice A2 n2 c2] 60) = wy := ⟨_, rfl⟩
  have HWY := Lib.hid hwy
  have hsy : w1.heap.size < wy.heap.size := by rw [← hwy]; simp
  have hs1 := hb1.size
  rw [hwy] at hw2 hr2 hv2 hb2 hu2 hx2
  obtain ⟨ge, hge⟩ : ∃ ge, w1.heap.size = ge := ⟨_, rfl⟩
  have HGE := Lib.hid hge
  rw [hge] at hv2 hs1 hsy
  have HBAD := Lib.hid (errBad_c wy N A1 n1 c1 A2 n2 c2)
  have HW2 := Lib.hid hw2
  have HR2 := Lib.hid hr2
  have HV2 := Lib.hid hv2
  have HB2 := Lib.hid hb2
  have HU2 := Lib.hid hu2
  have HX2 := Lib.hid hx2
  obtain ⟨v0, v1, v2, _⟩ := hv2.facts
  clear hw1 hr1 hw2 hr2 hv2 hb2 hu2 hx2 hu hb1 hwy r0 r1 r2 hge
  have hN := HU2.out.num
  cases ho : smallO K R T with
  | some t =>
    rw [ho] at hN HU2 hbad
    obtain rfl : t = tl := Option.some.inj hbad
    have ht := (smallO_ok K R T t ho).1
    have hNz : decide (N ≠ 0) = true := decide_eq_true (by simp only [tnum] at hN; omega)
    rw [hNz] at HBAD
    have HT1 := Lib.hid ht
    clear ho hN ht hNz hbad
    go_wp2_with fail
    rw [HWY.out, HGE.out]
    refine (HBAD.out).mono ?_
    rintro e w3 ⟨rfl, hb3⟩
    have g0 := cell_later hb3 v0
    have g1 := cell_later hb3 v1
    have g2 := cell_later hb3 v2
    have HB3 := Lib.hid hb3
    have HBAD2 := Lib.hid (errBad_c w3 N A1 n1 c1 A2 n2 c2)
    clear v0 v1 v2 hb3
    go_wp2_with fail
    refine (HBAD2.out).mono ?_
    rintro e w4 ⟨hde, hb4⟩
    obtain rfl : e = .returned (.bool true) := by
      rw [hde]
      have hN := HU2.out.num
      have ht := HT1.out
      rw [decide_eq_true (by simp only [tnum] at hN; omega)]
    have hb34 := pure_trans HB3.out hb4
    have k0 := cell_later hb4 g0
    have k1 := cell_later hb4 g1
    have k2 := cell_later hb4 g2
    obtain ⟨d0, d1, d2, f0, f1, f2⟩ := (HW2.out.below hb34 (by omega)).facts
    have HU := Lib.hid (((HU2.out.below hb34.drew).set3 (g := w.heap.size + 1) (by omega) (.int .i64 (N : Int)) (.slice A1 n1 c1) (.slice A2 n2 c2)).base (base' := w.heap.size) (by omega))
    have HB := Lib.hid (below_set3 (HB2.out.trans (hb34.drew.mono HB2.out.size)) (Nat.le_succ _) (.int .i64 (N : Int)) (.slice A1 n1 c1) (.slice A2 n2 c2))
    clear g0 g1 g2 hb4 hb34 hde
    go_wp2_with fail
    go_still_tail 3, (by kernel_rfl)
    change wpList _ _ _ _ _ (World.drew w4)
    go_wp2_with fail
    exact bodyPost_ret (v := .tuple #[(Value.slice none 0 0), (Value.slice none 0 0), .agg #[.int .i64 (N : Int), .slice A1 n1 c1, .slice A2 n2 c2]]) (by simp [results, Tryd.results41, go_sem, d0, d1, d2]) rfl ⟨N, A1, n1, c1, A2, n2, c2, rfl, HU.out, HB.out⟩
  | none =>
    rw [ho] at hN hbad
    obtain rfl : N = 0 := hN
    obtain ⟨rfl, rfl, rfl, rfl, rfl, rfl⟩ : A1 = none ∧ n1 = 0 ∧ c1 = 0 ∧ A2 = none ∧ n2 = 0 ∧ c2 = 0 := by
      have := HU2.out
      rw [ho] at this
      have e := this.none_eq
      simp at e
      obtain ⟨⟨q1, q2, q3⟩, q4, q5, q6⟩ := e
      exact ⟨q1, q2, q3, q4, q5, q6⟩
    rw [show decide ((0 : Nat) ≠ 0) = false from rfl, show ((0 : Nat) : Int) = 0 from rfl] at HBAD
    rw [show ((0 : Nat) : Int) = 0 from rfl] at HWY v0
    have HBW := Lib.hid (show wordT sOver K W 4096 = some tl from hbad)
    have HN5 := Lib.hid ((wordT_ok sOver K W 4096 tl hbad).1)
    clear ho hbad
    go_wp2_with fail
    rw [HWY.out, HGE.out]
    refine (HBAD.out).mono ?_
    rintro e w3 ⟨rfl, hb3⟩
    obtain ⟨r0, r1, r2, _⟩ := (HR2.out.below hb3 (by omega)).facts
    have hv3 := HV2.out.below hb3 (by omega)
    have HV3 := Lib.hid hv3
    have HW3 := Lib.hid (HW2.out.below hb3 (by omega))
    have HB3 := Lib.hid (HB2.out.trans (hb3.mono HB2.out.size))
    have HWF := Lib.hid (wordFault_c w3 sOver K B m d W 4096 (HX2.out.below hb3) hm2 (by decide))
    have hs3 := hb3.size
    clear v0 v1 v2 hb3 hv3
    go_wp2_with fail
    refine (HWF.out).mono ?_
    rintro e w4 ⟨N, A1, n1, c1, A2, n2, c2, rfl, hu, hb4⟩
    rw [HBW.out] at hu
    have hs4 := hb4.size
    obtain ⟨e0, e1, e2, ef0, ef1, ef2⟩ := (HV3.out.below hb4 (by omega)).facts
    have hw4 := (HW3.out.below hb4 (by omega)).keeps (keeps_set3 w4 ge (.int .i64 (N : Int)) (.slice A1 n1 c1) (.slice A2 n2 c2)) (by omega)
    have hv4 := (HV3.out.below hb4 (by omega)).set3 (.int .i64 (N : Int)) (.slice A1 n1 c1) (.slice A2 n2 c2)
    have hu4 := hu.set3 (g := ge) (by omega) (.int .i64 (N : Int)) (.slice A1 n1 c1) (.slice A2 n2 c2)
    have hb44 := below_set3 (HB3.out.trans (hb4.mono HB3.out.size)) (show w.heap.size ≤ ge by omega) (.int .i64 (N : Int)) (.slice A1 n1 c1) (.slice A2 n2 c2)
    have hNn := hu.num
    have hsz : (((w4.setCell ⟨ge, 0, none⟩ (.int .i64 (N : Int))).setCell ⟨ge, 1, none⟩ (.slice A1 n1 c1)).setCell ⟨ge, 2, none⟩ (.slice A2 n2 c2)).heap.size = w4.heap.size := by simp [World.setCell]
    obtain ⟨w5, hw5⟩ : ∃ w5, (((w4.setCell ⟨ge, 0, none⟩ (.int .i64 (N : Int))).setCell ⟨ge, 1, none⟩ (.slice A1 n1 c1)).setCell ⟨ge, 2, none⟩ (.slice A2 n2 c2)) = w5 := ⟨_, rfl⟩
    rw [hw5] at hw4 hv4 hu4 hb44 hsz
    have HW5 := Lib.hid hw5
    have HBAD3 := Lib.hid (errBad_c w5 N A1 n1 c1 A2 n2 c2)
    have HW4 := Lib.hid hw4
    have HU4 := Lib.hid hu4
    have HB4 := Lib.hid hb44
    have HV4 := Lib.hid hv4
    have HNN := Lib.hid hNn
    clear hu hb4 hw4 hv4 hu4 hb44 hw5 hNn r0 r1 r2
    go_wp2_with fail
    rw [HW5.out]
    refine (HBAD3.out).mono ?_
    rintro e w6 ⟨hde, hb6⟩
    obtain rfl : e = .returned (.bool true) := by
      rw [hde]
      have h1 := HN5.out
      have h2 := HNN.out
      rw [decide_eq_true (by simp only [tnum] at h2; omega)]
    obtain ⟨k0, k1, k2, _⟩ := (HV4.out.below hb6 (by omega)).facts
    obtain ⟨d0, d1, d2, f0, f1, f2⟩ := (HW4.out.below hb6 (by omega)).facts
    have HU := Lib.hid (((HU4.out.below hb6.drew).set3 (g := w.heap.size + 1) (by omega) (.int .i64 (N : Int)) (.slice A1 n1 c1) (.slice A2 n2 c2)).base (base' := w.heap.size) (by omega))
    have HB := Lib.hid (below_set3 (HB4.out.trans (hb6.drew.mono HB4.out.size)) (Nat.le_succ _) (.int .i64 (N : Int)) (.slice A1 n1 c1) (.slice A2 n2 c2))
    clear hb6 hde e0 e1 e2 ef0 ef1 ef2
    go_wp2_with fail
    go_still_tail 3, (by kernel_rfl)
    change wpList _ _ _ _ _ (World.drew w6)
    go_wp2_with fail
    exact bodyPost_ret (v := .tuple #[(Value.slice none 0 0), (Value.slice none 0 0), .agg #[.int .i64 (N : Int), .slice A1 n1 c1, .slice A2 n2 c2]]) (by simp [results, Tryd.results41, go_sem, d0, d1, d2]) rfl ⟨N, A1, n1, c1, A2, n2, c2, rfl, HU.out, HB.out⟩

set_option maxRecDepth 100000 in
set_option maxHeartbeats 4000000 in
theorem refBefore_bad (w : World) (K R : Int) (A B : Option Addr) (n c m d : Nat) (most : Int) (T W : List Int) (hT : Sl w A n (T.map (Value.int .i64))) (hm : n ≤ 9223372036854775807) (hW : Sl w B m (W.map (Value.int .i64))) (hm2 : m ≤ 9223372036854775807) (tl : Tale) (hbad : checkO K R T W 256 = some tl) :
    Calls Tryd.prog 35 #[ruleV K R A n c, .slice B m d, .int .i64 most] w fun e w' => ∃ (N : Nat) (A1 : Option Addr) (n1 c1 : Nat) (A2 : Option Addr) (n2 c2 : Nat), e = .returned (.tuple #[(Value.slice none 0 0), (Value.bool false), .agg #[.int .i64 (N : Int), .slice A1 n1 c1, .slice A2 n2 c2]]) ∧
      WantB w' w.heap.size (some tl) (.agg #[.int .i64 (N : Int), .slice A1 n1 c1, .slice A2 n2 c2]) ∧ Below w.heap.size w w' := by
  have hr0 := (RuleAt.new w (.int .i64 K) (.int .i64 R) (.slice A n c)).alloc (.cells #[.int .i64 0, .slice none 0 0, .slice none 0 0] 60)
  have hw0 := WantAt.new (w.alloc (.cells #[.int .i64 K, .int .i64 R, .slice A n c] 24)) (.int .i64 0) (.slice none 0 0) (.slice none 0 0)
  rw [World.size_alloc] at hw0
  have hb0 := ((Below.refl w.heap.size w).alloc (Nat.le_refl _) (.cells #[.int .i64 K, .int .i64 R, .slice A n c] 24)).alloc (by simp) (.cells #[.int .i64 0, .slice none 0 0, .slice none 0 0] 60)
  have hT0 := hT.below ((((Below.refl w.heap.size w).alloc (Nat.le_refl _) (.cells #[.int .i64 K, .int .i64 R, .slice A n c] 24)).alloc (by simp) (.cells #[.int .i64 0, .slice none 0 0, .slice none 0 0] 60)))
  have hW0 := hW.below ((((Below.refl w.heap.size w).alloc (Nat.le_refl _) (.cells #[.int .i64 K, .int .i64 R, .slice A n c] 24)).alloc (by simp) (.cells #[.int .i64 0, .slice none 0 0, .slice none 0 0] 60)))
  obtain ⟨wx, hwx⟩ : ∃ wx, (w.alloc (.cells #[.int .i64 K, .int .i64 R, .slice A n c] 24)).alloc (.cells #[.int .i64 0, .slice none 0 0, .slice none 0 0] 60) = wx := ⟨_, rfl⟩
  have hsx : wx.heap.size = w.heap.size + 2 := by rw [← hwx]; simp
  have HWX := Lib.hid hwx
  rw [hwx] at hr0 hw0 hb0 hT0 hW0
  have HC := Lib.hid (refFault_c wx sOver K R A n c T hT0 hm)
  have HW0 := Lib.hid hw0
  have HB0 := Lib.hid hb0
  have HR0 := Lib.hid hr0
  have HWW := Lib.hid hW0
  obtain ⟨r0, r1, r2, _⟩ := hr0.facts
  rw [checkO_word] at hbad
  clear hw0 hb0 hT hT0 hW hW0 hr0 hwx
  unfold ruleV at *
  go_enter Tryd.func35, Tryd.ntmps35
  go_wp2_with fail
  rw [HWX.out]
  refine (HC.out).mono ?_
  rintro e w1 ⟨N, A1, n1, c1, A2, n2, c2, rfl, hu, hb1⟩
  change WantB w1 wx.heap.size (smallO K R T) _ at hu
  have hw1 := HW0.out.below hb1 (by omega)
  have hr1 := HR0.out.below hb1 (by omega)
  have hw2 := hw1.alloc (.cells #[.int .i64 (N : Int), .slice A1 n1 c1, .slice A2 n2 c2] 60)
  have hr2 := hr1.alloc (.cells #[.int .i64 (N : Int), .slice A1 n1 c1, .slice A2 n2 c2] 60)
  have hv2 := WantAt.new w1 (.int .i64 (N : Int)) (.slice A1 n1 c1) (.slice A2 n2 c2)
  have hb2 := (HB0.out.trans (hb1.mono HB0.out.size)).alloc (by have := HB0.out.size; have := hb1.size; omega) (.cells #[.int .i64 (N : Int), .slice A1 n1 c1, .slice A2 n2 c2] 60)
  have hu2 := hu.below ((Below.refl w1.heap.size w1).alloc (Nat.le_refl _) (.cells #[.int .i64 (N : Int), .slice A1 n1 c1, .slice A2 n2 c2] 60))
  have hx2 := HWW.out.below (pure_trans hb1 ((Below.refl w1.heap.size w1).alloc (Nat.le_refl _) (.cells #[.int .i64 (N : Int), .slice A1 n1 c1, .slice A2 n2 c2] 60)))
  obtain ⟨wy, hwy⟩ : ∃ wy, w1.alloc (.cells #[.int .i64 (N : Int), .slice A1 n1 c1, .slice A2 n2 c2] 60) = wy := ⟨_, rfl⟩
  have HWY := Lib.hid hwy
  have hsy : w1.heap.size < wy.heap.size := by rw [← hwy]; simp
  have hs1 := hb1.size
  rw [hwy] at hw2 hr2 hv2 hb2 hu2 hx2
  obtain ⟨ge, hge⟩ : ∃ ge, w1.heap.size = ge := ⟨_, rfl⟩
  have HGE := Lib.hid hge
  rw [hge] at hv2 hs1 hsy
  have HBAD := Lib.hid (errBad_c wy N A1 n1 c1 A2 n2 c2)
  have HW2 := Lib.hid hw2
  have HR2 := Lib.hid hr2
  have HV2 := Lib.hid hv2
  have HB2 := Lib.hid hb2
  have HU2 := Lib.hid hu2
  have HX2 := Lib.hid hx2
  obtain ⟨v0, v1, v2, _⟩ := hv2.facts
  clear hw1 hr1 hw2 hr2 hv2 hb2 hu2 hx2 hu hb1 hwy r0 r1 r2 hge
  have hN := HU2.out.num
  cases ho : smallO K R T with
  | some t =>
    rw [ho] at hN HU2 hbad
    obtain rfl : t = tl := Option.some.inj hbad
    have ht := (smallO_ok K R T t ho).1
    have hNz : decide (N ≠ 0) = true := decide_eq_true (by simp only [tnum] at hN; omega)
    rw [hNz] at HBAD
    have HT1 := Lib.hid ht
    clear ho hN ht hNz hbad
    go_wp2_with fail
    rw [HWY.out, HGE.out]
    refine (HBAD.out).mono ?_
    rintro e w3 ⟨rfl, hb3⟩
    have g0 := cell_later hb3 v0
    have g1 := cell_later hb3 v1
    have g2 := cell_later hb3 v2
    have HB3 := Lib.hid hb3
    have HBAD2 := Lib.hid (errBad_c w3 N A1 n1 c1 A2 n2 c2)
    clear v0 v1 v2 hb3
    go_wp2_with fail
    refine (HBAD2.out).mono ?_
    rintro e w4 ⟨hde, hb4⟩
    obtain rfl : e = .returned (.bool true) := by
      rw [hde]
      have hN := HU2.out.num
      have ht := HT1.out
      rw [decide_eq_true (by simp only [tnum] at hN; omega)]
    have hb34 := pure_trans HB3.out hb4
    have k0 := cell_later hb4 g0
    have k1 := cell_later hb4 g1
    have k2 := cell_later hb4 g2
    obtain ⟨d0, d1, d2, f0, f1, f2⟩ := (HW2.out.below hb34 (by omega)).facts
    have HU := Lib.hid (((HU2.out.below hb34.drew).set3 (g := w.heap.size + 1) (by omega) (.int .i64 (N : Int)) (.slice A1 n1 c1) (.slice A2 n2 c2)).base (base' := w.heap.size) (by omega))
    have HB := Lib.hid (below_set3 (HB2.out.trans (hb34.drew.mono HB2.out.size)) (Nat.le_succ _) (.int .i64 (N : Int)) (.slice A1 n1 c1) (.slice A2 n2 c2))
    clear g0 g1 g2 hb4 hb34 hde
    go_wp2_with fail
    go_still_tail 3, (by kernel_rfl)
    change wpList _ _ _ _ _ (World.drew w4)
    go_wp2_with fail
    exact bodyPost_ret (v := .tuple #[(Value.slice none 0 0), (Value.bool false), .agg #[.int .i64 (N : Int), .slice A1 n1 c1, .slice A2 n2 c2]]) (by simp [results, Tryd.results35, go_sem, d0, d1, d2]) rfl ⟨N, A1, n1, c1, A2, n2, c2, rfl, HU.out, HB.out⟩
  | none =>
    rw [ho] at hN hbad
    obtain rfl : N = 0 := hN
    obtain ⟨rfl, rfl, rfl, rfl, rfl, rfl⟩ : A1 = none ∧ n1 = 0 ∧ c1 = 0 ∧ A2 = none ∧ n2 = 0 ∧ c2 = 0 := by
      have := HU2.out
      rw [ho] at this
      have e := this.none_eq
      simp at e
      obtain ⟨⟨q1, q2, q3⟩, q4, q5, q6⟩ := e
      exact ⟨q1, q2, q3, q4, q5, q6⟩
    rw [show decide ((0 : Nat) ≠ 0) = false from rfl, show ((0 : Nat) : Int) = 0 from rfl] at HBAD
    rw [show ((0 : Nat) : Int) = 0 from rfl] at HWY v0
    have HBW := Lib.hid (show wordT sOver K W 256 = some tl from hbad)
    have HN5 := Lib.hid ((wordT_ok sOver K W 256 tl hbad).1)
    clear ho hbad
    go_wp2_with fail
    rw [HWY.out, HGE.out]
    refine (HBAD.out).mono ?_
    rintro e w3 ⟨rfl, hb3⟩
    obtain ⟨r0, r1, r2, _⟩ := (HR2.out.below hb3 (by omega)).facts
    have hv3 := HV2.out.below hb3 (by omega)
    have HV3 := Lib.hid hv3
    have HW3 := Lib.hid (HW2.out.below hb3 (by omega))
    have HB3 := Lib.hid (HB2.out.trans (hb3.mono HB2.out.size))
    have HWF := Lib.hid (wordFault_c w3 sOver K B m d W 256 (HX2.out.below hb3) hm2 (by decide))
    have hs3 := hb3.size
    clear v0 v1 v2 hb3 hv3
    go_wp2_with fail
    refine (HWF.out).mono ?_
    rintro e w4 ⟨N, A1, n1, c1, A2, n2, c2, rfl, hu, hb4⟩
    rw [HBW.out] at hu
    have hs4 := hb4.size
    obtain ⟨e0, e1, e2, ef0, ef1, ef2⟩ := (HV3.out.below hb4 (by omega)).facts
    have hw4 := (HW3.out.below hb4 (by omega)).keeps (keeps_set3 w4 ge (.int .i64 (N : Int)) (.slice A1 n1 c1) (.slice A2 n2 c2)) (by omega)
    have hv4 := (HV3.out.below hb4 (by omega)).set3 (.int .i64 (N : Int)) (.slice A1 n1 c1) (.slice A2 n2 c2)
    have hu4 := hu.set3 (g := ge) (by omega) (.int .i64 (N : Int)) (.slice A1 n1 c1) (.slice A2 n2 c2)
    have hb44 := below_set3 (HB3.out.trans (hb4.mono HB3.out.size)) (show w.heap.size ≤ ge by omega) (.int .i64 (N : Int)) (.slice A1 n1 c1) (.slice A2 n2 c2)
    have hNn := hu.num
    have hsz : (((w4.setCell ⟨ge, 0, none⟩ (.int .i64 (N : Int))).setCell ⟨ge, 1, none⟩ (.slice A1 n1 c1)).setCell ⟨ge, 2, none⟩ (.slice A2 n2 c2)).heap.size = w4.heap.size := by simp [World.setCell]
    obtain ⟨w5, hw5⟩ : ∃ w5, (((w4.setCell ⟨ge, 0, none⟩ (.int .i64 (N : Int))).setCell ⟨ge, 1, none⟩ (.slice A1 n1 c1)).setCell ⟨ge, 2, none⟩ (.slice A2 n2 c2)) = w5 := ⟨_, rfl⟩
    rw [hw5] at hw4 hv4 hu4 hb44 hsz
    have HW5 := Lib.hid hw5
    have HBAD3 := Lib.hid (errBad_c w5 N A1 n1 c1 A2 n2 c2)
    have HW4 := Lib.hid hw4
    have HU4 := Lib.hid hu4
    have HB4 := Lib.hid hb44
    have HV4 := Lib.hid hv4
    have HNN := Lib.hid hNn
    clear hu hb4 hw4 hv4 hu4 hb44 hw5 hNn r0 r1 r2
    go_wp2_with fail
    rw [HW5.out]
    refine (HBAD3.out).mono ?_
    rintro e w6 ⟨hde, hb6⟩
    obtain rfl : e = .returned (.bool true) := by
      rw [hde]
      have h1 := HN5.out
      have h2 := HNN.out
      rw [decide_eq_true (by simp only [tnum] at h2; omega)]
    obtain ⟨k0, k1, k2, _⟩ := (HV4.out.below hb6 (by omega)).facts
    obtain ⟨d0, d1, d2, f0, f1, f2⟩ := (HW4.out.below hb6 (by omega)).facts
    have HU := Lib.hid (((HU4.out.below hb6.drew).set3 (g := w.heap.size + 1) (by omega) (.int .i64 (N : Int)) (.slice A1 n1 c1) (.slice A2 n2 c2)).base (base' := w.heap.size) (by omega))
    have HB := Lib.hid (below_set3 (HB4.out.trans (hb6.drew.mono HB4.out.size)) (Nat.le_succ _) (.int .i64 (N : Int)) (.slice A1 n1 c1) (.slice A2 n2 c2))
    clear hb6 hde e0 e1 e2 ef0 ef1 ef2
    go_wp2_with fail
    go_still_tail 3, (by kernel_rfl)
    change wpList _ _ _ _ _ (World.drew w6)
    go_wp2_with fail
    exact bodyPost_ret (v := .tuple #[(Value.slice none 0 0), (Value.bool false), .agg #[.int .i64 (N : Int), .slice A1 n1 c1, .slice A2 n2 c2]]) (by simp [results, Tryd.results35, go_sem, d0, d1, d2]) rfl ⟨N, A1, n1, c1, A2, n2, c2, rfl, HU.out, HB.out⟩

end Go.Proofs.YtfgjcdfmlpdkaaaDoor

namespace Go.Proofs.YtfgjcdfmlpdkaaaDoor
open Go.RowKit RuleP

theorem bad_zero (w : World) : Calls Tryd.prog 74 #[.agg #[.int .i64 0, .slice none 0 0, .slice none 0 0]] w fun e w' => e = .returned (.bool false) ∧ Below w.heap.size w w' := by
  have := errBad_c w 0 none 0 0 none 0 0
  simpa using this

/-- Is there a way from some node? -/
theorem has_true {k r u : Nat} {t W : List Nat} (hu : u < k ^ (2 * r)) (h : wayB k (k ^ (2 * r)) t u W = true) : hasB k r t W = true := by
  have h' := of_decide_eq_true h
  obtain ⟨z, hz⟩ : ∃ z, z ∈ sols k (k ^ (2 * r)) t u W := by
    cases hs : sols k (k ^ (2 * r)) t u W with
    | nil => exact absurd hs h'
    | cons z l => exact ⟨z, by simp⟩
  refine decide_eq_true (fun e => ?_)
  have := before_mem.2 ⟨u, z, hu, hz, rfl⟩
  rw [e] at this
  cases this
theorem has_false {k r : Nat} {t W : List Nat} (h : ∀ u, u < k ^ (2 * r) → wayB k (k ^ (2 * r)) t u W = false) : hasB k r t W = false := by
  refine decide_eq_false (fun h2 => h2 ?_)
  cases hb : before k r t W with
  | nil => rfl
  | cons y l =>
    have hy : y ∈ before k r t W := by rw [hb]; simp
    obtain ⟨u, z, hu, hz, _⟩ := before_mem.1 hy
    have h1 := h u hu
    have h3 : sols k (k ^ (2 * r)) t u W = [] := by simpa [wayB] using h1
    rw [h3] at hz
    cases hz

set_option maxRecDepth 100000 in
set_option maxHeartbeats 2000000 in
theorem can_c (w : World) (k r : Nat) (A B : Option Addr) (n c m d : Nat) (t W : List Nat) (hr : IsRule k r t) (hsm : t.length ≤ 256) (hT : Sl w A n ((ints t).map (Value.int .i64))) (hW : Sl w B m ((ints W).map (Value.int .i64))) (hm : m ≤ 4096) :
    Calls Tryd.prog 86 #[ruleV k r A n c, .slice B m d] w fun e w' => e = .returned (.bool (hasB k r t W)) ∧ Below w.heap.size w w' := by
  have hb0 := (Below.refl w.heap.size w).alloc (Nat.le_refl _) (.cells #[.int .i64 (k : Int), .int .i64 (r : Int), .slice A n c] 24)
  have hr0 := RuleAt.new w (.int .i64 (k : Int)) (.int .i64 (r : Int)) (.slice A n c)
  have HWY := Lib.hid (ways_c _ k r A B n c m d t W hr hsm (hT.below hb0) (hW.below hb0) hm)
  have hN256 : k ^ (2 * r) ≤ 256 := by
    have h1 := (nodes_div hr).2
    have : k ^ (2 * r) * 1 ≤ k ^ (2 * r) * k := Nat.mul_le_mul_left _ hr.k1
    omega
  have HTR := Lib.hid (fun (u : Nat) => has_true (k := k) (r := r) (u := u) (t := t) (W := W))
  have HFA := Lib.hid (has_false (k := k) (r := r) (t := t) (W := W))
  obtain ⟨N, hN⟩ : ∃ N, k ^ (2 * r) = N := ⟨_, rfl⟩
  rw [hN] at HWY hN256 HTR HFA
  have HB0 := Lib.hid hb0
  obtain ⟨r0, r1, r2, _⟩ := hr0.facts
  clear hr0 hb0 hT hW hr hN
  unfold ruleV at *
  go_enter Tryd.func86, Tryd.ntmps86
  go_wp2_with fail
  refine (HWY.out).mono ?_
  rintro e w1 ⟨v, G, rfl, hw, hb1⟩
  obtain ⟨g0, g, rfl, hG, _, hc0⟩ := hw.first
  have HRD := Lib.hid (fun (u : Nat) (hu : u < N) => (by
    obtain ⟨g2, g3, e1, e2, _, e4⟩ := hw.reads (Nat.zero_le _) hu
    cases e1
    rw [hG] at e2
    cases e2
    exact e4 : w1.cell? ⟨g, u, none⟩ = some (.bool (wayB k N t u W))))
  have HB1 := Lib.hid (below_box hb1)
  clear hb1 hw hG r0 r1 r2
  go_wp2_with fail
  go_loop [6] (fun uv => ∃ u : Nat, u ≤ N ∧ uv = .int .i64 (u : Int) ∧ Hid (∀ j, j < u → wayB k N t j W = false)) (fun uv => N - (intOf uv).toNat)
  case atStart => exact ⟨0, Nat.zero_le _, rfl, Lib.hid (fun j hj => absurd hj (Nat.not_lt_zero _))⟩
  case round =>
    obtain ⟨u, hu, rfl, hP⟩ := hrel
    by_cases hlt : u < N
    · have hcell := HRD.out u hlt
      obtain ⟨b, hb⟩ : ∃ b, wayB k N t u W = b := ⟨_, rfl⟩
      rw [hb] at hcell
      cases b with
      | true =>
        have HV := Lib.hid (HTR.out u hlt hb)
        clear hb
        go_wp2_with fail
        go_ret
        exact ⟨by rw [HV.out]; rfl, HB1.out⟩
      | false =>
        have HN2 : Hid (∀ j, j < u + 1 → wayB k N t j W = false) := Lib.hid (fun j hj => by
          rcases Nat.lt_or_ge j u with h | h
          · exact hP.out j h
          · obtain rfl : j = u := by omega
            exact hb)
        clear hb hP
        go_wp2_with fail
        go_round
        case rel => exact ⟨u + 1, by omega, by go_num, HN2⟩
        case measure => simp [intOf]; omega
    · obtain rfl : u = N := by omega
      have HV := Lib.hid (HFA.out hP.out)
      clear hP
      go_wp2_with fail
      go_ret
      exact ⟨by rw [HV.out]; rfl, HB1.out⟩


set_option maxRecDepth 100000 in
set_option maxHeartbeats 4000000 in
theorem refHas_good (w : World) (k r : Nat) (A B : Option Addr) (n c m d : Nat) (t W : List Nat) (hr : IsRule k r t) (hsm : t.length ≤ 256) (hs : ∀ x ∈ W, x < k) (hT : Sl w A n ((ints t).map (Value.int .i64))) (hW : Sl w B m ((ints W).map (Value.int .i64))) (hm : m ≤ 256) :
    Calls Tryd.prog 42 #[ruleV k r A n c, .slice B m d] w fun e w' => e = .returned (.tuple #[.bool (hasB k r t W), .agg #[.int .i64 0, .slice none 0 0, .slice none 0 0]]) ∧ Below w.heap.size w w' := by
  have hnt : t.length = n := by simpa [ints] using hT.1
  have hmw : W.length = m := by simpa [ints] using hW.1
  have hn256 : n ≤ 256 := by omega
  have hk1 := hr.k1
  have hk4 := hr.k4
  have hr3 := hr.r3
  have hr0 := (RuleAt.new w (.int .i64 (k : Int)) (.int .i64 (r : Int)) (.slice A n c)).alloc (.cells #[.int .i64 0, .slice none 0 0, .slice none 0 0] 60)
  have hw0 := WantAt.new (w.alloc (.cells #[.int .i64 (k : Int), .int .i64 (r : Int), .slice A n c] 24)) (.int .i64 0) (.slice none 0 0) (.slice none 0 0)
  rw [World.size_alloc] at hw0
  have hb0 := ((Below.refl w.heap.size w).alloc (Nat.le_refl _) (.cells #[.int .i64 (k : Int), .int .i64 (r : Int), .slice A n c] 24)).alloc (by simp) (.cells #[.int .i64 0, .slice none 0 0, .slice none 0 0] 60)
  have hT0 := hT.below hb0
  have hW0 := hW.below hb0
  obtain ⟨wx, hwx⟩ : ∃ wx, (w.alloc (.cells #[.int .i64 (k : Int), .int .i64 (r : Int), .slice A n c] 24)).alloc (.cells #[.int .i64 0, .slice none 0 0, .slice none 0 0] 60) = wx := ⟨_, rfl⟩
  have hsx : wx.heap.size = w.heap.size + 2 := by rw [← hwx]; simp
  have HWX := Lib.hid hwx
  rw [hwx] at hr0 hw0 hb0 hT0 hW0
  have hc := refFault_c wx sOver k r A n c (ints t) hT0 (by omega)
  have hsn := smallO_rule hr hsm
  rw [show under sOver 0 (small k r (ints t)) = none from hsn] at hc
  have hck := checkO_good (most := 256) hr hsm hs (by omega)
  rw [checkO_word, hsn] at hck
  simp only at hck
  have HBW := Lib.hid hck
  have HC := Lib.hid hc
  have HW0 := Lib.hid hw0
  have HB0 := Lib.hid hb0
  have HR0 := Lib.hid hr0
  have HWW := Lib.hid hW0
  have HTT := Lib.hid hT0
  have HR := Lib.hid hr
  have HS := Lib.hid hs
  have HNT := Lib.hid hnt
  have HMW := Lib.hid hmw
  obtain ⟨r0, r1, r2, _⟩ := hr0.facts
  clear hw0 hb0 hT hT0 hW hW0 hr0 hwx hc hsn hck hr hs hnt hmw
  unfold ruleV at *
  go_enter Tryd.func42, Tryd.ntmps42
  go_wp2_with fail
  rw [HWX.out]
  refine (HC.out).mono ?_
  rintro e w1 ⟨N, A1, n1, c1, A2, n2, c2, rfl, hu, hb1⟩
  obtain rfl : N = 0 := hu.num
  obtain ⟨rfl, rfl, rfl, rfl, rfl, rfl⟩ : A1 = none ∧ n1 = 0 ∧ c1 = 0 ∧ A2 = none ∧ n2 = 0 ∧ c2 = 0 := by
    have e := hu.none_eq
    simp at e
    obtain ⟨⟨q1, q2, q3⟩, q4, q5, q6⟩ := e
    exact ⟨q1, q2, q3, q4, q5, q6⟩
  have hw2 := (HW0.out.below hb1 (by omega)).alloc (.cells #[.int .i64 0, .slice none 0 0, .slice none 0 0] 60)
  have hr2 := (HR0.out.below hb1 (by omega)).alloc (.cells #[.int .i64 0, .slice none 0 0, .slice none 0 0] 60)
  have hv2 := WantAt.new w1 (.int .i64 0) (.slice none 0 0) (.slice none 0 0)
  have hbe := pure_trans hb1 ((Below.refl w1.heap.size w1).alloc (Nat.le_refl _) (.cells #[.int .i64 0, .slice none 0 0, .slice none 0 0] 60))
  obtain ⟨wy, hwy⟩ : ∃ wy, w1.alloc (.cells #[.int .i64 0, .slice none 0 0, .slice none 0 0] 60) = wy := ⟨_, rfl⟩
  have HWY := Lib.hid hwy
  have hsy : w1.heap.size < wy.heap.size := by rw [← hwy]; simp
  have hs1 := hb1.size
  rw [hwy] at hw2 hr2 hv2 hbe
  obtain ⟨ge, hge⟩ : ∃ ge, w1.heap.size = ge := ⟨_, rfl⟩
  have HGE := Lib.hid hge
  rw [hge] at hv2 hs1 hsy
  have HBAD := Lib.hid (bad_zero wy)
  have HW2 := Lib.hid hw2
  have HR2 := Lib.hid hr2
  have HV2 := Lib.hid hv2
  have HB2 := Lib.hid hbe
  obtain ⟨v0, v1, v2, _⟩ := hv2.facts
  clear hw2 hr2 hv2 hbe hu hb1 hwy r0 r1 r2 hge
  rw [show ((0 : Nat) : Int) = 0 from rfl]
  go_wp2_with fail
  rw [HWY.out, HGE.out]
  refine (HBAD.out).mono ?_
  rintro e w3 ⟨rfl, hb3⟩
  obtain ⟨r0, r1, r2, _⟩ := (HR2.out.below hb3 (by omega)).facts
  have HV3 := Lib.hid (HV2.out.below hb3 (by omega))
  have HW3 := Lib.hid (HW2.out.below hb3 (by omega))
  have HR3 := Lib.hid (HR2.out.below hb3 (by omega))
  have HB3 := Lib.hid (HB2.out.trans (hb3.mono HB2.out.size))
  have hwf := wordFault_c w3 sOver k B m d (ints W) 256 (HWW.out.below (HB2.out.trans (hb3.mono HB2.out.size))) (by omega) (by decide)
  rw [HBW.out] at hwf
  have HWF := Lib.hid hwf
  have hs3 := hb3.size
  clear v0 v1 v2 hb3 hwf
  go_wp2_with fail
  refine (HWF.out).mono ?_
  rintro e w4 ⟨N, A1, n1, c1, A2, n2, c2, rfl, hu, hb4⟩
  obtain rfl : N = 0 := hu.num
  obtain ⟨rfl, rfl, rfl, rfl, rfl, rfl⟩ : A1 = none ∧ n1 = 0 ∧ c1 = 0 ∧ A2 = none ∧ n2 = 0 ∧ c2 = 0 := by
    have e := hu.none_eq
    simp at e
    obtain ⟨⟨q1, q2, q3⟩, q4, q5, q6⟩ := e
    exact ⟨q1, q2, q3, q4, q5, q6⟩
  have hs4 := hb4.size
  obtain ⟨e0, e1, e2, ef0, ef1, ef2⟩ := (HV3.out.below hb4 (by omega)).facts
  have hw4 := (HW3.out.below hb4 (by omega)).keeps (keeps_set3 w4 ge (.int .i64 0) (.slice none 0 0) (.slice none 0 0)) (by omega)
  have hr4 := (HR3.out.below hb4 (by omega)).keeps (keeps_set3 w4 ge (.int .i64 0) (.slice none 0 0) (.slice none 0 0)) (by omega)
  have hv4 := (HV3.out.below hb4 (by omega)).set3 (.int .i64 0) (.slice none 0 0) (.slice none 0 0)
  have hb44 := below_set3 (HB3.out.trans (hb4.mono HB3.out.size)) (show wx.heap.size ≤ ge by omega) (.int .i64 0) (.slice none 0 0) (.slice none 0 0)
  have hsz : (((w4.setCell ⟨ge, 0, none⟩ (.int .i64 0)).setCell ⟨ge, 1, none⟩ (.slice none 0 0)).setCell ⟨ge, 2, none⟩ (.slice none 0 0)).heap.size = w4.heap.size := by simp [World.setCell]
  obtain ⟨w5, hw5⟩ : ∃ w5, (((w4.setCell ⟨ge, 0, none⟩ (.int .i64 0)).setCell ⟨ge, 1, none⟩ (.slice none 0 0)).setCell ⟨ge, 2, none⟩ (.slice none 0 0)) = w5 := ⟨_, rfl⟩
  rw [hw5] at hw4 hr4 hv4 hb44 hsz
  have HW5 := Lib.hid hw5
  have HBAD3 := Lib.hid (bad_zero w5)
  have HW4 := Lib.hid hw4
  have HR4 := Lib.hid hr4
  have HB4 := Lib.hid hb44
  have HV4 := Lib.hid hv4
  obtain ⟨k0, k1, k2, _⟩ := hv4.facts
  clear hu hb4 hw4 hr4 hv4 hb44 hw5 r0 r1 r2
  rw [show ((0 : Nat) : Int) = 0 from rfl]
  go_wp2_with fail
  rw [HW5.out]
  refine (HBAD3.out).mono ?_
  rintro e w6 ⟨rfl, hb6⟩
  have hr6 := HR4.out.below hb6 (by omega)
  have hw6 := HW4.out.below hb6 (by omega)
  have hbx6 := HB4.out.trans (hb6.mono HB4.out.size)
  obtain ⟨r0, r1, r2, _⟩ := hr6.facts
  have HR6 := Lib.hid hr6
  have HW6 := Lib.hid hw6
  have HB6 := Lib.hid hbx6
  have HBW6 := Lib.hid (HB0.out.trans (hbx6.mono HB0.out.size))
  have HT6 := Lib.hid (HTT.out.below hbx6)
  have HX6 := Lib.hid (HWW.out.below hbx6)
  have hs6 := hb6.size
  have hl6 : w.heap.size + 2 ≤ w6.heap.size := by omega
  clear k0 k1 k2 e0 e1 e2 ef0 ef1 ef2 hb6 hr6 hw6 hbx6 HC HWF HBAD HBAD3 HV2 HV3 HV4 HW2 HW3 HR2 HR3
  have hcan := can_c w6 k r A B n c m d t W HR.out hsm HT6.out HX6.out (by omega)
  unfold ruleV at hcan
  have HCAN := Lib.hid hcan
  clear hcan
  go_wp2_with fail
  refine (HCAN.out).mono ?_
  rintro e w7 ⟨rfl, hb7⟩
  obtain ⟨d0, d1, d2, f0, f1, f2⟩ := (HW6.out.below hb7 (by omega)).facts
  have HB := Lib.hid (below_set3 (HBW6.out.trans (hb7.mono HBW6.out.size)) (Nat.le_succ _) (.int .i64 0) (.slice none 0 0) (.slice none 0 0))
  clear hb7
  go_wp2_with fail
  exact bodyPost_ret (v := .tuple #[.bool (hasB k r t W), .agg #[.int .i64 0, .slice none 0 0, .slice none 0 0]]) (by simp [results, Tryd.results42, go_sem, d0, d1, d2]) rfl ⟨rfl, HB.out⟩

end Go.Proofs.YtfgjcdfmlpdkaaaDoor
