/- The document's image of a word: edenref04.Step. Condition: lists read from memory. -/
import Derived.Test.YtfgjcdfmlpdkaaaDoorRefS
import Derived.StillTailTactics
namespace Go.Proofs.YtfgjcdfmlpdkaaaDoor
open Go.RowKit RuleP

/-- What an answer's list is. -/
def okOr : Except Tale (List Int) → List Int
  | .ok l => l
  | .error _ => []

theorem own_setW {w : World} {base e n g : Nat} {v : Value} {xs : List Value} {x0 x1 x2 : Value} (h : w.ownsRow base e 1 v n xs) (hr : WantAt w g x0 x1 x2) (hne : e ≠ 60) (u0 u1 u2 : Value) :
    (((w.setCell ⟨g, 0, none⟩ u0).setCell ⟨g, 1, none⟩ u1).setCell ⟨g, 2, none⟩ u2).ownsRow base e 1 v n xs :=
  own_keeps h (keeps_set3 w g u0 u1 u2) (fun g' hg' e' => by subst e'; exact own_ne_blk h hr hne hg')

set_option maxRecDepth 100000 in
set_option maxHeartbeats 2000000 in
theorem refStep_c (w : World) (K R : Int) (A B : Option Addr) (n c m d : Nat) (T W : List Int) (hT : Sl w A n (T.map (Value.int .i64))) (hm : n ≤ 9223372036854775807) (hW : Sl w B m (W.map (Value.int .i64))) (hmd : m ≤ d) (hd : d ≤ maxLen) :
    Calls Tryd.prog 48 #[ruleV K R A n c, .slice B m d] w fun e w' => ∃ (C : Option Addr) (M cc N : Nat) (A1 : Option Addr) (n1 c1 : Nat) (A2 : Option Addr) (n2 c2 : Nat), e = .returned (.tuple #[.slice C M cc, .agg #[.int .i64 (N : Int), .slice A1 n1 c1, .slice A2 n2 c2]]) ∧
      w'.ownsRow w.heap.size 3 1 (.slice C M cc) M ((okOr (RuleP.step K R T W)).map (Value.int .i64)) ∧ WantB w' w.heap.size (wantOf (RuleP.step K R T W)) (.agg #[.int .i64 (N : Int), .slice A1 n1 c1, .slice A2 n2 c2]) ∧ Below w.heap.size w w' := by
  have hl : W.length = m := by simpa using hW.1
  have HL := Lib.hid hl
  clear hl
  have hr0 := (RuleAt.new w (.int .i64 K) (.int .i64 R) (.slice A n c)).alloc (.cells #[.int .i64 0, .slice none 0 0, .slice none 0 0] 60)
  have hw0 := WantAt.new (w.alloc (.cells #[.int .i64 K, .int .i64 R, .slice A n c] 24)) (.int .i64 0) (.slice none 0 0) (.slice none 0 0)
  rw [World.size_alloc] at hw0
  have hb0 := ((Below.refl w.heap.size w).alloc (Nat.le_refl _) (.cells #[.int .i64 K, .int .i64 R, .slice A n c] 24)).alloc (by simp) (.cells #[.int .i64 0, .slice none 0 0, .slice none 0 0] 60)
  have hT0 := (hT.alloc (.cells #[.int .i64 K, .int .i64 R, .slice A n c] 24)).alloc (.cells #[.int .i64 0, .slice none 0 0, .slice none 0 0] 60)
  obtain ⟨wx, hwx⟩ : ∃ wx, (w.alloc (.cells #[.int .i64 K, .int .i64 R, .slice A n c] 24)).alloc (.cells #[.int .i64 0, .slice none 0 0, .slice none 0 0] 60) = wx := ⟨_, rfl⟩
  have hsx : wx.heap.size = w.heap.size + 2 := by rw [← hwx]; simp
  have HWX := Lib.hid hwx
  rw [hwx] at hr0 hw0 hb0 hT0
  have HC := Lib.hid (refCheck_c wx K R A n c T hT0 hm)
  have HW0 := Lib.hid hw0
  have HB0 := Lib.hid hb0
  have HR0 := Lib.hid hr0
  have HT := Lib.hid hT
  have HWW := Lib.hid hW
  obtain ⟨r0, r1, r2, _⟩ := hr0.facts
  clear hw0 hb0 hT hT0 hr0 hwx hW
  unfold ruleV at *
  go_enter Tryd.func48, Tryd.ntmps48
  go_wp2_with fail
  rw [HWX.out]
  refine (HC.out).mono ?_
  rintro e w1 ⟨N, A1, n1, c1, A2, n2, c2, rfl, hu, hb1⟩
  have hw1 := HW0.out.below hb1 (by omega)
  have hr1 := HR0.out.below hb1 (by omega)
  have hw2 := hw1.alloc (.cells #[.int .i64 (N : Int), .slice A1 n1 c1, .slice A2 n2 c2] 60)
  have hr2 := hr1.alloc (.cells #[.int .i64 (N : Int), .slice A1 n1 c1, .slice A2 n2 c2] 60)
  have hv2 := WantAt.new w1 (.int .i64 (N : Int)) (.slice A1 n1 c1) (.slice A2 n2 c2)
  have hb2 := (HB0.out.trans (hb1.mono HB0.out.size)).alloc (by have := HB0.out.size; have := hb1.size; omega) (.cells #[.int .i64 (N : Int), .slice A1 n1 c1, .slice A2 n2 c2] 60)
  have hu2 := hu.below ((Below.refl w1.heap.size w1).alloc (Nat.le_refl _) (.cells #[.int .i64 (N : Int), .slice A1 n1 c1, .slice A2 n2 c2] 60))
  obtain ⟨wy, hwy⟩ : ∃ wy, w1.alloc (.cells #[.int .i64 (N : Int), .slice A1 n1 c1, .slice A2 n2 c2] 60) = wy := ⟨_, rfl⟩
  have HWY := Lib.hid hwy
  have hsy : w1.heap.size < wy.heap.size := by rw [← hwy]; simp
  have hs1 := hb1.size
  rw [hwy] at hw2 hr2 hv2 hb2 hu2
  have HBAD := Lib.hid (errBad_c wy N A1 n1 c1 A2 n2 c2)
  have HW2 := Lib.hid hw2
  have HR2 := Lib.hid hr2
  have HV2 := Lib.hid hv2
  have HB2 := Lib.hid hb2
  have HU2 := Lib.hid hu2
  obtain ⟨v0, v1, v2, _⟩ := hv2.facts
  clear hw1 hr1 hw2 hr2 hv2 hb2 hu2 hu hb1 hwy r0 r1 r2
  have hN := HU2.out.num
  cases ho : check K R T with
  | some t =>
    have hs : Hid (RuleP.step K R T W = .error t) := Lib.hid (by unfold RuleP.step; rw [ho])
    rw [ho] at hN HU2
    have ht := (check_ok K R T t ho).1
    have hNz : decide (N ≠ 0) = true := decide_eq_true (by simp only [tnum] at hN; omega)
    rw [hNz] at HBAD
    clear ho hN ht hNz
    go_wp2_with fail
    rw [HWY.out]
    refine (HBAD.out).mono ?_
    rintro e w3 ⟨rfl, hb3⟩
    have g0 := cell_later hb3 v0
    have g1 := cell_later hb3 v1
    have g2 := cell_later hb3 v2
    obtain ⟨d0, d1, d2, f0, f1, f2⟩ := (HW2.out.below hb3 (by omega)).facts
    have HU := Lib.hid (((HU2.out.below hb3.drew).set3 (g := w.heap.size + 1) (by omega) (.int .i64 (N : Int)) (.slice A1 n1 c1) (.slice A2 n2 c2)).base (base' := w.heap.size) (by omega))
    have HB := Lib.hid (below_set3 (HB2.out.trans (hb3.drew.mono HB2.out.size)) (Nat.le_succ _) (.int .i64 (N : Int)) (.slice A1 n1 c1) (.slice A2 n2 c2))
    clear v0 v1 v2 hb3
    go_wp2_with fail
    go_still_tail 2, (by kernel_rfl)
    change wpList _ _ _ _ _ (World.drew w3)
    go_wp2_with fail
    exact bodyPost_ret (v := .tuple #[.slice none 0 0, .agg #[.int .i64 (N : Int), .slice A1 n1 c1, .slice A2 n2 c2]]) (by simp [results, Tryd.results48, go_sem, d0, d1, d2]) rfl ⟨none, 0, 0, N, A1, n1, c1, A2, n2, c2, rfl, by rw [hs.out]; exact ⟨rfl, .inl ⟨rfl, rfl⟩⟩, by rw [hs.out]; exact HU.out, HB.out⟩
  | none =>
    rw [ho] at hN
    obtain rfl : N = 0 := hN
    obtain ⟨rfl, rfl, rfl, rfl, rfl, rfl⟩ : A1 = none ∧ n1 = 0 ∧ c1 = 0 ∧ A2 = none ∧ n2 = 0 ∧ c2 = 0 := by
      have := HU2.out
      rw [ho] at this
      have e := this.none_eq
      simp at e
      obtain ⟨⟨q1, q2, q3⟩, q4, q5, q6⟩ := e
      exact ⟨q1, q2, q3, q4, q5, q6⟩
    rw [show decide ((0 : Nat) ≠ 0) = false from rfl, show ((0 : Nat) : Int) = 0 from rfl] at HBAD
    rw [show ((0 : Nat) : Int) = 0 from rfl] at HWY v0
    have HCN := Lib.hid ho
    by_cases hbig : 4096 < m
    · have hs : Hid (RuleP.step K R T W = .error (4, [(sRule, 0)])) := Lib.hid (by unfold RuleP.step; rw [ho]; simp only; rw [if_pos (by rw [HL.out]; exact hbig)])
      clear ho
      go_wp2_with fail
      rw [HWY.out]
      refine (HBAD.out).mono ?_
      rintro e w3 ⟨rfl, hb3⟩
      have HW3 := Lib.hid (HW2.out.below hb3 (by omega))
      have HB3 := Lib.hid (HB2.out.trans (hb3.mono HB2.out.size))
      clear v0 v1 v2
      go_wp2_with fail
      refine (newB_c w3 sRule 0 4).mono ?_
      rintro e w4 ⟨A1, n1, c1, A2, n2, c2, rfl, hu, hb4⟩
      obtain ⟨d0, d1, d2, f0, f1, f2⟩ := (HW3.out.below hb4 (by have := hb3.size; omega)).facts
      have HU := Lib.hid ((hu.set3 (g := w.heap.size + 1) (by have := hb3.size; omega) (.int .i64 4) (.slice A1 n1 c1) (.slice A2 n2 c2)).base (base' := w.heap.size) (by have := hb3.size; omega))
      have HB := Lib.hid (below_set3 (HB3.out.trans (hb4.mono HB3.out.size)) (Nat.le_succ _) (.int .i64 4) (.slice A1 n1 c1) (.slice A2 n2 c2))
      clear hu hb3 hb4
      go_wp2_with fail
      exact bodyPost_ret (v := .tuple #[.slice none 0 0, .agg #[.int .i64 4, .slice A1 n1 c1, .slice A2 n2 c2]]) (by simp [results, Tryd.results48, go_sem, d0, d1, d2]) rfl ⟨none, 0, 0, 4, A1, n1, c1, A2, n2, c2, rfl, by rw [hs.out]; exact ⟨rfl, .inl ⟨rfl, rfl⟩⟩, by rw [hs.out]; exact HU.out, HB.out⟩
    · cases hod : odd K W with
      | some i =>
        have hs : Hid (RuleP.step K R T W = .error (2, [(sRule, (i : Int))])) := Lib.hid (by unfold RuleP.step; rw [ho]; simp only; rw [if_neg (by rw [HL.out]; exact hbig), hod])
        have HOD := Lib.hid (fun (wz : World) (hz : Sl wz B m (W.map (Value.int .i64))) => bad_c wz K B m d W hz (by omega))
        rw [hod] at HOD
        have hpl : place (some i) = (i : Int) := rfl
        rw [hpl] at HOD
        clear ho hod hpl
        go_wp2_with fail
        rw [HWY.out]
        refine (HBAD.out).mono ?_
        rintro e w3 ⟨rfl, hb3⟩
        obtain ⟨r0, r1, r2, _⟩ := (HR2.out.below hb3 (by omega)).facts
        have HW3 := Lib.hid (HW2.out.below hb3 (by omega))
        have HB3 := Lib.hid (HB2.out.trans (hb3.mono HB2.out.size))
        clear v0 v1 v2
        go_wp2_with fail
        refine (HOD.out _ (HWW.out.below HB3.out)).mono ?_
        rintro e w3' ⟨rfl, q3, rfl⟩
        go_wp2_with fail
        refine (newB_c (w3.drewN q3) sRule (i : Int) 2).mono ?_
        rintro e w4 ⟨A1, n1, c1, A2, n2, c2, rfl, hu, hb4⟩
        have hd3 : (w3.drewN q3).heap.size = w3.heap.size := rfl
        obtain ⟨d0, d1, d2, f0, f1, f2⟩ := ((HW3.out.below (pure_drewN w3 q3) HW3.out.lt).below hb4 (by have := hb3.size; omega)).facts
        have HU := Lib.hid ((hu.set3 (g := w.heap.size + 1) (by have := hb3.size; omega) (.int .i64 2) (.slice A1 n1 c1) (.slice A2 n2 c2)).base (base' := w.heap.size) (by have := hb3.size; omega))
        have HB := Lib.hid (below_set3 ((below_drewN HB3.out q3).trans (hb4.mono HB3.out.size)) (Nat.le_succ _) (.int .i64 2) (.slice A1 n1 c1) (.slice A2 n2 c2))
        clear hu hb3 hb4 r0 r1 r2
        go_wp2_with fail
        exact bodyPost_ret (v := .tuple #[.slice none 0 0, .agg #[.int .i64 2, .slice A1 n1 c1, .slice A2 n2 c2]]) (by simp [results, Tryd.results48, go_sem, d0, d1, d2]) rfl ⟨none, 0, 0, 2, A1, n1, c1, A2, n2, c2, rfl, by rw [hs.out]; exact ⟨rfl, .inl ⟨rfl, rfl⟩⟩, by rw [hs.out]; exact HU.out, HB.out⟩
      | none =>
        obtain ⟨k, r, t, rfl, rfl, rfl, hru⟩ := check_none HCN.out
        obtain ⟨v, rfl, hv⟩ := odd_nat hod
        have hlv : v.length = m := by have := HL.out; rwa [ints_len] at this
        obtain ⟨M, hM⟩ : ∃ M, m - 2 * r = M := ⟨_, rfl⟩
        have hs : Hid (RuleP.step k r (ints t) (ints v) = .ok (ints (image k r t v))) := Lib.hid (step_rule hru hv (by omega))
        have HOD := Lib.hid (fun (wz : World) (hz : Sl wz B m ((ints v).map (Value.int .i64))) => bad_c wz k B m d (ints v) hz (by omega))
        rw [hod] at HOD
        have hpl : place none = -1 := rfl
        rw [hpl] at HOD
        have HIM := Lib.hid (fun (wz : World) (hz : Below w.heap.size w wz) => image_c wz k r A B n c m d M t v hru hv (HT.out.below hz) (HWW.out.below hz) (by omega) hmd hd hM)
        unfold ruleV at HIM
        clear ho hod hpl
        go_wp2_with fail
        rw [HWY.out]
        refine (HBAD.out).mono ?_
        rintro e w3 ⟨rfl, hb3⟩
        have hr3 := HR2.out.below hb3 (by omega)
        obtain ⟨r0, r1, r2, _⟩ := hr3.facts
        have HW3 := Lib.hid (HW2.out.below hb3 (by omega))
        have HB3 := Lib.hid (HB2.out.trans (hb3.mono HB2.out.size))
        clear v0 v1 v2 hr3
        go_wp2_with fail
        refine (HOD.out _ (HWW.out.below HB3.out)).mono ?_
        rintro e w3' ⟨rfl, q3, rfl⟩
        go_wp2_with fail
        refine (HIM.out (w3.drewN q3) (below_drewN HB3.out q3)).mono ?_
        rintro e w4 ⟨C, cc, rfl, hown, hb4⟩
        have hsd : (w3.drewN q3).heap.size = w3.heap.size := rfl
        have hw4 := (HW3.out.below (pure_drewN w3 q3) HW3.out.lt).below hb4 (by have := hb3.size; omega)
        obtain ⟨d0, d1, d2, f0, f1, f2⟩ := hw4.facts
        have HO := Lib.hid (own_base (own_setW hown hw4 (by decide) (.int .i64 0) (.slice none 0 0) (.slice none 0 0)) (base' := w.heap.size) (by have := HB3.out.size; omega))
        have HB := Lib.hid (below_set3 ((below_drewN HB3.out q3).trans (hb4.mono HB3.out.size)) (Nat.le_succ _) (.int .i64 0) (.slice none 0 0) (.slice none 0 0))
        clear hown hb3 hb4 r0 r1 r2 hw4
        go_wp2_with fail
        exact bodyPost_ret (v := .tuple #[.slice C M cc, .agg #[.int .i64 0, .slice none 0 0, .slice none 0 0]]) (by simp [results, Tryd.results48, go_sem, d0, d1, d2]) rfl ⟨C, M, cc, 0, none, 0, 0, none, 0, 0, rfl, by rw [hs.out]; exact HO.out, by rw [hs.out]; exact WantB.zero _ _, HB.out⟩
end Go.Proofs.YtfgjcdfmlpdkaaaDoor
