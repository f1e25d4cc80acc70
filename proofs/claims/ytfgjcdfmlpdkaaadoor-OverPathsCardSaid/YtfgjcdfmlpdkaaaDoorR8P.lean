/- The document's overlap: edenref08.Path where it succeeds. Condition: the rule is small, the word one over its symbols; both read from memory. -/
import Derived.Test.YtfgjcdfmlpdkaaaDoorR8GH
import Derived.Test.YtfgjcdfmlpdkaaaDoorRefS
import Derived.Test.YtfgjcdfmlpdkaaaDoorOverH
namespace Go.Proofs.YtfgjcdfmlpdkaaaDoor
open Go.RowKit RuleP

theorem sl_empty {w : World} {A : Option Addr} {n : Nat} {xs : List Value} (h : xs.length = n) (hn : n = 0) : Sl w A n xs :=
  ⟨h, fun k v hv => by
    have : xs = [] := List.eq_nil_of_length_eq_zero (by omega)
    subst this
    simp at hv⟩

set_option maxRecDepth 100000 in
set_option maxHeartbeats 4000000 in
theorem refPath_good (w : World) (k r : Nat) (A B : Option Addr) (n c m d : Nat) (t W : List Nat) (hmd : m ≤ d) (hd : d ≤ 9223372036854775807) (hr : IsRule k r t) (hsm : t.length ≤ 256) (hs : ∀ x ∈ W, x < k) (hT : Sl w A n ((ints t).map (Value.int .i64))) (hW : Sl w B m ((ints W).map (Value.int .i64))) (hm : m ≤ 4096) :
    Calls Tryd.prog 41 #[ruleV k r A n c, .slice B m d] w fun e w' => ∃ (C : Option Addr) (cc : Nat) (D : Option Addr) (dd : Nat), e = .returned (.tuple #[.slice C (m + 1 - 2 * r) cc, .slice D (m - 2 * r) dd, .agg #[.int .i64 0, .slice none 0 0, .slice none 0 0]]) ∧ Sl w' C (m + 1 - 2 * r) ((ints (nodesW k r W)).map (Value.int .i64)) ∧ Sl w' D (m - 2 * r) ((ints (image k r t W)).map (Value.int .i64)) ∧ Below w.heap.size w w' := by
  have hnt : t.length = n := by simpa [ints] using hT.1
  have hmw : W.length = m := by simpa [ints] using hW.1
  have hn256 : n ≤ 256 := by omega
  have hk1 := hr.k1
  have hk4 := hr.k4
  have hr3 := hr.r3
  have hr0 := (RuleAt.new w (.int .i64 (k : Int)) (.int .i64 (r : Int)) (.slice A n c)).alloc (.cells #[.int .i64 0, .slice none 0 0, .slice none 0 0] 60)
  have hw0 := WantAt.new (w.alloc (.cells #[.int .i64 (k : Int), .int .i64 (r : Int), .slice A n c] 24)) (.int .i64 0) (.slice none 0 0) (.slice none 0 0)
  rw [World.size_alloc] at hw0
  have hb0 := ((Below.refl w.heap.size w).alloc (Nat.le_refl _) (.cells #[.int .i64 (k : Int), .int .i64 (r : Int), .slice A n c] 24)).alloc (by simp) (.cells #[.int .i64 0, .slice none 0 0, .slice none 0 0] 60)
  have hT0 := hT.below hb0
  have hW0 := hW.below hb0
  obtain ⟨wx, hwx⟩ : ∃ wx, (w.alloc (.cells #[.int .i64 (k : Int), .int .i64 (r : Int), .slice A n c] 24)).alloc (.cells #[.int .i64 0, .slice none 0 0, .slice none 0 0] 60) = wx := ⟨_, rfl⟩
  have hsx : wx.heap.size = w.heap.size + 2 := by rw [← hwx]; simp
  have HWX := Lib.hid hwx
  rw [hwx] at hr0 hw0 hb0 hT0 hW0
  have hc := refFault_c wx sOver k r A n c (ints t) hT0 (by omega)
  have hsn := smallO_rule hr hsm
  rw [show under sOver 0 (small k r (ints t)) = none from hsn] at hc
  have hck := checkO_good (most := 4096) hr hsm hs (by omega)
  rw [checkO_word, hsn] at hck
  simp only at hck
  have HBW := Lib.hid hck
  have HC := Lib.hid hc
  have HW0 := Lib.hid hw0
  have HB0 := Lib.hid hb0
  have HR0 := Lib.hid hr0
  have HWW := Lib.hid hW0
  have HTT := Lib.hid hT0
  have HR := Lib.hid hr
  have HS := Lib.hid hs
  have HNT := Lib.hid hnt
  have HMW := Lib.hid hmw
  obtain ⟨r0, r1, r2, _⟩ := hr0.facts
  obtain ⟨M, hM⟩ : ∃ M, m + 1 - 2 * r = M := ⟨_, rfl⟩
  obtain ⟨L, hL⟩ : ∃ L, m - 2 * r = L := ⟨_, rfl⟩
  rw [hM, hL]
  have HM := Lib.hid hM
  have HL := Lib.hid hL
  clear hM hL
  clear hw0 hb0 hT hT0 hW hW0 hr0 hwx hc hsn hck hr hs hnt hmw
  unfold ruleV at *
  go_enter Tryd.func41, Tryd.ntmps41
  go_wp2_with fail
  rw [HWX.out]
  refine (HC.out).mono ?_
  rintro e w1 ⟨N, A1, n1, c1, A2, n2, c2, rfl, hu, hb1⟩
  obtain rfl : N = 0 := hu.num
  obtain ⟨rfl, rfl, rfl, rfl, rfl, rfl⟩ : A1 = none ∧ n1 = 0 ∧ c1 = 0 ∧ A2 = none ∧ n2 = 0 ∧ c2 = 0 := by
    have e := hu.none_eq
    simp at e
    obtain ⟨⟨q1, q2, q3⟩, q4, q5, q6⟩ := e
    exact ⟨q1, q2, q3, q4, q5, q6⟩
  have hw2 := (HW0.out.below hb1 (by omega)).alloc (.cells #[.int .i64 0, .slice none 0 0, .slice none 0 0] 60)
  have hr2 := (HR0.out.below hb1 (by omega)).alloc (.cells #[.int .i64 0, .slice none 0 0, .slice none 0 0] 60)
  have hv2 := WantAt.new w1 (.int .i64 0) (.slice none 0 0) (.slice none 0 0)
  have hbe := pure_trans hb1 ((Below.refl w1.heap.size w1).alloc (Nat.le_refl _) (.cells #[.int .i64 0, .slice none 0 0, .slice none 0 0] 60))
  obtain ⟨wy, hwy⟩ : ∃ wy, w1.alloc (.cells #[.int .i64 0, .slice none 0 0, .slice none 0 0] 60) = wy := ⟨_, rfl⟩
  have HWY := Lib.hid hwy
  have hsy : w1.heap.size < wy.heap.size := by rw [← hwy]; simp
  have hs1 := hb1.size
  rw [hwy] at hw2 hr2 hv2 hbe
  obtain ⟨ge, hge⟩ : ∃ ge, w1.heap.size = ge := ⟨_, rfl⟩
  have HGE := Lib.hid hge
  rw [hge] at hv2 hs1 hsy
  have HBAD := Lib.hid (bad_zero wy)
  have HW2 := Lib.hid hw2
  have HR2 := Lib.hid hr2
  have HV2 := Lib.hid hv2
  have HB2 := Lib.hid hbe
  obtain ⟨v0, v1, v2, _⟩ := hv2.facts
  clear hw2 hr2 hv2 hbe hu hb1 hwy r0 r1 r2 hge
  rw [show ((0 : Nat) : Int) = 0 from rfl]
  go_wp2_with fail
  rw [HWY.out, HGE.out]
  refine (HBAD.out).mono ?_
  rintro e w3 ⟨rfl, hb3⟩
  obtain ⟨r0, r1, r2, _⟩ := (HR2.out.below hb3 (by omega)).facts
  have HV3 := Lib.hid (HV2.out.below hb3 (by omega))
  have HW3 := Lib.hid (HW2.out.below hb3 (by omega))
  have HR3 := Lib.hid (HR2.out.below hb3 (by omega))
  have HB3 := Lib.hid (HB2.out.trans (hb3.mono HB2.out.size))
  have hwf := wordFault_c w3 sOver k B m d (ints W) 4096 (HWW.out.below (HB2.out.trans (hb3.mono HB2.out.size))) (by omega) (by decide)
  rw [HBW.out] at hwf
  have HWF := Lib.hid hwf
  have hs3 := hb3.size
  clear v0 v1 v2 hb3 hwf
  go_wp2_with fail
  refine (HWF.out).mono ?_
  rintro e w4 ⟨N, A1, n1, c1, A2, n2, c2, rfl, hu, hb4⟩
  obtain rfl : N = 0 := hu.num
  obtain ⟨rfl, rfl, rfl, rfl, rfl, rfl⟩ : A1 = none ∧ n1 = 0 ∧ c1 = 0 ∧ A2 = none ∧ n2 = 0 ∧ c2 = 0 := by
    have e := hu.none_eq
    simp at e
    obtain ⟨⟨q1, q2, q3⟩, q4, q5, q6⟩ := e
    exact ⟨q1, q2, q3, q4, q5, q6⟩
  have hs4 := hb4.size
  obtain ⟨e0, e1, e2, ef0, ef1, ef2⟩ := (HV3.out.below hb4 (by omega)).facts
  have hw4 := (HW3.out.below hb4 (by omega)).keeps (keeps_set3 w4 ge (.int .i64 0) (.slice none 0 0) (.slice none 0 0)) (by omega)
  have hr4 := (HR3.out.below hb4 (by omega)).keeps (keeps_set3 w4 ge (.int .i64 0) (.slice none 0 0) (.slice none 0 0)) (by omega)
  have hv4 := (HV3.out.below hb4 (by omega)).set3 (.int .i64 0) (.slice none 0 0) (.slice none 0 0)
  have hb44 := below_set3 (HB3.out.trans (hb4.mono HB3.out.size)) (show wx.heap.size ≤ ge by omega) (.int .i64 0) (.slice none 0 0) (.slice none 0 0)
  have hsz : (((w4.setCell ⟨ge, 0, none⟩ (.int .i64 0)).setCell ⟨ge, 1, none⟩ (.slice none 0 0)).setCell ⟨ge, 2, none⟩ (.slice none 0 0)).heap.size = w4.heap.size := by simp [World.setCell]
  obtain ⟨w5, hw5⟩ : ∃ w5, (((w4.setCell ⟨ge, 0, none⟩ (.int .i64 0)).setCell ⟨ge, 1, none⟩ (.slice none 0 0)).setCell ⟨ge, 2, none⟩ (.slice none 0 0)) = w5 := ⟨_, rfl⟩
  rw [hw5] at hw4 hr4 hv4 hb44 hsz
  have HW5 := Lib.hid hw5
  have HBAD3 := Lib.hid (bad_zero w5)
  have HW4 := Lib.hid hw4
  have HR4 := Lib.hid hr4
  have HB4 := Lib.hid hb44
  have HV4 := Lib.hid hv4
  obtain ⟨k0, k1, k2, _⟩ := hv4.facts
  clear hu hb4 hw4 hr4 hv4 hb44 hw5 r0 r1 r2
  rw [show ((0 : Nat) : Int) = 0 from rfl]
  go_wp2_with fail
  rw [HW5.out]
  refine (HBAD3.out).mono ?_
  rintro e w6 ⟨rfl, hb6⟩
  have hr6 := HR4.out.below hb6 (by omega)
  have hw6 := HW4.out.below hb6 (by omega)
  have hbx6 := HB4.out.trans (hb6.mono HB4.out.size)
  obtain ⟨r0, r1, r2, _⟩ := hr6.facts
  have HR6 := Lib.hid hr6
  have HW6 := Lib.hid hw6
  have HB6 := Lib.hid hbx6
  have HBW6 := Lib.hid (HB0.out.trans (hbx6.mono HB0.out.size))
  have HT6 := Lib.hid (HTT.out.below hbx6)
  have HX6 := Lib.hid (HWW.out.below hbx6)
  have hs6 := hb6.size
  have hl6 : w.heap.size + 2 ≤ w6.heap.size := by omega
  clear k0 k1 k2 e0 e1 e2 ef0 ef1 ef2 hb6 hr6 hw6 hbx6 HC HWF HBAD HBAD3 HV2 HV3 HV4 HW2 HW3 HR2 HR3
  obtain ⟨ii, hii, hiz, hi1, hi8⟩ := info_parts tInts.info
  go_wp2_with fail
  go_loopw [8, 9] (fun ov iv wr => ∃ (i : Nat) (C : Option Addr) (cc : Nat), i ≤ M ∧ iv = .int .i64 (i : Int) ∧ ov = .slice C i cc ∧ wr.ownsRow w6.heap.size 3 1 (.slice C i cc) i (((ints (nodesW k r W)).take i).map (Value.int .i64)) ∧ Hid (Below w6.heap.size w6 wr)) (fun _ iv _ => M - (intOf iv).toNat)
  case atStart => exact ⟨0, none, 0, Nat.zero_le _, rfl, rfl, ⟨by simp, .inl ⟨rfl, rfl⟩⟩, Lib.hid (Below.refl _ _)⟩
  case round =>
    obtain ⟨i, C, cc, hi, rfl, rfl, hown, hb⟩ := hrel
    clear r0 r1 r2
    have hbx := HR6.out.below hb.out (by omega)
    obtain ⟨b0, b1, b2, _⟩ := hbx.facts
    have hbl := hbx.lt
    have HBX := Lib.hid hbx
    have hbs := hb.out.size
    clear hbx
    have s1 : IntKind.i64.wrap (2 * (r : Int)) = 2 * (r : Int) := IntWalk.i64_in _ (by omega)
    have s2 : IntKind.i64.wrap ((i : Int) + 2 * (r : Int)) = (i : Int) + 2 * (r : Int) := IntWalk.i64_in _ (by have := HM.out; omega)
    by_cases hlt : i < M
    · have him : i + 2 * r ≤ m := by have := HM.out; omega
      have hW2 := HX6.out.below hb.out
      have himg : (ints (nodesW k r W))[i]? = some ((wval k (win W i (2 * r)) : Nat) : Int) := by
        unfold nodesW nodesTo ints
        rw [List.map_map, List.getElem?_map, List.getElem?_range (by rw [HMW.out]; omega)]
        rfl
      have hwl : ((ints (win W i (2 * r))).map (Value.int .i64)).length = 2 * r := by simp only [List.length_map, ints_len]; exact win_len (by rw [HMW.out]; omega)
      have s4 : (i : Int) ≤ (i : Int) + 2 * (r : Int) := by omega
      have s5 : (i : Int) + 2 * (r : Int) ≤ (d : Int) := by omega
      have s6 : (0 : Int) ≤ (i : Int) + 2 * (r : Int) := by omega
      have s7 : (i : Int) + 2 * (r : Int) ≤ (m : Int) := by omega
      have s8 : ¬ ((m : Int) < (i : Int) + 2 * (r : Int)) := by omega
      have t3 : ((i : Int) + 2 * (r : Int)).toNat - i = 2 * r := by omega
      cases B with
      | none =>
        have hm0 : m = 0 := by
          rcases Nat.eq_zero_or_pos m with h | h
          · exact h
          · obtain ⟨ad, _, e, _⟩ := hW2.at_ h
            cases e
        have HSW : Sl wr none (2 * r) ((ints (win W i (2 * r))).map (Value.int .i64)) := sl_empty hwl (by omega)
        clear hm0 hwl
        have HVAL := Lib.hid (value_c wr.drew k none (2 * r) (d - i) (win W i (2 * r)) hk1 hk4 (win_sym HS.out i (2 * r)) HSW (by omega))
        obtain ⟨σ, hσ⟩ : ∃ σ, wval k (win W i (2 * r)) = σ := ⟨_, rfl⟩
        rw [hσ] at HVAL himg
        have HIMG := Lib.hid himg
        clear hσ himg hW2 HSW
        go_wp2_with fail
        go_region_held3 (fun w' => w'.cell? ⟨w.heap.size, 0, none⟩ = some (.int .i64 (k : Int)) ∧ w'.cell? ⟨w.heap.size, 1, none⟩ = some (.int .i64 (r : Int)))
          (first | go_keep)
          (first
            | (go_simp
               go_at_call 84
               refine (HVAL.out).mono ?_
               rintro e w4 ⟨rfl, rfl⟩
               dsimp only)
            | (refine step_append_lies _ ?_ (.tmp 32) (.tmp 44) 22 ?_ w6.heap.size 3 ii (.int .i64 0) 1 8 tInts.und hii hiz hi1 hi8 rfl Nat.one_pos (.slice C i cc) i (((ints (nodesW k r W)).take i).map (Value.int .i64)) ?_ ?_ ⟨wr.heap.size, 0, none⟩ 1 1 [.int .i64 (σ : Int)] ?_ ?_ ?_ ?_ ?_ ?_ ?_ ?_ _ rfl ?_
               · rfl
               · rfl
               · rfl
               · exact hown.alloc _
               · rfl
               · rfl
               · (intro j u hj; match j, hj with | 0, hj => (simp at hj; subst hj; simp [Addr.add]))
               · (intro u hu; simp at hu; subst hu; rfl)
               · decide
               · (simp only [maxLen]; omega)
               · omega
               · (simp; omega)
               intro gg cap w3 hown3 hgrow hat hlt3
               have hk3 := grown_keeps hgrow
               have hbx3 := HBX.out.keeps hk3 (fun e => own_ne_blk hown HBX.out (by decide) e)
               obtain ⟨z0, z1, z2, _⟩ := hbx3.facts
               dsimp only))
        rw [show (((ints (nodesW k r W)).take i).map (Value.int .i64)) ++ [.int .i64 (σ : Int)] = ((ints (nodesW k r W)).take (i + 1)).map (Value.int .i64) from by rw [List.take_add_one, HIMG.out]; simp] at hown3
        have hb3 : Below w6.heap.size w6 w3 := hb.out.trans (hk3.below hb.out.size (fun b hb' => (hown.lt _ hb').1))
        clear hown hgrow hat hk3
        go_wp2_with fail
        exact ⟨⟨i + 1, _, cap, by omega, by go_num, rfl, hown3, Lib.hid hb3⟩, by simp [intOf]; omega⟩
      | some adw =>
        by_cases hdi : d = i
        · have HSW : Sl wr (some adw) (2 * r) ((ints (win W i (2 * r))).map (Value.int .i64)) := sl_empty hwl (by omega)
          have hdt : (d = i) = True := eq_true hdi
          clear hdi hwl
          have HVAL := Lib.hid (value_c wr.drew k (some adw) (2 * r) (d - i) (win W i (2 * r)) hk1 hk4 (win_sym HS.out i (2 * r)) HSW (by omega))
          obtain ⟨σ, hσ⟩ : ∃ σ, wval k (win W i (2 * r)) = σ := ⟨_, rfl⟩
          rw [hσ] at HVAL himg
          have HIMG := Lib.hid himg
          clear hσ himg hW2 HSW
          go_wp2_with fail
          go_region_held3 (fun w' => w'.cell? ⟨w.heap.size, 0, none⟩ = some (.int .i64 (k : Int)) ∧ w'.cell? ⟨w.heap.size, 1, none⟩ = some (.int .i64 (r : Int)))
            (first | go_keep)
            (first
              | (go_simp
                 go_at_call 84
                 refine (HVAL.out).mono ?_
                 rintro e w4 ⟨rfl, rfl⟩
                 dsimp only)
              | (refine step_append_lies _ ?_ (.tmp 32) (.tmp 44) 22 ?_ w6.heap.size 3 ii (.int .i64 0) 1 8 tInts.und hii hiz hi1 hi8 rfl Nat.one_pos (.slice C i cc) i (((ints (nodesW k r W)).take i).map (Value.int .i64)) ?_ ?_ ⟨wr.heap.size, 0, none⟩ 1 1 [.int .i64 (σ : Int)] ?_ ?_ ?_ ?_ ?_ ?_ ?_ ?_ _ rfl ?_
                 · rfl
                 · rfl
                 · rfl
                 · exact hown.alloc _
                 · rfl
                 · rfl
                 · (intro j u hj; match j, hj with | 0, hj => (simp at hj; subst hj; simp [Addr.add]))
                 · (intro u hu; simp at hu; subst hu; rfl)
                 · decide
                 · (simp only [maxLen]; omega)
                 · omega
                 · (simp; omega)
                 intro gg cap w3 hown3 hgrow hat hlt3
                 have hk3 := grown_keeps hgrow
                 have hbx3 := HBX.out.keeps hk3 (fun e => own_ne_blk hown HBX.out (by decide) e)
                 obtain ⟨z0, z1, z2, _⟩ := hbx3.facts
                 dsimp only))
          rw [show (((ints (nodesW k r W)).take i).map (Value.int .i64)) ++ [.int .i64 (σ : Int)] = ((ints (nodesW k r W)).take (i + 1)).map (Value.int .i64) from by rw [List.take_add_one, HIMG.out]; simp] at hown3
          have hb3 : Below w6.heap.size w6 w3 := hb.out.trans (hk3.below hb.out.size (fun b hb' => (hown.lt _ hb').1))
          clear hown hgrow hat hk3
          go_wp2_with fail
          exact ⟨⟨i + 1, _, cap, by omega, by go_num, rfl, hown3, Lib.hid hb3⟩, by simp [intOf]; omega⟩
        · have hpart := sl_part hW2 (i := i) (m := 2 * r) (by omega) adw rfl
          have HSW : Sl wr (some (adw.add i)) (2 * r) ((ints (win W i (2 * r))).map (Value.int .i64)) := ⟨hwl, fun j u hj => ⟨_, rfl, hpart j u (by rw [show (((ints W).map (Value.int .i64)).drop i).take (2 * r) = (ints (win W i (2 * r))).map (Value.int .i64) from by simp [win, ints, List.map_drop, List.map_take]]; exact hj)⟩⟩
          clear hpart hwl
          have HVAL := Lib.hid (value_c wr.drew k (some (adw.add i)) (2 * r) (d - i) (win W i (2 * r)) hk1 hk4 (win_sym HS.out i (2 * r)) HSW (by omega))
          obtain ⟨σ, hσ⟩ : ∃ σ, wval k (win W i (2 * r)) = σ := ⟨_, rfl⟩
          rw [hσ] at HVAL himg
          have HIMG := Lib.hid himg
          clear hσ himg hW2 HSW
          go_wp2_with fail
          go_region_held3 (fun w' => w'.cell? ⟨w.heap.size, 0, none⟩ = some (.int .i64 (k : Int)) ∧ w'.cell? ⟨w.heap.size, 1, none⟩ = some (.int .i64 (r : Int)))
            (first | go_keep)
            (first
              | (go_simp
                 go_at_call 84
                 refine (HVAL.out).mono ?_
                 rintro e w4 ⟨rfl, rfl⟩
                 dsimp only)
              | (refine step_append_lies _ ?_ (.tmp 32) (.tmp 44) 22 ?_ w6.heap.size 3 ii (.int .i64 0) 1 8 tInts.und hii hiz hi1 hi8 rfl Nat.one_pos (.slice C i cc) i (((ints (nodesW k r W)).take i).map (Value.int .i64)) ?_ ?_ ⟨wr.heap.size, 0, none⟩ 1 1 [.int .i64 (σ : Int)] ?_ ?_ ?_ ?_ ?_ ?_ ?_ ?_ _ rfl ?_
                 · rfl
                 · rfl
                 · rfl
                 · exact hown.alloc _
                 · rfl
                 · rfl
                 · (intro j u hj; match j, hj with | 0, hj => (simp at hj; subst hj; simp [Addr.add]))
                 · (intro u hu; simp at hu; subst hu; rfl)
                 · decide
                 · (simp only [maxLen]; omega)
                 · omega
                 · (simp; omega)
                 intro gg cap w3 hown3 hgrow hat hlt3
                 have hk3 := grown_keeps hgrow
                 have hbx3 := HBX.out.keeps hk3 (fun e => own_ne_blk hown HBX.out (by decide) e)
                 obtain ⟨z0, z1, z2, _⟩ := hbx3.facts
                 dsimp only))
          rw [show (((ints (nodesW k r W)).take i).map (Value.int .i64)) ++ [.int .i64 (σ : Int)] = ((ints (nodesW k r W)).take (i + 1)).map (Value.int .i64) from by rw [List.take_add_one, HIMG.out]; simp] at hown3
          have hb3 : Below w6.heap.size w6 w3 := hb.out.trans (hk3.below hb.out.size (fun b hb' => (hown.lt _ hb').1))
          clear hown hgrow hat hk3
          go_wp2_with fail
          exact ⟨⟨i + 1, _, cap, by omega, by go_num, rfl, hown3, Lib.hid hb3⟩, by simp [intOf]; omega⟩
    · obtain rfl : i = M := by omega
      have him : ¬ (i + 2 * r ≤ m) := by have := HM.out; omega
      have s7 : ¬ ((i : Int) + 2 * (r : Int) ≤ (m : Int)) := by omega
      have s8 : (m : Int) < (i : Int) + 2 * (r : Int) := by omega
      rw [List.take_of_length_le (by rw [ints_len]; unfold nodesW; rw [nodesTo_len, HMW.out]; have := HM.out; omega)] at hown
      have HO := Lib.hid hown
      have himc := image_c wr k r A B n c m d (m - 2 * r) t W HR.out HS.out (HT6.out.below hb.out) (HX6.out.below hb.out) (by omega) hmd (by simp only [maxLen]; omega) rfl
      unfold ruleV at himc
      have HIMC := Lib.hid himc
      have HW7 := Lib.hid (HW6.out.below hb.out (by omega))
      have HB7 := Lib.hid (HBW6.out.trans (hb.out.mono HBW6.out.size))
      rw [HL.out] at HIMC
      clear hown him himc
      go_wp2_with fail
      refine (HIMC.out).mono ?_
      rintro e w7 ⟨D, dd, rfl, hown2, hb7⟩
      have hw7 := HW7.out.below hb7 (by omega)
      obtain ⟨d0, d1, d2, f0, f1, f2⟩ := hw7.facts
      have HB := Lib.hid (below_set3 (HB7.out.trans (hb7.mono HB7.out.size)) (Nat.le_succ _) (.int .i64 0) (.slice none 0 0) (.slice none 0 0))
      have HO1 := Lib.hid (Sl.of_own (own_setW (own_below HO.out hb7) hw7 (by decide) (.int .i64 0) (.slice none 0 0) (.slice none 0 0)))
      have HO2 := Lib.hid (Sl.of_own (own_setW hown2 hw7 (by decide) (.int .i64 0) (.slice none 0 0) (.slice none 0 0)))
      clear hb7 hown2 hw7
      go_wp2_with fail
      exact bodyPost_ret (v := .tuple #[.slice C i cc, .slice D L dd, .agg #[.int .i64 0, .slice none 0 0, .slice none 0 0]]) (by simp [results, Tryd.results41, go_sem, d0, d1, d2]) rfl ⟨C, cc, D, dd, rfl, HO1.out, HO2.out, HB.out⟩

end Go.Proofs.YtfgjcdfmlpdkaaaDoor
