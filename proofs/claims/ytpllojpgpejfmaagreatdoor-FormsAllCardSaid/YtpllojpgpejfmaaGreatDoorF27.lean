/- The document's shift: edenref05.Shift of any numbers. No condition. The document's renamed rule, of a good rule: edenref05.Rename. Condition: the lists read from memory. -/
import Derived.Test.YtpllojpgpejfmaaGreatDoorF16
import Derived.Test.YtpllojpgpejfmaaGreatDoorF17
namespace Go.Proofs.YtpllojpgpejfmaaGreatDoor
open Go.RowKit RuleP

set_option maxRecDepth 100000 in
set_option maxHeartbeats 2000000 in
theorem shift5_arg (w : World) (K D : Int) (h : K < 1 ∨ 4 < K ∨ D < -3 ∨ 3 < D) :
    Calls Tryz.prog 14 #[.int .i64 K, .int .i64 D] w (Rule5E w 0 0 [] (some (3, [(sForms, 0)]))) := by
  have hz0 := (RuleAt.new w (.int .i64 0) (.int .i64 0) (.slice none 0 0)).alloc (.cells #[.int .i64 0, .slice none 0 0, .slice none 0 0] 45)
  have hw0 := WantAt.new (w.alloc (.cells #[.int .i64 0, .int .i64 0, .slice none 0 0] 26)) (.int .i64 0) (.slice none 0 0) (.slice none 0 0)
  rw [World.size_alloc] at hw0
  have hb0 := ((Below.refl w.heap.size w).alloc (Nat.le_refl _) (.cells #[.int .i64 0, .int .i64 0, .slice none 0 0] 26)).alloc (by simp) (.cells #[.int .i64 0, .slice none 0 0, .slice none 0 0] 45)
  obtain ⟨wx, hwx⟩ : ∃ wx, (w.alloc (.cells #[.int .i64 0, .int .i64 0, .slice none 0 0] 26)).alloc (.cells #[.int .i64 0, .slice none 0 0, .slice none 0 0] 45) = wx := ⟨_, rfl⟩
  have hsx : wx.heap.size = w.heap.size + 2 := by rw [← hwx]; simp
  have HWX := Lib.hid hwx
  rw [hwx] at hz0 hw0 hb0
  have HZ3 := Lib.hid hz0
  have HW3 := Lib.hid hw0
  have HB3 := Lib.hid hb0
  have HNW := Lib.hid (newB_c wx sForms 0 3)
  have hcs : (decide (K < 1) = true) ∨ (decide (K < 1) = false ∧ decide (4 < K) = true) ∨ (decide (K < 1) = false ∧ decide (4 < K) = false ∧ decide (D < -3) = true) ∨ (decide (K < 1) = false ∧ decide (4 < K) = false ∧ decide (D < -3) = false ∧ decide (3 < D) = true) := by
    simp only [decide_eq_true_eq, decide_eq_false_iff_not]
    omega
  clear hz0 hw0 hb0 hwx h
  rcases hcs with h1 | ⟨h1, h2⟩ | ⟨h1, h2, h3⟩ | ⟨h1, h2, h3, h4⟩
  all_goals
    go_enter Tryz.func14, Tryz.ntmps14
    go_wp2_with fail
    rw [HWX.out]
    refine (HNW.out).mono ?_
    rintro e w4 ⟨A1, n1, c1, A2, n2, c2, rfl, hu, hb4⟩
    have hres := put6_res (w := w) (HZ3.out.below hb4 (by omega)) (HW3.out.below hb4 (by omega)) (by omega) (by omega) (B := w.heap.size + 2) (C := none) (N := 0) (cc := 0) (xs := []) (World.ownsRow_nil _ _ _ _) (by omega) hu (by omega) (HB3.out.trans (hb4.mono HB3.out.size)) 0 0
    have hpf := put6_facts (HZ3.out.below hb4 (by omega)) (HW3.out.below hb4 (by omega)) (by omega) (.int .i64 0) (.int .i64 0) (.slice none 0 0) (.int .i64 3) (.slice A1 n1 c1) (.slice A2 n2 c2)
    obtain ⟨d0, d1, d2, f0, f1, f2⟩ := ((HW3.out.below hb4 (by omega))).facts
    obtain ⟨z0, z1, z2, z3, z4, z5⟩ := ((HZ3.out.below hb4 (by omega))).facts
    have HRS := Lib.hid hres
    have HPF := Lib.hid hpf
    have HPW := Lib.hid (show ((((((w4).setCell ⟨w.heap.size, 0, none⟩ (.int .i64 0)).setCell ⟨w.heap.size, 1, none⟩ (.int .i64 0)).setCell ⟨w.heap.size, 2, none⟩ (.slice none 0 0)).setCell ⟨(w.heap.size + 1), 0, none⟩ (.int .i64 3)).setCell ⟨(w.heap.size + 1), 1, none⟩ (.slice A1 n1 c1)).setCell ⟨(w.heap.size + 1), 2, none⟩ (.slice A2 n2 c2) = put6 (w4) w.heap.size (w.heap.size + 1) (.int .i64 0) (.int .i64 0) (.slice none 0 0) (.int .i64 3) (.slice A1 n1 c1) (.slice A2 n2 c2) from rfl)
    clear hres hpf hu hb4
    go_wp2_with fail
    rw [HPW.out]
    obtain ⟨⟨s0, s1, s2, _⟩, s3, s4, s5, _⟩ := (⟨HPF.out.1.facts, HPF.out.2.facts⟩ : _ ∧ _)
    have HR := HRS.out
    exact bodyPost_ret (v := .tuple #[.agg #[.int .i64 0, .int .i64 0, .slice none 0 0], .agg #[.int .i64 3, .slice A1 n1 c1, .slice A2 n2 c2]]) (by simp [results, Tryz.results14, go_sem, s0, s1, s2, s3, s4, s5]) rfl ⟨none, 0, 0, 3, _, _, _, _, _, _, rfl, HR.1, HR.2.1, HR.2.2⟩
set_option maxRecDepth 100000 in
set_option maxHeartbeats 4000000 in
theorem shift5_pos (w : World) (k ρ p : Nat) (δ : Int) (hk1 : 1 ≤ k) (hk4 : k ≤ 4) (hρ : ρ ≤ 3) (hp : (ρ : Int) + δ = (p : Int)) (hp2 : p < 2 * ρ + 1) (hδ : (ρ : Int) = δ) :
    Calls Tryz.prog 14 #[.int .i64 (k : Int), .int .i64 δ] w (Rule5E w (k : Int) (ρ : Int) (shT k ρ p) none) := by
  have hz0 := (RuleAt.new w (.int .i64 0) (.int .i64 0) (.slice none 0 0)).alloc (.cells #[.int .i64 0, .slice none 0 0, .slice none 0 0] 45)
  have hw0 := WantAt.new (w.alloc (.cells #[.int .i64 0, .int .i64 0, .slice none 0 0] 26)) (.int .i64 0) (.slice none 0 0) (.slice none 0 0)
  rw [World.size_alloc] at hw0
  have hb0 := ((Below.refl w.heap.size w).alloc (Nat.le_refl _) (.cells #[.int .i64 0, .int .i64 0, .slice none 0 0] 26)).alloc (by simp) (.cells #[.int .i64 0, .slice none 0 0, .slice none 0 0] 45)
  obtain ⟨wx, hwx⟩ : ∃ wx, (w.alloc (.cells #[.int .i64 0, .int .i64 0, .slice none 0 0] 26)).alloc (.cells #[.int .i64 0, .slice none 0 0, .slice none 0 0] 45) = wx := ⟨_, rfl⟩
  have hsx : wx.heap.size = w.heap.size + 2 := by rw [← hwx]; simp
  have HWX := Lib.hid hwx
  rw [hwx] at hz0 hw0 hb0
  have HZ3 := Lib.hid hz0
  have HW3 := Lib.hid hw0
  have HB3 := Lib.hid hb0
  have HB2x := HB3.out
  have hbO := (Below.refl wx.heap.size wx).alloc (Nat.le_refl _) (.cells #[.int .i64 (k : Int), .int .i64 (ρ : Int), .slice none 0 0] 26)
  have hO4 := RuleAt.new wx (.int .i64 (k : Int)) (.int .i64 (ρ : Int)) (.slice none 0 0)
  obtain ⟨w4, hw4⟩ : ∃ w4, wx.alloc (.cells #[.int .i64 (k : Int), .int .i64 (ρ : Int), .slice none 0 0] 26) = w4 := ⟨_, rfl⟩
  have hs4 : w4.heap.size = w.heap.size + 3 := by rw [← hw4]; simp [hsx]
  rw [hw4] at hbO hO4
  rw [hsx, show w.heap.size + 2 = w.heap.size + 1 + 1 from rfl] at hO4
  have HOUT := Lib.hid (OutAt.start (B := w.heap.size + 3) hO4 (by omega) (by omega))
  have HZ4 := Lib.hid (HZ3.out.below hbO HZ3.out.lt)
  have HW4' := Lib.hid (HW3.out.below hbO HW3.out.lt)
  have HB4 := Lib.hid (HB3.out.trans (hbO.mono HB3.out.size))
  have HQ4 := Lib.hid hw4
  obtain ⟨L, hL⟩ : ∃ L, 2 * ρ + 1 = L := ⟨_, rfl⟩
  obtain ⟨M, hM⟩ : ∃ M, k ^ L = M := ⟨_, rfl⟩
  have hM16 : M ≤ 16384 := by
    rw [← hM]
    exact Nat.le_trans (Nat.pow_le_pow_left hk4 _) (Nat.le_trans (Nat.pow_le_pow_right (by decide) (show L ≤ 7 by omega)) (by decide))
  have HWO := Lib.hid (fun (wz : World) => words5_c wz k L hk1 hk4 (by omega))
  rw [hM] at HWO
  have HL := Lib.hid (And.intro hL hM)
  have e1 : IntKind.i64.wrap (2 * (ρ : Int)) = 2 * (ρ : Int) := IntWalk.i64_in _ (by omega)
  have e2 : IntKind.i64.wrap (2 * (ρ : Int) + 1) = (L : Int) := by rw [show 2 * (ρ : Int) + 1 = (L : Int) from by omega]; exact IntWalk.i64_in _ (by omega)
  have e3 : IntKind.i64.wrap ((ρ : Int) + δ) = (p : Int) := by rw [hp]; exact IntWalk.i64_in _ (by omega)
  have e4 : IntKind.i64.wrap (-δ) = -δ := IntWalk.i64_in _ (by omega)
  have hLb : L ≤ 7 := by omega
  have hpL : p < L := by omega
  have hpL' : (p : Int) < (L : Int) := by omega
  have hp0 : (0 : Int) ≤ (p : Int) := by omega
  have HDG := Lib.hid (fun (wz : World) (i : Nat) (hi : i ≤ 16384) => digits_c wz k L i hk1 (by omega) (by omega) (by omega))
  have g1 : ¬ (k : Int) < 1 := by omega
  have g2 : ¬ (4 : Int) < (k : Int) := by omega
  have g3 : ¬ δ < -3 := by omega
  have g4 : ¬ (3 : Int) < δ := by omega
  clear hz0 hw0 hb0 hwx hbO hO4 hw4 hs4 hL hM HB2x hp
  subst hδ
  have g5 : ¬ (ρ : Int) < 0 := by omega
  go_enter Tryz.func14, Tryz.ntmps14
  go_wp2_with fail
  rw [HWX.out, HQ4.out]
  go_loopw [8] (fun iv wl => ∃ (i cc : Nat) (C : Option Addr), iv = .int .i64 (i : Int) ∧ i ≤ M ∧ Hid (OutAt wl (w.heap.size + 1 + 1) (w.heap.size + 3) (.int .i64 (k : Int)) (.int .i64 (ρ : Int)) C i cc (tabI k L (fun v => v.getD p 0) i)) ∧
    Hid (RuleAt wl w.heap.size (.int .i64 0) (.int .i64 0) (.slice none 0 0)) ∧ Hid (WantAt wl (w.heap.size + 1) (.int .i64 0) (.slice none 0 0) (.slice none 0 0)) ∧ Hid (Below w.heap.size w wl)) (fun iv _ => M - (intOf iv).toNat)
  case atStart => exact ⟨0, 0, none, rfl, Nat.zero_le _, HOUT, HZ4, HW4', HB4⟩
  case round =>
    clear HOUT HZ4 HW4' HB4
    obtain ⟨i, cc, C, rfl, hi, HO, HZ, HW, HB⟩ := hrel
    obtain ⟨v0, rfl⟩ : ∃ v0, v0 = wr := ⟨_, rfl⟩
    have HWv := Lib.hid (HWO.out v0)
    by_cases hiM : i < M
    · have hiM' : (i : Int) < (M : Int) := by omega
      obtain ⟨p0, p1, p2, p3, p4, p5⟩ := HO.out.at_.facts
      obtain ⟨y, hy⟩ : ∃ y, (digB k L i)[p]? = some y := ⟨_, List.getElem?_eq_getElem (by rw [digB_len]; exact hpL)⟩
      have hsy : (digB k L i).getD p 0 = y := by rw [List.getD_eq_getElem?_getD, hy]; rfl
      have HSY := Lib.hid hsy
      have hi16 : i + 1 ≤ maxLen := by simp only [maxLen]; omega
      have HDv := Lib.hid (fun (wz : World) => (HDG.out wz i (by omega)).mono fun e w' h => (⟨h.1, by rw [h.2.1.cellAt p (by omega), ints_map, List.getElem?_map, hy]; rfl, h.2.2⟩ : e = .returned (.slice (some ⟨wz.heap.size, 0, none⟩) L L) ∧ w'.cell? ⟨wz.heap.size, p, none⟩ = some (.int .i64 (y : Int)) ∧ Below wz.heap.size wz w'))
      clear hy hsy
      go_wp2_with fail
      refine (HWv.out).mono ?_
      rintro e v1 ⟨rfl, rfl⟩
      go_wp2_with fail
      go_region_law (first
        | (go_simp
           go_at_call 49
           first
             | with_reducible refine (HDv.out v0).mono ?_
             | with_reducible refine (HDv.out v0.drew).mono ?_
           rintro e v5 ⟨rfl, hcy, hb5⟩
           have hb5' : Below v0.heap.size v0 v5 := by
             first
               | exact hb5
               | exact (Below.refl _ _).drew.trans hb5
           have hcy' : v5.cell? ⟨v0.heap.size, p, none⟩ = some (.int .i64 (y : Int)) := hcy
           have hO5 := HO.out.pure hb5'
           obtain ⟨a0, a1, a2, a3, a4, a5⟩ := hO5.at_.facts
           obtain ⟨_, _, t2, _⟩ := (hO5.at_.alloc (.cells #[.int .i64 (y : Int)] 3)).facts
           dsimp only)
        | (refine step_push3 ?_ (.tmp 43) (.tmp 55) 24 rfl tInts (base := w.heap.size + 3) (v := .slice C i cc) (n := i) (xs := (ints (tabI k L (fun v => v.getD p 0) i)).map (Value.int .i64)) ?_ rfl ⟨v5.heap.size, 0, none⟩ 1 rfl (.int .i64 (y : Int)) ?_ rfl ?_ ?_ ?_ ?_
           · rfl
           · first
               | exact own_below hO5.own ((Below.refl _ _).alloc (Nat.le_refl _) _)
               | exact own_below hO5.own (((Below.refl _ _).alloc (Nat.le_refl _) _).drew)
               | exact own_below hO5.own (((Below.refl _ _).drew).alloc (Nat.le_refl _) _)
           · simp
           · exact hi16
           · omega
           · (have := hO5.size; simp; omega)
           intro g3 cap3 w3' hown3 hor3 hlt3
           first
             | have hkk := pushT (w := v5) ((Below.refl _ _).alloc (Nat.le_refl _) _) hor3
             | have hkk := pushT (w := v5) (((Below.refl _ _).alloc (Nat.le_refl _) _).drew) hor3
             | have hkk := pushT (w := v5) (((Below.refl _ _).drew).alloc (Nat.le_refl _) _) hor3
           obtain ⟨hk3, hg3⟩ := hkk
           obtain ⟨z0, z1, z2, z3, z4, z5⟩ := (hO5.at_.keeps hk3 (hO5.ne hO5.lt)).facts
           clear hor3)
        | fail)
      all_goals
        obtain ⟨hOx, hKx⟩ := hO5.push hk3 hown3
        have hZx := (HZ.out.below hb5' HZ.out.lt).keeps hKx (by intro h; omega)
        have hWx := (HW.out.below hb5' HW.out.lt).keeps hKx (by intro h; omega)
        have hb55 := HB.out.trans (hb5'.mono HB.out.size)
        have hBBx := hb55.trans (hKx.below hb55.size (fun b hb => by omega))
        have htx : tabI k L (fun v => v.getD p 0) (i + 1) = tabI k L (fun v => v.getD p 0) i ++ [y] := by rw [tabI_succ, HSY.out]
        rw [← htx] at hOx
        have HX := Lib.hid (And.intro hOx (And.intro hZx (And.intro hWx hBBx)))
        clear hOx hKx hZx hWx hBBx htx hown3 hlt3 hk3 hg3 z0 z1 z2 z3 z4 z5 p0 p1 p2 p3 p4 p5 a0 a1 a2 a3 a4 a5 t2 hO5 hb5 hb5' hb55 hcy hcy'
        go_wp2_with fail
        exact ⟨⟨i + 1, cap3, _, by go_num, by omega, Lib.hid HX.out.1, Lib.hid HX.out.2.1, Lib.hid HX.out.2.2.1, Lib.hid HX.out.2.2.2⟩, by simp [intOf]; omega⟩
    · obtain rfl : i = M := by omega
      have hiM' : ¬ (i : Int) < (i : Int) := by omega
      go_wp2_with fail
      refine (HWv.out).mono ?_
      rintro e v1 ⟨rfl, rfl⟩
      have hO := HO.out
      obtain ⟨p0, p1, p2, _⟩ := hO.at_.facts
      have hown5 := hO.own
      have htab : tabI k L (fun v => v.getD p 0) i = shT k ρ p := by
        rw [← HL.out.2, tabI_all, ← HL.out.1]
        rfl
      rw [htab] at hown5
      clear htab
      have hres := put6_res (w := w) HZ.out HW.out (by omega) (by omega) hown5 (by omega) (M := 0) (B2 := w.heap.size + 3) (WantB.zero v0 _) (by omega) HB.out (k : Int) (ρ : Int)
      have hpf := put6_facts HZ.out HW.out (by omega) (.int .i64 (k : Int)) (.int .i64 (ρ : Int)) (.slice C i cc) (.int .i64 0) (.slice none 0 0) (.slice none 0 0)
      obtain ⟨d0, d1, d2, f0, f1, f2⟩ := (HW.out).facts
      obtain ⟨z0, z1, z2, z3, z4, z5⟩ := (HZ.out).facts
      have HRS := Lib.hid hres
      have HPF := Lib.hid hpf
      have HPW := Lib.hid (show ((((((v0).setCell ⟨w.heap.size, 0, none⟩ (.int .i64 (k : Int))).setCell ⟨w.heap.size, 1, none⟩ (.int .i64 (ρ : Int))).setCell ⟨w.heap.size, 2, none⟩ (.slice C i cc)).setCell ⟨(w.heap.size + 1), 0, none⟩ (.int .i64 0)).setCell ⟨(w.heap.size + 1), 1, none⟩ (.slice none 0 0)).setCell ⟨(w.heap.size + 1), 2, none⟩ (.slice none 0 0) = put6 (v0) w.heap.size (w.heap.size + 1) (.int .i64 (k : Int)) (.int .i64 (ρ : Int)) (.slice C i cc) (.int .i64 0) (.slice none 0 0) (.slice none 0 0) from rfl)
      clear hres hpf hown5 hO
      go_wp2_with fail
      rw [HPW.out]
      obtain ⟨⟨s0, s1, s2, _⟩, s3, s4, s5, _⟩ := (⟨HPF.out.1.facts, HPF.out.2.facts⟩ : _ ∧ _)
      have HR := HRS.out
      exact bodyPost_ret (v := .tuple #[.agg #[.int .i64 (k : Int), .int .i64 (ρ : Int), .slice C i cc], .agg #[.int .i64 0, .slice none 0 0, .slice none 0 0]]) (by simp [results, Tryz.results14, go_sem, s0, s1, s2, s3, s4, s5]) rfl ⟨C, i, cc, 0, _, _, _, _, _, _, rfl, HR.1, HR.2.1, HR.2.2⟩
set_option maxRecDepth 100000 in
set_option maxHeartbeats 4000000 in
theorem shift5_neg (w : World) (k ρ p : Nat) (δ : Int) (hk1 : 1 ≤ k) (hk4 : k ≤ 4) (hρ : ρ ≤ 3) (hp : (ρ : Int) + δ = (p : Int)) (hp2 : p < 2 * ρ + 1) (hδ : (ρ : Int) = -δ) (hδ0 : δ < 0) :
    Calls Tryz.prog 14 #[.int .i64 (k : Int), .int .i64 δ] w (Rule5E w (k : Int) (ρ : Int) (shT k ρ p) none) := by
  have hz0 := (RuleAt.new w (.int .i64 0) (.int .i64 0) (.slice none 0 0)).alloc (.cells #[.int .i64 0, .slice none 0 0, .slice none 0 0] 45)
  have hw0 := WantAt.new (w.alloc (.cells #[.int .i64 0, .int .i64 0, .slice none 0 0] 26)) (.int .i64 0) (.slice none 0 0) (.slice none 0 0)
  rw [World.size_alloc] at hw0
  have hb0 := ((Below.refl w.heap.size w).alloc (Nat.le_refl _) (.cells #[.int .i64 0, .int .i64 0, .slice none 0 0] 26)).alloc (by simp) (.cells #[.int .i64 0, .slice none 0 0, .slice none 0 0] 45)
  obtain ⟨wx, hwx⟩ : ∃ wx, (w.alloc (.cells #[.int .i64 0, .int .i64 0, .slice none 0 0] 26)).alloc (.cells #[.int .i64 0, .slice none 0 0, .slice none 0 0] 45) = wx := ⟨_, rfl⟩
  have hsx : wx.heap.size = w.heap.size + 2 := by rw [← hwx]; simp
  have HWX := Lib.hid hwx
  rw [hwx] at hz0 hw0 hb0
  have HZ3 := Lib.hid hz0
  have HW3 := Lib.hid hw0
  have HB3 := Lib.hid hb0
  have HB2x := HB3.out
  have hbO := (Below.refl wx.heap.size wx).alloc (Nat.le_refl _) (.cells #[.int .i64 (k : Int), .int .i64 (ρ : Int), .slice none 0 0] 26)
  have hO4 := RuleAt.new wx (.int .i64 (k : Int)) (.int .i64 (ρ : Int)) (.slice none 0 0)
  obtain ⟨w4, hw4⟩ : ∃ w4, wx.alloc (.cells #[.int .i64 (k : Int), .int .i64 (ρ : Int), .slice none 0 0] 26) = w4 := ⟨_, rfl⟩
  have hs4 : w4.heap.size = w.heap.size + 3 := by rw [← hw4]; simp [hsx]
  rw [hw4] at hbO hO4
  rw [hsx, show w.heap.size + 2 = w.heap.size + 1 + 1 from rfl] at hO4
  have HOUT := Lib.hid (OutAt.start (B := w.heap.size + 3) hO4 (by omega) (by omega))
  have HZ4 := Lib.hid (HZ3.out.below hbO HZ3.out.lt)
  have HW4' := Lib.hid (HW3.out.below hbO HW3.out.lt)
  have HB4 := Lib.hid (HB3.out.trans (hbO.mono HB3.out.size))
  have HQ4 := Lib.hid hw4
  obtain ⟨L, hL⟩ : ∃ L, 2 * ρ + 1 = L := ⟨_, rfl⟩
  obtain ⟨M, hM⟩ : ∃ M, k ^ L = M := ⟨_, rfl⟩
  have hM16 : M ≤ 16384 := by
    rw [← hM]
    exact Nat.le_trans (Nat.pow_le_pow_left hk4 _) (Nat.le_trans (Nat.pow_le_pow_right (by decide) (show L ≤ 7 by omega)) (by decide))
  have HWO := Lib.hid (fun (wz : World) => words5_c wz k L hk1 hk4 (by omega))
  rw [hM] at HWO
  have HL := Lib.hid (And.intro hL hM)
  have e1 : IntKind.i64.wrap (2 * (ρ : Int)) = 2 * (ρ : Int) := IntWalk.i64_in _ (by omega)
  have e2 : IntKind.i64.wrap (2 * (ρ : Int) + 1) = (L : Int) := by rw [show 2 * (ρ : Int) + 1 = (L : Int) from by omega]; exact IntWalk.i64_in _ (by omega)
  have e3 : IntKind.i64.wrap ((ρ : Int) + δ) = (p : Int) := by rw [hp]; exact IntWalk.i64_in _ (by omega)
  have e4 : IntKind.i64.wrap (-δ) = -δ := IntWalk.i64_in _ (by omega)
  have hLb : L ≤ 7 := by omega
  have hpL : p < L := by omega
  have hpL' : (p : Int) < (L : Int) := by omega
  have hp0 : (0 : Int) ≤ (p : Int) := by omega
  have HDG := Lib.hid (fun (wz : World) (i : Nat) (hi : i ≤ 16384) => digits_c wz k L i hk1 (by omega) (by omega) (by omega))
  have g1 : ¬ (k : Int) < 1 := by omega
  have g2 : ¬ (4 : Int) < (k : Int) := by omega
  have g3 : ¬ δ < -3 := by omega
  have g4 : ¬ (3 : Int) < δ := by omega
  clear hz0 hw0 hb0 hwx hbO hO4 hw4 hs4 hL hM HB2x hp
  have e5 : -δ = (ρ : Int) := hδ.symm
  rw [e5] at e4
  clear hδ
  go_enter Tryz.func14, Tryz.ntmps14
  go_wp2_with fail
  rw [HWX.out, HQ4.out]
  go_loopw [8] (fun iv wl => ∃ (i cc : Nat) (C : Option Addr), iv = .int .i64 (i : Int) ∧ i ≤ M ∧ Hid (OutAt wl (w.heap.size + 1 + 1) (w.heap.size + 3) (.int .i64 (k : Int)) (.int .i64 (ρ : Int)) C i cc (tabI k L (fun v => v.getD p 0) i)) ∧
    Hid (RuleAt wl w.heap.size (.int .i64 0) (.int .i64 0) (.slice none 0 0)) ∧ Hid (WantAt wl (w.heap.size + 1) (.int .i64 0) (.slice none 0 0) (.slice none 0 0)) ∧ Hid (Below w.heap.size w wl)) (fun iv _ => M - (intOf iv).toNat)
  case atStart => exact ⟨0, 0, none, rfl, Nat.zero_le _, HOUT, HZ4, HW4', HB4⟩
  case round =>
    clear HOUT HZ4 HW4' HB4
    obtain ⟨i, cc, C, rfl, hi, HO, HZ, HW, HB⟩ := hrel
    obtain ⟨v0, rfl⟩ : ∃ v0, v0 = wr := ⟨_, rfl⟩
    have HWv := Lib.hid (HWO.out v0)
    by_cases hiM : i < M
    · have hiM' : (i : Int) < (M : Int) := by omega
      obtain ⟨p0, p1, p2, p3, p4, p5⟩ := HO.out.at_.facts
      obtain ⟨y, hy⟩ : ∃ y, (digB k L i)[p]? = some y := ⟨_, List.getElem?_eq_getElem (by rw [digB_len]; exact hpL)⟩
      have hsy : (digB k L i).getD p 0 = y := by rw [List.getD_eq_getElem?_getD, hy]; rfl
      have HSY := Lib.hid hsy
      have hi16 : i + 1 ≤ maxLen := by simp only [maxLen]; omega
      have HDv := Lib.hid (fun (wz : World) => (HDG.out wz i (by omega)).mono fun e w' h => (⟨h.1, by rw [h.2.1.cellAt p (by omega), ints_map, List.getElem?_map, hy]; rfl, h.2.2⟩ : e = .returned (.slice (some ⟨wz.heap.size, 0, none⟩) L L) ∧ w'.cell? ⟨wz.heap.size, p, none⟩ = some (.int .i64 (y : Int)) ∧ Below wz.heap.size wz w'))
      clear hy hsy
      go_wp2_with fail
      refine (HWv.out).mono ?_
      rintro e v1 ⟨rfl, rfl⟩
      go_wp2_with fail
      go_region_law (first
        | (go_simp
           go_at_call 49
           first
             | with_reducible refine (HDv.out v0).mono ?_
             | with_reducible refine (HDv.out v0.drew).mono ?_
           rintro e v5 ⟨rfl, hcy, hb5⟩
           have hb5' : Below v0.heap.size v0 v5 := by
             first
               | exact hb5
               | exact (Below.refl _ _).drew.trans hb5
           have hcy' : v5.cell? ⟨v0.heap.size, p, none⟩ = some (.int .i64 (y : Int)) := hcy
           have hO5 := HO.out.pure hb5'
           obtain ⟨a0, a1, a2, a3, a4, a5⟩ := hO5.at_.facts
           obtain ⟨_, _, t2, _⟩ := (hO5.at_.alloc (.cells #[.int .i64 (y : Int)] 3)).facts
           dsimp only)
        | (refine step_push3 ?_ (.tmp 43) (.tmp 55) 24 rfl tInts (base := w.heap.size + 3) (v := .slice C i cc) (n := i) (xs := (ints (tabI k L (fun v => v.getD p 0) i)).map (Value.int .i64)) ?_ rfl ⟨v5.heap.size, 0, none⟩ 1 rfl (.int .i64 (y : Int)) ?_ rfl ?_ ?_ ?_ ?_
           · rfl
           · first
               | exact own_below hO5.own ((Below.refl _ _).alloc (Nat.le_refl _) _)
               | exact own_below hO5.own (((Below.refl _ _).alloc (Nat.le_refl _) _).drew)
               | exact own_below hO5.own (((Below.refl _ _).drew).alloc (Nat.le_refl _) _)
           · simp
           · exact hi16
           · omega
           · (have := hO5.size; simp; omega)
           intro g3 cap3 w3' hown3 hor3 hlt3
           first
             | have hkk := pushT (w := v5) ((Below.refl _ _).alloc (Nat.le_refl _) _) hor3
             | have hkk := pushT (w := v5) (((Below.refl _ _).alloc (Nat.le_refl _) _).drew) hor3
             | have hkk := pushT (w := v5) (((Below.refl _ _).drew).alloc (Nat.le_refl _) _) hor3
           obtain ⟨hk3, hg3⟩ := hkk
           obtain ⟨z0, z1, z2, z3, z4, z5⟩ := (hO5.at_.keeps hk3 (hO5.ne hO5.lt)).facts
           clear hor3)
        | fail)
      all_goals
        obtain ⟨hOx, hKx⟩ := hO5.push hk3 hown3
        have hZx := (HZ.out.below hb5' HZ.out.lt).keeps hKx (by intro h; omega)
        have hWx := (HW.out.below hb5' HW.out.lt).keeps hKx (by intro h; omega)
        have hb55 := HB.out.trans (hb5'.mono HB.out.size)
        have hBBx := hb55.trans (hKx.below hb55.size (fun b hb => by omega))
        have htx : tabI k L (fun v => v.getD p 0) (i + 1) = tabI k L (fun v => v.getD p 0) i ++ [y] := by rw [tabI_succ, HSY.out]
        rw [← htx] at hOx
        have HX := Lib.hid (And.intro hOx (And.intro hZx (And.intro hWx hBBx)))
        clear hOx hKx hZx hWx hBBx htx hown3 hlt3 hk3 hg3 z0 z1 z2 z3 z4 z5 p0 p1 p2 p3 p4 p5 a0 a1 a2 a3 a4 a5 t2 hO5 hb5 hb5' hb55 hcy hcy'
        go_wp2_with fail
        exact ⟨⟨i + 1, cap3, _, by go_num, by omega, Lib.hid HX.out.1, Lib.hid HX.out.2.1, Lib.hid HX.out.2.2.1, Lib.hid HX.out.2.2.2⟩, by simp [intOf]; omega⟩
    · obtain rfl : i = M := by omega
      have hiM' : ¬ (i : Int) < (i : Int) := by omega
      go_wp2_with fail
      refine (HWv.out).mono ?_
      rintro e v1 ⟨rfl, rfl⟩
      have hO := HO.out
      obtain ⟨p0, p1, p2, _⟩ := hO.at_.facts
      have hown5 := hO.own
      have htab : tabI k L (fun v => v.getD p 0) i = shT k ρ p := by
        rw [← HL.out.2, tabI_all, ← HL.out.1]
        rfl
      rw [htab] at hown5
      clear htab
      have hres := put6_res (w := w) HZ.out HW.out (by omega) (by omega) hown5 (by omega) (M := 0) (B2 := w.heap.size + 3) (WantB.zero v0 _) (by omega) HB.out (k : Int) (ρ : Int)
      have hpf := put6_facts HZ.out HW.out (by omega) (.int .i64 (k : Int)) (.int .i64 (ρ : Int)) (.slice C i cc) (.int .i64 0) (.slice none 0 0) (.slice none 0 0)
      obtain ⟨d0, d1, d2, f0, f1, f2⟩ := (HW.out).facts
      obtain ⟨z0, z1, z2, z3, z4, z5⟩ := (HZ.out).facts
      have HRS := Lib.hid hres
      have HPF := Lib.hid hpf
      have HPW := Lib.hid (show ((((((v0).setCell ⟨w.heap.size, 0, none⟩ (.int .i64 (k : Int))).setCell ⟨w.heap.size, 1, none⟩ (.int .i64 (ρ : Int))).setCell ⟨w.heap.size, 2, none⟩ (.slice C i cc)).setCell ⟨(w.heap.size + 1), 0, none⟩ (.int .i64 0)).setCell ⟨(w.heap.size + 1), 1, none⟩ (.slice none 0 0)).setCell ⟨(w.heap.size + 1), 2, none⟩ (.slice none 0 0) = put6 (v0) w.heap.size (w.heap.size + 1) (.int .i64 (k : Int)) (.int .i64 (ρ : Int)) (.slice C i cc) (.int .i64 0) (.slice none 0 0) (.slice none 0 0) from rfl)
      clear hres hpf hown5 hO
      go_wp2_with fail
      rw [HPW.out]
      obtain ⟨⟨s0, s1, s2, _⟩, s3, s4, s5, _⟩ := (⟨HPF.out.1.facts, HPF.out.2.facts⟩ : _ ∧ _)
      have HR := HRS.out
      exact bodyPost_ret (v := .tuple #[.agg #[.int .i64 (k : Int), .int .i64 (ρ : Int), .slice C i cc], .agg #[.int .i64 0, .slice none 0 0, .slice none 0 0]]) (by simp [results, Tryz.results14, go_sem, s0, s1, s2, s3, s4, s5]) rfl ⟨C, i, cc, 0, _, _, _, _, _, _, rfl, HR.1, HR.2.1, HR.2.2⟩
end Go.Proofs.YtpllojpgpejfmaaGreatDoor

namespace Go.Proofs.YtpllojpgpejfmaaGreatDoor
open Go.RowKit RuleP

set_option maxRecDepth 100000 in
set_option maxHeartbeats 2000000 in
theorem rename5_len (w : World) (k r : Nat) (A : Option Addr) (n c : Nat) (t : List Nat) (hr : IsRule k r t) (hT : Sl w A n ((ints t).map (Value.int .i64))) (B : Option Addr) (m d : Nat) (hml : m ≠ k) :
    Calls Tryz.prog 17 #[ruleV (k : Int) (r : Int) A n c, .slice B m d] w (Rule5E w 0 0 [] (some (3, [(sForms, 0)]))) := by
  have hn : t.length = n := by simpa [ints] using hT.1
  have hn16 := hr.le
  rw [hn] at hn16
  have hk1 := hr.k1
  have hk4 := hr.k4
  have hr3 := hr.r3
  have hr0 := ((RuleAt.new w (.int .i64 (k : Int)) (.int .i64 (r : Int)) (.slice A n c)).alloc (.cells #[.int .i64 0, .int .i64 0, .slice none 0 0] 26)).alloc (.cells #[.int .i64 0, .slice none 0 0, .slice none 0 0] 45)
  have hz0 := (RuleAt.new (w.alloc (.cells #[.int .i64 (k : Int), .int .i64 (r : Int), .slice A n c] 26)) (.int .i64 0) (.int .i64 0) (.slice none 0 0)).alloc (.cells #[.int .i64 0, .slice none 0 0, .slice none 0 0] 45)
  have hw0 := WantAt.new ((w.alloc (.cells #[.int .i64 (k : Int), .int .i64 (r : Int), .slice A n c] 26)).alloc (.cells #[.int .i64 0, .int .i64 0, .slice none 0 0] 26)) (.int .i64 0) (.slice none 0 0) (.slice none 0 0)
  rw [World.size_alloc] at hz0
  rw [World.size_alloc, World.size_alloc] at hw0
  have hb0 := (((Below.refl w.heap.size w).alloc (Nat.le_refl _) (.cells #[.int .i64 (k : Int), .int .i64 (r : Int), .slice A n c] 26)).alloc (by simp) (.cells #[.int .i64 0, .int .i64 0, .slice none 0 0] 26)).alloc (by simp; omega) (.cells #[.int .i64 0, .slice none 0 0, .slice none 0 0] 45)
  obtain ⟨wx, hwx⟩ : ∃ wx, ((w.alloc (.cells #[.int .i64 (k : Int), .int .i64 (r : Int), .slice A n c] 26)).alloc (.cells #[.int .i64 0, .int .i64 0, .slice none 0 0] 26)).alloc (.cells #[.int .i64 0, .slice none 0 0, .slice none 0 0] 45) = wx := ⟨_, rfl⟩
  have hsx : wx.heap.size = w.heap.size + 3 := by rw [← hwx]; simp
  have HWX := Lib.hid hwx
  obtain ⟨q0, q1, q2, _⟩ := hr0.facts
  rw [hwx] at hr0 hz0 hw0 hb0
  have hf := fault5_c wx 0 (k : Int) (r : Int) A n c (ints t) (hT.below hb0) (by omega)
  rw [checkF_rule 0 hr] at hf
  have HF := Lib.hid hf
  have HR0 := Lib.hid hr0
  have HZ0 := Lib.hid hz0
  have HW0 := Lib.hid hw0
  have HB0 := Lib.hid hb0
  have HRU := Lib.hid hr
  have HT := Lib.hid (fun (wz : World) (hz : Below w.heap.size w wz) => hT.below hz)
  have HN := Lib.hid hn
  clear hf hwx hr0 hz0 hw0 hb0 hr hT hn
  unfold ruleV at *
  go_enter Tryz.func17, Tryz.ntmps17
  go_wp2_with fail
  rw [HWX.out]
  clear q0 q1 q2
  refine (HF.out).mono ?_
  rintro e w1 ⟨N, A1, n1, c1, A2, n2, c2, rfl, hu, hb1⟩
  obtain rfl : N = 0 := hu.num
  obtain ⟨rfl, rfl, rfl, rfl, rfl, rfl⟩ : A1 = none ∧ n1 = 0 ∧ c1 = 0 ∧ A2 = none ∧ n2 = 0 ∧ c2 = 0 := by
    have e := hu.none_eq
    simp at e
    obtain ⟨⟨q1, q2, q3⟩, q4, q5, q6⟩ := e
    exact ⟨q1, q2, q3, q4, q5, q6⟩
  have hb2 : Below w1.heap.size w1 (w1.alloc (.cells #[.int .i64 0, .slice none 0 0, .slice none 0 0] 45)) := (Below.refl _ _).alloc (Nat.le_refl _) _
  have hv2 := WantAt.new w1 (.int .i64 0) (.slice none 0 0) (.slice none 0 0)
  obtain ⟨wy, hwy⟩ : ∃ wy, w1.alloc (.cells #[.int .i64 0, .slice none 0 0, .slice none 0 0] 45) = wy := ⟨_, rfl⟩
  have HWY := Lib.hid hwy
  have hlt2 : w1.heap.size < wy.heap.size := by rw [← hwy]; simp
  rw [hwy] at hb2 hv2
  have hs1 := hb1.size
  have hr2 := (HR0.out.below hb1 (by omega)).below hb2 (by omega)
  have hz2 := (HZ0.out.below hb1 (by omega)).below hb2 (by omega)
  have hw2 := (HW0.out.below hb1 (by omega)).below hb2 (by omega)
  have hbx := HB0.out.trans ((hb1.trans (hb2.mono hb1.size)).mono HB0.out.size)
  have HBAD := Lib.hid (badZero5 wy)
  obtain ⟨ge, hge'⟩ : ∃ ge, w1.heap.size = ge := ⟨_, rfl⟩
  rw [hge'] at hv2 hs1 hlt2
  have hge : w.heap.size + 3 ≤ ge := by omega
  obtain ⟨v0, v1, v2, _⟩ := hv2.facts
  have HGE := Lib.hid hge'
  have HR2 := Lib.hid hr2
  have HZ2 := Lib.hid hz2
  have HW2 := Lib.hid hw2
  have HV2 := Lib.hid hv2
  have HB2 := Lib.hid hbx
  clear hu hb1 hb2 hr2 hz2 hw2 hv2 hbx hwy hge' hs1 hsx
  rw [show ((0 : Nat) : Int) = 0 from rfl]
  go_wp2_with fail
  rw [HWY.out, HGE.out]
  refine (HBAD.out).mono ?_
  rintro e w3 ⟨rfl, hb3⟩
  have hge2 : ge < w3.heap.size := Nat.lt_of_lt_of_le hlt2 hb3.size
  have HR3 := Lib.hid (HR2.out.below hb3 (by omega))
  have HZ3 := Lib.hid (HZ2.out.below hb3 (by omega))
  have HW3 := Lib.hid (HW2.out.below hb3 (by omega))
  have HV3 := Lib.hid (HV2.out.below hb3 (by omega))
  have HB3 := Lib.hid (HB2.out.trans (hb3.mono HB2.out.size))
  obtain ⟨r0, r1, r2, _⟩ := HR3.out.facts
  clear v0 v1 v2 hb3 hlt2 HF HR0 HZ0 HW0 HB0 HWX HWY HGE HR2 HZ2 HW2 HV2 HB2 HBAD
  have hml' : ¬ (m : Int) = (k : Int) := by omega
  have HNW := Lib.hid (newB_c w3 sForms 0 3)
  clear hml
  go_wp2_with fail
  refine (HNW.out).mono ?_
  rintro e w4 ⟨A1, n1, c1, A2, n2, c2, rfl, hu, hb4⟩
  clear r0 r1 r2
  have hres := put6_res (w := w) (HZ3.out.below hb4 (by omega)) (HW3.out.below hb4 (by omega)) (by omega) (by omega) (B := w.heap.size + 3) (C := none) (N := 0) (cc := 0) (xs := []) (World.ownsRow_nil _ _ _ _) (by omega) hu (by omega) (HB3.out.trans (hb4.mono HB3.out.size)) 0 0
  have hpf := put6_facts (HZ3.out.below hb4 (by omega)) (HW3.out.below hb4 (by omega)) (by omega) (.int .i64 0) (.int .i64 0) (.slice none 0 0) (.int .i64 3) (.slice A1 n1 c1) (.slice A2 n2 c2)
  obtain ⟨d0, d1, d2, f0, f1, f2⟩ := ((HW3.out.below hb4 (by omega))).facts
  obtain ⟨z0, z1, z2, z3, z4, z5⟩ := ((HZ3.out.below hb4 (by omega))).facts
  have HRS := Lib.hid hres
  have HPF := Lib.hid hpf
  have HPW := Lib.hid (show ((((((w4).setCell ⟨(w.heap.size + 1), 0, none⟩ (.int .i64 0)).setCell ⟨(w.heap.size + 1), 1, none⟩ (.int .i64 0)).setCell ⟨(w.heap.size + 1), 2, none⟩ (.slice none 0 0)).setCell ⟨(w.heap.size + 1 + 1), 0, none⟩ (.int .i64 3)).setCell ⟨(w.heap.size + 1 + 1), 1, none⟩ (.slice A1 n1 c1)).setCell ⟨(w.heap.size + 1 + 1), 2, none⟩ (.slice A2 n2 c2) = put6 (w4) (w.heap.size + 1) (w.heap.size + 1 + 1) (.int .i64 0) (.int .i64 0) (.slice none 0 0) (.int .i64 3) (.slice A1 n1 c1) (.slice A2 n2 c2) from rfl)
  clear hres hpf hu hb4
  go_wp2_with fail
  rw [HPW.out]
  obtain ⟨⟨s0, s1, s2, _⟩, s3, s4, s5, _⟩ := (⟨HPF.out.1.facts, HPF.out.2.facts⟩ : _ ∧ _)
  have HR := HRS.out
  exact bodyPost_ret (v := .tuple #[.agg #[.int .i64 0, .int .i64 0, .slice none 0 0], .agg #[.int .i64 3, .slice A1 n1 c1, .slice A2 n2 c2]]) (by simp [results, Tryz.results17, go_sem, s0, s1, s2, s3, s4, s5]) rfl ⟨none, 0, 0, 3, _, _, _, _, _, _, rfl, HR.1, HR.2.1, HR.2.2⟩

set_option maxRecDepth 100000 in
set_option maxHeartbeats 4000000 in
theorem rename5_odd (w : World) (k r : Nat) (A : Option Addr) (n c : Nat) (t : List Nat) (hr : IsRule k r t) (hT : Sl w A n ((ints t).map (Value.int .i64))) (B : Option Addr) (m d : Nat) (Q : List Int) (hQ : Sl w B m (Q.map (Value.int .i64))) (hml : m = k) (hodd : ∃ z, z < k ∧ Q.count (z : Int) ≠ 1) :
    Calls Tryz.prog 17 #[ruleV (k : Int) (r : Int) A n c, .slice B m d] w (Rule5E w 0 0 [] (some (3, [(sForms, 0)]))) := by
  have hn : t.length = n := by simpa [ints] using hT.1
  have hn16 := hr.le
  rw [hn] at hn16
  have hk1 := hr.k1
  have hk4 := hr.k4
  have hr3 := hr.r3
  have hr0 := ((RuleAt.new w (.int .i64 (k : Int)) (.int .i64 (r : Int)) (.slice A n c)).alloc (.cells #[.int .i64 0, .int .i64 0, .slice none 0 0] 26)).alloc (.cells #[.int .i64 0, .slice none 0 0, .slice none 0 0] 45)
  have hz0 := (RuleAt.new (w.alloc (.cells #[.int .i64 (k : Int), .int .i64 (r : Int), .slice A n c] 26)) (.int .i64 0) (.int .i64 0) (.slice none 0 0)).alloc (.cells #[.int .i64 0, .slice none 0 0, .slice none 0 0] 45)
  have hw0 := WantAt.new ((w.alloc (.cells #[.int .i64 (k : Int), .int .i64 (r : Int), .slice A n c] 26)).alloc (.cells #[.int .i64 0, .int .i64 0, .slice none 0 0] 26)) (.int .i64 0) (.slice none 0 0) (.slice none 0 0)
  rw [World.size_alloc] at hz0
  rw [World.size_alloc, World.size_alloc] at hw0
  have hb0 := (((Below.refl w.heap.size w).alloc (Nat.le_refl _) (.cells #[.int .i64 (k : Int), .int .i64 (r : Int), .slice A n c] 26)).alloc (by simp) (.cells #[.int .i64 0, .int .i64 0, .slice none 0 0] 26)).alloc (by simp; omega) (.cells #[.int .i64 0, .slice none 0 0, .slice none 0 0] 45)
  obtain ⟨wx, hwx⟩ : ∃ wx, ((w.alloc (.cells #[.int .i64 (k : Int), .int .i64 (r : Int), .slice A n c] 26)).alloc (.cells #[.int .i64 0, .int .i64 0, .slice none 0 0] 26)).alloc (.cells #[.int .i64 0, .slice none 0 0, .slice none 0 0] 45) = wx := ⟨_, rfl⟩
  have hsx : wx.heap.size = w.heap.size + 3 := by rw [← hwx]; simp
  have HWX := Lib.hid hwx
  obtain ⟨q0, q1, q2, _⟩ := hr0.facts
  rw [hwx] at hr0 hz0 hw0 hb0
  have hf := fault5_c wx 0 (k : Int) (r : Int) A n c (ints t) (hT.below hb0) (by omega)
  rw [checkF_rule 0 hr] at hf
  have HF := Lib.hid hf
  have HR0 := Lib.hid hr0
  have HZ0 := Lib.hid hz0
  have HW0 := Lib.hid hw0
  have HB0 := Lib.hid hb0
  have HRU := Lib.hid hr
  have HT := Lib.hid (fun (wz : World) (hz : Below w.heap.size w wz) => hT.below hz)
  have HN := Lib.hid hn
  have HQ := Lib.hid (fun (wz : World) (hz : Below w.heap.size w wz) => hQ.below hz)
  have HQL : Hid (Q.length = m) := Lib.hid (by simpa using hQ.1)
  clear hf hwx hr0 hz0 hw0 hb0 hr hT hn
  unfold ruleV at *
  go_enter Tryz.func17, Tryz.ntmps17
  go_wp2_with fail
  rw [HWX.out]
  clear q0 q1 q2
  refine (HF.out).mono ?_
  rintro e w1 ⟨N, A1, n1, c1, A2, n2, c2, rfl, hu, hb1⟩
  obtain rfl : N = 0 := hu.num
  obtain ⟨rfl, rfl, rfl, rfl, rfl, rfl⟩ : A1 = none ∧ n1 = 0 ∧ c1 = 0 ∧ A2 = none ∧ n2 = 0 ∧ c2 = 0 := by
    have e := hu.none_eq
    simp at e
    obtain ⟨⟨q1, q2, q3⟩, q4, q5, q6⟩ := e
    exact ⟨q1, q2, q3, q4, q5, q6⟩
  have hb2 : Below w1.heap.size w1 (w1.alloc (.cells #[.int .i64 0, .slice none 0 0, .slice none 0 0] 45)) := (Below.refl _ _).alloc (Nat.le_refl _) _
  have hv2 := WantAt.new w1 (.int .i64 0) (.slice none 0 0) (.slice none 0 0)
  obtain ⟨wy, hwy⟩ : ∃ wy, w1.alloc (.cells #[.int .i64 0, .slice none 0 0, .slice none 0 0] 45) = wy := ⟨_, rfl⟩
  have HWY := Lib.hid hwy
  have hlt2 : w1.heap.size < wy.heap.size := by rw [← hwy]; simp
  rw [hwy] at hb2 hv2
  have hs1 := hb1.size
  have hr2 := (HR0.out.below hb1 (by omega)).below hb2 (by omega)
  have hz2 := (HZ0.out.below hb1 (by omega)).below hb2 (by omega)
  have hw2 := (HW0.out.below hb1 (by omega)).below hb2 (by omega)
  have hbx := HB0.out.trans ((hb1.trans (hb2.mono hb1.size)).mono HB0.out.size)
  have HBAD := Lib.hid (badZero5 wy)
  obtain ⟨ge, hge'⟩ : ∃ ge, w1.heap.size = ge := ⟨_, rfl⟩
  rw [hge'] at hv2 hs1 hlt2
  have hge : w.heap.size + 3 ≤ ge := by omega
  obtain ⟨v0, v1, v2, _⟩ := hv2.facts
  have HGE := Lib.hid hge'
  have HR2 := Lib.hid hr2
  have HZ2 := Lib.hid hz2
  have HW2 := Lib.hid hw2
  have HV2 := Lib.hid hv2
  have HB2 := Lib.hid hbx
  clear hu hb1 hb2 hr2 hz2 hw2 hv2 hbx hwy hge' hs1 hsx
  rw [show ((0 : Nat) : Int) = 0 from rfl]
  go_wp2_with fail
  rw [HWY.out, HGE.out]
  refine (HBAD.out).mono ?_
  rintro e w3 ⟨rfl, hb3⟩
  have hge2 : ge < w3.heap.size := Nat.lt_of_lt_of_le hlt2 hb3.size
  have HR3 := Lib.hid (HR2.out.below hb3 (by omega))
  have HZ3 := Lib.hid (HZ2.out.below hb3 (by omega))
  have HW3 := Lib.hid (HW2.out.below hb3 (by omega))
  have HV3 := Lib.hid (HV2.out.below hb3 (by omega))
  have HB3 := Lib.hid (HB2.out.trans (hb3.mono HB2.out.size))
  obtain ⟨r0, r1, r2, _⟩ := HR3.out.facts
  clear v0 v1 v2 hb3 hlt2 HF HR0 HZ0 HW0 HB0 HWX HWY HGE HR2 HZ2 HW2 HV2 HB2 HBAD
  subst hml
  obtain ⟨gf, hgf⟩ : ∃ gf, w3.heap.size = gf := ⟨_, rfl⟩
  have hmk := run_make_row' (P := Tryz.prog) 24 3 (.int .i64 0) 8 tInts.und tInts.info rfl .i64 .i64 m (by omega) (by omega) w3
  rw [hgf] at hmk
  have hof := mkP w3 gf hgf m (by simp only [maxLen]; omega)
  have ba := (Below.refl w3.heap.size w3).alloc (Nat.le_refl _) (.cells (madeCells #[.int .i64 0] m) 3)
  obtain ⟨wF, hwF⟩ : ∃ wF, w3.alloc (.cells (madeCells #[.int .i64 0] m) 3) = wF := ⟨_, rfl⟩
  rw [hwF] at hof ba hmk
  have HOF := Lib.hid hof
  have HWF := Lib.hid hwF
  have HGF := Lib.hid hgf
  have HGFW := Lib.hid (show gf ≤ wF.heap.size by rw [← hgf]; exact ba.size)
  have HRF := Lib.hid (HR3.out.below ba HR3.out.lt)
  have HZF := Lib.hid (HZ3.out.below ba HZ3.out.lt)
  have HWFF := Lib.hid (HW3.out.below ba HW3.out.lt)
  have hgf1 : ge < gf := by omega
  clear hof ba hwF hgf
  go_wp2_with fail
  clear r0 r1 r2 hmk
  go_loopw [8] (fun xv wl => ∃ x : Nat, x ≤ m ∧ xv = .int .i64 (x : Int) ∧ wl.ownsRow gf 3 1 (.slice (some ⟨gf, 0, none⟩) m m) m ((ints (fromQ m Q x 0)).map (Value.int .i64)) ∧ Hid (Keeps (fun b => b = gf) wF wl) ∧ Hid (∀ z, z < x → Q.count (z : Int) = 1)) (fun xv _ => m - (intOf xv).toNat)
  case atStart => exact ⟨0, Nat.zero_le _, rfl, by rw [fromQ_zero]; exact HOF.out, Lib.hid (Keeps.refl _ _), Lib.hid (fun z h => absurd h (Nat.not_lt_zero z))⟩
  case round =>
    obtain ⟨x, hx, rfl, hown, hK, HI⟩ := hrel
    obtain ⟨v0, rfl⟩ : ∃ v0, v0 = wr := ⟨_, rfl⟩
    obtain ⟨r0, r1, r2, _⟩ := (HRF.out.keeps hK.out (by omega)).facts
    by_cases hxm : x < m
    · have hxm' : (x : Int) < (m : Int) := by omega
      have HOW := Lib.hid hown
      clear hown
      go_wp2_with fail
      clear r0 r1 r2
      go_loopw [9, 10] (fun tv iv wl => ∃ i : Nat, i ≤ m ∧ iv = .int .i64 (i : Int) ∧ tv = .int .i64 ((timesQ Q x i : Nat) : Int) ∧ wl.ownsRow gf 3 1 (.slice (some ⟨gf, 0, none⟩) m m) m ((ints (fromQ m Q x i)).map (Value.int .i64)) ∧ Hid (Keeps (fun b => b = gf) wF wl)) (fun _ iv _ => m - (intOf iv).toNat)
      case atStart => exact ⟨0, Nat.zero_le _, rfl, by simp [timesQ], HOW.out, hK⟩
      case round =>
        clear HOW hK
        obtain ⟨i, hi, rfl, rfl, hown, hK⟩ := hrel
        obtain ⟨v1, rfl⟩ : ∃ v1, v1 = wr := ⟨_, rfl⟩
        obtain ⟨r0, r1, r2, _⟩ := (HRF.out.keeps hK.out (by omega)).facts
        have hbf : Below gf w3 v1 := by
          have h1 := (Below.refl gf w3).alloc (Nat.le_of_eq HGF.out.symm) (.cells (madeCells #[.int .i64 0] m) 3)
          rw [HWF.out] at h1
          exact h1.trans (hK.out.below HGFW.out (fun b hb => by rw [show b = gf from hb]; exact Nat.le_refl _))
        rw [← HGF.out] at hbf
        have hbb := HB3.out.trans (hbf.mono HB3.out.size)
        have htl := timesQ_le Q x i
        by_cases him : i < m
        · have him' : (i : Int) < (m : Int) := by omega
          have hi0 : (0 : Int) ≤ (i : Int) := by omega
          have hx0 : (0 : Int) ≤ (x : Int) := by omega
          obtain ⟨ad, y, hB, hy, hcy⟩ := (HQ.out v1 hbb).int_ him
          subst hB
          have hts := timesQ_succ (x := x) hy
          obtain ⟨a, ha⟩ : ∃ a, timesQ Q x i = a := ⟨_, rfl⟩
          obtain ⟨b, hb⟩ : ∃ b, timesQ Q x (i + 1) = b := ⟨_, rfl⟩
          rw [ha, hb] at hts
          rw [ha] at htl ⊢
          have HBT := Lib.hid hb
          by_cases hyx : y = (x : Int)
          · subst hyx
            rw [if_pos rfl] at hts
            have hq1 : IntKind.i64.wrap ((a : Int) + 1) = (b : Int) := by rw [show (a : Int) + 1 = (b : Int) from by omega]; exact IntWalk.i64_in _ (by omega)
            have hset := fromQ_hit hxm hy
            obtain ⟨o, ho⟩ : ∃ o, (fromQ m Q x i)[x]? = some o := ⟨_, List.getElem?_eq_getElem (by rw [fromQ_len]; exact hxm)⟩
            have fa := hown.frozenAt x
            have ca : v1.cell? ⟨gf, x, none⟩ = some (.int .i64 (o : Int)) := by rw [hown.cellAt x (by omega), ints_map, List.getElem?_map, ho]; rfl
            have o1 := (hown.stored x (.int .i64 (i : Int))).1
            have e3 : ((ints (fromQ m Q x i)).map (Value.int .i64)).set x (.int .i64 (i : Int)) = (ints (fromQ m Q x (i + 1))).map (Value.int .i64) := by rw [← hset, ints_map, ints_map, List.map_set]
            rw [e3] at o1
            have HOO := Lib.hid o1
            have HKK := Lib.hid (hK.out.trans (Keeps.of_setCell v1 ⟨gf, x, none⟩ (.int .i64 (i : Int))) (fun _ _ h => h))
            clear hset ho o1 e3 hown hK hbf hbb hy hts ha hb
            go_wp2_with fail
            exact ⟨⟨i + 1, by omega, by go_num, by rw [HBT.out], HOO.out, HKK⟩, by simp [intOf]; omega⟩
          · rw [if_neg hyx] at hts
            have hms := fromQ_miss (k := m) (x := x) hy hyx
            rw [hms] at hown
            have HOO := Lib.hid hown
            obtain rfl : b = a := by omega
            clear hms hown hbf hbb hy hts ha hb
            go_wp2_with fail
            exact ⟨⟨i + 1, by omega, by go_num, by rw [HBT.out], HOO.out, hK⟩, by simp [intOf]; omega⟩
        · obtain rfl : i = m := by omega
          have him' : ¬ (i : Int) < (i : Int) := by omega
          have hta := timesQ_all HQL.out x
          rw [fromQ_next] at hown
          rw [hta] at htl ⊢
          have HOO := Lib.hid hown
          by_cases h1 : Q.count (x : Int) = 1
          · rw [h1]
            have HI2 : Hid (∀ z, z < x + 1 → Q.count (z : Int) = 1) := Lib.hid (fun z hz => by
              by_cases e : z = x
              · rw [e]; exact h1
              · exact HI.out z (by omega))
            clear hown hta htl hbf hbb h1
            go_wp2_with fail
            exact ⟨⟨x + 1, by omega, by go_num, HOO.out, hK, HI2⟩, by simp [intOf]; omega⟩
          · obtain ⟨cn, hcn⟩ : ∃ cn, Q.count (x : Int) = cn := ⟨_, rfl⟩
            rw [hcn] at h1 htl ⊢
            have h1' : ¬ (cn : Int) = 1 := by omega
            have hHZ := (HZF.out.keeps hK.out (by omega))
            have hHW := (HWFF.out.keeps hK.out (by omega))
            have hszv := hK.out.size
            have HGW := HGFW.out
            have HNW := Lib.hid (newB_c v1 sForms 0 3)
            have HBB := Lib.hid hbb
            clear hown hta hbf hcn hbb
            go_wp2_with fail
            refine (HNW.out).mono ?_
            rintro e w4 ⟨A1, n1, c1, A2, n2, c2, rfl, hu, hb4⟩
            clear r0 r1 r2
            have hres := put6_res (w := w) (hHZ.below hb4 (by omega)) (hHW.below hb4 (by omega)) (by omega) (by omega) (B := w.heap.size + 3) (C := none) (N := 0) (cc := 0) (xs := []) (World.ownsRow_nil _ _ _ _) (by omega) hu (by omega) (HBB.out.trans (hb4.mono HBB.out.size)) 0 0
            have hpf := put6_facts (hHZ.below hb4 (by omega)) (hHW.below hb4 (by omega)) (by omega) (.int .i64 0) (.int .i64 0) (.slice none 0 0) (.int .i64 3) (.slice A1 n1 c1) (.slice A2 n2 c2)
            obtain ⟨d0, d1, d2, f0, f1, f2⟩ := ((hHW.below hb4 (by omega))).facts
            obtain ⟨z0, z1, z2, z3, z4, z5⟩ := ((hHZ.below hb4 (by omega))).facts
            have HRS := Lib.hid hres
            have HPF := Lib.hid hpf
            have HPW := Lib.hid (show ((((((w4).setCell ⟨(w.heap.size + 1), 0, none⟩ (.int .i64 0)).setCell ⟨(w.heap.size + 1), 1, none⟩ (.int .i64 0)).setCell ⟨(w.heap.size + 1), 2, none⟩ (.slice none 0 0)).setCell ⟨(w.heap.size + 1 + 1), 0, none⟩ (.int .i64 3)).setCell ⟨(w.heap.size + 1 + 1), 1, none⟩ (.slice A1 n1 c1)).setCell ⟨(w.heap.size + 1 + 1), 2, none⟩ (.slice A2 n2 c2) = put6 (w4) (w.heap.size + 1) (w.heap.size + 1 + 1) (.int .i64 0) (.int .i64 0) (.slice none 0 0) (.int .i64 3) (.slice A1 n1 c1) (.slice A2 n2 c2) from rfl)
            clear hres hpf hu hb4 hHZ hHW hszv
            go_wp2_with fail
            rw [HPW.out]
            obtain ⟨⟨s0, s1, s2, _⟩, s3, s4, s5, _⟩ := (⟨HPF.out.1.facts, HPF.out.2.facts⟩ : _ ∧ _)
            have HR := HRS.out
            exact bodyPost_ret (v := .tuple #[.agg #[.int .i64 0, .int .i64 0, .slice none 0 0], .agg #[.int .i64 3, .slice A1 n1 c1, .slice A2 n2 c2]]) (by simp [results, Tryz.results17, go_sem, s0, s1, s2, s3, s4, s5]) rfl ⟨none, 0, 0, 3, _, _, _, _, _, _, rfl, HR.1, HR.2.1, HR.2.2⟩
    · obtain rfl : x = m := by omega
      obtain ⟨z, hz, hne⟩ := hodd
      exact absurd (HI.out z hz) hne

end Go.Proofs.YtpllojpgpejfmaaGreatDoor
