/- The call of FormsPowers, a rule of the radius 0: it returns true. Condition: the table reads from memory; the error variables hold what E says. The call of FormsPowers, a rule of the radius 0: it returns true. Condition: the table reads from memory; the error variables hold what E says. -/
import Derived.Test.YtfgnghgmffaepaaDoorFormsPowersA
namespace Go.Proofs.YtfgnghgmffaepaaDoor
open Go.RowKit RuleP

set_option maxRecDepth 100000 in
set_option maxHeartbeats 1500000 in
theorem formsPowers_zp (w : World) (E : Nat → Addr) (hE : Errs w E) (k q : Nat) (s : Int) (A : Option Addr) (n c : Nat) (t : List Nat) (hS : Sl w A n ((ints t).map (Value.int .i64)))
    (ha : IsRule k 0 t) (hq63 : q ≤ 9223372036854775807) (hs : -9223372036854775808 ≤ s ∧ s ≤ 9223372036854775807) (hsg : 0 ≤ s.tdiv 2 + s.tmod 2) :
    Calls Tryd.prog 3 #[ruleV k 0 A n c, .int .i64 s, .int .i64 (q : Int)] w fun e w' => e = .returned (.bool true) ∧ Below w.heap.size w w' := by
  have hna : t.length = n := by simpa [ints] using hS.1
  have hn16 := ha.le
  rw [hna] at hn16
  have hb3 := (Below.refl w.heap.size w).alloc (Nat.le_refl _) (.cells #[.int .i64 (k : Int), .int .i64 0, .slice A n c] 24)
  have hr0 := RuleAt.new w (.int .i64 (k : Int)) (.int .i64 0) (.slice A n c)
  obtain ⟨W, hW⟩ : ∃ W, w.alloc (.cells #[.int .i64 (k : Int), .int .i64 0, .slice A n c] 24) = W := ⟨_, rfl⟩
  rw [hW] at hb3 hr0
  have HAW := Lib.hid (awake5_c W E (hE.below hb3))
  have HTT := Lib.hid (fun (wz : World) (hz : Below W.heap.size W wz) => (⟨hE.below (hb3.trans (hz.mono hb3.size)), hS.below (hb3.trans (hz.mono hb3.size))⟩ : _ ∧ _))
  have HFX := Lib.hid (fun (wz : World) (hz : Below W.heap.size W wz) => (⟨(hr0.below hz hr0.lt).facts.1, (hr0.below hz hr0.lt).facts.2.1, (hr0.below hz hr0.lt).facts.2.2.1⟩ : _ ∧ _ ∧ _))
  have HL := Lib.hid (show w.heap.size < W.heap.size from hr0.lt)
  have HB3 := Lib.hid hb3
  have HW := Lib.hid hW
  have HA := Lib.hid ha
  have hk1 := ha.k1
  have hk4 := ha.k4
  have hra3 := ha.r3
  obtain ⟨TP, hTP⟩ : ∃ TP, pw k 0 t q = TP := ⟨_, rfl⟩
  have hAB : IsRule k 0 TP := by rw [← hTP]; exact pw_rule ha (n := q) (by omega)
  have HAB := Lib.hid hAB
  have HIM := Lib.hid (hq63)
  clear hb3 hr0 hW hE hS ha hna hAB
  unfold ruleV at *
  go_enter Tryd.func3, Tryd.ntmps3
  go_wp2_with fail
  rw [HW.out]
  refine (HAW.out).mono ?_
  rintro e1 w1 ⟨rfl, b1⟩
  obtain ⟨a0, a1, a2⟩ := HFX.out w1 b1
  obtain ⟨hE1, hA1⟩ := HTT.out w1 b1
  have hcg := power_ok w1 E hE1 k 0 A n c t HA.out hA1 q (by omega) hq63
  rw [hTP] at hcg
  rw [show ((q * 0 : Nat) : Int) = 0 from rfl] at hcg
  unfold ruleV at hcg
  have HC := Lib.hid hcg
  have HTP := Lib.hid hTP
  clear hcg hE1 hA1 hTP
  go_wp2_with fail
  refine (HC.out).mono ?_
  rintro e2 w2 ⟨C2, N2, cc2, v2, rfl, ho2, he2, hb2'⟩
  have he2' : v2 = .nilIface := he2
  clear he2
  subst he2'
  have hb2 := pure_trans b1 hb2'
  have hx3 := RuleAt.new w2 (.int .i64 (k : Int)) (.int .i64 0) (.slice C2 N2 cc2)
  have b3 := (Below.refl w2.heap.size w2).alloc (Nat.le_refl _) (.cells #[.int .i64 (k : Int), .int .i64 0, .slice C2 N2 cc2] 24)
  have ho3 := own_below ho2 b3
  have hw4 := own_empty (w2.alloc (.cells #[.int .i64 (k : Int), .int .i64 0, .slice C2 N2 cc2] 24)) 3
  have hb4 := (pure_trans hb2 b3).alloc (Nat.le_trans hb2.size b3.size) (.cells #[] 3)
  obtain ⟨w4, hw4e⟩ : ∃ w4, (w2.alloc (.cells #[.int .i64 (k : Int), .int .i64 0, .slice C2 N2 cc2] 24)).alloc (.cells #[] 3) = w4 := ⟨_, rfl⟩
  rw [hw4e] at hw4 hb4
  have HW4 := Lib.hid hw4e
  obtain ⟨g7, hg7⟩ : ∃ g7, w2.heap.size = g7 := ⟨_, rfl⟩
  have HG7 := Lib.hid hg7
  have hz4 : (w2.alloc (.cells #[.int .i64 (k : Int), .int .i64 0, .slice C2 N2 cc2] 24)).heap.size = g7 + 1 := by rw [World.size_alloc, hg7]
  rw [hz4] at hw4
  have hgz : W.heap.size ≤ g7 := by rw [← hg7]; exact hb2.size
  have hgw : g7 + 1 ≤ w4.heap.size := by rw [← hw4e, World.size_alloc, hz4]; omega
  have HGZ := Lib.hid hgz
  have HGW := Lib.hid hgw
  have hb34 := (Below.refl (g7 + 1) (w2.alloc (.cells #[.int .i64 (k : Int), .int .i64 0, .slice C2 N2 cc2] 24))).alloc (Nat.le_of_eq hz4.symm) (.cells #[] 3)
  rw [hw4e] at hb34
  rw [hg7] at hx3
  have HTG := Lib.hid (fun (wz : World) (hz : Below (g7 + 1) w4 wz) => (⟨Sl.of_own (own_below ho3 (by rw [hz4]; exact hb34.trans hz)), (hx3.below (hb34.trans hz) (Nat.lt_succ_self _)).facts.1, (hx3.below (hb34.trans hz) (Nat.lt_succ_self _)).facts.2.1, (hx3.below (hb34.trans hz) (Nat.lt_succ_self _)).facts.2.2.1⟩ : _ ∧ _ ∧ _ ∧ _))
  clear hb34
  have HWW := Lib.hid hw4
  have HB4 := Lib.hid hb4
  unfold ruleV
  clear hz4 hgz hgw hw4e hg7 hx3 ho2 ho3 hw4 hb4 b3 hb2 hb2' b1 a0 a1 a2
  go_wp2_with fail
  rw [HW4.out, HG7.out] at *
  go_loopw [9, 10] (fun bv iv wl => ∃ i : Nat, i ≤ 30 ∧ iv = .int .i64 (i : Int) ∧ wl.ownsRow (g7 + 1) 3 1 bv i ((ints (wp k i)).map (Value.int .i64)) ∧ Hid (Below (g7 + 1) w4 wl)) (fun _ iv _ => 30 - (intOf iv).toNat)
  case atStart =>
    refine ⟨0, Nat.zero_le _, rfl, ?_, Lib.hid (Below.refl _ _)⟩
    exact HWW.out
  case round =>
    obtain ⟨i, hi, rfl, hown, hb⟩ := hrel
    by_cases hlt : i < 30
    · have hlt' : (i : Int) < 30 := by omega
      have hzw := hb.out.size
      have hwl := HB4.out.trans (hb.out.mono (show W.heap.size ≤ g7 + 1 by have := HGZ.out; omega))
      have a0 := (HFX.out wr hwl).1
      obtain ⟨QQ, hQQ⟩ : ∃ QQ, i * i = QQ := ⟨_, rfl⟩
      obtain ⟨DD, hDD⟩ : ∃ DD, QQ / 2 = DD := ⟨_, rfl⟩
      obtain ⟨VV, hVV⟩ : ∃ VV, (DD + i) % k = VV := ⟨_, rfl⟩
      have q1 : (i : Int) * (i : Int) = (QQ : Int) := by rw [← hQQ]; push_cast; rfl
      have q2 : (QQ : Int).tdiv 2 = (DD : Int) := by rw [← hDD]; rfl
      have q3 : ((DD : Int) + (i : Int)).tmod (k : Int) = (VV : Int) := by rw [← hVV]; rfl
      have q4 : QQ ≤ 900 := by rw [← hQQ]; exact Nat.mul_le_mul (show i ≤ 30 by omega) (show i ≤ 30 by omega)
      have q5 : DD ≤ 900 := by omega
      have q6 : VV < k := by rw [← hVV]; exact Nat.mod_lt _ hk1
      have q7 : ¬ (k : Int) = 0 := by omega
      have HV := Lib.hid (show wp k (i + 1) = wp k i ++ [VV] by rw [wp_succ, hQQ, hDD, hVV])
      have hm1 : i + 1 ≤ maxLen := by simp only [maxLen]; omega
      have hm2 : (i + 1) * 8 ≤ 140737488355328 := by omega
      have hgz2 := Nat.le_trans HGW.out hzw
      clear hQQ hDD hVV hwl
      have HHB := Lib.hid hb.out
      clear hb
      go_wp2_with (at_builtin; refine wpList_push rfl _ _ _ rfl tInts hown rfl _ 0 rfl rfl rfl hm1 hm2 hgz2 ?_; intro g cap w3 hown3 hg3 hat3 hlt3)
      refine ⟨⟨i + 1, by omega, by go_num, ?_, Lib.hid (HHB.out.grown hg3 hgz2 (fun q hq => (hown.lt q hq).1))⟩, by simp [intOf]; omega⟩
      have e3 : (ints (wp k (i + 1))).map (Value.int .i64) = (ints (wp k i)).map (Value.int .i64) ++ [Value.int .i64 (VV : Int)] := by rw [HV.out]; simp [ints]
      rw [e3]
      exact hown3
    · have hlt' : ¬ (i : Int) < 30 := by omega
      obtain rfl : i = 30 := by omega
      have hwl := HB4.out.trans (hb.out.mono (show W.heap.size ≤ g7 + 1 by have := HGZ.out; omega))
      obtain ⟨BW, cW, rfl, _, _⟩ := own_slice hown
      have hgw := Nat.le_trans HGW.out hb.out.size
      obtain ⟨w0, hw0⟩ : ∃ w0, w0 = wr := ⟨_, rfl⟩
      subst hw0
      have hbb := hb.out
      have HTM := Lib.hid HTP.out
      have HE := Lib.hid (fun (wz : World) (hz : Below w0.heap.size w0 wz) => (HTT.out wz (hwl.trans (hz.mono hwl.size))).1)
      have HR_r := Lib.hid (fun (wz : World) (hz : Below w0.heap.size w0 wz) => (⟨(HTT.out wz (hwl.trans (hz.mono hwl.size))).2, HFX.out wz (hwl.trans (hz.mono hwl.size))⟩ : _ ∧ _ ∧ _ ∧ _))
      have HR_p := Lib.hid (fun (wz : World) (hz : Below w0.heap.size w0 wz) => HTG.out wz (hbb.trans (hz.mono hgw)))
      have HR_w := Lib.hid (fun (wz : World) (hz : Below w0.heap.size w0 wz) => own_below hown hz)
      have HV_r := Lib.hid (show w.heap.size < w0.heap.size from Nat.lt_of_lt_of_le HL.out hwl.size)
      have HV_p := Lib.hid (show g7 < w0.heap.size from hgw)
      have HZZ := Lib.hid (show Below w.heap.size w w0 from HB3.out.trans (hwl.mono HB3.out.size))
      have B_base := Lib.hid (Below.refl w0.heap.size w0)
      have B_r := B_base
      have B_p := B_base
      obtain ⟨_, p_0, p_1, p_2⟩ := HR_p.out w0 B_base.out
      clear hb hbb hown hwl hgw HTP HTT HFX HTG HWW HB4 HGZ HGW HG7 HW4 HL HB3 HC HAW HW
      have hc := imageL_good w0 E (HE.out w0 B_base.out) k 0 C2 BW N2 cc2 30 cW 30 TP (wp k 30) HAB.out (wp_sym hk1 30) (HR_p.out w0 B_base.out).1 (Sl.of_own (HR_w.out w0 B_base.out)) (by decide) (by rw [wp_len])
      rw [show ((0 : Nat) : Int) = 0 from rfl] at hc
      try unfold ruleV at hc
      have HC0 := Lib.hid hc
      clear hc
      go_wp2_with fail
      refine (HC0.out).mono ?_
      clear p_0 p_1 p_2
      rintro e v0 ⟨XA, Xc, rfl, hox, hb⟩
      have B_base := Lib.hid (B_base.out.trans (hb.mono B_base.out.size))
      have B_r := Lib.hid (B_r.out.trans (hb.mono B_r.out.size))
      have B_p := Lib.hid (B_p.out.trans (hb.mono B_p.out.size))
      clear hox hb
      go_wp2_with fail
      go_loopw [13, 14] (fun yv iv wl => iv = .int .i64 0 ∧ yv = .slice BW 30 cW ∧ Hid (Below v0.heap.size v0 wl)) (fun _ _ _ => 0)
      case atStart => exact ⟨rfl, rfl, Lib.hid (Below.refl _ _)⟩
      case round =>
        obtain ⟨rfl, rfl, hb⟩ := hrel
        have qB := B_r.out.trans (hb.out.mono B_r.out.size)
        obtain ⟨_, r_0, r_1, r_2⟩ := HR_r.out wr qB
        have hl_r : w.heap.size < wr.heap.size := Nat.lt_of_lt_of_le HV_r.out qB.size
        clear qB
        have qB := B_p.out.trans (hb.out.mono B_p.out.size)
        obtain ⟨_, p_0, p_1, p_2⟩ := HR_p.out wr qB
        have hl_p : g7 < wr.heap.size := Nat.lt_of_lt_of_le HV_p.out qB.size
        clear qB
        have B_base := Lib.hid (B_base.out.trans (hb.out.mono B_base.out.size))
        have B_r := Lib.hid (B_r.out.trans (hb.out.mono B_r.out.size))
        have B_p := Lib.hid (B_p.out.trans (hb.out.mono B_p.out.size))
        clear hb
        obtain ⟨v1, rfl⟩ : ∃ v1, v1 = wr := ⟨_, rfl⟩
        obtain ⟨sx, sy, hsx, hsy, sx1, sx2, sy1, sy2⟩ := half_in hs
        obtain ⟨ρ, hρ⟩ : ∃ ρ, q % 2 = ρ := ⟨_, rfl⟩
        have hρ1 : ρ ≤ 1 := by omega
        have m1 : (q : Int).tmod 2 = (ρ : Int) := by rw [← hρ]; rfl
        have m2 : ((ρ : Int) + 2).tmod 2 = (ρ : Int) := by
          have h : ρ = 0 ∨ ρ = 1 := by omega
          rcases h with h | h <;> rw [h] <;> decide
        clear hρ
        obtain ⟨σ, hσ⟩ : ∃ σ, sx + sy = σ := ⟨_, rfl⟩
        have hσ1 : σ ≤ 4611686018427387904 := by omega
        have hz0 : ((0 : Int) * (q : Int)) = 0 := Int.zero_mul _
        have hσ0 : 0 ≤ σ := by rw [hsx, hsy, hσ] at hsg; omega
        clear hsg
        obtain ⟨m, rfl⟩ : ∃ m : Nat, σ = (m : Int) := ⟨σ.toNat, by omega⟩
        obtain ⟨h1, hh1⟩ : ∃ h, m / 2 = h := ⟨_, rfl⟩
        obtain ⟨h2, hh2⟩ : ∃ h, q / 2 = h := ⟨_, rfl⟩
        have n1 : (m : Int).tdiv 2 = (h1 : Int) := by rw [← hh1]; rfl
        have n2 : (q : Int).tdiv 2 = (h2 : Int) := by rw [← hh2]; rfl
        have n3 : h1 ≤ 2305843009213693952 := by omega
        have n4 : h2 ≤ 4611686018427387903 := by omega
        obtain ⟨hh, hhh⟩ : ∃ h, h1 + h2 = h := ⟨_, rfl⟩
        have n5 : (h1 : Int) + (h2 : Int) = (hh : Int) := by omega
        have n6 : hh ≤ 9223372036854775807 := by omega
        have HHH := Lib.hid hhh
        clear hh1 hh2 hhh
        have hq0' : ((0 : Int) < (q : Int)) ∨ ¬ ((0 : Int) < (q : Int)) := by omega
        rcases hq0' with hq0' | hq0'
        all_goals
          have hc := power_z v1 E (HE.out v1 B_base.out) k A n c t HA.out (HR_r.out v1 B_r.out).1 m (by omega)
          try unfold ruleV at hc
          have HC2 := Lib.hid hc
          clear hc
          go_wp2_with fail
          clear r_0 r_1 r_2 p_0 p_1 p_2 hl_r hl_p
          refine (HC2.out).mono ?_
          rintro e v2 ⟨C_u, N_u, d_u, xe, rfl, ho, he, hb⟩
          have he' : xe = .nilIface := he
          clear he
          subst he'
          have hN : k = N_u := by have h := (Sl.of_own ho).1; rw [List.length_map, ints_len] at h; rw [← h]; exact by rw [(pw_rule HA.out (n := m) (by omega)).len]; simp
          subst hN
          have qB := B_r.out.trans (hb.mono B_r.out.size)
          obtain ⟨_, r_0, r_1, r_2⟩ := HR_r.out v2 qB
          have hl_r : w.heap.size < v2.heap.size := Nat.lt_of_lt_of_le HV_r.out qB.size
          clear qB
          have ba := (Below.refl v2.heap.size v2).alloc (Nat.le_refl _) (.cells #[.int .i64 (k : Int), .int .i64 0, .slice C_u k d_u] 24)
          have hx := RuleAt.new v2 (.int .i64 (k : Int)) (.int .i64 0) (.slice C_u k d_u)
          obtain ⟨u3, hu⟩ : ∃ u, v2.alloc (.cells #[.int .i64 (k : Int), .int .i64 0, .slice C_u k d_u] 24) = u := ⟨_, rfl⟩
          rw [hu] at ba hx
          have HU3 := Lib.hid hu
          have HV_u := Lib.hid (show v2.heap.size < u3.heap.size from hx.lt)
          have hw := (Row.of ho).below ba
          have HR_u := Lib.hid (fun (wz : World) (hz : Below u3.heap.size u3 wz) => (⟨hw.below hz, (hx.below hz hx.lt).facts.1, (hx.below hz hx.lt).facts.2.1, (hx.below hz hx.lt).facts.2.2.1⟩ : _ ∧ _ ∧ _ ∧ _))
          have HS_u := Lib.hid hb.size
          have hst := hb.trans (ba.mono hb.size)
          have B_base := Lib.hid (B_base.out.trans (hst.mono B_base.out.size))
          have B_r := Lib.hid (B_r.out.trans (hst.mono B_r.out.size))
          have B_p := Lib.hid (B_p.out.trans (hst.mono B_p.out.size))
          have B_u := Lib.hid (Below.refl u3.heap.size u3)
          clear hw hst ba hx hu ho hb
          have hc := power_z u3 E (HE.out u3 B_base.out) k A n c t HA.out (HR_r.out u3 B_r.out).1 h2 (by omega)
          try unfold ruleV at hc
          have HC3 := Lib.hid hc
          clear hc
          unfold ruleV
          go_wp2_with fail
          rw [HU3.out]
          clear r_0 r_1 r_2 hl_r
          refine (HC3.out).mono ?_
          rintro e v3 ⟨C_v, N_v, d_v, xe, rfl, ho, he, hb⟩
          have he' : xe = .nilIface := he
          clear he
          subst he'
          have qB := B_r.out.trans (hb.mono B_r.out.size)
          obtain ⟨_, r_0, r_1, r_2⟩ := HR_r.out v3 qB
          have hl_r : w.heap.size < v3.heap.size := Nat.lt_of_lt_of_le HV_r.out qB.size
          clear qB
          have ba := (Below.refl v3.heap.size v3).alloc (Nat.le_refl _) (.cells #[.int .i64 (k : Int), .int .i64 0, .slice C_v N_v d_v] 24)
          have hx := RuleAt.new v3 (.int .i64 (k : Int)) (.int .i64 0) (.slice C_v N_v d_v)
          obtain ⟨u4, hu⟩ : ∃ u, v3.alloc (.cells #[.int .i64 (k : Int), .int .i64 0, .slice C_v N_v d_v] 24) = u := ⟨_, rfl⟩
          rw [hu] at ba hx
          have HU4 := Lib.hid hu
          have HV_v := Lib.hid (show v3.heap.size < u4.heap.size from hx.lt)
          have hw := (Row.of ho).below ba
          have HR_v := Lib.hid (fun (wz : World) (hz : Below u4.heap.size u4 wz) => (⟨hw.below hz, (hx.below hz hx.lt).facts.1, (hx.below hz hx.lt).facts.2.1, (hx.below hz hx.lt).facts.2.2.1⟩ : _ ∧ _ ∧ _ ∧ _))
          have HS_v := Lib.hid hb.size
          have hst := hb.trans (ba.mono hb.size)
          have B_base := Lib.hid (B_base.out.trans (hst.mono B_base.out.size))
          have B_r := Lib.hid (B_r.out.trans (hst.mono B_r.out.size))
          have B_p := Lib.hid (B_p.out.trans (hst.mono B_p.out.size))
          have B_u := Lib.hid (B_u.out.trans (hst.mono B_u.out.size))
          have B_v := Lib.hid (Below.refl u4.heap.size u4)
          clear hw hst ba hx hu ho hb
          have hc := power_z u4 E (HE.out u4 B_base.out) k A n c t HA.out (HR_r.out u4 B_r.out).1 hh n6
          try unfold ruleV at hc
          have HC4 := Lib.hid hc
          clear hc
          unfold ruleV
          go_wp2_with fail
          rw [HU4.out]
          clear r_0 r_1 r_2 hl_r
          refine (HC4.out).mono ?_
          rintro e v4 ⟨C_su, N_su, d_su, xe, rfl, ho, he, hb⟩
          have he' : xe = .nilIface := he
          clear he
          subst he'
          have qB := B_r.out.trans (hb.mono B_r.out.size)
          obtain ⟨_, r_0, r_1, r_2⟩ := HR_r.out v4 qB
          have hl_r : w.heap.size < v4.heap.size := Nat.lt_of_lt_of_le HV_r.out qB.size
          clear qB
          have ba := (Below.refl v4.heap.size v4).alloc (Nat.le_refl _) (.cells #[.int .i64 (k : Int), .int .i64 0, .slice C_su N_su d_su] 24)
          have hx := RuleAt.new v4 (.int .i64 (k : Int)) (.int .i64 0) (.slice C_su N_su d_su)
          obtain ⟨u5, hu⟩ : ∃ u, v4.alloc (.cells #[.int .i64 (k : Int), .int .i64 0, .slice C_su N_su d_su] 24) = u := ⟨_, rfl⟩
          rw [hu] at ba hx
          have HU5 := Lib.hid hu
          have HV_su := Lib.hid (show v4.heap.size < u5.heap.size from hx.lt)
          have hw := (Row.of ho).below ba
          have HR_su := Lib.hid (fun (wz : World) (hz : Below u5.heap.size u5 wz) => (⟨hw.below hz, (hx.below hz hx.lt).facts.1, (hx.below hz hx.lt).facts.2.1, (hx.below hz hx.lt).facts.2.2.1⟩ : _ ∧ _ ∧ _ ∧ _))
          have HS_su := Lib.hid hb.size
          have hst := hb.trans (ba.mono hb.size)
          have B_base := Lib.hid (B_base.out.trans (hst.mono B_base.out.size))
          have B_r := Lib.hid (B_r.out.trans (hst.mono B_r.out.size))
          have B_p := Lib.hid (B_p.out.trans (hst.mono B_p.out.size))
          have B_u := Lib.hid (B_u.out.trans (hst.mono B_u.out.size))
          have B_v := Lib.hid (B_v.out.trans (hst.mono B_v.out.size))
          have B_su := Lib.hid (Below.refl u5.heap.size u5)
          clear hw hst ba hx hu ho hb
          have hc := power_z u5 E (HE.out u5 B_base.out) k A n c t HA.out (HR_r.out u5 B_r.out).1 h1 (by omega)
          try unfold ruleV at hc
          have HC5 := Lib.hid hc
          clear hc
          unfold ruleV
          go_wp2_with fail
          rw [HU5.out]
          clear r_0 r_1 r_2 hl_r
          refine (HC5.out).mono ?_
          rintro e v5 ⟨C_h, N_h, d_h, xe, rfl, ho, he, hb⟩
          have he' : xe = .nilIface := he
          clear he
          subst he'
          have qB := B_u.out.trans (hb.mono B_u.out.size)
          obtain ⟨_, u_0, u_1, u_2⟩ := HR_u.out v5 qB
          have hl_u : v2.heap.size < v5.heap.size := Nat.lt_of_lt_of_le HV_u.out qB.size
          clear qB
          have qB := B_r.out.trans (hb.mono B_r.out.size)
          obtain ⟨_, r_0, r_1, r_2⟩ := HR_r.out v5 qB
          have hl_r : w.heap.size < v5.heap.size := Nat.lt_of_lt_of_le HV_r.out qB.size
          clear qB
          have qB := B_v.out.trans (hb.mono B_v.out.size)
          obtain ⟨_, v_0, v_1, v_2⟩ := HR_v.out v5 qB
          have hl_v : v3.heap.size < v5.heap.size := Nat.lt_of_lt_of_le HV_v.out qB.size
          clear qB
          have ba := (Below.refl v5.heap.size v5).alloc (Nat.le_refl _) (.cells #[.int .i64 (k : Int), .int .i64 0, .slice C_h N_h d_h] 24)
          have hx := RuleAt.new v5 (.int .i64 (k : Int)) (.int .i64 0) (.slice C_h N_h d_h)
          obtain ⟨u6, hu⟩ : ∃ u, v5.alloc (.cells #[.int .i64 (k : Int), .int .i64 0, .slice C_h N_h d_h] 24) = u := ⟨_, rfl⟩
          rw [hu] at ba hx
          have HU6 := Lib.hid hu
          have HV_h := Lib.hid (show v5.heap.size < u6.heap.size from hx.lt)
          have hw := (Row.of ho).below ba
          have HR_h := Lib.hid (fun (wz : World) (hz : Below u6.heap.size u6 wz) => (⟨hw.below hz, (hx.below hz hx.lt).facts.1, (hx.below hz hx.lt).facts.2.1, (hx.below hz hx.lt).facts.2.2.1⟩ : _ ∧ _ ∧ _ ∧ _))
          have HS_h := Lib.hid hb.size
          have hst := hb.trans (ba.mono hb.size)
          have B_base := Lib.hid (B_base.out.trans (hst.mono B_base.out.size))
          have B_r := Lib.hid (B_r.out.trans (hst.mono B_r.out.size))
          have B_p := Lib.hid (B_p.out.trans (hst.mono B_p.out.size))
          have B_u := Lib.hid (B_u.out.trans (hst.mono B_u.out.size))
          have B_v := Lib.hid (B_v.out.trans (hst.mono B_v.out.size))
          have B_su := Lib.hid (B_su.out.trans (hst.mono B_su.out.size))
          have B_h := Lib.hid (Below.refl u6.heap.size u6)
          clear hw hst ba hx hu ho hb
          have hc := compose_z u6 E (HE.out u6 B_base.out) k C_h C_v N_h d_h N_v d_v (pw k 0 t h1) (pw_rule HA.out (n := h1) (by omega)) (HR_h.out u6 B_h.out).1.sl (pw k 0 t h2) (pw_rule HA.out (n := h2) (by omega)) (HR_v.out u6 B_v.out).1.sl
          rw [← pw_add HA.out h2 h1, HHH.out] at hc
          try unfold ruleV at hc
          have HC6 := Lib.hid hc
          clear hc
          unfold ruleV
          go_wp2_with fail
          rw [HU6.out]
          clear u_0 u_1 u_2 r_0 r_1 r_2 v_0 v_1 v_2 hl_u hl_r hl_v
          refine (HC6.out).mono ?_
          rintro e v6 ⟨C_bo, N_bo, d_bo, xe, rfl, ho, he, hb⟩
          have he' : xe = .nilIface := he
          clear he
          subst he'
          have qB := B_su.out.trans (hb.mono B_su.out.size)
          obtain ⟨_, su_0, su_1, su_2⟩ := HR_su.out v6 qB
          have hl_su : v4.heap.size < v6.heap.size := Nat.lt_of_lt_of_le HV_su.out qB.size
          clear qB
          have ba := (Below.refl v6.heap.size v6).alloc (Nat.le_refl _) (.cells #[.int .i64 (k : Int), .int .i64 0, .slice C_bo N_bo d_bo] 24)
          have hx := RuleAt.new v6 (.int .i64 (k : Int)) (.int .i64 0) (.slice C_bo N_bo d_bo)
          obtain ⟨u7, hu⟩ : ∃ u, v6.alloc (.cells #[.int .i64 (k : Int), .int .i64 0, .slice C_bo N_bo d_bo] 24) = u := ⟨_, rfl⟩
          rw [hu] at ba hx
          have HU7 := Lib.hid hu
          have HV_bo := Lib.hid (show v6.heap.size < u7.heap.size from hx.lt)
          have hw := (Row.of ho).below ba
          have HR_bo := Lib.hid (fun (wz : World) (hz : Below u7.heap.size u7 wz) => (⟨hw.below hz, (hx.below hz hx.lt).facts.1, (hx.below hz hx.lt).facts.2.1, (hx.below hz hx.lt).facts.2.2.1⟩ : _ ∧ _ ∧ _ ∧ _))
          have HS_bo := Lib.hid hb.size
          have hst := hb.trans (ba.mono hb.size)
          have B_base := Lib.hid (B_base.out.trans (hst.mono B_base.out.size))
          have B_r := Lib.hid (B_r.out.trans (hst.mono B_r.out.size))
          have B_p := Lib.hid (B_p.out.trans (hst.mono B_p.out.size))
          have B_u := Lib.hid (B_u.out.trans (hst.mono B_u.out.size))
          have B_v := Lib.hid (B_v.out.trans (hst.mono B_v.out.size))
          have B_su := Lib.hid (B_su.out.trans (hst.mono B_su.out.size))
          have B_h := Lib.hid (B_h.out.trans (hst.mono B_h.out.size))
          have B_bo := Lib.hid (Below.refl u7.heap.size u7)
          clear hw hst ba hx hu ho hb
          have hc := rules_b u7 k 0 k 0 C_bo C_su N_bo N_su d_bo d_su _ _ (HR_bo.out u7 B_bo.out).1.sl (HR_su.out u7 B_su.out).1.sl (by have := own_le (HR_bo.out u7 B_bo.out).1.own; simp only [maxLen] at this; omega) (by have := own_le (HR_su.out u7 B_su.out).1.own; simp only [maxLen] at this; omega)
          rw [decide_eq_true ⟨rfl, rfl, rfl⟩] at hc
          try unfold ruleV at hc
          have HC7 := Lib.hid hc
          clear hc
          unfold ruleV
          go_wp2_with fail
          rw [HU7.out]
          clear su_0 su_1 su_2 hl_su
          refine (HC7.out).mono ?_
          rintro e v7 ⟨rfl, hb⟩
          have qB := B_r.out.trans (hb.mono B_r.out.size)
          obtain ⟨_, r_0, r_1, r_2⟩ := HR_r.out v7 qB
          have hl_r : w.heap.size < v7.heap.size := Nat.lt_of_lt_of_le HV_r.out qB.size
          clear qB
          have B_base := Lib.hid (B_base.out.trans (hb.mono B_base.out.size))
          have B_r := Lib.hid (B_r.out.trans (hb.mono B_r.out.size))
          have B_p := Lib.hid (B_p.out.trans (hb.mono B_p.out.size))
          have B_u := Lib.hid (B_u.out.trans (hb.mono B_u.out.size))
          have B_v := Lib.hid (B_v.out.trans (hb.mono B_v.out.size))
          have B_su := Lib.hid (B_su.out.trans (hb.mono B_su.out.size))
          have B_h := Lib.hid (B_h.out.trans (hb.mono B_h.out.size))
          have B_bo := Lib.hid (B_bo.out.trans (hb.mono B_bo.out.size))
          clear hb
          have hc := shift_pos v7 E k ρ hk1 hk4 (by omega)
          try unfold ruleV at hc
          have HC8 := Lib.hid hc
          clear hc
          go_wp2_with fail
          clear r_0 r_1 r_2 hl_r
          refine (HC8.out).mono ?_
          rintro e v8 ⟨C_a, N_a, d_a, xe, rfl, ho, he, hb⟩
          have he' : xe = .nilIface := he
          clear he
          subst he'
          have qB := B_r.out.trans (hb.mono B_r.out.size)
          obtain ⟨_, r_0, r_1, r_2⟩ := HR_r.out v8 qB
          have hl_r : w.heap.size < v8.heap.size := Nat.lt_of_lt_of_le HV_r.out qB.size
          clear qB
          have ba := (Below.refl v8.heap.size v8).alloc (Nat.le_refl _) (.cells #[.int .i64 (k : Int), .int .i64 (ρ : Int), .slice C_a N_a d_a] 24)
          have hx := RuleAt.new v8 (.int .i64 (k : Int)) (.int .i64 (ρ : Int)) (.slice C_a N_a d_a)
          obtain ⟨u9, hu⟩ : ∃ u, v8.alloc (.cells #[.int .i64 (k : Int), .int .i64 (ρ : Int), .slice C_a N_a d_a] 24) = u := ⟨_, rfl⟩
          rw [hu] at ba hx
          have HU9 := Lib.hid hu
          have HV_a := Lib.hid (show v8.heap.size < u9.heap.size from hx.lt)
          have hw := (Row.of ho).below ba
          have HR_a := Lib.hid (fun (wz : World) (hz : Below u9.heap.size u9 wz) => (⟨hw.below hz, (hx.below hz hx.lt).facts.1, (hx.below hz hx.lt).facts.2.1, (hx.below hz hx.lt).facts.2.2.1⟩ : _ ∧ _ ∧ _ ∧ _))
          have HS_a := Lib.hid hb.size
          have hst := hb.trans (ba.mono hb.size)
          have B_base := Lib.hid (B_base.out.trans (hst.mono B_base.out.size))
          have B_r := Lib.hid (B_r.out.trans (hst.mono B_r.out.size))
          have B_p := Lib.hid (B_p.out.trans (hst.mono B_p.out.size))
          have B_u := Lib.hid (B_u.out.trans (hst.mono B_u.out.size))
          have B_v := Lib.hid (B_v.out.trans (hst.mono B_v.out.size))
          have B_su := Lib.hid (B_su.out.trans (hst.mono B_su.out.size))
          have B_h := Lib.hid (B_h.out.trans (hst.mono B_h.out.size))
          have B_bo := Lib.hid (B_bo.out.trans (hst.mono B_bo.out.size))
          have B_a := Lib.hid (Below.refl u9.heap.size u9)
          clear hw hst ba hx hu ho hb
          have hc := shift_back u9 E k ρ hk1 hk4 (by omega)
          try unfold ruleV at hc
          have HC9 := Lib.hid hc
          clear hc
          unfold ruleV
          go_wp2_with fail
          rw [HU9.out]
          clear r_0 r_1 r_2 hl_r
          refine (HC9.out).mono ?_
          rintro e v9 ⟨C_b, N_b, d_b, xe, rfl, ho, he, hb⟩
          have he' : xe = .nilIface := he
          clear he
          subst he'
          have qB := B_r.out.trans (hb.mono B_r.out.size)
          obtain ⟨_, r_0, r_1, r_2⟩ := HR_r.out v9 qB
          have hl_r : w.heap.size < v9.heap.size := Nat.lt_of_lt_of_le HV_r.out qB.size
          clear qB
          have ba := (Below.refl v9.heap.size v9).alloc (Nat.le_refl _) (.cells #[.int .i64 (k : Int), .int .i64 (ρ : Int), .slice C_b N_b d_b] 24)
          have hx := RuleAt.new v9 (.int .i64 (k : Int)) (.int .i64 (ρ : Int)) (.slice C_b N_b d_b)
          obtain ⟨u10, hu⟩ : ∃ u, v9.alloc (.cells #[.int .i64 (k : Int), .int .i64 (ρ : Int), .slice C_b N_b d_b] 24) = u := ⟨_, rfl⟩
          rw [hu] at ba hx
          have HU10 := Lib.hid hu
          have HV_b := Lib.hid (show v9.heap.size < u10.heap.size from hx.lt)
          have hw := (Row.of ho).below ba
          have HR_b := Lib.hid (fun (wz : World) (hz : Below u10.heap.size u10 wz) => (⟨hw.below hz, (hx.below hz hx.lt).facts.1, (hx.below hz hx.lt).facts.2.1, (hx.below hz hx.lt).facts.2.2.1⟩ : _ ∧ _ ∧ _ ∧ _))
          have HS_b := Lib.hid hb.size
          have hst := hb.trans (ba.mono hb.size)
          have B_base := Lib.hid (B_base.out.trans (hst.mono B_base.out.size))
          have B_r := Lib.hid (B_r.out.trans (hst.mono B_r.out.size))
          have B_p := Lib.hid (B_p.out.trans (hst.mono B_p.out.size))
          have B_u := Lib.hid (B_u.out.trans (hst.mono B_u.out.size))
          have B_v := Lib.hid (B_v.out.trans (hst.mono B_v.out.size))
          have B_su := Lib.hid (B_su.out.trans (hst.mono B_su.out.size))
          have B_h := Lib.hid (B_h.out.trans (hst.mono B_h.out.size))
          have B_bo := Lib.hid (B_bo.out.trans (hst.mono B_bo.out.size))
          have B_a := Lib.hid (B_a.out.trans (hst.mono B_a.out.size))
          have B_b := Lib.hid (Below.refl u10.heap.size u10)
          clear hw hst ba hx hu ho hb
          have hc := shift_none u10 E k hk1 hk4
          try unfold ruleV at hc
          have HC10 := Lib.hid hc
          clear hc
          unfold ruleV
          go_wp2_with fail
          rw [HU10.out]
          clear r_0 r_1 r_2 hl_r
          refine (HC10.out).mono ?_
          rintro e v10 ⟨C_z, N_z, d_z, xe, rfl, ho, he, hb⟩
          have he' : xe = .nilIface := he
          clear he
          subst he'
          have qB := B_a.out.trans (hb.mono B_a.out.size)
          obtain ⟨_, a_0, a_1, a_2⟩ := HR_a.out v10 qB
          have hl_a : v8.heap.size < v10.heap.size := Nat.lt_of_lt_of_le HV_a.out qB.size
          clear qB
          have qB := B_b.out.trans (hb.mono B_b.out.size)
          obtain ⟨_, b_0, b_1, b_2⟩ := HR_b.out v10 qB
          have hl_b : v9.heap.size < v10.heap.size := Nat.lt_of_lt_of_le HV_b.out qB.size
          clear qB
          have ba := (Below.refl v10.heap.size v10).alloc (Nat.le_refl _) (.cells #[.int .i64 (k : Int), .int .i64 0, .slice C_z N_z d_z] 24)
          have hx := RuleAt.new v10 (.int .i64 (k : Int)) (.int .i64 0) (.slice C_z N_z d_z)
          obtain ⟨u11, hu⟩ : ∃ u, v10.alloc (.cells #[.int .i64 (k : Int), .int .i64 0, .slice C_z N_z d_z] 24) = u := ⟨_, rfl⟩
          rw [hu] at ba hx
          have HU11 := Lib.hid hu
          have HV_z := Lib.hid (show v10.heap.size < u11.heap.size from hx.lt)
          have hw := (Row.of ho).below ba
          have HR_z := Lib.hid (fun (wz : World) (hz : Below u11.heap.size u11 wz) => (⟨hw.below hz, (hx.below hz hx.lt).facts.1, (hx.below hz hx.lt).facts.2.1, (hx.below hz hx.lt).facts.2.2.1⟩ : _ ∧ _ ∧ _ ∧ _))
          have HS_z := Lib.hid hb.size
          have hst := hb.trans (ba.mono hb.size)
          have B_base := Lib.hid (B_base.out.trans (hst.mono B_base.out.size))
          have B_r := Lib.hid (B_r.out.trans (hst.mono B_r.out.size))
          have B_p := Lib.hid (B_p.out.trans (hst.mono B_p.out.size))
          have B_u := Lib.hid (B_u.out.trans (hst.mono B_u.out.size))
          have B_v := Lib.hid (B_v.out.trans (hst.mono B_v.out.size))
          have B_su := Lib.hid (B_su.out.trans (hst.mono B_su.out.size))
          have B_h := Lib.hid (B_h.out.trans (hst.mono B_h.out.size))
          have B_bo := Lib.hid (B_bo.out.trans (hst.mono B_bo.out.size))
          have B_a := Lib.hid (B_a.out.trans (hst.mono B_a.out.size))
          have B_b := Lib.hid (B_b.out.trans (hst.mono B_b.out.size))
          have B_z := Lib.hid (Below.refl u11.heap.size u11)
          clear hw hst ba hx hu ho hb
          obtain ⟨dd, hdd⟩ : ∃ dd, ρ + ρ = dd := ⟨_, rfl⟩
          have hss := @sh_same k ρ hk1 hk4 hρ1
          rw [hdd] at hss
          have HSS := Lib.hid hss
          have HDD := Lib.hid hdd
          have hd3 : dd ≤ 2 := by omega
          clear hss hdd
          have hc := compose_good u11 E (HE.out u11 B_base.out) k ρ C_a C_b N_a d_a N_b d_b (shT k ρ (2 * ρ)) (shT_rule hk1 hk4 (by omega) (by omega)) (HR_a.out u11 B_a.out).1.sl ρ dd (shT k ρ 0) (shT_rule hk1 hk4 (by omega) (by omega)) (HR_b.out u11 B_b.out).1.sl HDD.out (by omega)
          try unfold ruleV at hc
          have HC11 := Lib.hid hc
          clear hc
          unfold ruleV
          go_wp2_with fail
          rw [HU11.out]
          clear a_0 a_1 a_2 b_0 b_1 b_2 hl_a hl_b
          refine (HC11.out).mono ?_
          rintro e v11 ⟨C_c, N_c, d_c, xe, rfl, ho, he, hb⟩
          have he' : xe = .nilIface := he
          clear he
          subst he'
          have qB := B_z.out.trans (hb.mono B_z.out.size)
          obtain ⟨_, z_0, z_1, z_2⟩ := HR_z.out v11 qB
          have hl_z : v10.heap.size < v11.heap.size := Nat.lt_of_lt_of_le HV_z.out qB.size
          clear qB
          have ba := (Below.refl v11.heap.size v11).alloc (Nat.le_refl _) (.cells #[.int .i64 (k : Int), .int .i64 (dd : Int), .slice C_c N_c d_c] 24)
          have hx := RuleAt.new v11 (.int .i64 (k : Int)) (.int .i64 (dd : Int)) (.slice C_c N_c d_c)
          obtain ⟨u12, hu⟩ : ∃ u, v11.alloc (.cells #[.int .i64 (k : Int), .int .i64 (dd : Int), .slice C_c N_c d_c] 24) = u := ⟨_, rfl⟩
          rw [hu] at ba hx
          have HU12 := Lib.hid hu
          have HV_c := Lib.hid (show v11.heap.size < u12.heap.size from hx.lt)
          have hw := (Row.of ho).below ba
          have HR_c := Lib.hid (fun (wz : World) (hz : Below u12.heap.size u12 wz) => (⟨hw.below hz, (hx.below hz hx.lt).facts.1, (hx.below hz hx.lt).facts.2.1, (hx.below hz hx.lt).facts.2.2.1⟩ : _ ∧ _ ∧ _ ∧ _))
          have HS_c := Lib.hid hb.size
          have hst := hb.trans (ba.mono hb.size)
          have B_base := Lib.hid (B_base.out.trans (hst.mono B_base.out.size))
          have B_r := Lib.hid (B_r.out.trans (hst.mono B_r.out.size))
          have B_p := Lib.hid (B_p.out.trans (hst.mono B_p.out.size))
          have B_u := Lib.hid (B_u.out.trans (hst.mono B_u.out.size))
          have B_v := Lib.hid (B_v.out.trans (hst.mono B_v.out.size))
          have B_su := Lib.hid (B_su.out.trans (hst.mono B_su.out.size))
          have B_h := Lib.hid (B_h.out.trans (hst.mono B_h.out.size))
          have B_bo := Lib.hid (B_bo.out.trans (hst.mono B_bo.out.size))
          have B_a := Lib.hid (B_a.out.trans (hst.mono B_a.out.size))
          have B_b := Lib.hid (B_b.out.trans (hst.mono B_b.out.size))
          have B_z := Lib.hid (B_z.out.trans (hst.mono B_z.out.size))
          have B_c := Lib.hid (Below.refl u12.heap.size u12)
          clear hw hst ba hx hu ho hb
          have hc := same_zero u12 E (HE.out u12 B_base.out) k dd C_c C_z N_c d_c N_z d_z (comp k ρ (shT k ρ (2 * ρ)) ρ (shT k ρ 0)) (by rw [← HDD.out]; exact comp_rule (shT_rule hk1 hk4 (by omega) (by omega)) (shT_rule hk1 hk4 (by omega) (by omega)) (by omega)) (HR_c.out u12 B_c.out).1.sl k (shT k 0 (2 * 0)) (shT_rule hk1 hk4 (by decide) (by decide)) (HR_z.out u12 B_z.out).1.sl
          rw [decide_eq_true ⟨rfl, HSS.out⟩] at hc
          try unfold ruleV at hc
          have HC12 := Lib.hid hc
          clear hc
          unfold ruleV
          go_wp2_with fail
          rw [HU12.out]
          clear z_0 z_1 z_2 hl_z
          refine (HC12.out).mono ?_
          rintro e v12 ⟨xe, rfl, he, hb⟩
          have he' : xe = .nilIface := he
          clear he
          subst he'
          have B_base := Lib.hid (B_base.out.trans (hb.mono B_base.out.size))
          have B_r := Lib.hid (B_r.out.trans (hb.mono B_r.out.size))
          have B_p := Lib.hid (B_p.out.trans (hb.mono B_p.out.size))
          have B_u := Lib.hid (B_u.out.trans (hb.mono B_u.out.size))
          have B_v := Lib.hid (B_v.out.trans (hb.mono B_v.out.size))
          have B_su := Lib.hid (B_su.out.trans (hb.mono B_su.out.size))
          have B_h := Lib.hid (B_h.out.trans (hb.mono B_h.out.size))
          have B_bo := Lib.hid (B_bo.out.trans (hb.mono B_bo.out.size))
          have B_a := Lib.hid (B_a.out.trans (hb.mono B_a.out.size))
          have B_b := Lib.hid (B_b.out.trans (hb.mono B_b.out.size))
          have B_z := Lib.hid (B_z.out.trans (hb.mono B_z.out.size))
          have B_c := Lib.hid (B_c.out.trans (hb.mono B_c.out.size))
          clear hb
          have HZZ2 := Lib.hid (HZZ.out.trans (B_base.out.mono HZZ.out.size))
          go_wp2_with fail
          go_ret
          exact ⟨rfl, HZZ2.out⟩

end Go.Proofs.YtfgnghgmffaepaaDoor

namespace Go.Proofs.YtfgnghgmffaepaaDoor
open Go.RowKit RuleP

set_option maxRecDepth 100000 in
set_option maxHeartbeats 1500000 in
theorem formsPowers_zn (w : World) (E : Nat → Addr) (hE : Errs w E) (k q : Nat) (s : Int) (A : Option Addr) (n c : Nat) (t : List Nat) (hS : Sl w A n ((ints t).map (Value.int .i64)))
    (ha : IsRule k 0 t) (hq63 : q ≤ 9223372036854775807) (hs : -9223372036854775808 ≤ s ∧ s ≤ 9223372036854775807) (hsg : ¬ 0 ≤ s.tdiv 2 + s.tmod 2) :
    Calls Tryd.prog 3 #[ruleV k 0 A n c, .int .i64 s, .int .i64 (q : Int)] w fun e w' => e = .returned (.bool true) ∧ Below w.heap.size w w' := by
  have hna : t.length = n := by simpa [ints] using hS.1
  have hn16 := ha.le
  rw [hna] at hn16
  have hb3 := (Below.refl w.heap.size w).alloc (Nat.le_refl _) (.cells #[.int .i64 (k : Int), .int .i64 0, .slice A n c] 24)
  have hr0 := RuleAt.new w (.int .i64 (k : Int)) (.int .i64 0) (.slice A n c)
  obtain ⟨W, hW⟩ : ∃ W, w.alloc (.cells #[.int .i64 (k : Int), .int .i64 0, .slice A n c] 24) = W := ⟨_, rfl⟩
  rw [hW] at hb3 hr0
  have HAW := Lib.hid (awake5_c W E (hE.below hb3))
  have HTT := Lib.hid (fun (wz : World) (hz : Below W.heap.size W wz) => (⟨hE.below (hb3.trans (hz.mono hb3.size)), hS.below (hb3.trans (hz.mono hb3.size))⟩ : _ ∧ _))
  have HFX := Lib.hid (fun (wz : World) (hz : Below W.heap.size W wz) => (⟨(hr0.below hz hr0.lt).facts.1, (hr0.below hz hr0.lt).facts.2.1, (hr0.below hz hr0.lt).facts.2.2.1⟩ : _ ∧ _ ∧ _))
  have HL := Lib.hid (show w.heap.size < W.heap.size from hr0.lt)
  have HB3 := Lib.hid hb3
  have HW := Lib.hid hW
  have HA := Lib.hid ha
  have hk1 := ha.k1
  have hk4 := ha.k4
  have hra3 := ha.r3
  obtain ⟨TP, hTP⟩ : ∃ TP, pw k 0 t q = TP := ⟨_, rfl⟩
  have hAB : IsRule k 0 TP := by rw [← hTP]; exact pw_rule ha (n := q) (by omega)
  have HAB := Lib.hid hAB
  have HIM := Lib.hid (hq63)
  clear hb3 hr0 hW hE hS ha hna hAB
  unfold ruleV at *
  go_enter Tryd.func3, Tryd.ntmps3
  go_wp2_with fail
  rw [HW.out]
  refine (HAW.out).mono ?_
  rintro e1 w1 ⟨rfl, b1⟩
  obtain ⟨a0, a1, a2⟩ := HFX.out w1 b1
  obtain ⟨hE1, hA1⟩ := HTT.out w1 b1
  have hcg := power_ok w1 E hE1 k 0 A n c t HA.out hA1 q (by omega) hq63
  rw [hTP] at hcg
  rw [show ((q * 0 : Nat) : Int) = 0 from rfl] at hcg
  unfold ruleV at hcg
  have HC := Lib.hid hcg
  have HTP := Lib.hid hTP
  clear hcg hE1 hA1 hTP
  go_wp2_with fail
  refine (HC.out).mono ?_
  rintro e2 w2 ⟨C2, N2, cc2, v2, rfl, ho2, he2, hb2'⟩
  have he2' : v2 = .nilIface := he2
  clear he2
  subst he2'
  have hb2 := pure_trans b1 hb2'
  have hx3 := RuleAt.new w2 (.int .i64 (k : Int)) (.int .i64 0) (.slice C2 N2 cc2)
  have b3 := (Below.refl w2.heap.size w2).alloc (Nat.le_refl _) (.cells #[.int .i64 (k : Int), .int .i64 0, .slice C2 N2 cc2] 24)
  have ho3 := own_below ho2 b3
  have hw4 := own_empty (w2.alloc (.cells #[.int .i64 (k : Int), .int .i64 0, .slice C2 N2 cc2] 24)) 3
  have hb4 := (pure_trans hb2 b3).alloc (Nat.le_trans hb2.size b3.size) (.cells #[] 3)
  obtain ⟨w4, hw4e⟩ : ∃ w4, (w2.alloc (.cells #[.int .i64 (k : Int), .int .i64 0, .slice C2 N2 cc2] 24)).alloc (.cells #[] 3) = w4 := ⟨_, rfl⟩
  rw [hw4e] at hw4 hb4
  have HW4 := Lib.hid hw4e
  obtain ⟨g7, hg7⟩ : ∃ g7, w2.heap.size = g7 := ⟨_, rfl⟩
  have HG7 := Lib.hid hg7
  have hz4 : (w2.alloc (.cells #[.int .i64 (k : Int), .int .i64 0, .slice C2 N2 cc2] 24)).heap.size = g7 + 1 := by rw [World.size_alloc, hg7]
  rw [hz4] at hw4
  have hgz : W.heap.size ≤ g7 := by rw [← hg7]; exact hb2.size
  have hgw : g7 + 1 ≤ w4.heap.size := by rw [← hw4e, World.size_alloc, hz4]; omega
  have HGZ := Lib.hid hgz
  have HGW := Lib.hid hgw
  have hb34 := (Below.refl (g7 + 1) (w2.alloc (.cells #[.int .i64 (k : Int), .int .i64 0, .slice C2 N2 cc2] 24))).alloc (Nat.le_of_eq hz4.symm) (.cells #[] 3)
  rw [hw4e] at hb34
  rw [hg7] at hx3
  have HTG := Lib.hid (fun (wz : World) (hz : Below (g7 + 1) w4 wz) => (⟨Sl.of_own (own_below ho3 (by rw [hz4]; exact hb34.trans hz)), (hx3.below (hb34.trans hz) (Nat.lt_succ_self _)).facts.1, (hx3.below (hb34.trans hz) (Nat.lt_succ_self _)).facts.2.1, (hx3.below (hb34.trans hz) (Nat.lt_succ_self _)).facts.2.2.1⟩ : _ ∧ _ ∧ _ ∧ _))
  clear hb34
  have HWW := Lib.hid hw4
  have HB4 := Lib.hid hb4
  unfold ruleV
  clear hz4 hgz hgw hw4e hg7 hx3 ho2 ho3 hw4 hb4 b3 hb2 hb2' b1 a0 a1 a2
  go_wp2_with fail
  rw [HW4.out, HG7.out] at *
  go_loopw [9, 10] (fun bv iv wl => ∃ i : Nat, i ≤ 30 ∧ iv = .int .i64 (i : Int) ∧ wl.ownsRow (g7 + 1) 3 1 bv i ((ints (wp k i)).map (Value.int .i64)) ∧ Hid (Below (g7 + 1) w4 wl)) (fun _ iv _ => 30 - (intOf iv).toNat)
  case atStart =>
    refine ⟨0, Nat.zero_le _, rfl, ?_, Lib.hid (Below.refl _ _)⟩
    exact HWW.out
  case round =>
    obtain ⟨i, hi, rfl, hown, hb⟩ := hrel
    by_cases hlt : i < 30
    · have hlt' : (i : Int) < 30 := by omega
      have hzw := hb.out.size
      have hwl := HB4.out.trans (hb.out.mono (show W.heap.size ≤ g7 + 1 by have := HGZ.out; omega))
      have a0 := (HFX.out wr hwl).1
      obtain ⟨QQ, hQQ⟩ : ∃ QQ, i * i = QQ := ⟨_, rfl⟩
      obtain ⟨DD, hDD⟩ : ∃ DD, QQ / 2 = DD := ⟨_, rfl⟩
      obtain ⟨VV, hVV⟩ : ∃ VV, (DD + i) % k = VV := ⟨_, rfl⟩
      have q1 : (i : Int) * (i : Int) = (QQ : Int) := by rw [← hQQ]; push_cast; rfl
      have q2 : (QQ : Int).tdiv 2 = (DD : Int) := by rw [← hDD]; rfl
      have q3 : ((DD : Int) + (i : Int)).tmod (k : Int) = (VV : Int) := by rw [← hVV]; rfl
      have q4 : QQ ≤ 900 := by rw [← hQQ]; exact Nat.mul_le_mul (show i ≤ 30 by omega) (show i ≤ 30 by omega)
      have q5 : DD ≤ 900 := by omega
      have q6 : VV < k := by rw [← hVV]; exact Nat.mod_lt _ hk1
      have q7 : ¬ (k : Int) = 0 := by omega
      have HV := Lib.hid (show wp k (i + 1) = wp k i ++ [VV] by rw [wp_succ, hQQ, hDD, hVV])
      have hm1 : i + 1 ≤ maxLen := by simp only [maxLen]; omega
      have hm2 : (i + 1) * 8 ≤ 140737488355328 := by omega
      have hgz2 := Nat.le_trans HGW.out hzw
      clear hQQ hDD hVV hwl
      have HHB := Lib.hid hb.out
      clear hb
      go_wp2_with (at_builtin; refine wpList_push rfl _ _ _ rfl tInts hown rfl _ 0 rfl rfl rfl hm1 hm2 hgz2 ?_; intro g cap w3 hown3 hg3 hat3 hlt3)
      refine ⟨⟨i + 1, by omega, by go_num, ?_, Lib.hid (HHB.out.grown hg3 hgz2 (fun q hq => (hown.lt q hq).1))⟩, by simp [intOf]; omega⟩
      have e3 : (ints (wp k (i + 1))).map (Value.int .i64) = (ints (wp k i)).map (Value.int .i64) ++ [Value.int .i64 (VV : Int)] := by rw [HV.out]; simp [ints]
      rw [e3]
      exact hown3
    · have hlt' : ¬ (i : Int) < 30 := by omega
      obtain rfl : i = 30 := by omega
      have hwl := HB4.out.trans (hb.out.mono (show W.heap.size ≤ g7 + 1 by have := HGZ.out; omega))
      obtain ⟨BW, cW, rfl, _, _⟩ := own_slice hown
      have hgw := Nat.le_trans HGW.out hb.out.size
      obtain ⟨w0, hw0⟩ : ∃ w0, w0 = wr := ⟨_, rfl⟩
      subst hw0
      have hbb := hb.out
      have HTM := Lib.hid HTP.out
      have HE := Lib.hid (fun (wz : World) (hz : Below w0.heap.size w0 wz) => (HTT.out wz (hwl.trans (hz.mono hwl.size))).1)
      have HR_r := Lib.hid (fun (wz : World) (hz : Below w0.heap.size w0 wz) => (⟨(HTT.out wz (hwl.trans (hz.mono hwl.size))).2, HFX.out wz (hwl.trans (hz.mono hwl.size))⟩ : _ ∧ _ ∧ _ ∧ _))
      have HR_p := Lib.hid (fun (wz : World) (hz : Below w0.heap.size w0 wz) => HTG.out wz (hbb.trans (hz.mono hgw)))
      have HR_w := Lib.hid (fun (wz : World) (hz : Below w0.heap.size w0 wz) => own_below hown hz)
      have HV_r := Lib.hid (show w.heap.size < w0.heap.size from Nat.lt_of_lt_of_le HL.out hwl.size)
      have HV_p := Lib.hid (show g7 < w0.heap.size from hgw)
      have HZZ := Lib.hid (show Below w.heap.size w w0 from HB3.out.trans (hwl.mono HB3.out.size))
      have B_base := Lib.hid (Below.refl w0.heap.size w0)
      have B_r := B_base
      have B_p := B_base
      obtain ⟨_, p_0, p_1, p_2⟩ := HR_p.out w0 B_base.out
      clear hb hbb hown hwl hgw HTP HTT HFX HTG HWW HB4 HGZ HGW HG7 HW4 HL HB3 HC HAW HW
      have hc := imageL_good w0 E (HE.out w0 B_base.out) k 0 C2 BW N2 cc2 30 cW 30 TP (wp k 30) HAB.out (wp_sym hk1 30) (HR_p.out w0 B_base.out).1 (Sl.of_own (HR_w.out w0 B_base.out)) (by decide) (by rw [wp_len])
      rw [show ((0 : Nat) : Int) = 0 from rfl] at hc
      try unfold ruleV at hc
      have HC0 := Lib.hid hc
      clear hc
      go_wp2_with fail
      refine (HC0.out).mono ?_
      clear p_0 p_1 p_2
      rintro e v0 ⟨XA, Xc, rfl, hox, hb⟩
      have B_base := Lib.hid (B_base.out.trans (hb.mono B_base.out.size))
      have B_r := Lib.hid (B_r.out.trans (hb.mono B_r.out.size))
      have B_p := Lib.hid (B_p.out.trans (hb.mono B_p.out.size))
      clear hox hb
      go_wp2_with fail
      go_loopw [13, 14] (fun yv iv wl => iv = .int .i64 0 ∧ yv = .slice BW 30 cW ∧ Hid (Below v0.heap.size v0 wl)) (fun _ _ _ => 0)
      case atStart => exact ⟨rfl, rfl, Lib.hid (Below.refl _ _)⟩
      case round =>
        obtain ⟨rfl, rfl, hb⟩ := hrel
        have qB := B_r.out.trans (hb.out.mono B_r.out.size)
        obtain ⟨_, r_0, r_1, r_2⟩ := HR_r.out wr qB
        have hl_r : w.heap.size < wr.heap.size := Nat.lt_of_lt_of_le HV_r.out qB.size
        clear qB
        have qB := B_p.out.trans (hb.out.mono B_p.out.size)
        obtain ⟨_, p_0, p_1, p_2⟩ := HR_p.out wr qB
        have hl_p : g7 < wr.heap.size := Nat.lt_of_lt_of_le HV_p.out qB.size
        clear qB
        have B_base := Lib.hid (B_base.out.trans (hb.out.mono B_base.out.size))
        have B_r := Lib.hid (B_r.out.trans (hb.out.mono B_r.out.size))
        have B_p := Lib.hid (B_p.out.trans (hb.out.mono B_p.out.size))
        clear hb
        obtain ⟨v1, rfl⟩ : ∃ v1, v1 = wr := ⟨_, rfl⟩
        obtain ⟨sx, sy, hsx, hsy, sx1, sx2, sy1, sy2⟩ := half_in hs
        obtain ⟨ρ, hρ⟩ : ∃ ρ, q % 2 = ρ := ⟨_, rfl⟩
        have hρ1 : ρ ≤ 1 := by omega
        have m1 : (q : Int).tmod 2 = (ρ : Int) := by rw [← hρ]; rfl
        have m2 : ((ρ : Int) + 2).tmod 2 = (ρ : Int) := by
          have h : ρ = 0 ∨ ρ = 1 := by omega
          rcases h with h | h <;> rw [h] <;> decide
        clear hρ
        obtain ⟨σ, hσ⟩ : ∃ σ, sx + sy = σ := ⟨_, rfl⟩
        have hσ1 : σ ≤ 4611686018427387904 := by omega
        have hz0 : ((0 : Int) * (q : Int)) = 0 := Int.zero_mul _
        have hσ0 : ¬ 0 ≤ σ := by rw [hsx, hsy, hσ] at hsg; omega
        clear hsg
        have hσ0' : ¬ (0 : Int) ≤ σ := hσ0
        have hq0' : ((0 : Int) < (q : Int)) ∨ ¬ ((0 : Int) < (q : Int)) := by omega
        rcases hq0' with hq0' | hq0'
        all_goals
          have hc := shift_pos v1 E k ρ hk1 hk4 (by omega)
          try unfold ruleV at hc
          have HC2 := Lib.hid hc
          clear hc
          go_wp2_with fail
          clear r_0 r_1 r_2 p_0 p_1 p_2 hl_r hl_p
          refine (HC2.out).mono ?_
          rintro e v2 ⟨C_a, N_a, d_a, xe, rfl, ho, he, hb⟩
          have he' : xe = .nilIface := he
          clear he
          subst he'
          have qB := B_r.out.trans (hb.mono B_r.out.size)
          obtain ⟨_, r_0, r_1, r_2⟩ := HR_r.out v2 qB
          have hl_r : w.heap.size < v2.heap.size := Nat.lt_of_lt_of_le HV_r.out qB.size
          clear qB
          have ba := (Below.refl v2.heap.size v2).alloc (Nat.le_refl _) (.cells #[.int .i64 (k : Int), .int .i64 (ρ : Int), .slice C_a N_a d_a] 24)
          have hx := RuleAt.new v2 (.int .i64 (k : Int)) (.int .i64 (ρ : Int)) (.slice C_a N_a d_a)
          obtain ⟨u3, hu⟩ : ∃ u, v2.alloc (.cells #[.int .i64 (k : Int), .int .i64 (ρ : Int), .slice C_a N_a d_a] 24) = u := ⟨_, rfl⟩
          rw [hu] at ba hx
          have HU3 := Lib.hid hu
          have HV_a := Lib.hid (show v2.heap.size < u3.heap.size from hx.lt)
          have hw := (Row.of ho).below ba
          have HR_a := Lib.hid (fun (wz : World) (hz : Below u3.heap.size u3 wz) => (⟨hw.below hz, (hx.below hz hx.lt).facts.1, (hx.below hz hx.lt).facts.2.1, (hx.below hz hx.lt).facts.2.2.1⟩ : _ ∧ _ ∧ _ ∧ _))
          have HS_a := Lib.hid hb.size
          have hst := hb.trans (ba.mono hb.size)
          have B_base := Lib.hid (B_base.out.trans (hst.mono B_base.out.size))
          have B_r := Lib.hid (B_r.out.trans (hst.mono B_r.out.size))
          have B_p := Lib.hid (B_p.out.trans (hst.mono B_p.out.size))
          have B_a := Lib.hid (Below.refl u3.heap.size u3)
          clear hw hst ba hx hu ho hb
          have hc := shift_back u3 E k ρ hk1 hk4 (by omega)
          try unfold ruleV at hc
          have HC3 := Lib.hid hc
          clear hc
          unfold ruleV
          go_wp2_with fail
          rw [HU3.out]
          clear r_0 r_1 r_2 hl_r
          refine (HC3.out).mono ?_
          rintro e v3 ⟨C_b, N_b, d_b, xe, rfl, ho, he, hb⟩
          have he' : xe = .nilIface := he
          clear he
          subst he'
          have qB := B_r.out.trans (hb.mono B_r.out.size)
          obtain ⟨_, r_0, r_1, r_2⟩ := HR_r.out v3 qB
          have hl_r : w.heap.size < v3.heap.size := Nat.lt_of_lt_of_le HV_r.out qB.size
          clear qB
          have ba := (Below.refl v3.heap.size v3).alloc (Nat.le_refl _) (.cells #[.int .i64 (k : Int), .int .i64 (ρ : Int), .slice C_b N_b d_b] 24)
          have hx := RuleAt.new v3 (.int .i64 (k : Int)) (.int .i64 (ρ : Int)) (.slice C_b N_b d_b)
          obtain ⟨u4, hu⟩ : ∃ u, v3.alloc (.cells #[.int .i64 (k : Int), .int .i64 (ρ : Int), .slice C_b N_b d_b] 24) = u := ⟨_, rfl⟩
          rw [hu] at ba hx
          have HU4 := Lib.hid hu
          have HV_b := Lib.hid (show v3.heap.size < u4.heap.size from hx.lt)
          have hw := (Row.of ho).below ba
          have HR_b := Lib.hid (fun (wz : World) (hz : Below u4.heap.size u4 wz) => (⟨hw.below hz, (hx.below hz hx.lt).facts.1, (hx.below hz hx.lt).facts.2.1, (hx.below hz hx.lt).facts.2.2.1⟩ : _ ∧ _ ∧ _ ∧ _))
          have HS_b := Lib.hid hb.size
          have hst := hb.trans (ba.mono hb.size)
          have B_base := Lib.hid (B_base.out.trans (hst.mono B_base.out.size))
          have B_r := Lib.hid (B_r.out.trans (hst.mono B_r.out.size))
          have B_p := Lib.hid (B_p.out.trans (hst.mono B_p.out.size))
          have B_a := Lib.hid (B_a.out.trans (hst.mono B_a.out.size))
          have B_b := Lib.hid (Below.refl u4.heap.size u4)
          clear hw hst ba hx hu ho hb
          have hc := shift_none u4 E k hk1 hk4
          try unfold ruleV at hc
          have HC4 := Lib.hid hc
          clear hc
          unfold ruleV
          go_wp2_with fail
          rw [HU4.out]
          clear r_0 r_1 r_2 hl_r
          refine (HC4.out).mono ?_
          rintro e v4 ⟨C_z, N_z, d_z, xe, rfl, ho, he, hb⟩
          have he' : xe = .nilIface := he
          clear he
          subst he'
          have qB := B_a.out.trans (hb.mono B_a.out.size)
          obtain ⟨_, a_0, a_1, a_2⟩ := HR_a.out v4 qB
          have hl_a : v2.heap.size < v4.heap.size := Nat.lt_of_lt_of_le HV_a.out qB.size
          clear qB
          have qB := B_b.out.trans (hb.mono B_b.out.size)
          obtain ⟨_, b_0, b_1, b_2⟩ := HR_b.out v4 qB
          have hl_b : v3.heap.size < v4.heap.size := Nat.lt_of_lt_of_le HV_b.out qB.size
          clear qB
          have ba := (Below.refl v4.heap.size v4).alloc (Nat.le_refl _) (.cells #[.int .i64 (k : Int), .int .i64 0, .slice C_z N_z d_z] 24)
          have hx := RuleAt.new v4 (.int .i64 (k : Int)) (.int .i64 0) (.slice C_z N_z d_z)
          obtain ⟨u5, hu⟩ : ∃ u, v4.alloc (.cells #[.int .i64 (k : Int), .int .i64 0, .slice C_z N_z d_z] 24) = u := ⟨_, rfl⟩
          rw [hu] at ba hx
          have HU5 := Lib.hid hu
          have HV_z := Lib.hid (show v4.heap.size < u5.heap.size from hx.lt)
          have hw := (Row.of ho).below ba
          have HR_z := Lib.hid (fun (wz : World) (hz : Below u5.heap.size u5 wz) => (⟨hw.below hz, (hx.below hz hx.lt).facts.1, (hx.below hz hx.lt).facts.2.1, (hx.below hz hx.lt).facts.2.2.1⟩ : _ ∧ _ ∧ _ ∧ _))
          have HS_z := Lib.hid hb.size
          have hst := hb.trans (ba.mono hb.size)
          have B_base := Lib.hid (B_base.out.trans (hst.mono B_base.out.size))
          have B_r := Lib.hid (B_r.out.trans (hst.mono B_r.out.size))
          have B_p := Lib.hid (B_p.out.trans (hst.mono B_p.out.size))
          have B_a := Lib.hid (B_a.out.trans (hst.mono B_a.out.size))
          have B_b := Lib.hid (B_b.out.trans (hst.mono B_b.out.size))
          have B_z := Lib.hid (Below.refl u5.heap.size u5)
          clear hw hst ba hx hu ho hb
          obtain ⟨dd, hdd⟩ : ∃ dd, ρ + ρ = dd := ⟨_, rfl⟩
          have hss := @sh_same k ρ hk1 hk4 hρ1
          rw [hdd] at hss
          have HSS := Lib.hid hss
          have HDD := Lib.hid hdd
          have hd3 : dd ≤ 2 := by omega
          clear hss hdd
          have hc := compose_good u5 E (HE.out u5 B_base.out) k ρ C_a C_b N_a d_a N_b d_b (shT k ρ (2 * ρ)) (shT_rule hk1 hk4 (by omega) (by omega)) (HR_a.out u5 B_a.out).1.sl ρ dd (shT k ρ 0) (shT_rule hk1 hk4 (by omega) (by omega)) (HR_b.out u5 B_b.out).1.sl HDD.out (by omega)
          try unfold ruleV at hc
          have HC5 := Lib.hid hc
          clear hc
          unfold ruleV
          go_wp2_with fail
          rw [HU5.out]
          clear a_0 a_1 a_2 b_0 b_1 b_2 hl_a hl_b
          refine (HC5.out).mono ?_
          rintro e v5 ⟨C_c, N_c, d_c, xe, rfl, ho, he, hb⟩
          have he' : xe = .nilIface := he
          clear he
          subst he'
          have qB := B_z.out.trans (hb.mono B_z.out.size)
          obtain ⟨_, z_0, z_1, z_2⟩ := HR_z.out v5 qB
          have hl_z : v4.heap.size < v5.heap.size := Nat.lt_of_lt_of_le HV_z.out qB.size
          clear qB
          have ba := (Below.refl v5.heap.size v5).alloc (Nat.le_refl _) (.cells #[.int .i64 (k : Int), .int .i64 (dd : Int), .slice C_c N_c d_c] 24)
          have hx := RuleAt.new v5 (.int .i64 (k : Int)) (.int .i64 (dd : Int)) (.slice C_c N_c d_c)
          obtain ⟨u6, hu⟩ : ∃ u, v5.alloc (.cells #[.int .i64 (k : Int), .int .i64 (dd : Int), .slice C_c N_c d_c] 24) = u := ⟨_, rfl⟩
          rw [hu] at ba hx
          have HU6 := Lib.hid hu
          have HV_c := Lib.hid (show v5.heap.size < u6.heap.size from hx.lt)
          have hw := (Row.of ho).below ba
          have HR_c := Lib.hid (fun (wz : World) (hz : Below u6.heap.size u6 wz) => (⟨hw.below hz, (hx.below hz hx.lt).facts.1, (hx.below hz hx.lt).facts.2.1, (hx.below hz hx.lt).facts.2.2.1⟩ : _ ∧ _ ∧ _ ∧ _))
          have HS_c := Lib.hid hb.size
          have hst := hb.trans (ba.mono hb.size)
          have B_base := Lib.hid (B_base.out.trans (hst.mono B_base.out.size))
          have B_r := Lib.hid (B_r.out.trans (hst.mono B_r.out.size))
          have B_p := Lib.hid (B_p.out.trans (hst.mono B_p.out.size))
          have B_a := Lib.hid (B_a.out.trans (hst.mono B_a.out.size))
          have B_b := Lib.hid (B_b.out.trans (hst.mono B_b.out.size))
          have B_z := Lib.hid (B_z.out.trans (hst.mono B_z.out.size))
          have B_c := Lib.hid (Below.refl u6.heap.size u6)
          clear hw hst ba hx hu ho hb
          have hc := same_zero u6 E (HE.out u6 B_base.out) k dd C_c C_z N_c d_c N_z d_z (comp k ρ (shT k ρ (2 * ρ)) ρ (shT k ρ 0)) (by rw [← HDD.out]; exact comp_rule (shT_rule hk1 hk4 (by omega) (by omega)) (shT_rule hk1 hk4 (by omega) (by omega)) (by omega)) (HR_c.out u6 B_c.out).1.sl k (shT k 0 (2 * 0)) (shT_rule hk1 hk4 (by decide) (by decide)) (HR_z.out u6 B_z.out).1.sl
          rw [decide_eq_true ⟨rfl, HSS.out⟩] at hc
          try unfold ruleV at hc
          have HC6 := Lib.hid hc
          clear hc
          unfold ruleV
          go_wp2_with fail
          rw [HU6.out]
          clear z_0 z_1 z_2 hl_z
          refine (HC6.out).mono ?_
          rintro e v6 ⟨xe, rfl, he, hb⟩
          have he' : xe = .nilIface := he
          clear he
          subst he'
          have B_base := Lib.hid (B_base.out.trans (hb.mono B_base.out.size))
          have B_r := Lib.hid (B_r.out.trans (hb.mono B_r.out.size))
          have B_p := Lib.hid (B_p.out.trans (hb.mono B_p.out.size))
          have B_a := Lib.hid (B_a.out.trans (hb.mono B_a.out.size))
          have B_b := Lib.hid (B_b.out.trans (hb.mono B_b.out.size))
          have B_z := Lib.hid (B_z.out.trans (hb.mono B_z.out.size))
          have B_c := Lib.hid (B_c.out.trans (hb.mono B_c.out.size))
          clear hb
          have HZZ2 := Lib.hid (HZZ.out.trans (B_base.out.mono HZZ.out.size))
          go_wp2_with fail
          go_ret
          exact ⟨rfl, HZZ2.out⟩

theorem formsPowers_c (w : World) (E : Nat → Addr) (hE : Errs w E) (K R s q : Int) (A : Option Addr) (n c : Nat) (T : List Int) (hS : Sl w A n (T.map (Value.int .i64))) (hm : n ≤ 9223372036854775807) (hs : -9223372036854775808 ≤ s ∧ s ≤ 9223372036854775807) (hq : q ≤ 9223372036854775807) :
    Calls Tryd.prog 3 #[ruleV K R A n c, .int .i64 s, .int .i64 q] w fun e w' => e = .returned (.bool true) ∧ Below w.heap.size w w' := by
  rcases pow_cases K R T q hq with ⟨tl, h⟩ | ⟨k, r, m, t, rfl, rfl, rfl, rfl, hr, hb, hm2⟩
  · exact formsPowers_bad w E hE K R s q A n c T hS hm tl h
  · by_cases h0 : r = 0
    · subst h0
      by_cases hsg : 0 ≤ s.tdiv 2 + s.tmod 2
      · exact formsPowers_zp w E hE k m s A n c t hS hr hm2 hs hsg
      · exact formsPowers_zn w E hE k m s A n c t hS hr hm2 hs hsg
    · exact formsPowers_pos w E hE k r m (m * r) s A n c t hS hr (by omega) rfl hb hs
end Go.Proofs.YtfgnghgmffaepaaDoor
