/- The call of FormsComposes: it returns true. Condition: the tables read from memory; the error variables hold what E says. -/
import Derived.Test.YtnahcgndidbliaaDoorFormI
namespace Go.Proofs.YtnahcgndidbliaaDoor
open Go.RowKit RuleP

/-- The law's word. -/
def ww (k i : Nat) : List Nat := (List.range i).map fun j => (j * j + j / 3) % k
theorem ww_len (k i : Nat) : (ww k i).length = i := by simp [ww]
theorem ww_succ (k i : Nat) : ww k (i + 1) = ww k i ++ [(i * i + i / 3) % k] := by simp [ww, List.range_succ]
theorem ww_sym {k : Nat} (hk : 0 < k) (i : Nat) : ∀ x ∈ ww k i, x < k := by
  intro x hx
  obtain ⟨j, _, rfl⟩ := List.mem_map.1 hx
  exact Nat.mod_lt _ hk

set_option maxRecDepth 100000 in
set_option maxHeartbeats 2000000 in
theorem formsComposes_bad (w : World) (E : Nat → Addr) (hE : Errs w E) (K R K2 R2 K3 R3 : Int) (A B C : Option Addr) (n c m d l e : Nat) (T T2 : List Int) (hS : Sl w A n (T.map (Value.int .i64))) (hS2 : Sl w B m (T2.map (Value.int .i64))) (hm : n ≤ 9223372036854775807) (hm2 : m ≤ 9223372036854775807) (tl : Tale) (hc : CompErr K R T K2 R2 T2 tl) :
    Calls Tryd.prog 3 #[ruleV K R A n c, ruleV K2 R2 B m d, ruleV K3 R3 C l e] w fun e w' => e = .returned (.bool true) ∧ Below w.heap.size w w' := by
  have hb1 := (Below.refl w.heap.size w).alloc (Nat.le_refl _) (.cells #[.int .i64 K, .int .i64 R, .slice A n c] 24)
  have hb2 := hb1.alloc (by simp) (.cells #[.int .i64 K2, .int .i64 R2, .slice B m d] 24)
  have hb3 := hb2.alloc (by simp; omega) (.cells #[.int .i64 K3, .int .i64 R3, .slice C l e] 24)
  have hr0 := ((RuleAt.new w (.int .i64 K) (.int .i64 R) (.slice A n c)).alloc (.cells #[.int .i64 K2, .int .i64 R2, .slice B m d] 24)).alloc (.cells #[.int .i64 K3, .int .i64 R3, .slice C l e] 24)
  have hr1 := (RuleAt.new (w.alloc (.cells #[.int .i64 K, .int .i64 R, .slice A n c] 24)) (.int .i64 K2) (.int .i64 R2) (.slice B m d)).alloc (.cells #[.int .i64 K3, .int .i64 R3, .slice C l e] 24)
  simp only [World.size_alloc] at hr1
  obtain ⟨W, hW⟩ : ∃ W, ((w.alloc (.cells #[.int .i64 K, .int .i64 R, .slice A n c] 24)).alloc (.cells #[.int .i64 K2, .int .i64 R2, .slice B m d] 24)).alloc (.cells #[.int .i64 K3, .int .i64 R3, .slice C l e] 24) = W := ⟨_, rfl⟩
  rw [hW] at hb3 hr0 hr1
  have HAW := Lib.hid (awake5_c W E (hE.below hb3))
  have HCC := Lib.hid (fun (wz : World) (hz : Below W.heap.size W wz) => hc wz E A B n c m d (hE.below (hb3.trans (hz.mono hb3.size))) (hS.below (hb3.trans (hz.mono hb3.size))) (hS2.below (hb3.trans (hz.mono hb3.size))) hm hm2)
  have HR0 := Lib.hid hr0
  have HR1 := Lib.hid hr1
  have HB3 := Lib.hid hb3
  have HW := Lib.hid hW
  clear hb1 hb2 hb3 hr0 hr1 hW hE hS hS2 hc
  unfold ruleV at *
  go_enter Tryd.func3, Tryd.ntmps3
  go_wp2_with fail
  rw [HW.out]
  refine (HAW.out).mono ?_
  rintro e1 w1 ⟨rfl, b1⟩
  obtain ⟨a0, a1, a2, _⟩ := (HR0.out.below b1 HR0.out.lt).facts
  obtain ⟨c0, c1, c2, _⟩ := (HR1.out.below b1 HR1.out.lt).facts
  have HC := Lib.hid (HCC.out w1 b1)
  have HB1 := Lib.hid (HB3.out.trans (b1.mono HB3.out.size))
  clear b1
  go_wp2_with fail
  refine (HC.out).mono ?_
  rintro e2 w2 ⟨C2, N2, cc2, v2, rfl, ho2, he2, hb2⟩
  have he2' : ErrIs w2 E tl.1 tl.2 v2 := he2
  obtain ⟨u, p, rfl⟩ := he2'.iface
  have hN : N2 = 0 := (Sl.of_own ho2).1.symm
  subst hN
  have HB2 := Lib.hid ((HB1.out.trans (hb2.mono HB1.out.size)).alloc (Nat.le_trans HB1.out.size hb2.size) (.cells #[.int .i64 0, .int .i64 0, .slice C2 0 cc2] 24))
  clear he2 he2' ho2 hb2
  unfold ruleV
  go_wp2_with fail
  go_ret
  exact ⟨rfl, HB2.out⟩

theorem comp_right {k rb : Nat} {tb : List Nat} (hb : IsRule k rb tb) (K3 R3 : Int) (T3 : List Int) : (∃ tl, CompErr k rb (ints tb) K3 R3 T3 tl) ∨
    ∃ (rc q : Nat) (tc : List Nat), K3 = (k : Int) ∧ R3 = (rc : Int) ∧ T3 = ints tc ∧ IsRule k rc tc ∧ rb + rc = q ∧ q ≤ 3 := by
  rcases comp_cases k rb (ints tb) K3 R3 T3 with h | ⟨k', r, r2, q, t, t2, h1, h2, h3, h4, h5, h6, h7, h8, h9, h10⟩
  · exact .inl h
  · have e1 : k = k' := by omega
    have e2 : rb = r := by omega
    subst e1 e2
    exact .inr ⟨r2, q, t2, h2, h4, h6, h8, h9, h10⟩

set_option maxRecDepth 100000 in
set_option maxHeartbeats 8000000 in
theorem formsComposes_good (w : World) (E : Nat → Addr) (hE : Errs w E) (k ra rb q : Nat) (K3 R3 : Int) (A B C : Option Addr) (n c m d l e : Nat) (ta tb : List Nat) (T3 : List Int) (hS : Sl w A n ((ints ta).map (Value.int .i64))) (hS2 : Sl w B m ((ints tb).map (Value.int .i64))) (hS3 : Sl w C l (T3.map (Value.int .i64))) (hm3 : l ≤ 9223372036854775807)
    (ha : IsRule k ra ta) (hb : IsRule k rb tb) (hq : ra + rb = q) (hq3 : q ≤ 3) :
    Calls Tryd.prog 3 #[ruleV k ra A n c, ruleV k rb B m d, ruleV K3 R3 C l e] w fun e w' => e = .returned (.bool true) ∧ Below w.heap.size w w' := by
  have hna : ta.length = n := by simpa [ints] using hS.1
  have hnb : tb.length = m := by simpa [ints] using hS2.1
  have hn16 := ha.le
  have hm16 := hb.le
  rw [hna] at hn16
  rw [hnb] at hm16
  have hb1 := (Below.refl w.heap.size w).alloc (Nat.le_refl _) (.cells #[.int .i64 (k : Int), .int .i64 (ra : Int), .slice A n c] 24)
  have hb2 := hb1.alloc (by simp) (.cells #[.int .i64 (k : Int), .int .i64 (rb : Int), .slice B m d] 24)
  have hb3 := hb2.alloc (by simp; omega) (.cells #[.int .i64 K3, .int .i64 R3, .slice C l e] 24)
  have hr0 := ((RuleAt.new w (.int .i64 (k : Int)) (.int .i64 (ra : Int)) (.slice A n c)).alloc (.cells #[.int .i64 (k : Int), .int .i64 (rb : Int), .slice B m d] 24)).alloc (.cells #[.int .i64 K3, .int .i64 R3, .slice C l e] 24)
  have hr1 := (RuleAt.new (w.alloc (.cells #[.int .i64 (k : Int), .int .i64 (ra : Int), .slice A n c] 24)) (.int .i64 (k : Int)) (.int .i64 (rb : Int)) (.slice B m d)).alloc (.cells #[.int .i64 K3, .int .i64 R3, .slice C l e] 24)
  have hr2 := RuleAt.new ((w.alloc (.cells #[.int .i64 (k : Int), .int .i64 (ra : Int), .slice A n c] 24)).alloc (.cells #[.int .i64 (k : Int), .int .i64 (rb : Int), .slice B m d] 24)) (.int .i64 K3) (.int .i64 R3) (.slice C l e)
  simp only [World.size_alloc] at hr1 hr2
  obtain ⟨W, hW⟩ : ∃ W, ((w.alloc (.cells #[.int .i64 (k : Int), .int .i64 (ra : Int), .slice A n c] 24)).alloc (.cells #[.int .i64 (k : Int), .int .i64 (rb : Int), .slice B m d] 24)).alloc (.cells #[.int .i64 K3, .int .i64 R3, .slice C l e] 24) = W := ⟨_, rfl⟩
  rw [hW] at hb3 hr0 hr1 hr2
  have HAW := Lib.hid (awake5_c W E (hE.below hb3))
  have HTT := Lib.hid (fun (wz : World) (hz : Below W.heap.size W wz) => (⟨hE.below (hb3.trans (hz.mono hb3.size)), hS.below (hb3.trans (hz.mono hb3.size)), hS2.below (hb3.trans (hz.mono hb3.size)), hS3.below (hb3.trans (hz.mono hb3.size))⟩ : _ ∧ _ ∧ _ ∧ _))
  have HFX := Lib.hid (fun (wz : World) (hz : Below W.heap.size W wz) => (⟨(hr0.below hz hr0.lt).facts.1, (hr0.below hz hr0.lt).facts.2.1, (hr0.below hz hr0.lt).facts.2.2.1, (hr1.below hz hr1.lt).facts.1, (hr1.below hz hr1.lt).facts.2.1, (hr1.below hz hr1.lt).facts.2.2.1, (hr2.below hz hr2.lt).facts.1, (hr2.below hz hr2.lt).facts.2.1, (hr2.below hz hr2.lt).facts.2.2.1⟩ : _ ∧ _ ∧ _ ∧ _ ∧ _ ∧ _ ∧ _ ∧ _ ∧ _))
  have HL := Lib.hid (show w.heap.size + 1 + 1 < W.heap.size from hr2.lt)
  have HB3 := Lib.hid hb3
  have HW := Lib.hid hW
  have HA := Lib.hid ha
  have HB := Lib.hid hb
  have HQ := Lib.hid hq
  have hk1 := ha.k1
  have hk4 := ha.k4
  have hra3 := ha.r3
  have hrb3 := hb.r3
  have hAB := comp_rule ha hb (by omega)
  rw [hq] at hAB
  have HAB := Lib.hid hAB
  clear hb1 hb2 hb3 hr0 hr1 hr2 hW hE hS hS2 hS3 ha hb hna hnb hAB hq
  unfold ruleV at *
  go_enter Tryd.func3, Tryd.ntmps3
  go_wp2_with fail
  rw [HW.out]
  refine (HAW.out).mono ?_
  rintro e1 w1 ⟨rfl, b1⟩
  obtain ⟨a0, a1, a2, c0, c1, c2, d0, d1, d2⟩ := HFX.out w1 b1
  obtain ⟨hE1, hA1, hB1, _⟩ := HTT.out w1 b1
  have hcg := compose_good w1 E hE1 k ra A B n c m d ta HA.out hA1 rb q tb HB.out hB1 HQ.out hq3
  unfold ruleV at hcg
  have HC := Lib.hid hcg
  clear hcg hE1 hA1 hB1
  go_wp2_with fail
  refine (HC.out).mono ?_
  rintro e2 w2 ⟨C2, N2, cc2, v2, rfl, ho2, he2, hb2'⟩
  have he2' : v2 = .nilIface := he2
  clear he2
  subst he2'
  have hb2 := pure_trans b1 hb2'
  have hx3 := RuleAt.new w2 (.int .i64 (k : Int)) (.int .i64 (q : Int)) (.slice C2 N2 cc2)
  have b3 := (Below.refl w2.heap.size w2).alloc (Nat.le_refl _) (.cells #[.int .i64 (k : Int), .int .i64 (q : Int), .slice C2 N2 cc2] 24)
  have ho3 := own_below ho2 b3
  have hN2 := own_le ho2
  have hx4 := hx3.alloc (.cells #[] 3)
  have ho4 := ho3.alloc (.cells #[] 3)
  have hw4 := own_empty (w2.alloc (.cells #[.int .i64 (k : Int), .int .i64 (q : Int), .slice C2 N2 cc2] 24)) 3
  have hb4 := (pure_trans hb2 b3).alloc (Nat.le_trans hb2.size b3.size) (.cells #[] 3)
  obtain ⟨w4, hw4e⟩ : ∃ w4, (w2.alloc (.cells #[.int .i64 (k : Int), .int .i64 (q : Int), .slice C2 N2 cc2] 24)).alloc (.cells #[] 3) = w4 := ⟨_, rfl⟩
  rw [hw4e] at hx4 ho4 hw4 hb4
  have HW4 := Lib.hid hw4e
  obtain ⟨g7, hg7⟩ : ∃ g7, w2.heap.size = g7 := ⟨_, rfl⟩
  rw [hg7] at hx4
  have HG7 := Lib.hid hg7
  have hz4 : (w2.alloc (.cells #[.int .i64 (k : Int), .int .i64 (q : Int), .slice C2 N2 cc2] 24)).heap.size = g7 + 1 := by rw [World.size_alloc, hg7]
  rw [hz4] at hw4
  have hw4' := hw4
  have hgz : W.heap.size ≤ g7 := by rw [← hg7]; exact hb2.size
  have hgw : g7 + 1 ≤ w4.heap.size := by rw [← hw4e, World.size_alloc, hz4]; omega
  have HGZ := Lib.hid hgz
  have HGW := Lib.hid hgw
  have hb34 := (Below.refl (g7 + 1) (w2.alloc (.cells #[.int .i64 (k : Int), .int .i64 (q : Int), .slice C2 N2 cc2] 24))).alloc (Nat.le_of_eq hz4.symm) (.cells #[] 3)
  rw [hw4e] at hb34
  rw [hg7] at hx3
  have HTG := Lib.hid (fun (wz : World) (hz : Below (g7 + 1) w4 wz) => (⟨Sl.of_own (own_below ho3 (by rw [hz4]; exact hb34.trans hz)), (hx3.below (hb34.trans hz) (Nat.lt_succ_self _)).facts.1, (hx3.below (hb34.trans hz) (Nat.lt_succ_self _)).facts.2.1, (hx3.below (hb34.trans hz) (Nat.lt_succ_self _)).facts.2.2.1⟩ : _ ∧ _ ∧ _ ∧ _))
  clear hb34
  have HWW := Lib.hid hw4'
  have HB4 := Lib.hid hb4
  unfold ruleV
  clear hz4 hgz hgw hw4e hg7 hx3 hx4 ho2 ho3 ho4 hw4 hw4' hb4 b3 hb2 hb2' b1 a0 a1 a2 c0 c1 c2 d0 d1 d2
  go_wp2_with fail
  rw [HW4.out, HG7.out] at *
  go_loopw [9, 10] (fun bv iv wl => ∃ i : Nat, i ≤ 40 ∧ iv = .int .i64 (i : Int) ∧ wl.ownsRow (g7 + 1) 3 1 bv i ((ints (ww k i)).map (Value.int .i64)) ∧ Hid (Below (g7 + 1) w4 wl)) (fun _ iv _ => 40 - (intOf iv).toNat)
  case atStart =>
    refine ⟨0, Nat.zero_le _, rfl, ?_, Lib.hid (Below.refl _ _)⟩
    exact HWW.out
  case round =>
    obtain ⟨i, hi, rfl, hown, hb⟩ := hrel
    by_cases hlt : i < 40
    · have hlt' : (i : Int) < 40 := by omega
      have hzw := hb.out.size
      have hwl := HB4.out.trans (hb.out.mono (show W.heap.size ≤ g7 + 1 by have := HGZ.out; omega))
      have hfg := fun (w3 : World) (hz : Below W.heap.size W w3) => (HFX.out w3 hz).1
      have a0 := hfg wr hwl
      obtain ⟨QQ, hQQ⟩ : ∃ QQ, i * i = QQ := ⟨_, rfl⟩
      obtain ⟨DD, hDD⟩ : ∃ DD, i / 3 = DD := ⟨_, rfl⟩
      obtain ⟨VV, hVV⟩ : ∃ VV, (QQ + DD) % k = VV := ⟨_, rfl⟩
      have q1 : (i : Int) * (i : Int) = (QQ : Int) := by rw [← hQQ]; push_cast; rfl
      have q2 : (i : Int).tdiv 3 = (DD : Int) := by rw [← hDD]; rfl
      have q3 : ((QQ : Int) + (DD : Int)).tmod (k : Int) = (VV : Int) := by rw [← hVV]; rfl
      have q4 : QQ ≤ 1600 := by rw [← hQQ]; exact Nat.mul_le_mul (show i ≤ 40 by omega) (show i ≤ 40 by omega)
      have q5 : DD ≤ 40 := by omega
      have q6 : VV < k := by rw [← hVV]; exact Nat.mod_lt _ hk1
      have q7 : ¬ (k : Int) = 0 := by omega
      have HV := Lib.hid (show ww k (i + 1) = ww k i ++ [VV] by rw [ww_succ, hQQ, hDD, hVV])
      have hm1 : i + 1 ≤ maxLen := by simp only [maxLen]; omega
      have hm2 : (i + 1) * 8 ≤ 140737488355328 := by omega
      have hgs := Nat.le_trans HGW.out hzw
      clear hQQ hDD hVV hfg hwl
      have hgz2 : g7 + 1 ≤ wr.heap.size := hgs
      have HHB := Lib.hid hb.out
      clear hgs hb
      go_wp2_with (at_builtin; refine wpList_push rfl _ _ _ rfl tInts hown rfl _ 0 rfl rfl rfl hm1 hm2 hgz2 ?_; intro g cap w3 hown3 hg3 hat3 hlt3)
      refine ⟨⟨i + 1, by omega, by go_num, ?_, Lib.hid (HHB.out.grown hg3 hgz2 (fun q hq => (hown.lt q hq).1))⟩, by simp [intOf]; omega⟩
      have e3 : (ints (ww k (i + 1))).map (Value.int .i64) = (ints (ww k i)).map (Value.int .i64) ++ [Value.int .i64 (VV : Int)] := by rw [HV.out]; simp [ints]
      rw [e3]
      exact hown3
    · have hlt' : ¬ (i : Int) < 40 := by omega
      obtain rfl : i = 40 := by omega
      have hwl := HB4.out.trans (hb.out.mono (show W.heap.size ≤ g7 + 1 by have := HGZ.out; omega))
      obtain ⟨BW, cW, rfl, _, hbw0⟩ := own_slice hown
      obtain ⟨a0, a1, a2, c0, c1, c2, d0, d1, d2⟩ := HFX.out wr hwl
      obtain ⟨hE1, hA1, hB1, _⟩ := HTT.out wr hwl
      have hgw := Nat.le_trans HGW.out hb.out.size
      have him := imageL_good wr E hE1 k rb B BW m d 40 cW (40 - 2 * rb) tb (ww k 40) HB.out (ww_sym hk1 40) hB1 (Sl.of_own hown) (by decide) (by rw [ww_len])
      unfold ruleV at him
      have HIM := Lib.hid him
      have HWR := Lib.hid hwl
      have HRR := Lib.hid hb.out
      have HOW := Lib.hid hown
      clear him hE1 hA1 hB1 hwl hb hown
      go_wp2_with fail
      refine (HIM.out).mono ?_
      rintro e5 w5 ⟨XA, Xc, rfl, hox, hb5⟩
      obtain ⟨M1, hM1⟩ : ∃ M1, 40 - 2 * rb = M1 := ⟨_, rfl⟩
      rw [hM1] at hox ⊢
      have hx1l : (image k rb tb (ww k 40)).length = M1 := by rw [image_len, ww_len, hM1]
      have hx1s : ∀ x ∈ image k rb tb (ww k 40), x < k := image_sym HB.out (ww_sym hk1 40)
      have hr5 := HRR.out.trans (hb5.mono hgw)
      have hwl := HB4.out.trans (hr5.mono (show W.heap.size ≤ g7 + 1 by have := HGZ.out; omega))
      obtain ⟨a0, a1, a2, c0, c1, c2, d0, d1, d2⟩ := HFX.out w5 hwl
      obtain ⟨hE1, hA1, hB1, _⟩ := HTT.out w5 hwl
      have hgw5 := Nat.le_trans hgw hb5.size
      have him := imageL_good w5 E hE1 k ra A XA n c M1 Xc (M1 - 2 * ra) ta (image k rb tb (ww k 40)) HA.out hx1s hA1 (Sl.of_own hox) (by omega) (by rw [hx1l])
      unfold ruleV at him
      have HIM2 := Lib.hid him
      have HW5 := Lib.hid (own_below HOW.out hb5)
      have HRR5 := Lib.hid hr5
      have HMM := Lib.hid (show M1 ≤ 40 by omega)
      clear him hE1 hA1 hB1 hwl hr5 hb5 hox hM1 hx1l hx1s
      go_wp2_with fail
      refine (HIM2.out).mono ?_
      rintro e6 w6 ⟨YA, Yc, rfl, hoy, hb6⟩
      obtain ⟨M2, hM2⟩ : ∃ M2, M1 - 2 * ra = M2 := ⟨_, rfl⟩
      rw [hM2] at hoy ⊢
      have hr6 := HRR5.out.trans (hb6.mono hgw5)
      have hwl := HB4.out.trans (hr6.mono (show W.heap.size ≤ g7 + 1 by have := HGZ.out; omega))
      obtain ⟨hE1, hA1, hB1, _⟩ := HTT.out w6 hwl
      obtain ⟨htg, e0, e1, e2⟩ := HTG.out w6 hr6
      have hgw6 := Nat.le_trans hgw5 hb6.size
      have him := imageL_good w6 E hE1 k q C2 BW N2 cc2 40 cW (40 - 2 * q) (comp k ra ta rb tb) (ww k 40) HAB.out (ww_sym hk1 40) htg (Sl.of_own (own_below HW5.out hb6)) (by decide) (by rw [ww_len])
      have hcc := @image_comp k ra rb ta tb (ww k 40) HA.out HB.out (ww_sym hk1 40)
      rw [HQ.out] at hcc
      rw [hcc] at him
      unfold ruleV at him
      have HIM3 := Lib.hid him
      have HRR6 := Lib.hid hr6
      have HOY := Lib.hid hoy
      have HM3 := Lib.hid (show M2 ≤ 40 ∧ 40 - 2 * q ≤ 40 from ⟨by have := HMM.out; omega, by omega⟩)
      clear him hcc htg hE1 hA1 hB1 hwl hr6 hM2
      go_wp2_with fail
      refine (HIM3.out).mono ?_
      rintro e7 w7 ⟨ZA, Zc, rfl, hoz, hb7⟩
      obtain ⟨M3, hM3⟩ : ∃ M3, 40 - 2 * q = M3 := ⟨_, rfl⟩
      rw [hM3] at hoz ⊢
      have hr7 := HRR6.out.trans (hb7.mono hgw6)
      have hwl := HB4.out.trans (hr7.mono (show W.heap.size ≤ g7 + 1 by have := HGZ.out; omega))
      have hgw7 := Nat.le_trans hgw6 hb7.size
      have hbb := ints_b w7 YA ZA M2 M3 Yc Zc _ _ (Sl.of_own (own_below HOY.out hb7)) (Sl.of_own hoz) (by have := HM3.out.1; omega) (by omega)
      rw [decide_eq_true rfl] at hbb
      have HBB := Lib.hid hbb
      have HR7 := Lib.hid hr7
      clear hbb hwl hr7 hoz hb7 hoy hb6 hM3
      clear a0 a1 a2 c0 c1 c2 d0 d1 d2 e0 e1 e2
      go_wp2_with fail
      refine (HBB.out).mono ?_
      rintro e8 w8 ⟨rfl, hb8⟩
      have hr8 := HR7.out.trans (hb8.mono hgw7)
      have hwl := HB4.out.trans (hr8.mono (show W.heap.size ≤ g7 + 1 by have := HGZ.out; omega))
      have hgw8 := Nat.le_trans hgw7 hb8.size
      obtain ⟨a0, a1, a2, c0, c1, c2, d0, d1, d2⟩ := HFX.out w8 hwl
      obtain ⟨htg, e0, e1, e2⟩ := HTG.out w8 hr8
      obtain ⟨hE1, hA1, hB1, hC1⟩ := HTT.out w8 hwl
      have hqq : (ra : Int) + (rb : Int) = (q : Int) := by have := HQ.out; omega
      rcases comp_right HB.out K3 R3 T3 with ⟨tl, hce⟩ | ⟨rc, q2, tc, rfl, rfl, rfl, hc, hq2, hq23⟩
      · have hcg := hce w8 E B C m d l e hE1 hB1 hC1 (by omega) hm3
        unfold ruleV at hcg
        have HCG := Lib.hid hcg
        have HWL := Lib.hid hwl
        clear hcg hce hE1 hA1 hB1 hC1 htg hwl hr8 hb8
        go_wp2_with fail
        refine (HCG.out).mono ?_
        rintro e9 w9 ⟨C9, N9, cc9, v9, rfl, ho9, he9, hb9⟩
        have he9' : ErrIs w9 E tl.1 tl.2 v9 := he9
        obtain ⟨u, p, rfl⟩ := he9'.iface
        have hN : N9 = 0 := (Sl.of_own ho9).1.symm
        subst hN
        have HZ9 := Lib.hid hb9.size
        have HB9 := Lib.hid (HB3.out.trans ((HWL.out.trans (hb9.mono HWL.out.size)).mono HB3.out.size))
        clear he9 he9' ho9 hb9 a0 a1 a2 c0 c1 c2 d0 d1 d2 e0 e1 e2
        unfold ruleV
        go_wp2_with fail
        go_ret
        refine ⟨rfl, HB9.out.alloc (Nat.le_trans HB3.out.size (Nat.le_trans HWL.out.size HZ9.out)) _⟩
      · have hcg := compose_good w8 E hE1 k rb B C m d l e tb HB.out hB1 rc q2 tc hc hC1 hq2 hq23
        unfold ruleV at hcg
        have HCG := Lib.hid hcg
        have HWL := Lib.hid hwl
        have HC := Lib.hid hc
        have HQ2 := Lib.hid hq2
        have hrc3 := hc.r3
        clear hcg hE1 hA1 hB1 hC1 htg hwl hb8 hc hq2
        go_wp2_with fail
        refine (HCG.out).mono ?_
        rintro e9 w9 ⟨C9, N9, cc9, v9, rfl, ho9, he9, hb9⟩
        have he9' : v9 = .nilIface := he9
        clear he9
        subst he9'
        unfold ruleV
        have hz9 : g7 < w9.heap.size := by have := hb9.size; omega
        have hw9 := HWL.out.trans (hb9.mono HWL.out.size)
        have hl9 : w.heap.size + 1 + 1 < w9.heap.size := Nat.lt_of_lt_of_le HL.out hw9.size
        have hr9 := hr8.trans (hb9.mono hgw8)
        obtain ⟨a0, a1, a2, c0, c1, c2, d0, d1, d2⟩ := HFX.out w9 hw9
        obtain ⟨_, e0, e1, e2⟩ := HTG.out w9 hr9
        have b10 := (Below.refl w9.heap.size w9).alloc (Nat.le_refl _) (.cells #[.int .i64 (k : Int), .int .i64 (q2 : Int), .slice C9 N9 cc9] 24)
        have hx10 := RuleAt.new w9 (.int .i64 (k : Int)) (.int .i64 (q2 : Int)) (.slice C9 N9 cc9)
        have hw10 := hw9.trans (b10.mono hw9.size)
        have hr10 := hr9.trans (b10.mono (show g7 + 1 ≤ w9.heap.size from hz9))
        have ho10 := own_below ho9 b10
        have hz10 : w9.heap.size < (w9.alloc (.cells #[.int .i64 (k : Int), .int .i64 (q2 : Int), .slice C9 N9 cc9] 24)).heap.size := by simp
        obtain ⟨w10, hw10e⟩ : ∃ w10, w9.alloc (.cells #[.int .i64 (k : Int), .int .i64 (q2 : Int), .slice C9 N9 cc9] 24) = w10 := ⟨_, rfl⟩
        obtain ⟨g9, hg9⟩ : ∃ g9, w9.heap.size = g9 := ⟨_, rfl⟩
        rw [hw10e] at hx10 hw10 hr10 ho10 hz10
        rw [hg9] at hx10 hz10
        have HE10 := Lib.hid hw10e
        have HG9 := Lib.hid hg9
        have HW10 := Lib.hid hw10
        have HR10 := Lib.hid hr10
        have HO10 := Lib.hid ho10
        have HX10 := Lib.hid hx10
        have HZ10 := Lib.hid hz10
        have HZ9 := Lib.hid hz9
        have HP9 := Lib.hid hw9
        obtain ⟨ss, hss⟩ : ∃ ss, q + rc = ss := ⟨_, rfl⟩
        have hs1 : (q : Int) + (rc : Int) = (ss : Int) := by omega
        have HSS := Lib.hid hss
        clear hw10e hg9 hw10 hr10 ho10 hx10 hz10 b10 ho9 hb9 hw9 hr9 hr8 hss
        by_cases hs3 : 3 < ss
        · have hs3' : (3 : Int) < (ss : Int) := by omega
          go_wp2_with fail
          go_ret
          exact ⟨rfl, (HB3.out.trans (HP9.out.mono HB3.out.size)).alloc (Nat.le_trans HB3.out.size HP9.out.size) _⟩
        · have hs3' : ¬ (3 : Int) < (ss : Int) := by omega
          obtain ⟨hE1, hA1, hB1, hC1⟩ := HTT.out w10 HW10.out
          obtain ⟨htg, _, _, _⟩ := HTG.out w10 HR10.out
          have hcl := compose_good w10 E hE1 k q C2 C N2 cc2 l e (comp k ra ta rb tb) HAB.out htg rc ss tc HC.out hC1 HSS.out (by omega)
          unfold ruleV at hcl
          have HCL := Lib.hid hcl
          clear hcl hE1 hA1 hB1 hC1 htg
          go_wp2_with fail
          rw [HE10.out, HG9.out]
          refine (HCL.out).mono ?_
          rintro e11 w11 ⟨C11, N11, cc11, v11, rfl, ho11, he11, hb11⟩
          have he11' : v11 = .nilIface := he11
          clear he11
          subst he11'
          have hw11 := HW10.out.trans (hb11.mono HW10.out.size)
          have hr11 := HR10.out.trans (hb11.mono (show g7 + 1 ≤ w10.heap.size by have := HZ9.out; have := HZ10.out; have := HG9.out; omega))
          have hx11 := HX10.out.below hb11 HZ10.out
          have b12 := (Below.refl w11.heap.size w11).alloc (Nat.le_refl _) (.cells #[.int .i64 (k : Int), .int .i64 (ss : Int), .slice C11 N11 cc11] 24)
          have hx12 := RuleAt.new w11 (.int .i64 (k : Int)) (.int .i64 (ss : Int)) (.slice C11 N11 cc11)
          have hw12 := hw11.trans (b12.mono hw11.size)
          have ho12 := own_below ho11 b12
          have h912 := own_below HO10.out (hb11.trans (b12.mono hb11.size))
          have hl11 : w.heap.size + 1 + 1 < w11.heap.size := Nat.lt_of_lt_of_le HL.out hw11.size
          have hl11' : w.heap.size < w11.heap.size := by omega
          have hg911 : g9 < w11.heap.size := hx11.lt
          obtain ⟨a0, a1, a2, c0, c1, c2, d0, d1, d2⟩ := HFX.out w11 hw11
          obtain ⟨x0, x1, x2, _⟩ := hx11.facts
          have hz12 : w11.heap.size < (w11.alloc (.cells #[.int .i64 (k : Int), .int .i64 (ss : Int), .slice C11 N11 cc11] 24)).heap.size := by simp
          obtain ⟨w12, hw12e⟩ : ∃ w12, w11.alloc (.cells #[.int .i64 (k : Int), .int .i64 (ss : Int), .slice C11 N11 cc11] 24) = w12 := ⟨_, rfl⟩
          obtain ⟨g11, hg11⟩ : ∃ g11, w11.heap.size = g11 := ⟨_, rfl⟩
          rw [hw12e] at hx12 hw12 ho12 h912 hz12
          rw [hg11] at hx12 hz12
          obtain ⟨hE1, hA1, hB1, hC1⟩ := HTT.out w12 hw12
          have hcr := compose_good w12 E hE1 k ra A C9 n c N9 cc9 ta HA.out hA1 q2 ss (comp k rb tb rc tc) (by rw [← HQ2.out]; exact comp_rule HB.out HC.out (by have := HQ2.out; omega)) (Sl.of_own h912) (by have := HQ.out; have := HQ2.out; have := HSS.out; omega) (by omega)
          unfold ruleV at hcr
          have HCR := Lib.hid hcr
          have HE12 := Lib.hid hw12e
          have HG11 := Lib.hid hg11
          have HW12 := Lib.hid hw12
          have HX12 := Lib.hid hx12
          have HO12 := Lib.hid ho12
          have HZ12 := Lib.hid hz12
          clear hcr hE1 hA1 hB1 hC1 hw12e hg11 hw12 hx12 ho12 hz12 h912 b12 hx11 hr11 hw11 hb11 ho11
          unfold ruleV
          go_wp2_with fail
          rw [HE12.out, HG11.out]
          refine (HCR.out).mono ?_
          rintro e13 w13 ⟨C13, N13, cc13, v13, rfl, ho13, he13, hb13⟩
          have he13' : v13 = .nilIface := he13
          clear he13
          subst he13'
          have hw13 := HW12.out.trans (hb13.mono HW12.out.size)
          have hx13 := HX12.out.below hb13 HZ12.out
          have hg13 := hx13.lt
          obtain ⟨y0, y1, y2, _⟩ := hx13.facts
          have b14 := (Below.refl w13.heap.size w13).alloc (Nat.le_refl _) (.cells #[.int .i64 (k : Int), .int .i64 (ss : Int), .slice C13 N13 cc13] 24)
          have hca := @comp_assoc k ra rb rc ta tb tc HA.out HB.out HC.out
          rw [HQ.out, HQ2.out] at hca
          have hrr := rules_b _ k ss k ss C11 C13 N11 N13 cc11 cc13 _ _ (Sl.of_own (own_below HO12.out (hb13.trans (b14.mono hb13.size)))) (Sl.of_own (own_below ho13 b14)) (by have := own_le HO12.out; simp only [maxLen] at this; omega) (by have := own_le ho13; simp only [maxLen] at this; omega)
          rw [show decide ((k : Int) = (k : Int) ∧ (ss : Int) = (ss : Int) ∧ ints (comp k q (comp k ra ta rb tb) rc tc) = ints (comp k ra ta q2 (comp k rb tb rc tc))) = true from decide_eq_true ⟨rfl, rfl, by rw [hca]⟩] at hrr
          unfold ruleV at hrr
          have HRR := Lib.hid hrr
          have HB14 := Lib.hid (HB3.out.trans ((hw13.trans (b14.mono hw13.size)).mono HB3.out.size))
          clear hrr hca b14 ho13 hb13 hx13 hw13 a0 a1 a2 c0 c1 c2 d0 d1 d2 x0 x1 x2
          unfold ruleV
          go_wp2_with fail
          refine (HRR.out).mono ?_
          rintro e15 w15 ⟨rfl, hb15⟩
          have HB15 := Lib.hid (HB14.out.trans (hb15.mono HB14.out.size))
          clear hb15
          go_wp2_with fail
          go_ret
          exact ⟨rfl, HB15.out⟩

theorem formsComposes_c (w : World) (E : Nat → Addr) (hE : Errs w E) (K R K2 R2 K3 R3 : Int) (A B C : Option Addr) (n c m d l e : Nat) (T T2 T3 : List Int) (hS : Sl w A n (T.map (Value.int .i64))) (hS2 : Sl w B m (T2.map (Value.int .i64))) (hS3 : Sl w C l (T3.map (Value.int .i64)))
    (hm : n ≤ 9223372036854775807) (hm2 : m ≤ 9223372036854775807) (hm3 : l ≤ 9223372036854775807) :
    Calls Tryd.prog 3 #[ruleV K R A n c, ruleV K2 R2 B m d, ruleV K3 R3 C l e] w fun e w' => e = .returned (.bool true) ∧ Below w.heap.size w w' := by
  rcases comp_cases K R T K2 R2 T2 with ⟨tl, h⟩ | ⟨k, r, r2, q, t, t2, rfl, rfl, rfl, rfl, rfl, rfl, h7, h8, h9, h10⟩
  · exact formsComposes_bad w E hE K R K2 R2 K3 R3 A B C n c m d l e T T2 hS hS2 hm hm2 tl h
  · exact formsComposes_good w E hE k r r2 q K3 R3 A B C n c m d l e t t2 T3 hS hS2 hS3 hm3 h7 h8 h9 h10
end Go.Proofs.YtnahcgndidbliaaDoor
