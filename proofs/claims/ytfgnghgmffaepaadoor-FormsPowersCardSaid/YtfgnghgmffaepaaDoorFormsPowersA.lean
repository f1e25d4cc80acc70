/- The call of FormsPowers: it returns true. Condition: the table reads from memory; the error variables hold what E says. -/
import Derived.Test.YtfgnghgmffaepaaDoorFormI
import Derived.Test.YtfgnghgmffaepaaDoorFormN
import Derived.Test.YtfgnghgmffaepaaDoorRanged
namespace Go.Proofs.YtfgnghgmffaepaaDoor
open Go.RowKit RuleP

/-- The law's word. -/
def wp (k i : Nat) : List Nat := (List.range i).map fun j => (j * j / 2 + j) % k
theorem wp_len (k i : Nat) : (wp k i).length = i := by simp [wp]
theorem wp_succ (k i : Nat) : wp k (i + 1) = wp k i ++ [(i * i / 2 + i) % k] := by simp [wp, List.range_succ]
theorem wp_sym {k : Nat} (hk : 0 < k) (i : Nat) : ∀ x ∈ wp k i, x < k := by
  intro x hx
  obtain ⟨j, _, rfl⟩ := List.mem_map.1 hx
  exact Nat.mod_lt _ hk
theorem power_ok (w : World) (E : Nat → Addr) (hE : Errs w E) (k r : Nat) (A : Option Addr) (n c : Nat) (t : List Nat) (hr : IsRule k r t) (hT : Sl w A n ((ints t).map (Value.int .i64))) (q : Nat) (hq : q * r ≤ 3) (hm : q ≤ 9223372036854775807) :
    Calls Tryd.prog 7 #[ruleV k r A n c, .int .i64 (q : Int)] w (RuleRes w E k ((q * r : Nat) : Int) (ints (pw k r t q)) none) := by
  by_cases h0 : r = 0
  · have h := power_zero w E hE k r A n c t hr hT h0 q hm
    subst h0
    exact h
  · exact power_pos w E hE k r A n c t hr hT q (3 / r) (by omega) rfl ((Nat.le_div_iff_mul_le (by omega)).2 hq)
/-- Power refuses. -/
def PowErr (K R : Int) (T : List Int) (q : Int) (tl : Tale) : Prop :=
  ∀ (w : World) (E : Nat → Addr) (A : Option Addr) (n c : Nat), Errs w E → Sl w A n (T.map (Value.int .i64)) → n ≤ 9223372036854775807 →
    Calls Tryd.prog 7 #[ruleV K R A n c, .int .i64 q] w (RuleRes w E 0 0 [] (some tl))
theorem pow_cases (K R : Int) (T : List Int) (q : Int) (hq : q ≤ 9223372036854775807) : (∃ tl, PowErr K R T q tl) ∨
    ∃ (k r m : Nat) (t : List Nat), K = (k : Int) ∧ R = (r : Int) ∧ T = ints t ∧ q = (m : Int) ∧ IsRule k r t ∧ m * r ≤ 3 ∧ m ≤ 9223372036854775807 := by
  cases h1 : checkF 0 K R T with
  | some tl => exact .inl ⟨tl, fun w E A n c hE hT hm => power_bad w E hE K R A n c T hT hm q tl h1⟩
  | none =>
    obtain ⟨k, r, t, rfl, rfl, rfl, hr⟩ := checkF_none h1
    by_cases hn : q < 0
    · exact .inl ⟨_, fun w E A n c hE hT _ => power_neg w E hE k r A n c t hr hT q hn⟩
    · obtain ⟨m, rfl⟩ : ∃ m : Nat, q = (m : Int) := ⟨q.toNat, by omega⟩
      by_cases hb : m * r ≤ 3
      · exact .inr ⟨k, r, m, t, rfl, rfl, rfl, rfl, hr, hb, by omega⟩
      · have h0 : 0 < r := by
          rcases Nat.eq_zero_or_pos r with h | h
          · rw [h, Nat.mul_zero] at hb; omega
          · exact h
        exact .inl ⟨_, fun w E A n c hE hT _ => power_big w E hE k r A n c t hr hT m (3 / r) h0 rfl (by
          rcases Nat.lt_or_ge (3 / r) m with h | h
          · exact h
          · exact absurd ((Nat.le_div_iff_mul_le h0).1 h) hb)⟩
theorem shift_back (w : World) (E : Nat → Addr) (k ρ : Nat) (h1 : 1 ≤ k) (h2 : k ≤ 4) (hρ : ρ ≤ 3) :
    Calls Tryd.prog 12 #[.int .i64 (k : Int), .int .i64 (-(ρ : Int))] w (RuleRes w E k ρ (ints (shT k ρ 0)) none) := by
  by_cases h0 : ρ = 0
  · subst h0
    exact shift_pos w E k 0 h1 h2 hρ
  · exact shift_neg w E k ρ h1 h2 hρ (by omega)
theorem sh_same {k ρ : Nat} (k1 : 1 ≤ k) (k4 : k ≤ 4) (h : ρ ≤ 1) : narrow k (ρ + ρ) (comp k ρ (shT k ρ (2 * ρ)) ρ (shT k ρ 0)) = narrow k 0 (shT k 0 (2 * 0)) := by
  have h' : ρ = 0 ∨ ρ = 1 := by omega
  rcases h' with rfl | rfl
  · show narrow k 0 (comp k 0 (idT k) 0 (idT k)) = _
    rw [comp_id (idT_rule k1 k4)]
    rfl
  · show narrow k 2 (comp k 1 (shT k 1 2) 1 (shT k 1 0)) = _
    rw [sh_there k1 k4]
    exact narrow_wide (idT_rule k1 k4) 2

theorem shift_none (w : World) (E : Nat → Addr) (k : Nat) (h1 : 1 ≤ k) (h2 : k ≤ 4) :
    Calls Tryd.prog 12 #[.int .i64 (k : Int), .int .i64 0] w (RuleRes w E k 0 (ints (shT k 0 (2 * 0))) none) := shift_pos w E k 0 h1 h2 (by decide)
theorem same_zero (w : World) (E : Nat → Addr) (hE : Errs w E) (k r : Nat) (A B : Option Addr) (n c m d : Nat) (t : List Nat) (hr : IsRule k r t) (hT : Sl w A n ((ints t).map (Value.int .i64))) (k2 : Nat) (t2 : List Nat) (hr2 : IsRule k2 0 t2) (hT2 : Sl w B m ((ints t2).map (Value.int .i64))) :
    Calls Tryd.prog 13 #[ruleV k r A n c, ruleV (k2 : Int) 0 B m d] w (BoolRes w E (decide (k = k2 ∧ narrow k r t = narrow k2 0 t2)) none) := same_good w E hE k r A B n c m d t hr hT k2 0 t2 hr2 hT2
theorem power_z (w : World) (E : Nat → Addr) (hE : Errs w E) (k : Nat) (A : Option Addr) (n c : Nat) (t : List Nat) (hr : IsRule k 0 t) (hT : Sl w A n ((ints t).map (Value.int .i64))) (q : Nat) (hq : q ≤ 9223372036854775807) :
    Calls Tryd.prog 7 #[ruleV k 0 A n c, .int .i64 (q : Int)] w (RuleRes w E k 0 (ints (pw k 0 t q)) none) := power_zero w E hE k 0 A n c t hr hT rfl q hq
theorem compose_z (w : World) (E : Nat → Addr) (hE : Errs w E) (k : Nat) (A B : Option Addr) (n c m d : Nat) (t : List Nat) (hr : IsRule k 0 t) (hT : Sl w A n ((ints t).map (Value.int .i64))) (t2 : List Nat) (hr2 : IsRule k 0 t2) (hT2 : Sl w B m ((ints t2).map (Value.int .i64))) :
    Calls Tryd.prog 10 #[ruleV k 0 A n c, ruleV (k : Int) 0 B m d] w (RuleRes w E k 0 (ints (comp k 0 t 0 t2)) none) := compose_good w E hE k 0 A B n c m d t hr hT 0 0 t2 hr2 hT2 rfl (by decide)
theorem half_in {s : Int} (h : -9223372036854775808 ≤ s ∧ s ≤ 9223372036854775807) : ∃ x y, s.tdiv 2 = x ∧ s.tmod 2 = y ∧ -4611686018427387904 ≤ x ∧ x ≤ 4611686018427387903 ∧ -1 ≤ y ∧ y ≤ 1 := by
  obtain ⟨m, rfl | rfl⟩ := s.eq_nat_or_neg
  · exact ⟨((m / 2 : Nat) : Int), ((m % 2 : Nat) : Int), rfl, rfl, by omega, by omega, by omega, by omega⟩
  · exact ⟨-((m / 2 : Nat) : Int), -((m % 2 : Nat) : Int), by rw [Int.neg_tdiv]; rfl, by rw [Int.neg_tmod]; rfl, by omega, by omega, by omega, by omega⟩

set_option maxRecDepth 100000 in
set_option maxHeartbeats 2000000 in
theorem formsPowers_bad (w : World) (E : Nat → Addr) (hE : Errs w E) (K R s q : Int) (A : Option Addr) (n c : Nat) (T : List Int) (hS : Sl w A n (T.map (Value.int .i64))) (hm : n ≤ 9223372036854775807) (tl : Tale) (hc : PowErr K R T q tl) :
    Calls Tryd.prog 3 #[ruleV K R A n c, .int .i64 s, .int .i64 q] w fun e w' => e = .returned (.bool true) ∧ Below w.heap.size w w' := by
  have hb1 := (Below.refl w.heap.size w).alloc (Nat.le_refl _) (.cells #[.int .i64 K, .int .i64 R, .slice A n c] 24)
  have hr0 := RuleAt.new w (.int .i64 K) (.int .i64 R) (.slice A n c)
  obtain ⟨W, hW⟩ : ∃ W, w.alloc (.cells #[.int .i64 K, .int .i64 R, .slice A n c] 24) = W := ⟨_, rfl⟩
  rw [hW] at hb1 hr0
  have HAW := Lib.hid (awake5_c W E (hE.below hb1))
  have HCC := Lib.hid (fun (wz : World) (hz : Below W.heap.size W wz) => hc wz E A n c (hE.below (hb1.trans (hz.mono hb1.size))) (hS.below (hb1.trans (hz.mono hb1.size))) hm)
  have HR0 := Lib.hid hr0
  have HB3 := Lib.hid hb1
  have HW := Lib.hid hW
  clear hb1 hr0 hW hE hS hc
  unfold ruleV at *
  go_enter Tryd.func3, Tryd.ntmps3
  go_wp2_with fail
  rw [HW.out]
  refine (HAW.out).mono ?_
  rintro e1 w1 ⟨rfl, b1⟩
  obtain ⟨a0, a1, a2, _⟩ := (HR0.out.below b1 HR0.out.lt).facts
  have HC := Lib.hid (HCC.out w1 b1)
  have HB1 := Lib.hid (HB3.out.trans (b1.mono HB3.out.size))
  clear b1
  go_wp2_with fail
  refine (HC.out).mono ?_
  rintro e2 w2 ⟨C2, N2, cc2, v2, rfl, ho2, he2, hb2⟩
  have he2' : ErrIs w2 E tl.1 tl.2 v2 := he2
  obtain ⟨u, p, rfl⟩ := he2'.iface
  have hN : N2 = 0 := (Sl.of_own ho2).1.symm
  subst hN
  have HB2 := Lib.hid ((HB1.out.trans (hb2.mono HB1.out.size)).alloc (Nat.le_trans HB1.out.size hb2.size) (.cells #[.int .i64 0, .int .i64 0, .slice C2 0 cc2] 24))
  clear he2 he2' ho2 hb2
  unfold ruleV
  go_wp2_with fail
  go_ret
  exact ⟨rfl, HB2.out⟩

set_option maxRecDepth 100000 in
set_option maxHeartbeats 1500000 in
theorem formsPowers_pos (w : World) (E : Nat → Addr) (hE : Errs w E) (k r q pr : Nat) (s : Int) (A : Option Addr) (n c : Nat) (t : List Nat) (hS : Sl w A n ((ints t).map (Value.int .i64)))
    (ha : IsRule k r t) (hr0' : 0 < r) (hpr : q * r = pr) (hpr3 : pr ≤ 3) (hs : -9223372036854775808 ≤ s ∧ s ≤ 9223372036854775807) :
    Calls Tryd.prog 3 #[ruleV k r A n c, .int .i64 s, .int .i64 (q : Int)] w fun e w' => e = .returned (.bool true) ∧ Below w.heap.size w w' := by
  have HPR := Lib.hid hpr
  have hq3 : q ≤ 3 := Nat.le_trans (Nat.le_mul_of_pos_right q hr0') (by rw [hpr]; exact hpr3)
  have hq63 : q ≤ 9223372036854775807 := by omega
  have hrq : (r : Int) * (q : Int) = (pr : Int) := by rw [← hpr]; push_cast; rw [Int.mul_comm]
  have hr0'' : (0 : Int) < (r : Int) := by omega
  have hrz : ¬ (r : Int) = 0 := by omega
  have hna : t.length = n := by simpa [ints] using hS.1
  have hn16 := ha.le
  rw [hna] at hn16
  have hb3 := (Below.refl w.heap.size w).alloc (Nat.le_refl _) (.cells #[.int .i64 (k : Int), .int .i64 (r : Int), .slice A n c] 24)
  have hr0 := RuleAt.new w (.int .i64 (k : Int)) (.int .i64 (r : Int)) (.slice A n c)
  obtain ⟨W, hW⟩ : ∃ W, w.alloc (.cells #[.int .i64 (k : Int), .int .i64 (r : Int), .slice A n c] 24) = W := ⟨_, rfl⟩
  rw [hW] at hb3 hr0
  have HAW := Lib.hid (awake5_c W E (hE.below hb3))
  have HTT := Lib.hid (fun (wz : World) (hz : Below W.heap.size W wz) => (⟨hE.below (hb3.trans (hz.mono hb3.size)), hS.below (hb3.trans (hz.mono hb3.size))⟩ : _ ∧ _))
  have HFX := Lib.hid (fun (wz : World) (hz : Below W.heap.size W wz) => (⟨(hr0.below hz hr0.lt).facts.1, (hr0.below hz hr0.lt).facts.2.1, (hr0.below hz hr0.lt).facts.2.2.1⟩ : _ ∧ _ ∧ _))
  have HL := Lib.hid (show w.heap.size < W.heap.size from hr0.lt)
  have HB3 := Lib.hid hb3
  have HW := Lib.hid hW
  have HA := Lib.hid ha
  have hk1 := ha.k1
  have hk4 := ha.k4
  have hra3 := ha.r3
  obtain ⟨TP, hTP⟩ : ∃ TP, pw k r t q = TP := ⟨_, rfl⟩
  have hAB : IsRule k pr TP := by rw [← hTP, ← hpr]; exact pw_rule ha (by rw [hpr]; exact hpr3)
  have HAB := Lib.hid hAB
  have HIM := Lib.hid (show image k pr TP (wp k 30) = imgs k r t q (wp k 30) by rw [← hTP, ← hpr]; exact image_pw ha (wp_sym ha.k1 30) (by rw [hpr]; exact hpr3))
  clear hb3 hr0 hW hE hS ha hna hAB hpr
  unfold ruleV at *
  go_enter Tryd.func3, Tryd.ntmps3
  go_wp2_with fail
  rw [HW.out]
  refine (HAW.out).mono ?_
  rintro e1 w1 ⟨rfl, b1⟩
  obtain ⟨a0, a1, a2⟩ := HFX.out w1 b1
  obtain ⟨hE1, hA1⟩ := HTT.out w1 b1
  have hcg := power_ok w1 E hE1 k r A n c t HA.out hA1 q (by rw [HPR.out]; exact hpr3) hq63
  rw [hTP] at hcg
  rw [HPR.out] at hcg
  unfold ruleV at hcg
  have HC := Lib.hid hcg
  have HTP := Lib.hid hTP
  clear hcg hE1 hA1 hTP
  go_wp2_with fail
  refine (HC.out).mono ?_
  rintro e2 w2 ⟨C2, N2, cc2, v2, rfl, ho2, he2, hb2'⟩
  have he2' : v2 = .nilIface := he2
  clear he2
  subst he2'
  have hb2 := pure_trans b1 hb2'
  have hx3 := RuleAt.new w2 (.int .i64 (k : Int)) (.int .i64 (pr : Int)) (.slice C2 N2 cc2)
  have b3 := (Below.refl w2.heap.size w2).alloc (Nat.le_refl _) (.cells #[.int .i64 (k : Int), .int .i64 (pr : Int), .slice C2 N2 cc2] 24)
  have ho3 := own_below ho2 b3
  have hw4 := own_empty (w2.alloc (.cells #[.int .i64 (k : Int), .int .i64 (pr : Int), .slice C2 N2 cc2] 24)) 3
  have hb4 := (pure_trans hb2 b3).alloc (Nat.le_trans hb2.size b3.size) (.cells #[] 3)
  obtain ⟨w4, hw4e⟩ : ∃ w4, (w2.alloc (.cells #[.int .i64 (k : Int), .int .i64 (pr : Int), .slice C2 N2 cc2] 24)).alloc (.cells #[] 3) = w4 := ⟨_, rfl⟩
  rw [hw4e] at hw4 hb4
  have HW4 := Lib.hid hw4e
  obtain ⟨g7, hg7⟩ : ∃ g7, w2.heap.size = g7 := ⟨_, rfl⟩
  have HG7 := Lib.hid hg7
  have hz4 : (w2.alloc (.cells #[.int .i64 (k : Int), .int .i64 (pr : Int), .slice C2 N2 cc2] 24)).heap.size = g7 + 1 := by rw [World.size_alloc, hg7]
  rw [hz4] at hw4
  have hgz : W.heap.size ≤ g7 := by rw [← hg7]; exact hb2.size
  have hgw : g7 + 1 ≤ w4.heap.size := by rw [← hw4e, World.size_alloc, hz4]; omega
  have HGZ := Lib.hid hgz
  have HGW := Lib.hid hgw
  have hb34 := (Below.refl (g7 + 1) (w2.alloc (.cells #[.int .i64 (k : Int), .int .i64 (pr : Int), .slice C2 N2 cc2] 24))).alloc (Nat.le_of_eq hz4.symm) (.cells #[] 3)
  rw [hw4e] at hb34
  rw [hg7] at hx3
  have HTG := Lib.hid (fun (wz : World) (hz : Below (g7 + 1) w4 wz) => (⟨Sl.of_own (own_below ho3 (by rw [hz4]; exact hb34.trans hz)), (hx3.below (hb34.trans hz) (Nat.lt_succ_self _)).facts.1, (hx3.below (hb34.trans hz) (Nat.lt_succ_self _)).facts.2.1, (hx3.below (hb34.trans hz) (Nat.lt_succ_self _)).facts.2.2.1⟩ : _ ∧ _ ∧ _ ∧ _))
  clear hb34
  have HWW := Lib.hid hw4
  have HB4 := Lib.hid hb4
  unfold ruleV
  clear hz4 hgz hgw hw4e hg7 hx3 ho2 ho3 hw4 hb4 b3 hb2 hb2' b1 a0 a1 a2
  go_wp2_with fail
  rw [HW4.out, HG7.out] at *
  go_loopw [9, 10] (fun bv iv wl => ∃ i : Nat, i ≤ 30 ∧ iv = .int .i64 (i : Int) ∧ wl.ownsRow (g7 + 1) 3 1 bv i ((ints (wp k i)).map (Value.int .i64)) ∧ Hid (Below (g7 + 1) w4 wl)) (fun _ iv _ => 30 - (intOf iv).toNat)
  case atStart =>
    refine ⟨0, Nat.zero_le _, rfl, ?_, Lib.hid (Below.refl _ _)⟩
    exact HWW.out
  case round =>
    obtain ⟨i, hi, rfl, hown, hb⟩ := hrel
    by_cases hlt : i < 30
    · have hlt' : (i : Int) < 30 := by omega
      have hzw := hb.out.size
      have hwl := HB4.out.trans (hb.out.mono (show W.heap.size ≤ g7 + 1 by have := HGZ.out; omega))
      have a0 := (HFX.out wr hwl).1
      obtain ⟨QQ, hQQ⟩ : ∃ QQ, i * i = QQ := ⟨_, rfl⟩
      obtain ⟨DD, hDD⟩ : ∃ DD, QQ / 2 = DD := ⟨_, rfl⟩
      obtain ⟨VV, hVV⟩ : ∃ VV, (DD + i) % k = VV := ⟨_, rfl⟩
      have q1 : (i : Int) * (i : Int) = (QQ : Int) := by rw [← hQQ]; push_cast; rfl
      have q2 : (QQ : Int).tdiv 2 = (DD : Int) := by rw [← hDD]; rfl
      have q3 : ((DD : Int) + (i : Int)).tmod (k : Int) = (VV : Int) := by rw [← hVV]; rfl
      have q4 : QQ ≤ 900 := by rw [← hQQ]; exact Nat.mul_le_mul (show i ≤ 30 by omega) (show i ≤ 30 by omega)
      have q5 : DD ≤ 900 := by omega
      have q6 : VV < k := by rw [← hVV]; exact Nat.mod_lt _ hk1
      have q7 : ¬ (k : Int) = 0 := by omega
      have HV := Lib.hid (show wp k (i + 1) = wp k i ++ [VV] by rw [wp_succ, hQQ, hDD, hVV])
      have hm1 : i + 1 ≤ maxLen := by simp only [maxLen]; omega
      have hm2 : (i + 1) * 8 ≤ 140737488355328 := by omega
      have hgz2 := Nat.le_trans HGW.out hzw
      clear hQQ hDD hVV hwl
      have HHB := Lib.hid hb.out
      clear hb
      go_wp2_with (at_builtin; refine wpList_push rfl _ _ _ rfl tInts hown rfl _ 0 rfl rfl rfl hm1 hm2 hgz2 ?_; intro g cap w3 hown3 hg3 hat3 hlt3)
      refine ⟨⟨i + 1, by omega, by go_num, ?_, Lib.hid (HHB.out.grown hg3 hgz2 (fun q hq => (hown.lt q hq).1))⟩, by simp [intOf]; omega⟩
      have e3 : (ints (wp k (i + 1))).map (Value.int .i64) = (ints (wp k i)).map (Value.int .i64) ++ [Value.int .i64 (VV : Int)] := by rw [HV.out]; simp [ints]
      rw [e3]
      exact hown3
    · have hlt' : ¬ (i : Int) < 30 := by omega
      obtain rfl : i = 30 := by omega
      have hwl := HB4.out.trans (hb.out.mono (show W.heap.size ≤ g7 + 1 by have := HGZ.out; omega))
      obtain ⟨BW, cW, rfl, _, _⟩ := own_slice hown
      have hgw := Nat.le_trans HGW.out hb.out.size
      obtain ⟨w0, hw0⟩ : ∃ w0, w0 = wr := ⟨_, rfl⟩
      subst hw0
      have hbb := hb.out
      have HTM := Lib.hid HTP.out
      have HE := Lib.hid (fun (wz : World) (hz : Below w0.heap.size w0 wz) => (HTT.out wz (hwl.trans (hz.mono hwl.size))).1)
      have HR_r := Lib.hid (fun (wz : World) (hz : Below w0.heap.size w0 wz) => (⟨(HTT.out wz (hwl.trans (hz.mono hwl.size))).2, HFX.out wz (hwl.trans (hz.mono hwl.size))⟩ : _ ∧ _ ∧ _ ∧ _))
      have HR_p := Lib.hid (fun (wz : World) (hz : Below w0.heap.size w0 wz) => HTG.out wz (hbb.trans (hz.mono hgw)))
      have HR_w := Lib.hid (fun (wz : World) (hz : Below w0.heap.size w0 wz) => own_below hown hz)
      have HV_r := Lib.hid (show w.heap.size < w0.heap.size from Nat.lt_of_lt_of_le HL.out hwl.size)
      have HV_p := Lib.hid (show g7 < w0.heap.size from hgw)
      have HZZ := Lib.hid (show Below w.heap.size w w0 from HB3.out.trans (hwl.mono HB3.out.size))
      have B_base := Lib.hid (Below.refl w0.heap.size w0)
      have B_r := B_base
      have B_p := B_base
      obtain ⟨_, p_0, p_1, p_2⟩ := HR_p.out w0 B_base.out
      clear hb hbb hown hwl hgw HTP HTT HFX HTG HWW HB4 HGZ HGW HG7 HW4 HL HB3 HC HAW HW
      have hc := imageL_good w0 E (HE.out w0 B_base.out) k pr C2 BW N2 cc2 30 cW (30 - 2 * pr) TP (wp k 30) HAB.out (wp_sym hk1 30) (HR_p.out w0 B_base.out).1 (Sl.of_own (HR_w.out w0 B_base.out)) (by decide) (by rw [wp_len])
      try unfold ruleV at hc
      have HC0 := Lib.hid hc
      clear hc
      go_wp2_with fail
      refine (HC0.out).mono ?_
      clear p_0 p_1 p_2
      rintro e v0 ⟨XA, Xc, rfl, hox, hb⟩
      obtain ⟨M1, hM1⟩ : ∃ M1, 30 - 2 * pr = M1 := ⟨_, rfl⟩
      rw [hM1] at hox ⊢
      rw [HIM.out] at hox
      have HM1 := Lib.hid (show M1 ≤ 30 by omega)
      clear hM1
      have B_base := Lib.hid (B_base.out.trans (hb.mono B_base.out.size))
      have B_r := Lib.hid (B_r.out.trans (hb.mono B_r.out.size))
      have B_p := Lib.hid (B_p.out.trans (hb.mono B_p.out.size))
      have HXX := Lib.hid hox
      have HWV := Lib.hid (HR_w.out v0 B_base.out)
      clear hox hb
      have e0 : Hid (imgs k r t 0 (wp k 30) = wp k 30) := Lib.hid rfl
      go_wp2_with fail
      go_loopw [13, 14] (fun yv iv wl => ∃ (j YN Yc : Nat) (YA : Option Addr), j ≤ q ∧ iv = .int .i64 (j : Int) ∧ yv = .slice YA YN Yc ∧ YN ≤ 30 ∧ wl.ownsRow (g7 + 1) 3 1 (.slice YA YN Yc) YN ((ints (imgs k r t j (wp k 30))).map (Value.int .i64)) ∧ Hid (Below v0.heap.size v0 wl)) (fun _ iv _ => q - (intOf iv).toNat)
      case atStart => exact ⟨0, 30, cW, BW, Nat.zero_le _, rfl, rfl, Nat.le_refl _, by rw [e0.out]; exact HWV.out, Lib.hid (Below.refl _ _)⟩
      case round =>
        obtain ⟨j, YN, Yc, YA, hj, rfl, rfl, hY30, hown, hb⟩ := hrel
        have hbr := B_r.out.trans (hb.out.mono B_r.out.size)
        obtain ⟨hA1, r_0, r_1, r_2⟩ := HR_r.out wr hbr
        have hE1 := HE.out wr hbr
        by_cases hlt : j < q
        · have hlt' : (j : Int) < (q : Int) := by omega
          obtain ⟨M2, hM2⟩ : ∃ M2, (imgs k r t j (wp k 30)).length - 2 * r = M2 := ⟨_, rfl⟩
          have hc := imageL_good wr E hE1 k r A YA n c YN Yc M2 t (imgs k r t j (wp k 30)) HA.out (imgs_sym HA.out (wp_sym hk1 30) j) hA1 (Sl.of_own hown) (by omega) hM2
          rw [show image k r t (imgs k r t j (wp k 30)) = imgs k r t (j + 1) (wp k 30) from rfl] at hc
          unfold ruleV at hc
          have HC9 := Lib.hid hc
          have HM2 := Lib.hid (show M2 ≤ 30 by rw [← hM2, imgs_len, wp_len]; omega)
          have HG9 := Lib.hid (show g7 + 1 ≤ wr.heap.size from Nat.le_trans HV_p.out hbr.size)
          clear hc hE1 hA1 hown hbr hM2
          go_wp2_with fail
          refine (HC9.out).mono ?_
          rintro e w9 ⟨ZA, Zc, rfl, hoz, hbz⟩
          have HZ := Lib.hid (own_base hoz HG9.out)
          have HBZ := Lib.hid (hb.out.trans (hbz.mono hb.out.size))
          clear hoz hbz hb r_0 r_1 r_2
          go_wp2_with fail
          exact ⟨⟨j + 1, M2, Zc, ZA, by omega, by go_num, rfl, HM2.out, HZ.out, HBZ⟩, by simp [intOf]; omega⟩
        · have hlt' : ¬ (j : Int) < (q : Int) := by omega
          obtain rfl : q = j := by omega
          have hc := ints_b wr XA YA M1 YN Xc Yc _ _ (Sl.of_own (own_below HXX.out hb.out)) (Sl.of_own hown) (by have := HM1.out; omega) (by omega)
          rw [decide_eq_true rfl] at hc
          have HC9 := Lib.hid hc
          have hbv := hb.out
          clear hc hE1 hA1 hown hbr hb
          go_wp2_with fail
          refine (HC9.out).mono ?_

          rintro e v1 ⟨rfl, hb⟩
          have hst := hbv.trans (hb.mono hbv.size)
          clear r_0 r_1 r_2
          have qB := B_r.out.trans (hst.mono B_r.out.size)
          obtain ⟨_, r_0, r_1, r_2⟩ := HR_r.out v1 qB
          have hl_r : w.heap.size < v1.heap.size := Nat.lt_of_lt_of_le HV_r.out qB.size
          clear qB
          have qB := B_p.out.trans (hst.mono B_p.out.size)
          obtain ⟨_, p_0, p_1, p_2⟩ := HR_p.out v1 qB
          have hl_p : g7 < v1.heap.size := Nat.lt_of_lt_of_le HV_p.out qB.size
          clear qB
          have B_base := Lib.hid (B_base.out.trans (hst.mono B_base.out.size))
          have B_r := Lib.hid (B_r.out.trans (hst.mono B_r.out.size))
          have B_p := Lib.hid (B_p.out.trans (hst.mono B_p.out.size))
          clear hst hb hbv
          obtain ⟨sx, sy, hsx, hsy, sx1, sx2, sy1, sy2⟩ := half_in hs
          obtain ⟨ρ, hρ⟩ : ∃ ρ, q % 2 = ρ := ⟨_, rfl⟩
          have hρ1 : ρ ≤ 1 := by omega
          have m1 : (q : Int).tmod 2 = (ρ : Int) := by rw [← hρ]; rfl
          have m2 : ((ρ : Int) + 2).tmod 2 = (ρ : Int) := by
            have h : ρ = 0 ∨ ρ = 1 := by omega
            rcases h with h | h <;> rw [h] <;> decide
          clear hρ
          try unfold ruleV
          have hc := shift_pos v1 E k ρ hk1 hk4 (by omega)
          try unfold ruleV at hc
          have HC2 := Lib.hid hc
          clear hc
          go_wp2_with fail
          clear r_0 r_1 r_2 p_0 p_1 p_2 hl_r hl_p
          refine (HC2.out).mono ?_
          rintro e v2 ⟨C_a, N_a, d_a, xe, rfl, ho, he, hb⟩
          have he' : xe = .nilIface := he
          clear he
          subst he'
          have qB := B_r.out.trans (hb.mono B_r.out.size)
          obtain ⟨_, r_0, r_1, r_2⟩ := HR_r.out v2 qB
          have hl_r : w.heap.size < v2.heap.size := Nat.lt_of_lt_of_le HV_r.out qB.size
          clear qB
          have ba := (Below.refl v2.heap.size v2).alloc (Nat.le_refl _) (.cells #[.int .i64 (k : Int), .int .i64 (ρ : Int), .slice C_a N_a d_a] 24)
          have hx := RuleAt.new v2 (.int .i64 (k : Int)) (.int .i64 (ρ : Int)) (.slice C_a N_a d_a)
          obtain ⟨u3, hu⟩ : ∃ u, v2.alloc (.cells #[.int .i64 (k : Int), .int .i64 (ρ : Int), .slice C_a N_a d_a] 24) = u := ⟨_, rfl⟩
          rw [hu] at ba hx
          have HU3 := Lib.hid hu
          have HV_a := Lib.hid (show v2.heap.size < u3.heap.size from hx.lt)
          have hw := (Row.of ho).below ba
          have HR_a := Lib.hid (fun (wz : World) (hz : Below u3.heap.size u3 wz) => (⟨hw.below hz, (hx.below hz hx.lt).facts.1, (hx.below hz hx.lt).facts.2.1, (hx.below hz hx.lt).facts.2.2.1⟩ : _ ∧ _ ∧ _ ∧ _))
          have HS_a := Lib.hid hb.size
          have hst := hb.trans (ba.mono hb.size)
          have B_base := Lib.hid (B_base.out.trans (hst.mono B_base.out.size))
          have B_r := Lib.hid (B_r.out.trans (hst.mono B_r.out.size))
          have B_p := Lib.hid (B_p.out.trans (hst.mono B_p.out.size))
          have B_a := Lib.hid (Below.refl u3.heap.size u3)
          clear hw hst ba hx hu ho hb
          have hc := shift_back u3 E k ρ hk1 hk4 (by omega)
          try unfold ruleV at hc
          have HC3 := Lib.hid hc
          clear hc
          unfold ruleV
          go_wp2_with fail
          rw [HU3.out]
          clear r_0 r_1 r_2 hl_r
          refine (HC3.out).mono ?_
          rintro e v3 ⟨C_b, N_b, d_b, xe, rfl, ho, he, hb⟩
          have he' : xe = .nilIface := he
          clear he
          subst he'
          have qB := B_r.out.trans (hb.mono B_r.out.size)
          obtain ⟨_, r_0, r_1, r_2⟩ := HR_r.out v3 qB
          have hl_r : w.heap.size < v3.heap.size := Nat.lt_of_lt_of_le HV_r.out qB.size
          clear qB
          have ba := (Below.refl v3.heap.size v3).alloc (Nat.le_refl _) (.cells #[.int .i64 (k : Int), .int .i64 (ρ : Int), .slice C_b N_b d_b] 24)
          have hx := RuleAt.new v3 (.int .i64 (k : Int)) (.int .i64 (ρ : Int)) (.slice C_b N_b d_b)
          obtain ⟨u4, hu⟩ : ∃ u, v3.alloc (.cells #[.int .i64 (k : Int), .int .i64 (ρ : Int), .slice C_b N_b d_b] 24) = u := ⟨_, rfl⟩
          rw [hu] at ba hx
          have HU4 := Lib.hid hu
          have HV_b := Lib.hid (show v3.heap.size < u4.heap.size from hx.lt)
          have hw := (Row.of ho).below ba
          have HR_b := Lib.hid (fun (wz : World) (hz : Below u4.heap.size u4 wz) => (⟨hw.below hz, (hx.below hz hx.lt).facts.1, (hx.below hz hx.lt).facts.2.1, (hx.below hz hx.lt).facts.2.2.1⟩ : _ ∧ _ ∧ _ ∧ _))
          have HS_b := Lib.hid hb.size
          have hst := hb.trans (ba.mono hb.size)
          have B_base := Lib.hid (B_base.out.trans (hst.mono B_base.out.size))
          have B_r := Lib.hid (B_r.out.trans (hst.mono B_r.out.size))
          have B_p := Lib.hid (B_p.out.trans (hst.mono B_p.out.size))
          have B_a := Lib.hid (B_a.out.trans (hst.mono B_a.out.size))
          have B_b := Lib.hid (Below.refl u4.heap.size u4)
          clear hw hst ba hx hu ho hb
          have hc := shift_none u4 E k hk1 hk4
          try unfold ruleV at hc
          have HC4 := Lib.hid hc
          clear hc
          unfold ruleV
          go_wp2_with fail
          rw [HU4.out]
          clear r_0 r_1 r_2 hl_r
          refine (HC4.out).mono ?_
          rintro e v4 ⟨C_z, N_z, d_z, xe, rfl, ho, he, hb⟩
          have he' : xe = .nilIface := he
          clear he
          subst he'
          have qB := B_a.out.trans (hb.mono B_a.out.size)
          obtain ⟨_, a_0, a_1, a_2⟩ := HR_a.out v4 qB
          have hl_a : v2.heap.size < v4.heap.size := Nat.lt_of_lt_of_le HV_a.out qB.size
          clear qB
          have qB := B_b.out.trans (hb.mono B_b.out.size)
          obtain ⟨_, b_0, b_1, b_2⟩ := HR_b.out v4 qB
          have hl_b : v3.heap.size < v4.heap.size := Nat.lt_of_lt_of_le HV_b.out qB.size
          clear qB
          have ba := (Below.refl v4.heap.size v4).alloc (Nat.le_refl _) (.cells #[.int .i64 (k : Int), .int .i64 0, .slice C_z N_z d_z] 24)
          have hx := RuleAt.new v4 (.int .i64 (k : Int)) (.int .i64 0) (.slice C_z N_z d_z)
          obtain ⟨u5, hu⟩ : ∃ u, v4.alloc (.cells #[.int .i64 (k : Int), .int .i64 0, .slice C_z N_z d_z] 24) = u := ⟨_, rfl⟩
          rw [hu] at ba hx
          have HU5 := Lib.hid hu
          have HV_z := Lib.hid (show v4.heap.size < u5.heap.size from hx.lt)
          have hw := (Row.of ho).below ba
          have HR_z := Lib.hid (fun (wz : World) (hz : Below u5.heap.size u5 wz) => (⟨hw.below hz, (hx.below hz hx.lt).facts.1, (hx.below hz hx.lt).facts.2.1, (hx.below hz hx.lt).facts.2.2.1⟩ : _ ∧ _ ∧ _ ∧ _))
          have HS_z := Lib.hid hb.size
          have hst := hb.trans (ba.mono hb.size)
          have B_base := Lib.hid (B_base.out.trans (hst.mono B_base.out.size))
          have B_r := Lib.hid (B_r.out.trans (hst.mono B_r.out.size))
          have B_p := Lib.hid (B_p.out.trans (hst.mono B_p.out.size))
          have B_a := Lib.hid (B_a.out.trans (hst.mono B_a.out.size))
          have B_b := Lib.hid (B_b.out.trans (hst.mono B_b.out.size))
          have B_z := Lib.hid (Below.refl u5.heap.size u5)
          clear hw hst ba hx hu ho hb
          obtain ⟨dd, hdd⟩ : ∃ dd, ρ + ρ = dd := ⟨_, rfl⟩
          have hss := @sh_same k ρ hk1 hk4 hρ1
          rw [hdd] at hss
          have HSS := Lib.hid hss
          have HDD := Lib.hid hdd
          have hd3 : dd ≤ 2 := by omega
          clear hss hdd
          have hc := compose_good u5 E (HE.out u5 B_base.out) k ρ C_a C_b N_a d_a N_b d_b (shT k ρ (2 * ρ)) (shT_rule hk1 hk4 (by omega) (by omega)) (HR_a.out u5 B_a.out).1.sl ρ dd (shT k ρ 0) (shT_rule hk1 hk4 (by omega) (by omega)) (HR_b.out u5 B_b.out).1.sl HDD.out (by omega)
          try unfold ruleV at hc
          have HC5 := Lib.hid hc
          clear hc
          unfold ruleV
          go_wp2_with fail
          rw [HU5.out]
          clear a_0 a_1 a_2 b_0 b_1 b_2 hl_a hl_b
          refine (HC5.out).mono ?_
          rintro e v5 ⟨C_c, N_c, d_c, xe, rfl, ho, he, hb⟩
          have he' : xe = .nilIface := he
          clear he
          subst he'
          have qB := B_z.out.trans (hb.mono B_z.out.size)
          obtain ⟨_, z_0, z_1, z_2⟩ := HR_z.out v5 qB
          have hl_z : v4.heap.size < v5.heap.size := Nat.lt_of_lt_of_le HV_z.out qB.size
          clear qB
          have ba := (Below.refl v5.heap.size v5).alloc (Nat.le_refl _) (.cells #[.int .i64 (k : Int), .int .i64 (dd : Int), .slice C_c N_c d_c] 24)
          have hx := RuleAt.new v5 (.int .i64 (k : Int)) (.int .i64 (dd : Int)) (.slice C_c N_c d_c)
          obtain ⟨u6, hu⟩ : ∃ u, v5.alloc (.cells #[.int .i64 (k : Int), .int .i64 (dd : Int), .slice C_c N_c d_c] 24) = u := ⟨_, rfl⟩
          rw [hu] at ba hx
          have HU6 := Lib.hid hu
          have HV_c := Lib.hid (show v5.heap.size < u6.heap.size from hx.lt)
          have hw := (Row.of ho).below ba
          have HR_c := Lib.hid (fun (wz : World) (hz : Below u6.heap.size u6 wz) => (⟨hw.below hz, (hx.below hz hx.lt).facts.1, (hx.below hz hx.lt).facts.2.1, (hx.below hz hx.lt).facts.2.2.1⟩ : _ ∧ _ ∧ _ ∧ _))
          have HS_c := Lib.hid hb.size
          have hst := hb.trans (ba.mono hb.size)
          have B_base := Lib.hid (B_base.out.trans (hst.mono B_base.out.size))
          have B_r := Lib.hid (B_r.out.trans (hst.mono B_r.out.size))
          have B_p := Lib.hid (B_p.out.trans (hst.mono B_p.out.size))
          have B_a := Lib.hid (B_a.out.trans (hst.mono B_a.out.size))
          have B_b := Lib.hid (B_b.out.trans (hst.mono B_b.out.size))
          have B_z := Lib.hid (B_z.out.trans (hst.mono B_z.out.size))
          have B_c := Lib.hid (Below.refl u6.heap.size u6)
          clear hw hst ba hx hu ho hb
          have hc := same_zero u6 E (HE.out u6 B_base.out) k dd C_c C_z N_c d_c N_z d_z (comp k ρ (shT k ρ (2 * ρ)) ρ (shT k ρ 0)) (by rw [← HDD.out]; exact comp_rule (shT_rule hk1 hk4 (by omega) (by omega)) (shT_rule hk1 hk4 (by omega) (by omega)) (by omega)) (HR_c.out u6 B_c.out).1.sl k (shT k 0 (2 * 0)) (shT_rule hk1 hk4 (by decide) (by decide)) (HR_z.out u6 B_z.out).1.sl
          rw [decide_eq_true ⟨rfl, HSS.out⟩] at hc
          try unfold ruleV at hc
          have HC6 := Lib.hid hc
          clear hc
          unfold ruleV
          go_wp2_with fail
          rw [HU6.out]
          clear z_0 z_1 z_2 hl_z
          refine (HC6.out).mono ?_
          rintro e v6 ⟨xe, rfl, he, hb⟩
          have he' : xe = .nilIface := he
          clear he
          subst he'
          have B_base := Lib.hid (B_base.out.trans (hb.mono B_base.out.size))
          have B_r := Lib.hid (B_r.out.trans (hb.mono B_r.out.size))
          have B_p := Lib.hid (B_p.out.trans (hb.mono B_p.out.size))
          have B_a := Lib.hid (B_a.out.trans (hb.mono B_a.out.size))
          have B_b := Lib.hid (B_b.out.trans (hb.mono B_b.out.size))
          have B_z := Lib.hid (B_z.out.trans (hb.mono B_z.out.size))
          have B_c := Lib.hid (B_c.out.trans (hb.mono B_c.out.size))
          clear hb
          have HZZ2 := Lib.hid (HZZ.out.trans (B_base.out.mono HZZ.out.size))
          go_wp2_with fail
          go_ret
          exact ⟨rfl, HZZ2.out⟩

end Go.Proofs.YtfgnghgmffaepaaDoor
