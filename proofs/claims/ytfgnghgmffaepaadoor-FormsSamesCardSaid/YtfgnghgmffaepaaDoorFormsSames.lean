/- The call of FormsSames: it returns true. Condition: the tables read from memory; the error variables hold what E says. -/
import Derived.Test.YtfgnghgmffaepaaDoorLaw5A
import Derived.Test.YtfgnghgmffaepaaDoorFormN
import Derived.Test.YtfgnghgmffaepaaDoorRanged
namespace Go.Proofs.YtfgnghgmffaepaaDoor
open Go.RowKit RuleP

/-- Narrow answers, whatever the rule. -/
theorem narrow_any (K R : Int) (T : List Int) : ∃ (K' R' : Int) (T' : List Int) (tl : Option Tale), ∀ (w : World) (E : Nat → Addr) (A : Option Addr) (n c : Nat), Errs w E → Sl w A n (T.map (Value.int .i64)) → n ≤ 9223372036854775807 →
    Calls Tryd.prog 14 #[ruleV K R A n c] w (RuleRes w E K' R' T' tl) := by
  cases h1 : checkF 0 K R T with
  | some tl => exact ⟨0, 0, [], some tl, fun w E A n c hE hT hm => narrow_bad w E hE K R A n c T hT hm tl h1⟩
  | none =>
    obtain ⟨k, r, t, rfl, rfl, rfl, hr⟩ := checkF_none h1
    exact ⟨k, (narrow k r t).1, ints (narrow k r t).2, none, fun w E A n c hE hT _ => narrow_good w E hE k r A n c t hr hT⟩
theorem checkF_one {K R : Int} {T : List Int} {tl : Tale} (h : checkF 0 K R T = some tl) : ∃ tl', checkF 1 K R T = some tl' := by
  cases h1 : checkF 1 K R T with
  | some tl' => exact ⟨tl', rfl⟩
  | none =>
    obtain ⟨k, r, t, rfl, rfl, rfl, hr⟩ := checkF_none h1
    rw [checkF_rule 0 hr] at h
    cases h
theorem rad_in (s : Int) : ∃ (x : Int) (d : Nat), s.tmod 4 = x ∧ -4 < x ∧ x < 4 ∧ (x + 4).tmod 4 = (d : Int) ∧ d ≤ 3 := by
  obtain ⟨m, rfl | rfl⟩ := s.eq_nat_or_neg
  · refine ⟨((m % 4 : Nat) : Int), m % 4, rfl, by omega, by omega, ?_, by omega⟩
    have h : m % 4 < 4 := Nat.mod_lt _ (by decide)
    generalize m % 4 = z at h
    match z, h with
    | 0, _ => rfl
    | 1, _ => rfl
    | 2, _ => rfl
    | 3, _ => rfl
  · refine ⟨-((m % 4 : Nat) : Int), (4 - m % 4) % 4, by rw [Int.neg_tmod]; rfl, by omega, by omega, ?_, by omega⟩
    have h : m % 4 < 4 := Nat.mod_lt _ (by decide)
    generalize m % 4 = z at h
    match z, h with
    | 0, _ => rfl
    | 1, _ => rfl
    | 2, _ => rfl
    | 3, _ => rfl

set_option maxRecDepth 100000 in
set_option maxHeartbeats 4000000 in
theorem formsSames_bad1 (w : World) (E : Nat → Addr) (hE : Errs w E) (K R K2 R2 : Int) (A B : Option Addr) (n c m d : Nat) (T T2 : List Int) (q : Int) (hS : Sl w A n (T.map (Value.int .i64))) (hS2 : Sl w B m (T2.map (Value.int .i64))) (hm : n ≤ 9223372036854775807) (hm2 : m ≤ 9223372036854775807) (tl : Tale) (h : checkF 0 K R T = some tl) :
    Calls Tryd.prog 4 #[ruleV K R A n c, ruleV K2 R2 B m d, .int .i64 q] w fun e w' => e = .returned (.bool true) ∧ Below w.heap.size w w' := by
  have hb1 := (Below.refl w.heap.size w).alloc (Nat.le_refl _) (.cells #[.int .i64 K, .int .i64 R, .slice A n c] 24)
  have hb2 := hb1.alloc (by simp) (.cells #[.int .i64 K2, .int .i64 R2, .slice B m d] 24)
  have hr0 := (RuleAt.new w (.int .i64 K) (.int .i64 R) (.slice A n c)).alloc (.cells #[.int .i64 K2, .int .i64 R2, .slice B m d] 24)
  have hr1 := RuleAt.new (w.alloc (.cells #[.int .i64 K, .int .i64 R, .slice A n c] 24)) (.int .i64 K2) (.int .i64 R2) (.slice B m d)
  simp only [World.size_alloc] at hr1
  obtain ⟨W, hW⟩ : ∃ W, (w.alloc (.cells #[.int .i64 K, .int .i64 R, .slice A n c] 24)).alloc (.cells #[.int .i64 K2, .int .i64 R2, .slice B m d] 24) = W := ⟨_, rfl⟩
  rw [hW] at hb2 hr0 hr1
  have HE := Lib.hid (fun (wz : World) (hz : Below W.heap.size W wz) => hE.below (hb2.trans (hz.mono hb2.size)))
  have HR_a := Lib.hid (fun (wz : World) (hz : Below W.heap.size W wz) => (⟨hS.below (hb2.trans (hz.mono hb2.size)), (hr0.below hz hr0.lt).facts.1, (hr0.below hz hr0.lt).facts.2.1, (hr0.below hz hr0.lt).facts.2.2.1⟩ : _ ∧ _ ∧ _ ∧ _))
  have HR_b := Lib.hid (fun (wz : World) (hz : Below W.heap.size W wz) => (⟨hS2.below (hb2.trans (hz.mono hb2.size)), (hr1.below hz hr1.lt).facts.1, (hr1.below hz hr1.lt).facts.2.1, (hr1.below hz hr1.lt).facts.2.2.1⟩ : _ ∧ _ ∧ _ ∧ _))
  have HV_a := Lib.hid (show w.heap.size < W.heap.size from hr0.lt)
  have HV_b := Lib.hid (show w.heap.size + 1 < W.heap.size from hr1.lt)
  have HZZ := Lib.hid hb2
  have HUW := Lib.hid hW
  have B_base := Lib.hid (Below.refl W.heap.size W)
  have B_a := B_base
  have B_b := B_base
  clear hb1 hb2 hr0 hr1 hW hE hS hS2
  unfold ruleV at *
  go_enter Tryd.func4, Tryd.ntmps4
  have hc := awake5_c W E (HE.out W B_base.out)
  unfold ruleV at hc
  have HC0 := Lib.hid hc
  clear hc
  go_wp2_with fail
  rw [HUW.out]
  refine (HC0.out).mono ?_
  rintro e v0 ⟨rfl, hb⟩
  have q := B_a.out.trans (hb.mono B_a.out.size)
  obtain ⟨_, a_0, a_1, a_2⟩ := HR_a.out v0 q
  have hl_a : w.heap.size < v0.heap.size := Nat.lt_of_lt_of_le HV_a.out q.size
  clear q
  have q := B_b.out.trans (hb.mono B_b.out.size)
  obtain ⟨_, b_0, b_1, b_2⟩ := HR_b.out v0 q
  have hl_b : w.heap.size + 1 < v0.heap.size := Nat.lt_of_lt_of_le HV_b.out q.size
  clear q
  have B_base := Lib.hid (B_base.out.trans (hb.mono B_base.out.size))
  have B_a := Lib.hid (B_a.out.trans (hb.mono B_a.out.size))
  have B_b := Lib.hid (B_b.out.trans (hb.mono B_b.out.size))
  clear hb
  obtain ⟨K', R', T', tl', hany⟩ := narrow_any K2 R2 T2
  have HAN := Lib.hid hany
  have HH := Lib.hid h
  clear hany h
  have hc := narrow_bad v0 E (HE.out v0 B_base.out) K R A n c T (HR_a.out v0 B_a.out).1 hm tl HH.out
  unfold ruleV at hc
  have HC1 := Lib.hid hc
  clear hc
  go_wp2_with fail
  clear a_0 a_1 a_2 b_0 b_1 b_2 hl_a hl_b
  refine (HC1.out).mono ?_
  rintro e v1 ⟨C_m, N_m, d_m, x_m, rfl, ho, he, hb⟩
  have he' : ErrIs v1 E (tl).1 (tl).2 x_m := he
  obtain ⟨U_m, Q_m, rfl⟩ := he'.iface
  clear he
  have hN : N_m = 0 := (Sl.of_own ho).1.symm
  subst hN
  have q := B_a.out.trans (hb.mono B_a.out.size)
  obtain ⟨_, a_0, a_1, a_2⟩ := HR_a.out v1 q
  have hl_a : w.heap.size < v1.heap.size := Nat.lt_of_lt_of_le HV_a.out q.size
  clear q
  have q := B_b.out.trans (hb.mono B_b.out.size)
  obtain ⟨_, b_0, b_1, b_2⟩ := HR_b.out v1 q
  have hl_b : w.heap.size + 1 < v1.heap.size := Nat.lt_of_lt_of_le HV_b.out q.size
  clear q
  have ba := (Below.refl v1.heap.size v1).alloc (Nat.le_refl _) (.cells #[.int .i64 0, .int .i64 0, .slice C_m 0 d_m] 24)
  obtain ⟨u2, hu⟩ : ∃ u, v1.alloc (.cells #[.int .i64 0, .int .i64 0, .slice C_m 0 d_m] 24) = u := ⟨_, rfl⟩
  rw [hu] at ba
  have HU2 := Lib.hid hu
  have hst := hb.trans (ba.mono hb.size)
  have HEV_m := Lib.hid (he'.below ba)
  clear he'
  have B_base := Lib.hid (B_base.out.trans (hst.mono B_base.out.size))
  have B_a := Lib.hid (B_a.out.trans (hst.mono B_a.out.size))
  have B_b := Lib.hid (B_b.out.trans (hst.mono B_b.out.size))
  clear hst ba hu ho hb
  have hc := HAN.out u2 E B m d (HE.out u2 B_base.out) (HR_b.out u2 B_b.out).1 hm2
  unfold ruleV at hc
  have HC2 := Lib.hid hc
  clear hc
  unfold ruleV
  go_wp2_with fail
  rw [HU2.out]
  clear a_0 a_1 a_2 b_0 b_1 b_2 hl_a hl_b
  refine (HC2.out).mono ?_
  rintro e v2 ⟨C_n, N_n, d_n, x_n, rfl, ho, he, hb⟩
  have q := B_a.out.trans (hb.mono B_a.out.size)
  obtain ⟨_, a_0, a_1, a_2⟩ := HR_a.out v2 q
  have hl_a : w.heap.size < v2.heap.size := Nat.lt_of_lt_of_le HV_a.out q.size
  clear q
  have q := B_b.out.trans (hb.mono B_b.out.size)
  obtain ⟨_, b_0, b_1, b_2⟩ := HR_b.out v2 q
  have hl_b : w.heap.size + 1 < v2.heap.size := Nat.lt_of_lt_of_le HV_b.out q.size
  clear q
  have ba := (Below.refl v2.heap.size v2).alloc (Nat.le_refl _) (.cells #[.int .i64 K', .int .i64 R', .slice C_n N_n d_n] 24)
  obtain ⟨u3, hu⟩ : ∃ u, v2.alloc (.cells #[.int .i64 K', .int .i64 R', .slice C_n N_n d_n] 24) = u := ⟨_, rfl⟩
  rw [hu] at ba
  have HU3 := Lib.hid hu
  have hst := hb.trans (ba.mono hb.size)
  clear he
  have B_base := Lib.hid (B_base.out.trans (hst.mono B_base.out.size))
  have B_a := Lib.hid (B_a.out.trans (hst.mono B_a.out.size))
  have B_b := Lib.hid (B_b.out.trans (hst.mono B_b.out.size))
  clear hst ba hu ho hb
  have hc := same_bad1 u3 E (HE.out u3 B_base.out) K R K2 R2 A B n c m d T (HR_a.out u3 B_a.out).1 hm tl HH.out
  unfold ruleV at hc
  have HC3 := Lib.hid hc
  clear hc
  unfold ruleV
  go_wp2_with fail
  rw [HU3.out]
  clear a_0 a_1 a_2 b_0 b_1 b_2 hl_a hl_b
  refine (HC3.out).mono ?_
  rintro e v3 ⟨xe, rfl, he, hb⟩
  have he' : ErrIs v3 E tl.1 tl.2 xe := he
  obtain ⟨U_s, Q_s, rfl⟩ := he'.iface
  clear he he'
  have B_base := Lib.hid (B_base.out.trans (hb.mono B_base.out.size))
  have B_a := Lib.hid (B_a.out.trans (hb.mono B_a.out.size))
  have B_b := Lib.hid (B_b.out.trans (hb.mono B_b.out.size))
  clear hb
  have HZZ2 := Lib.hid (HZZ.out.trans (B_base.out.mono HZZ.out.size))
  go_wp2_with fail
  go_ret
  exact ⟨rfl, HZZ2.out⟩

set_option maxRecDepth 100000 in
set_option maxHeartbeats 4000000 in
theorem formsSames_bad2 (w : World) (E : Nat → Addr) (hE : Errs w E) (k r : Nat) (K2 R2 : Int) (A B : Option Addr) (n c m d : Nat) (t : List Nat) (T2 : List Int) (q : Int) (hS : Sl w A n ((ints t).map (Value.int .i64))) (hS2 : Sl w B m (T2.map (Value.int .i64))) (hm : n ≤ 9223372036854775807) (hm2 : m ≤ 9223372036854775807) (hr : IsRule k r t) (tl : Tale) (h : checkF 0 K2 R2 T2 = some tl) :
    Calls Tryd.prog 4 #[ruleV k r A n c, ruleV K2 R2 B m d, .int .i64 q] w fun e w' => e = .returned (.bool true) ∧ Below w.heap.size w w' := by
  have hb1 := (Below.refl w.heap.size w).alloc (Nat.le_refl _) (.cells #[.int .i64 (k : Int), .int .i64 (r : Int), .slice A n c] 24)
  have hb2 := hb1.alloc (by simp) (.cells #[.int .i64 K2, .int .i64 R2, .slice B m d] 24)
  have hr0 := (RuleAt.new w (.int .i64 (k : Int)) (.int .i64 (r : Int)) (.slice A n c)).alloc (.cells #[.int .i64 K2, .int .i64 R2, .slice B m d] 24)
  have hr1 := RuleAt.new (w.alloc (.cells #[.int .i64 (k : Int), .int .i64 (r : Int), .slice A n c] 24)) (.int .i64 K2) (.int .i64 R2) (.slice B m d)
  simp only [World.size_alloc] at hr1
  obtain ⟨W, hW⟩ : ∃ W, (w.alloc (.cells #[.int .i64 (k : Int), .int .i64 (r : Int), .slice A n c] 24)).alloc (.cells #[.int .i64 K2, .int .i64 R2, .slice B m d] 24) = W := ⟨_, rfl⟩
  rw [hW] at hb2 hr0 hr1
  have HE := Lib.hid (fun (wz : World) (hz : Below W.heap.size W wz) => hE.below (hb2.trans (hz.mono hb2.size)))
  have HR_a := Lib.hid (fun (wz : World) (hz : Below W.heap.size W wz) => (⟨hS.below (hb2.trans (hz.mono hb2.size)), (hr0.below hz hr0.lt).facts.1, (hr0.below hz hr0.lt).facts.2.1, (hr0.below hz hr0.lt).facts.2.2.1⟩ : _ ∧ _ ∧ _ ∧ _))
  have HR_b := Lib.hid (fun (wz : World) (hz : Below W.heap.size W wz) => (⟨hS2.below (hb2.trans (hz.mono hb2.size)), (hr1.below hz hr1.lt).facts.1, (hr1.below hz hr1.lt).facts.2.1, (hr1.below hz hr1.lt).facts.2.2.1⟩ : _ ∧ _ ∧ _ ∧ _))
  have HV_a := Lib.hid (show w.heap.size < W.heap.size from hr0.lt)
  have HV_b := Lib.hid (show w.heap.size + 1 < W.heap.size from hr1.lt)
  have HZZ := Lib.hid hb2
  have HUW := Lib.hid hW
  have B_base := Lib.hid (Below.refl W.heap.size W)
  have B_a := B_base
  have B_b := B_base
  clear hb1 hb2 hr0 hr1 hW hE hS hS2
  unfold ruleV at *
  go_enter Tryd.func4, Tryd.ntmps4
  have hc := awake5_c W E (HE.out W B_base.out)
  unfold ruleV at hc
  have HC0 := Lib.hid hc
  clear hc
  go_wp2_with fail
  rw [HUW.out]
  refine (HC0.out).mono ?_
  rintro e v0 ⟨rfl, hb⟩
  have q := B_a.out.trans (hb.mono B_a.out.size)
  obtain ⟨_, a_0, a_1, a_2⟩ := HR_a.out v0 q
  have hl_a : w.heap.size < v0.heap.size := Nat.lt_of_lt_of_le HV_a.out q.size
  clear q
  have q := B_b.out.trans (hb.mono B_b.out.size)
  obtain ⟨_, b_0, b_1, b_2⟩ := HR_b.out v0 q
  have hl_b : w.heap.size + 1 < v0.heap.size := Nat.lt_of_lt_of_le HV_b.out q.size
  clear q
  have B_base := Lib.hid (B_base.out.trans (hb.mono B_base.out.size))
  have B_a := Lib.hid (B_a.out.trans (hb.mono B_a.out.size))
  have B_b := Lib.hid (B_b.out.trans (hb.mono B_b.out.size))
  clear hb
  obtain ⟨tl', h1⟩ := checkF_one h
  have HH := Lib.hid h
  have HH1 := Lib.hid h1
  have HRU := Lib.hid hr
  clear h h1 hr
  have hc := narrow_good v0 E (HE.out v0 B_base.out) k r A n c t HRU.out (HR_a.out v0 B_a.out).1
  obtain ⟨R9, hR9⟩ : ∃ R9, (narrow k r t).1 = R9 := ⟨_, rfl⟩
  rw [hR9] at hc
  clear hR9
  unfold ruleV at hc
  have HC1 := Lib.hid hc
  clear hc
  go_wp2_with fail
  clear a_0 a_1 a_2 b_0 b_1 b_2 hl_a hl_b
  refine (HC1.out).mono ?_
  rintro e v1 ⟨C_m, N_m, d_m, x_m, rfl, ho, he, hb⟩
  have he' : x_m = .nilIface := he
  clear he
  subst he'
  have q := B_a.out.trans (hb.mono B_a.out.size)
  obtain ⟨_, a_0, a_1, a_2⟩ := HR_a.out v1 q
  have hl_a : w.heap.size < v1.heap.size := Nat.lt_of_lt_of_le HV_a.out q.size
  clear q
  have q := B_b.out.trans (hb.mono B_b.out.size)
  obtain ⟨_, b_0, b_1, b_2⟩ := HR_b.out v1 q
  have hl_b : w.heap.size + 1 < v1.heap.size := Nat.lt_of_lt_of_le HV_b.out q.size
  clear q
  have ba := (Below.refl v1.heap.size v1).alloc (Nat.le_refl _) (.cells #[.int .i64 (k : Int), .int .i64 (R9 : Int), .slice C_m N_m d_m] 24)
  obtain ⟨u2, hu⟩ : ∃ u, v1.alloc (.cells #[.int .i64 (k : Int), .int .i64 (R9 : Int), .slice C_m N_m d_m] 24) = u := ⟨_, rfl⟩
  rw [hu] at ba
  have HU2 := Lib.hid hu
  have hst := hb.trans (ba.mono hb.size)
  have B_base := Lib.hid (B_base.out.trans (hst.mono B_base.out.size))
  have B_a := Lib.hid (B_a.out.trans (hst.mono B_a.out.size))
  have B_b := Lib.hid (B_b.out.trans (hst.mono B_b.out.size))
  clear hst ba hu ho hb
  have hc := narrow_bad u2 E (HE.out u2 B_base.out) K2 R2 B m d T2 (HR_b.out u2 B_b.out).1 hm2 tl HH.out
  unfold ruleV at hc
  have HC2 := Lib.hid hc
  clear hc
  unfold ruleV
  go_wp2_with fail
  rw [HU2.out]
  clear a_0 a_1 a_2 b_0 b_1 b_2 hl_a hl_b
  refine (HC2.out).mono ?_
  rintro e v2 ⟨C_n, N_n, d_n, x_n, rfl, ho, he, hb⟩
  have he' : ErrIs v2 E (tl).1 (tl).2 x_n := he
  obtain ⟨U_n, Q_n, rfl⟩ := he'.iface
  clear he
  have hN : N_n = 0 := (Sl.of_own ho).1.symm
  subst hN
  have q := B_a.out.trans (hb.mono B_a.out.size)
  obtain ⟨_, a_0, a_1, a_2⟩ := HR_a.out v2 q
  have hl_a : w.heap.size < v2.heap.size := Nat.lt_of_lt_of_le HV_a.out q.size
  clear q
  have q := B_b.out.trans (hb.mono B_b.out.size)
  obtain ⟨_, b_0, b_1, b_2⟩ := HR_b.out v2 q
  have hl_b : w.heap.size + 1 < v2.heap.size := Nat.lt_of_lt_of_le HV_b.out q.size
  clear q
  have ba := (Below.refl v2.heap.size v2).alloc (Nat.le_refl _) (.cells #[.int .i64 0, .int .i64 0, .slice C_n 0 d_n] 24)
  obtain ⟨u3, hu⟩ : ∃ u, v2.alloc (.cells #[.int .i64 0, .int .i64 0, .slice C_n 0 d_n] 24) = u := ⟨_, rfl⟩
  rw [hu] at ba
  have HU3 := Lib.hid hu
  have hst := hb.trans (ba.mono hb.size)
  have HEV_n := Lib.hid (he'.below ba)
  clear he'
  have B_base := Lib.hid (B_base.out.trans (hst.mono B_base.out.size))
  have B_a := Lib.hid (B_a.out.trans (hst.mono B_a.out.size))
  have B_b := Lib.hid (B_b.out.trans (hst.mono B_b.out.size))
  clear hst ba hu ho hb
  have hc := same_bad2 u3 E (HE.out u3 B_base.out) k r A B n c m d t HRU.out (HR_a.out u3 B_a.out).1 K2 R2 T2 (HR_b.out u3 B_b.out).1 hm2 tl' HH1.out
  unfold ruleV at hc
  have HC3 := Lib.hid hc
  clear hc
  unfold ruleV
  go_wp2_with fail
  rw [HU3.out]
  clear a_0 a_1 a_2 b_0 b_1 b_2 hl_a hl_b
  refine (HC3.out).mono ?_
  rintro e v3 ⟨xe, rfl, he, hb⟩
  have he' : ErrIs v3 E tl'.1 tl'.2 xe := he
  obtain ⟨U_s, Q_s, rfl⟩ := he'.iface
  clear he he'
  have B_base := Lib.hid (B_base.out.trans (hb.mono B_base.out.size))
  have B_a := Lib.hid (B_a.out.trans (hb.mono B_a.out.size))
  have B_b := Lib.hid (B_b.out.trans (hb.mono B_b.out.size))
  clear hb
  have HZZ2 := Lib.hid (HZZ.out.trans (B_base.out.mono HZZ.out.size))
  go_wp2_with fail
  go_ret
  exact ⟨rfl, HZZ2.out⟩

set_option maxRecDepth 100000 in
set_option maxHeartbeats 8000000 in
theorem formsSames_good (w : World) (E : Nat → Addr) (hE : Errs w E) (hT : ErrT w) (k r k2 r2 : Nat) (A B : Option Addr) (n c m d : Nat) (t t2 : List Nat) (q : Int) (hS : Sl w A n ((ints t).map (Value.int .i64))) (hS2 : Sl w B m ((ints t2).map (Value.int .i64))) (hm : n ≤ 9223372036854775807) (hm2 : m ≤ 9223372036854775807) (hr : IsRule k r t) (hr2 : IsRule k2 r2 t2) :
    Calls Tryd.prog 4 #[ruleV k r A n c, ruleV k2 r2 B m d, .int .i64 q] w fun e w' => e = .returned (.bool true) ∧ Below w.heap.size w w' := by
  have hb1 := (Below.refl w.heap.size w).alloc (Nat.le_refl _) (.cells #[.int .i64 (k : Int), .int .i64 (r : Int), .slice A n c] 24)
  have hb2 := hb1.alloc (by simp) (.cells #[.int .i64 (k2 : Int), .int .i64 (r2 : Int), .slice B m d] 24)
  have hr0 := (RuleAt.new w (.int .i64 (k : Int)) (.int .i64 (r : Int)) (.slice A n c)).alloc (.cells #[.int .i64 (k2 : Int), .int .i64 (r2 : Int), .slice B m d] 24)
  have hr1 := RuleAt.new (w.alloc (.cells #[.int .i64 (k : Int), .int .i64 (r : Int), .slice A n c] 24)) (.int .i64 (k2 : Int)) (.int .i64 (r2 : Int)) (.slice B m d)
  simp only [World.size_alloc] at hr1
  obtain ⟨W, hW⟩ : ∃ W, (w.alloc (.cells #[.int .i64 (k : Int), .int .i64 (r : Int), .slice A n c] 24)).alloc (.cells #[.int .i64 (k2 : Int), .int .i64 (r2 : Int), .slice B m d] 24) = W := ⟨_, rfl⟩
  rw [hW] at hb2 hr0 hr1
  have HE := Lib.hid (fun (wz : World) (hz : Below W.heap.size W wz) => hE.below (hb2.trans (hz.mono hb2.size)))
  have HET := Lib.hid (fun (wz : World) (hz : Below W.heap.size W wz) => hT.below (hb2.trans (hz.mono hb2.size)))
  have HR_a := Lib.hid (fun (wz : World) (hz : Below W.heap.size W wz) => (⟨hS.below (hb2.trans (hz.mono hb2.size)), (hr0.below hz hr0.lt).facts.1, (hr0.below hz hr0.lt).facts.2.1, (hr0.below hz hr0.lt).facts.2.2.1⟩ : _ ∧ _ ∧ _ ∧ _))
  have HR_b := Lib.hid (fun (wz : World) (hz : Below W.heap.size W wz) => (⟨hS2.below (hb2.trans (hz.mono hb2.size)), (hr1.below hz hr1.lt).facts.1, (hr1.below hz hr1.lt).facts.2.1, (hr1.below hz hr1.lt).facts.2.2.1⟩ : _ ∧ _ ∧ _ ∧ _))
  have HV_a := Lib.hid (show w.heap.size < W.heap.size from hr0.lt)
  have HV_b := Lib.hid (show w.heap.size + 1 < W.heap.size from hr1.lt)
  have HZZ := Lib.hid hb2
  have HUW := Lib.hid hW
  have B_base := Lib.hid (Below.refl W.heap.size W)
  have B_a := B_base
  have B_b := B_base
  clear hb1 hb2 hr0 hr1 hW hE hS hS2 hT
  unfold ruleV at *
  go_enter Tryd.func4, Tryd.ntmps4
  have hc := awake5_c W E (HE.out W B_base.out)
  unfold ruleV at hc
  have HC0 := Lib.hid hc
  clear hc
  go_wp2_with fail
  rw [HUW.out]
  refine (HC0.out).mono ?_
  rintro e v0 ⟨rfl, hb⟩
  have q := B_a.out.trans (hb.mono B_a.out.size)
  obtain ⟨_, a_0, a_1, a_2⟩ := HR_a.out v0 q
  have hl_a : w.heap.size < v0.heap.size := Nat.lt_of_lt_of_le HV_a.out q.size
  clear q
  have q := B_b.out.trans (hb.mono B_b.out.size)
  obtain ⟨_, b_0, b_1, b_2⟩ := HR_b.out v0 q
  have hl_b : w.heap.size + 1 < v0.heap.size := Nat.lt_of_lt_of_le HV_b.out q.size
  clear q
  have B_base := Lib.hid (B_base.out.trans (hb.mono B_base.out.size))
  have B_a := Lib.hid (B_a.out.trans (hb.mono B_a.out.size))
  have B_b := Lib.hid (B_b.out.trans (hb.mono B_b.out.size))
  clear hb
  obtain ⟨R9, hR9⟩ : ∃ R9, (narrow k r t).1 = R9 := ⟨_, rfl⟩
  obtain ⟨t9, ht9⟩ : ∃ t9, (narrow k r t).2 = t9 := ⟨_, rfl⟩
  obtain ⟨R8, hR8⟩ : ∃ R8, (narrow k2 r2 t2).1 = R8 := ⟨_, rfl⟩
  obtain ⟨t8, ht8⟩ : ∃ t8, (narrow k2 r2 t2).2 = t8 := ⟨_, rfl⟩
  have hp9 : narrow k r t = (R9, t9) := by rw [← hR9, ← ht9]
  have hp8 : narrow k2 r2 t2 = (R8, t8) := by rw [← hR8, ← ht8]
  have HRU := Lib.hid hr
  have HRU2 := Lib.hid hr2
  have HR9 := Lib.hid (show IsRule k R9 t9 by have h := narrow_rule hr; rw [hp9] at h; exact h)
  have HI9 := Lib.hid (show narrow k R9 t9 = (R9, t9) by have h := @narrow_idem k r t; rw [hp9] at h; exact h)
  have HLE := Lib.hid (show R9 ≤ r by have h := @narrow_le k r t; rw [hp9] at h; exact h)
  have HP9 := Lib.hid hp9
  have HP8 := Lib.hid hp8
  have hr3 := hr.r3
  obtain ⟨X, hX⟩ : ∃ X, decide (k = k2 ∧ (R9, t9) = (R8, t8)) = X := ⟨_, rfl⟩
  have HX1 := Lib.hid hX
  have HX2 := Lib.hid (show decide ((k : Int) = (k2 : Int) ∧ (R9 : Int) = (R8 : Int) ∧ ints t9 = ints t8) = X by
    rw [← hX, decide_eq_decide]
    constructor
    · rintro ⟨h1, h2, h3⟩
      exact ⟨by omega, by rw [show R9 = R8 by omega, ints_inj h3]⟩
    · rintro ⟨h1, h2⟩
      injection h2 with h2 h3
      exact ⟨by rw [h1], by rw [h2], by rw [h3]⟩)
  clear hR9 ht9 hR8 ht8 hp9 hp8 hX hr hr2
  have hc := narrow_good v0 E (HE.out v0 B_base.out) k r A n c t HRU.out (HR_a.out v0 B_a.out).1
  rw [HP9.out] at hc
  unfold ruleV at hc
  have HC1 := Lib.hid hc
  clear hc
  go_wp2_with fail
  clear a_0 a_1 a_2 b_0 b_1 b_2 hl_a hl_b
  refine (HC1.out).mono ?_
  rintro e v1 ⟨C_m, N_m, d_m, xe, rfl, ho, he, hb⟩
  have he' : xe = .nilIface := he
  clear he
  subst he'
  have q := B_a.out.trans (hb.mono B_a.out.size)
  obtain ⟨_, a_0, a_1, a_2⟩ := HR_a.out v1 q
  have hl_a : w.heap.size < v1.heap.size := Nat.lt_of_lt_of_le HV_a.out q.size
  clear q
  have q := B_b.out.trans (hb.mono B_b.out.size)
  obtain ⟨_, b_0, b_1, b_2⟩ := HR_b.out v1 q
  have hl_b : w.heap.size + 1 < v1.heap.size := Nat.lt_of_lt_of_le HV_b.out q.size
  clear q
  have ba := (Below.refl v1.heap.size v1).alloc (Nat.le_refl _) (.cells #[.int .i64 (k : Int), .int .i64 (R9 : Int), .slice C_m N_m d_m] 24)
  have hx := RuleAt.new v1 (.int .i64 (k : Int)) (.int .i64 (R9 : Int)) (.slice C_m N_m d_m)
  obtain ⟨u2, hu⟩ : ∃ u, v1.alloc (.cells #[.int .i64 (k : Int), .int .i64 (R9 : Int), .slice C_m N_m d_m] 24) = u := ⟨_, rfl⟩
  rw [hu] at ba hx
  have HU2 := Lib.hid hu
  have HV_m := Lib.hid (show v1.heap.size < u2.heap.size from hx.lt)
  have hw := (Row.of ho).below ba
  have HR_m := Lib.hid (fun (wz : World) (hz : Below u2.heap.size u2 wz) => (⟨hw.below hz, (hx.below hz hx.lt).facts.1, (hx.below hz hx.lt).facts.2.1, (hx.below hz hx.lt).facts.2.2.1⟩ : _ ∧ _ ∧ _ ∧ _))
  have HS_m := Lib.hid hb.size
  have hst := hb.trans (ba.mono hb.size)
  have B_base := Lib.hid (B_base.out.trans (hst.mono B_base.out.size))
  have B_a := Lib.hid (B_a.out.trans (hst.mono B_a.out.size))
  have B_b := Lib.hid (B_b.out.trans (hst.mono B_b.out.size))
  have B_m := Lib.hid (Below.refl u2.heap.size u2)
  clear hw hst ba hx hu ho hb
  have hc := narrow_good u2 E (HE.out u2 B_base.out) k2 r2 B m d t2 HRU2.out (HR_b.out u2 B_b.out).1
  rw [HP8.out] at hc
  unfold ruleV at hc
  have HC2 := Lib.hid hc
  clear hc
  unfold ruleV
  go_wp2_with fail
  rw [HU2.out]
  clear a_0 a_1 a_2 b_0 b_1 b_2 hl_a hl_b
  refine (HC2.out).mono ?_
  rintro e v2 ⟨C_n, N_n, d_n, xe, rfl, ho, he, hb⟩
  have he' : xe = .nilIface := he
  clear he
  subst he'
  have q := B_a.out.trans (hb.mono B_a.out.size)
  obtain ⟨_, a_0, a_1, a_2⟩ := HR_a.out v2 q
  have hl_a : w.heap.size < v2.heap.size := Nat.lt_of_lt_of_le HV_a.out q.size
  clear q
  have q := B_b.out.trans (hb.mono B_b.out.size)
  obtain ⟨_, b_0, b_1, b_2⟩ := HR_b.out v2 q
  have hl_b : w.heap.size + 1 < v2.heap.size := Nat.lt_of_lt_of_le HV_b.out q.size
  clear q
  have ba := (Below.refl v2.heap.size v2).alloc (Nat.le_refl _) (.cells #[.int .i64 (k2 : Int), .int .i64 (R8 : Int), .slice C_n N_n d_n] 24)
  have hx := RuleAt.new v2 (.int .i64 (k2 : Int)) (.int .i64 (R8 : Int)) (.slice C_n N_n d_n)
  obtain ⟨u3, hu⟩ : ∃ u, v2.alloc (.cells #[.int .i64 (k2 : Int), .int .i64 (R8 : Int), .slice C_n N_n d_n] 24) = u := ⟨_, rfl⟩
  rw [hu] at ba hx
  have HU3 := Lib.hid hu
  have HV_n := Lib.hid (show v2.heap.size < u3.heap.size from hx.lt)
  have hw := (Row.of ho).below ba
  have HR_n := Lib.hid (fun (wz : World) (hz : Below u3.heap.size u3 wz) => (⟨hw.below hz, (hx.below hz hx.lt).facts.1, (hx.below hz hx.lt).facts.2.1, (hx.below hz hx.lt).facts.2.2.1⟩ : _ ∧ _ ∧ _ ∧ _))
  have HS_n := Lib.hid hb.size
  have hst := hb.trans (ba.mono hb.size)
  have B_base := Lib.hid (B_base.out.trans (hst.mono B_base.out.size))
  have B_a := Lib.hid (B_a.out.trans (hst.mono B_a.out.size))
  have B_b := Lib.hid (B_b.out.trans (hst.mono B_b.out.size))
  have B_m := Lib.hid (B_m.out.trans (hst.mono B_m.out.size))
  have B_n := Lib.hid (Below.refl u3.heap.size u3)
  clear hw hst ba hx hu ho hb
  have hc := same_good u3 E (HE.out u3 B_base.out) k r A B n c m d t HRU.out (HR_a.out u3 B_a.out).1 k2 r2 t2 HRU2.out (HR_b.out u3 B_b.out).1
  rw [HP9.out, HP8.out, HX1.out] at hc
  unfold ruleV at hc
  have HC3 := Lib.hid hc
  clear hc
  unfold ruleV
  go_wp2_with fail
  rw [HU3.out]
  clear a_0 a_1 a_2 b_0 b_1 b_2 hl_a hl_b
  refine (HC3.out).mono ?_
  rintro e v3 ⟨xe, rfl, he, hb⟩
  have he' : xe = .nilIface := he
  clear he
  subst he'
  have q := B_a.out.trans (hb.mono B_a.out.size)
  obtain ⟨_, a_0, a_1, a_2⟩ := HR_a.out v3 q
  have hl_a : w.heap.size < v3.heap.size := Nat.lt_of_lt_of_le HV_a.out q.size
  clear q
  have q := B_m.out.trans (hb.mono B_m.out.size)
  obtain ⟨_, m_0, m_1, m_2⟩ := HR_m.out v3 q
  have hl_m : v1.heap.size < v3.heap.size := Nat.lt_of_lt_of_le HV_m.out q.size
  clear q
  have B_base := Lib.hid (B_base.out.trans (hb.mono B_base.out.size))
  have B_a := Lib.hid (B_a.out.trans (hb.mono B_a.out.size))
  have B_b := Lib.hid (B_b.out.trans (hb.mono B_b.out.size))
  have B_m := Lib.hid (B_m.out.trans (hb.mono B_m.out.size))
  have B_n := Lib.hid (B_n.out.trans (hb.mono B_n.out.size))
  clear hb
  have hc := same_good v3 E (HE.out v3 B_base.out) k r A C_m n c N_m d_m t HRU.out (HR_a.out v3 B_a.out).1 k R9 t9 HR9.out (HR_m.out v3 B_m.out).1.sl
  rw [HP9.out, HI9.out, decide_eq_true ⟨rfl, rfl⟩] at hc
  unfold ruleV at hc
  have HC4 := Lib.hid hc
  clear hc
  go_wp2_with fail
  clear a_0 a_1 a_2 m_0 m_1 m_2 hl_a hl_m
  refine (HC4.out).mono ?_
  rintro e v4 ⟨xe, rfl, he, hb⟩
  have he' : xe = .nilIface := he
  clear he
  subst he'
  have q := B_m.out.trans (hb.mono B_m.out.size)
  obtain ⟨_, m_0, m_1, m_2⟩ := HR_m.out v4 q
  have hl_m : v1.heap.size < v4.heap.size := Nat.lt_of_lt_of_le HV_m.out q.size
  clear q
  have B_base := Lib.hid (B_base.out.trans (hb.mono B_base.out.size))
  have B_a := Lib.hid (B_a.out.trans (hb.mono B_a.out.size))
  have B_b := Lib.hid (B_b.out.trans (hb.mono B_b.out.size))
  have B_m := Lib.hid (B_m.out.trans (hb.mono B_m.out.size))
  have B_n := Lib.hid (B_n.out.trans (hb.mono B_n.out.size))
  clear hb
  have hc := narrow_good v4 E (HE.out v4 B_base.out) k R9 C_m N_m d_m t9 HR9.out (HR_m.out v4 B_m.out).1.sl
  rw [HI9.out] at hc
  unfold ruleV at hc
  have HC5 := Lib.hid hc
  clear hc
  go_wp2_with fail
  clear m_0 m_1 m_2 hl_m
  refine (HC5.out).mono ?_
  rintro e v5 ⟨C_se, N_se, d_se, xe, rfl, ho, he, hb⟩
  have he' : xe = .nilIface := he
  clear he
  subst he'
  have q := B_m.out.trans (hb.mono B_m.out.size)
  obtain ⟨_, m_0, m_1, m_2⟩ := HR_m.out v5 q
  have hl_m : v1.heap.size < v5.heap.size := Nat.lt_of_lt_of_le HV_m.out q.size
  clear q
  have q := B_n.out.trans (hb.mono B_n.out.size)
  obtain ⟨_, n_0, n_1, n_2⟩ := HR_n.out v5 q
  have hl_n : v2.heap.size < v5.heap.size := Nat.lt_of_lt_of_le HV_n.out q.size
  clear q
  have ba := (Below.refl v5.heap.size v5).alloc (Nat.le_refl _) (.cells #[.int .i64 (k : Int), .int .i64 (R9 : Int), .slice C_se N_se d_se] 24)
  have hx := RuleAt.new v5 (.int .i64 (k : Int)) (.int .i64 (R9 : Int)) (.slice C_se N_se d_se)
  obtain ⟨u6, hu⟩ : ∃ u, v5.alloc (.cells #[.int .i64 (k : Int), .int .i64 (R9 : Int), .slice C_se N_se d_se] 24) = u := ⟨_, rfl⟩
  rw [hu] at ba hx
  have HU6 := Lib.hid hu
  have HV_se := Lib.hid (show v5.heap.size < u6.heap.size from hx.lt)
  have hw := (Row.of ho).below ba
  have HR_se := Lib.hid (fun (wz : World) (hz : Below u6.heap.size u6 wz) => (⟨hw.below hz, (hx.below hz hx.lt).facts.1, (hx.below hz hx.lt).facts.2.1, (hx.below hz hx.lt).facts.2.2.1⟩ : _ ∧ _ ∧ _ ∧ _))
  have HS_se := Lib.hid hb.size
  have hst := hb.trans (ba.mono hb.size)
  have B_base := Lib.hid (B_base.out.trans (hst.mono B_base.out.size))
  have B_a := Lib.hid (B_a.out.trans (hst.mono B_a.out.size))
  have B_b := Lib.hid (B_b.out.trans (hst.mono B_b.out.size))
  have B_m := Lib.hid (B_m.out.trans (hst.mono B_m.out.size))
  have B_n := Lib.hid (B_n.out.trans (hst.mono B_n.out.size))
  have B_se := Lib.hid (Below.refl u6.heap.size u6)
  clear hw hst ba hx hu ho hb
  have hc := rules_b u6 k R9 k2 R8 C_m C_n N_m N_n d_m d_n _ _ (HR_m.out u6 B_m.out).1.sl (HR_n.out u6 B_n.out).1.sl (by have := own_le (HR_m.out u6 B_m.out).1.own; simp only [maxLen] at this; omega) (by have := own_le (HR_n.out u6 B_n.out).1.own; simp only [maxLen] at this; omega)
  rw [HX2.out] at hc
  unfold ruleV at hc
  have HC6 := Lib.hid hc
  clear hc
  unfold ruleV
  go_wp2_with fail
  rw [HU6.out]
  clear m_0 m_1 m_2 n_0 n_1 n_2 hl_m hl_n
  refine (HC6.out).mono ?_
  rintro e v6 ⟨rfl, hb⟩
  have q := B_se.out.trans (hb.mono B_se.out.size)
  obtain ⟨_, se_0, se_1, se_2⟩ := HR_se.out v6 q
  have hl_se : v5.heap.size < v6.heap.size := Nat.lt_of_lt_of_le HV_se.out q.size
  clear q
  have q := B_m.out.trans (hb.mono B_m.out.size)
  obtain ⟨_, m_0, m_1, m_2⟩ := HR_m.out v6 q
  have hl_m : v1.heap.size < v6.heap.size := Nat.lt_of_lt_of_le HV_m.out q.size
  clear q
  have B_base := Lib.hid (B_base.out.trans (hb.mono B_base.out.size))
  have B_a := Lib.hid (B_a.out.trans (hb.mono B_a.out.size))
  have B_b := Lib.hid (B_b.out.trans (hb.mono B_b.out.size))
  have B_m := Lib.hid (B_m.out.trans (hb.mono B_m.out.size))
  have B_n := Lib.hid (B_n.out.trans (hb.mono B_n.out.size))
  have B_se := Lib.hid (B_se.out.trans (hb.mono B_se.out.size))
  clear hb
  have hc := rules_b v6 k R9 k R9 C_se C_m N_se N_m d_se d_m _ _ (HR_se.out v6 B_se.out).1.sl (HR_m.out v6 B_m.out).1.sl (by have := own_le (HR_se.out v6 B_se.out).1.own; simp only [maxLen] at this; omega) (by have := own_le (HR_m.out v6 B_m.out).1.own; simp only [maxLen] at this; omega)
  rw [decide_eq_true ⟨rfl, rfl, rfl⟩] at hc
  unfold ruleV at hc
  have HC7 := Lib.hid hc
  clear hc
  go_wp2_with fail
  clear se_0 se_1 se_2 m_0 m_1 m_2 hl_se hl_m
  refine (HC7.out).mono ?_
  rintro e v7 ⟨rfl, hb⟩
  have q := B_m.out.trans (hb.mono B_m.out.size)
  obtain ⟨_, m_0, m_1, m_2⟩ := HR_m.out v7 q
  have hl_m : v1.heap.size < v7.heap.size := Nat.lt_of_lt_of_le HV_m.out q.size
  clear q
  have q := B_a.out.trans (hb.mono B_a.out.size)
  obtain ⟨_, a_0, a_1, a_2⟩ := HR_a.out v7 q
  have hl_a : w.heap.size < v7.heap.size := Nat.lt_of_lt_of_le HV_a.out q.size
  clear q
  have B_base := Lib.hid (B_base.out.trans (hb.mono B_base.out.size))
  have B_a := Lib.hid (B_a.out.trans (hb.mono B_a.out.size))
  have B_b := Lib.hid (B_b.out.trans (hb.mono B_b.out.size))
  have B_m := Lib.hid (B_m.out.trans (hb.mono B_m.out.size))
  have B_n := Lib.hid (B_n.out.trans (hb.mono B_n.out.size))
  have B_se := Lib.hid (B_se.out.trans (hb.mono B_se.out.size))
  clear hb
  obtain ⟨sx, dd, hs1, hs2, hs3, hs4, hs5⟩ := rad_in q
  have hle : ¬ (r : Int) < (R9 : Int) := by have := HLE.out; omega
  obtain ⟨qq, hqq⟩ : ∃ qq, r + dd = qq := ⟨_, rfl⟩
  have hqq' : (r : Int) + (dd : Int) = (qq : Int) := by omega
  have HQQ := Lib.hid hqq
  have HD3 := Lib.hid hs5
  have hq6 : qq ≤ 6 := by omega
  clear hqq hs5
  by_cases h3 : 3 < qq
  · have h3' : (3 : Int) < (qq : Int) := by omega
    have hc := widen_arg v7 E (HE.out v7 B_base.out) k r A n c t HRU.out (HR_a.out v7 B_a.out).1 (qq : Int) (.inr h3')
    unfold ruleV at hc
    have HC8 := Lib.hid hc
    clear hc
    go_wp2_with fail
    clear m_0 m_1 m_2 a_0 a_1 a_2 hl_m hl_a
    refine (HC8.out).mono ?_
    rintro e v8 ⟨C_x, N_x, d_x, x_x, rfl, ho, he, hb⟩
    have he' : ErrIs v8 E ((3, [(sForms, 0)])).1 ((3, [(sForms, 0)])).2 x_x := he
    obtain ⟨U_x, Q_x, rfl⟩ := he'.iface
    clear he
    have hN : N_x = 0 := (Sl.of_own ho).1.symm
    subst hN
    have ba := (Below.refl v8.heap.size v8).alloc (Nat.le_refl _) (.cells #[.int .i64 0, .int .i64 0, .slice C_x 0 d_x] 24)
    obtain ⟨u9, hu⟩ : ∃ u, v8.alloc (.cells #[.int .i64 0, .int .i64 0, .slice C_x 0 d_x] 24) = u := ⟨_, rfl⟩
    rw [hu] at ba
    have HU9 := Lib.hid hu
    have hst := hb.trans (ba.mono hb.size)
    have HEV_x := Lib.hid (he'.below ba)
    clear he'
    have B_base := Lib.hid (B_base.out.trans (hst.mono B_base.out.size))
    have B_a := Lib.hid (B_a.out.trans (hst.mono B_a.out.size))
    have B_b := Lib.hid (B_b.out.trans (hst.mono B_b.out.size))
    have B_m := Lib.hid (B_m.out.trans (hst.mono B_m.out.size))
    have B_n := Lib.hid (B_n.out.trans (hst.mono B_n.out.size))
    have B_se := Lib.hid (B_se.out.trans (hst.mono B_se.out.size))
    clear hst ba hu ho hb
    unfold ruleV
    go_wp2_with fail
    rw [HU9.out]
    have HEU := Lib.hid (HE.out u9 B_base.out)
    have HTU := Lib.hid (HET.out u9 B_base.out)
    refine (rawNew_x u9 sForms 0 3).mono ?_
    rintro e w7 ⟨rfl, q1, q2, hb7⟩
    have HIS := Lib.hid (rawIs_some w7 E (HEU.out.below hb7) (HTU.out.below hb7) 3 [(sForms, 0)] (by decide) (by decide) _ _ (HEV_x.out.below hb7) (want_of (n := 3) q1 q2))
    have HB7 := Lib.hid ((HZZ.out.trans (B_base.out.mono HZZ.out.size)).trans (hb7.mono (Nat.le_trans HZZ.out.size B_base.out.size)))
    clear q1 q2 hb7
    go_wp2_with fail
    refine (HIS.out).mono ?_
    rintro e w8 ⟨rfl, hb8⟩
    have HB8 := Lib.hid (HB7.out.trans (hb8.mono HB7.out.size))
    clear hb8
    go_wp2_with fail
    go_ret
    exact ⟨rfl, HB8.out⟩
  · have h3' : ¬ (3 : Int) < (qq : Int) := by omega
    have hc := widen_good v7 E (HE.out v7 B_base.out) k r A n c t HRU.out (HR_a.out v7 B_a.out).1 dd qq HQQ.out (by omega)
    unfold ruleV at hc
    have HC8 := Lib.hid hc
    clear hc
    go_wp2_with fail
    clear m_0 m_1 m_2 a_0 a_1 a_2 hl_m hl_a
    refine (HC8.out).mono ?_
    rintro e v8 ⟨C_x, N_x, d_x, xe, rfl, ho, he, hb⟩
    have he' : xe = .nilIface := he
    clear he
    subst he'
    have q := B_m.out.trans (hb.mono B_m.out.size)
    obtain ⟨_, m_0, m_1, m_2⟩ := HR_m.out v8 q
    have hl_m : v1.heap.size < v8.heap.size := Nat.lt_of_lt_of_le HV_m.out q.size
    clear q
    have ba := (Below.refl v8.heap.size v8).alloc (Nat.le_refl _) (.cells #[.int .i64 (k : Int), .int .i64 (qq : Int), .slice C_x N_x d_x] 24)
    have hx := RuleAt.new v8 (.int .i64 (k : Int)) (.int .i64 (qq : Int)) (.slice C_x N_x d_x)
    obtain ⟨u9, hu⟩ : ∃ u, v8.alloc (.cells #[.int .i64 (k : Int), .int .i64 (qq : Int), .slice C_x N_x d_x] 24) = u := ⟨_, rfl⟩
    rw [hu] at ba hx
    have HU9 := Lib.hid hu
    have HV_x := Lib.hid (show v8.heap.size < u9.heap.size from hx.lt)
    have hw := (Row.of ho).below ba
    have HR_x := Lib.hid (fun (wz : World) (hz : Below u9.heap.size u9 wz) => (⟨hw.below hz, (hx.below hz hx.lt).facts.1, (hx.below hz hx.lt).facts.2.1, (hx.below hz hx.lt).facts.2.2.1⟩ : _ ∧ _ ∧ _ ∧ _))
    have HS_x := Lib.hid hb.size
    have hst := hb.trans (ba.mono hb.size)
    have B_base := Lib.hid (B_base.out.trans (hst.mono B_base.out.size))
    have B_a := Lib.hid (B_a.out.trans (hst.mono B_a.out.size))
    have B_b := Lib.hid (B_b.out.trans (hst.mono B_b.out.size))
    have B_m := Lib.hid (B_m.out.trans (hst.mono B_m.out.size))
    have B_n := Lib.hid (B_n.out.trans (hst.mono B_n.out.size))
    have B_se := Lib.hid (B_se.out.trans (hst.mono B_se.out.size))
    have B_x := Lib.hid (Below.refl u9.heap.size u9)
    clear hw hst ba hx hu ho hb
    have hc := narrow_good u9 E (HE.out u9 B_base.out) k qq C_x N_x d_x (wide k r dd t) (by rw [← HQQ.out]; exact wide_rule HRU.out (by have := HQQ.out; omega)) (HR_x.out u9 B_x.out).1.sl
    rw [← HQQ.out, narrow_wide HRU.out dd, HP9.out, HQQ.out] at hc
    unfold ruleV at hc
    have HC9 := Lib.hid hc
    clear hc
    unfold ruleV
    go_wp2_with fail
    rw [HU9.out]
    clear m_0 m_1 m_2 hl_m
    refine (HC9.out).mono ?_
    rintro e v9 ⟨C_y, N_y, d_y, xe, rfl, ho, he, hb⟩
    have he' : xe = .nilIface := he
    clear he
    subst he'
    have q := B_x.out.trans (hb.mono B_x.out.size)
    obtain ⟨_, x_0, x_1, x_2⟩ := HR_x.out v9 q
    have hl_x : v8.heap.size < v9.heap.size := Nat.lt_of_lt_of_le HV_x.out q.size
    clear q
    have q := B_m.out.trans (hb.mono B_m.out.size)
    obtain ⟨_, m_0, m_1, m_2⟩ := HR_m.out v9 q
    have hl_m : v1.heap.size < v9.heap.size := Nat.lt_of_lt_of_le HV_m.out q.size
    clear q
    have ba := (Below.refl v9.heap.size v9).alloc (Nat.le_refl _) (.cells #[.int .i64 (k : Int), .int .i64 (R9 : Int), .slice C_y N_y d_y] 24)
    have hx := RuleAt.new v9 (.int .i64 (k : Int)) (.int .i64 (R9 : Int)) (.slice C_y N_y d_y)
    obtain ⟨u10, hu⟩ : ∃ u, v9.alloc (.cells #[.int .i64 (k : Int), .int .i64 (R9 : Int), .slice C_y N_y d_y] 24) = u := ⟨_, rfl⟩
    rw [hu] at ba hx
    have HU10 := Lib.hid hu
    have HV_y := Lib.hid (show v9.heap.size < u10.heap.size from hx.lt)
    have hw := (Row.of ho).below ba
    have HR_y := Lib.hid (fun (wz : World) (hz : Below u10.heap.size u10 wz) => (⟨hw.below hz, (hx.below hz hx.lt).facts.1, (hx.below hz hx.lt).facts.2.1, (hx.below hz hx.lt).facts.2.2.1⟩ : _ ∧ _ ∧ _ ∧ _))
    have HS_y := Lib.hid hb.size
    have hst := hb.trans (ba.mono hb.size)
    have B_base := Lib.hid (B_base.out.trans (hst.mono B_base.out.size))
    have B_a := Lib.hid (B_a.out.trans (hst.mono B_a.out.size))
    have B_b := Lib.hid (B_b.out.trans (hst.mono B_b.out.size))
    have B_m := Lib.hid (B_m.out.trans (hst.mono B_m.out.size))
    have B_n := Lib.hid (B_n.out.trans (hst.mono B_n.out.size))
    have B_se := Lib.hid (B_se.out.trans (hst.mono B_se.out.size))
    have B_x := Lib.hid (B_x.out.trans (hst.mono B_x.out.size))
    have B_y := Lib.hid (Below.refl u10.heap.size u10)
    clear hw hst ba hx hu ho hb
    have hc := rules_b u10 k R9 k R9 C_y C_m N_y N_m d_y d_m _ _ (HR_y.out u10 B_y.out).1.sl (HR_m.out u10 B_m.out).1.sl (by have := own_le (HR_y.out u10 B_y.out).1.own; simp only [maxLen] at this; omega) (by have := own_le (HR_m.out u10 B_m.out).1.own; simp only [maxLen] at this; omega)
    rw [decide_eq_true ⟨rfl, rfl, rfl⟩] at hc
    unfold ruleV at hc
    have HC10 := Lib.hid hc
    clear hc
    unfold ruleV
    go_wp2_with fail
    rw [HU10.out]
    clear x_0 x_1 x_2 m_0 m_1 m_2 hl_x hl_m
    refine (HC10.out).mono ?_
    rintro e v10 ⟨rfl, hb⟩
    have B_base := Lib.hid (B_base.out.trans (hb.mono B_base.out.size))
    have B_a := Lib.hid (B_a.out.trans (hb.mono B_a.out.size))
    have B_b := Lib.hid (B_b.out.trans (hb.mono B_b.out.size))
    have B_m := Lib.hid (B_m.out.trans (hb.mono B_m.out.size))
    have B_n := Lib.hid (B_n.out.trans (hb.mono B_n.out.size))
    have B_se := Lib.hid (B_se.out.trans (hb.mono B_se.out.size))
    have B_x := Lib.hid (B_x.out.trans (hb.mono B_x.out.size))
    have B_y := Lib.hid (B_y.out.trans (hb.mono B_y.out.size))
    clear hb
    have HZZ2 := Lib.hid (HZZ.out.trans (B_base.out.mono HZZ.out.size))
    go_wp2_with fail
    go_ret
    exact ⟨rfl, HZZ2.out⟩

theorem formsSames_c (w : World) (E : Nat → Addr) (hE : Errs w E) (hT : ErrT w) (K R K2 R2 q : Int) (A B : Option Addr) (n c m d : Nat) (T T2 : List Int) (hS : Sl w A n (T.map (Value.int .i64))) (hS2 : Sl w B m (T2.map (Value.int .i64))) (hm : n ≤ 9223372036854775807) (hm2 : m ≤ 9223372036854775807) :
    Calls Tryd.prog 4 #[ruleV K R A n c, ruleV K2 R2 B m d, .int .i64 q] w fun e w' => e = .returned (.bool true) ∧ Below w.heap.size w w' := by
  cases h1 : checkF 0 K R T with
  | some tl => exact formsSames_bad1 w E hE K R K2 R2 A B n c m d T T2 q hS hS2 hm hm2 tl h1
  | none =>
    obtain ⟨k, r, t, rfl, rfl, rfl, hr⟩ := checkF_none h1
    cases h2 : checkF 0 K2 R2 T2 with
    | some tl => exact formsSames_bad2 w E hE k r K2 R2 A B n c m d t T2 q hS hS2 hm hm2 hr tl h2
    | none =>
      obtain ⟨k2, r2, t2, rfl, rfl, rfl, hr2⟩ := checkF_none h2
      exact formsSames_good w E hE hT k r k2 r2 A B n c m d t t2 q hS hS2 hm hm2 hr hr2
end Go.Proofs.YtfgnghgmffaepaaDoor
