/- The call of RuleCodes: it returns true. Condition: the lists and limbs read from memory; the error variables hold what E says. -/
import Derived.Test.YtfgjcdfmlpdkaaaDoorLentN
import Derived.Test.YtfgjcdfmlpdkaaaDoorRefG
import Derived.Test.YtfgjcdfmlpdkaaaDoorCodeB
import Derived.Test.YtfgjcdfmlpdkaaaDoorLaw4A
namespace Go.Proofs.YtfgjcdfmlpdkaaaDoor
open Go.RowKit RuleP NatP

theorem valB_digN {k : Nat} (hk : 1 ≤ k) : ∀ n v, v < k ^ n → valB k (digN k n v) = v
  | 0, v, h => by simp [digN, valB] at *; omega
  | n + 1, v, h => by
    have h2 : v / k < k ^ n := Nat.div_lt_of_lt_mul (by rw [Nat.pow_succ, Nat.mul_comm] at h; exact h)
    simp only [digN, valB]
    rw [valB_digN hk n (v / k) h2]
    exact Nat.mod_add_div v k
/-- A rule that a number gives. -/
theorem from_ok {k r : Int} {v : Nat} {t : List Nat} (h : fromN k r v = .ok t) : ∃ a b : Nat, k = (a : Int) ∧ r = (b : Int) ∧ IsRule a b t ∧ t.length ≤ 256 ∧ valB a t = v := by
  unfold fromN at h
  split at h
  · cases h
  · rename_i h1
    split at h
    · cases h
    · rename_i h2
      split at h
      · cases h
      · rename_i h3
        cases h
        obtain ⟨a, rfl⟩ : ∃ a : Nat, k = (a : Int) := ⟨k.toNat, by omega⟩
        obtain ⟨b, rfl⟩ : ∃ b : Nat, r = (b : Int) := ⟨r.toNat, by omega⟩
        simp only [Int.toNat_natCast] at *
        have hk : 1 ≤ a := by omega
        have hv : v < a ^ a ^ (2 * b + 1) := by
          refine Nat.lt_of_not_le fun hle => h3 (Nat.div_pos hle (Nat.pow_pos (by omega)))
        exact ⟨a, b, rfl, rfl, ⟨hk, by omega, by omega, digN_len _ _ _, digN_sym (by omega) _ _⟩, by rw [digN_len]; omega, valB_digN hk _ _ hv⟩
theorem small_rule {K R : Int} {T : List Int} (ho : small K R T = none) : ∃ (k r : Nat) (t : List Nat), K = (k : Int) ∧ R = (r : Int) ∧ T = ints t ∧ IsRule k r t ∧ t.length ≤ 256 := by
  unfold small at ho
  split at ho
  · cases ho
  · rename_i hc
    obtain ⟨k, r, t, rfl, rfl, rfl, hr⟩ := check_none hc
    split at ho
    · cases ho
    · rename_i h; rw [ints_len] at h; exact ⟨k, r, t, rfl, rfl, rfl, hr, by omega⟩
theorem codeL_rule {k r : Nat} {t : List Nat} (ho : small (k : Int) (r : Int) (ints t) = none) : codeL k r (ints t) = limbs (valB k t) := by
  unfold codeL; rw [ho]; simp [nats_ints]

theorem code_u (w : World) (E : Nat → Addr) (hE : Errs w E) (K R : Int) (A : Option Addr) (n c : Nat) (T : List Int) (hT : Sl w A n (T.map (Value.int .i64))) (hm : n ≤ 9223372036854775807) :
    Calls Tryd.prog 31 #[ruleV K R A n c] w fun e w' => ∃ (C : Option Addr) (cc : Nat) (v : Value), e = .returned (.tuple #[.slice C (codeL K R T).length cc, v]) ∧
      w'.ownsRow w.heap.size 112 1 (.slice C (codeL K R T).length cc) (codeL K R T).length ((codeL K R T).map wv) ∧ ErrV w' E (small K R T) v ∧ Below w.heap.size w w' := by
  cases ho : small K R T with
  | some tl =>
    have hc : codeL K R T = [] := by unfold codeL; rw [ho]
    refine (code_bad w E hE K R A n c T hT hm tl ho).mono ?_
    rintro e w' ⟨v, rfl, he, hb⟩
    rw [hc]
    exact ⟨none, 0, v, rfl, ⟨rfl, .inl ⟨rfl, rfl⟩⟩, he, hb⟩
  | none =>
    obtain ⟨k, r, t, rfl, rfl, rfl, hr, hs⟩ := small_rule ho
    rw [codeL_rule ho]
    refine (code_good w E hE k r A n c t hr hs hT).mono ?_
    rintro e w' ⟨C, cc, rfl, hown, hb⟩
    exact ⟨C, cc, .nilIface, rfl, hown, rfl, hb⟩

theorem from_u (w : World) (E : Nat → Addr) (hE : Errs w E) (k r : Int) {A : Option Addr} {n c v : Nat} (hN : Num w A n c v) (hn : n ≤ 1000000000) :
    Calls Tryd.prog 32 #[.int .i64 k, .int .i64 r, .slice A n c] w fun e w' => ∃ (C : Option Addr) (cc : Nat) (u : Value), e = .returned (.tuple #[.agg #[.int .i64 (fromT k r v).1, .int .i64 (fromT k r v).2.1, .slice C (fromT k r v).2.2.length cc], u]) ∧
      w'.ownsRow w.heap.size 3 1 (.slice C (fromT k r v).2.2.length cc) (fromT k r v).2.2.length ((ints (fromT k r v).2.2).map (Value.int .i64)) ∧ ErrV w' E (wantOf (fromN k r v)) u ∧ Below w.heap.size w w' := by
  have h := ruleFrom_c w E hE k r hN hn
  cases ho : fromN k r v with
  | error tl =>
    rw [ho] at h
    rw [fromT_err ho]
    refine h.mono ?_
    rintro e w' ⟨u, rfl, he, hb⟩
    exact ⟨none, 0, u, rfl, ⟨rfl, .inl ⟨rfl, rfl⟩⟩, he, hb⟩
  | ok t =>
    rw [ho] at h
    rw [fromT_ok ho]
    refine h.mono ?_
    rintro e w' ⟨C, cc, rfl, hown, hb⟩
    exact ⟨C, cc, .nilIface, rfl, hown, rfl, hb⟩

set_option maxRecDepth 100000 in
set_option maxHeartbeats 1000000 in
theorem codes_long (w : World) (E : Nat → Addr) (hE : Errs w E) (K R kk rr : Int) (A B : Option Addr) (n c m d : Nat) (h : 200 < m) :
    Calls Tryd.prog 13 #[ruleV K R A n c, .int .i64 kk, .int .i64 rr, .slice B m d] w fun e w' => e = .returned (.bool true) ∧ Below w.heap.size w w' := by
  have hb0 := (Below.refl w.heap.size w).alloc (Nat.le_refl _) (.cells #[.int .i64 K, .int .i64 R, .slice A n c] 24)
  have HE := Lib.hid (hE.below hb0)
  unfold ruleV at *
  go_enter Tryd.func13, Tryd.ntmps13
  go_wp2_with fail
  refine (awake4_c _ E HE.out).mono ?_
  rintro e w1 ⟨rfl, b1⟩
  have hb1 := below_box b1
  clear b1
  go_wp2_with fail
  go_ret
  exact ⟨rfl, hb1⟩

set_option maxRecDepth 100000 in
set_option maxHeartbeats 4000000 in
theorem codes_main (w : World) (E : Nat → Addr) (hE : Errs w E) (hT : ErrT w) (K R kk rr : Int) (A B : Option Addr) (n c m d : Nat) (T : List Int) (xs : List Nat) (hS : Sl w A n (T.map (Value.int .i64))) (hn : n ≤ c) (hz : c * 8 ≤ 140737488351232)
    (hX : Sl w B m (xs.map wv)) (hn1 : m ≤ d) (hm1 : d ≤ maxLen) (hok : OkB W32 xs) (hm : m ≤ 200) :
    Calls Tryd.prog 13 #[ruleV K R A n c, .int .i64 kk, .int .i64 rr, .slice B m d] w fun e w' => e = .returned (.bool true) ∧ Below w.heap.size w w' := by
  have hb0 := (Below.refl w.heap.size w).alloc (Nat.le_refl _) (.cells #[.int .i64 K, .int .i64 R, .slice A n c] 24)
  have HE := Lib.hid (hE.below hb0)
  have hr0 := RuleAt.new w (.int .i64 K) (.int .i64 R) (.slice A n c)
  obtain ⟨V, hV⟩ : ∃ V, val xs = V := ⟨_, rfl⟩
  have HV := Lib.hid hV
  clear hV
  unfold ruleV at *
  go_enter Tryd.func13, Tryd.ntmps13
  go_wp2_with fail
  refine (awake4_c _ E HE.out).mono ?_
  rintro e w1 ⟨rfl, b1⟩
  have hr1 := hr0.below b1 (by simp)
  have hb1 := below_box b1
  clear b1
  go_wp2_with fail
  refine (lentN_c w1 B m d _ (hX.below hb1) (fun u hu => by obtain ⟨x, _, rfl⟩ := List.mem_map.1 hu; rfl) (by omega)).mono ?_
  rintro e w2 ⟨rfl, hM2, b2⟩
  have hb2 := hb1.trans (b2.mono hb1.size)
  have hr2 := hr1.below b2 hr1.lt
  have hnum2 : Num w2 (some ⟨w1.heap.size, 0, none⟩) m (m + 2) V := ⟨xs, by omega, by simp only [maxLen]; omega, sl_take' (Sl.of_own hM2) (by simpa using hX.1), hok, HV.out⟩
  have hnumB : ∀ wz, Below w.heap.size w wz → Num wz B m d V := fun wz h => ⟨xs, hn1, hm1, hX.below h, hok, HV.out⟩
  have HNB := Lib.hid hnumB
  obtain ⟨r0, r1, r2, _⟩ := hr2.facts
  have hM2' := Sl.of_own hM2
  clear hr1 hnumB hM2
  go_wp2_with fail
  refine (code_u w2 E (hE.below hb2) K R A n c T (hS.below hb2) (by omega)).mono ?_
  rintro e w3 ⟨C3, c3, v3, rfl, ho3, he3, b3⟩
  have hb3 := hb2.trans (b3.mono hb2.size)
  have hr3 := hr2.below b3 hr2.lt
  obtain ⟨r0, r1, r2, _⟩ := hr3.facts
  clear hr2
  go_wp2_with fail
  refine (refCode_c w3 K R A n c T (hS.below hb3) (by omega)).mono ?_
  rintro e w4 ⟨C4, M4, c4, N4, A4, n4, k4, D4, m4, d4, rfl, ho4, hu4, b4⟩
  have hb4 := hb3.trans (b4.mono hb3.size)
  have hf5 := WantAt.new w4 (.int .i64 (N4 : Int)) (.slice A4 n4 k4) (.slice D4 m4 d4)
  have b5 := (Below.refl w4.heap.size w4).alloc (Nat.le_refl _) (.cells #[.int .i64 (N4 : Int), .slice A4 n4 k4, .slice D4 m4 d4] 60)
  obtain ⟨w5, hw5⟩ : ∃ w5, w4.alloc (.cells #[.int .i64 (N4 : Int), .slice A4 n4 k4, .slice D4 m4 d4] 60) = w5 := ⟨_, rfl⟩
  have HW5 := Lib.hid hw5
  rw [hw5] at hf5 b5
  have hb5 := hb4.trans (b5.mono hb4.size)
  have c25 := b3.trans ((b4.trans (b5.mono b4.size)).mono b3.size)
  clear hw5 r0 r1 r2
  go_wp2_with fail
  rw [HW5.out]
  refine (from_u w5 E (hE.below hb5) kk rr (hnum2.below c25) (by omega)).mono ?_
  rintro e w6 ⟨C6, c6, v6, rfl, ho6, he6, b6⟩
  have hb6 := hb5.trans (b6.mono hb5.size)
  have hs7 := RuleAt.new w6 (.int .i64 (fromT kk rr V).1) (.int .i64 (fromT kk rr V).2.1) (.slice C6 (fromT kk rr V).2.2.length c6)
  have b7 := (Below.refl w6.heap.size w6).alloc (Nat.le_refl _) (.cells #[.int .i64 (fromT kk rr V).1, .int .i64 (fromT kk rr V).2.1, .slice C6 (fromT kk rr V).2.2.length c6] 24)
  obtain ⟨w7, hw7⟩ : ∃ w7, w6.alloc (.cells #[.int .i64 (fromT kk rr V).1, .int .i64 (fromT kk rr V).2.1, .slice C6 (fromT kk rr V).2.2.length c6] 24) = w7 := ⟨_, rfl⟩
  have HW7 := Lib.hid hw7
  rw [hw7] at hs7 b7
  have hb7 := hb6.trans (b7.mono hb6.size)
  clear hw7
  go_wp2_with fail
  rw [HW7.out]
  refine (ref4From_c w7 kk rr (HNB.out w7 hb7) (by omega)).mono ?_
  rintro e w8 ⟨C8, c8, N8, A8, n8, k8, D8, m8, d8, rfl, ho8, hu8, b8⟩
  unfold ruleV
  have hb8 := hb7.trans (b8.mono hb7.size)
  have ht9 := (RuleAt.new w8 (.int .i64 (fromT kk rr V).1) (.int .i64 (fromT kk rr V).2.1) (.slice C8 (fromT kk rr V).2.2.length c8)).alloc (.cells #[.int .i64 (N8 : Int), .slice A8 n8 k8, .slice D8 m8 d8] 60)
  have hh9 := WantAt.new (w8.alloc (.cells #[.int .i64 (fromT kk rr V).1, .int .i64 (fromT kk rr V).2.1, .slice C8 (fromT kk rr V).2.2.length c8] 24)) (.int .i64 (N8 : Int)) (.slice A8 n8 k8) (.slice D8 m8 d8)
  rw [World.size_alloc] at hh9
  have b9 := ((Below.refl w8.heap.size w8).alloc (Nat.le_refl _) (.cells #[.int .i64 (fromT kk rr V).1, .int .i64 (fromT kk rr V).2.1, .slice C8 (fromT kk rr V).2.2.length c8] 24)).alloc (by simp) (.cells #[.int .i64 (N8 : Int), .slice A8 n8 k8, .slice D8 m8 d8] 60)
  obtain ⟨w9, hw9⟩ : ∃ w9, (w8.alloc (.cells #[.int .i64 (fromT kk rr V).1, .int .i64 (fromT kk rr V).2.1, .slice C8 (fromT kk rr V).2.2.length c8] 24)).alloc (.cells #[.int .i64 (N8 : Int), .slice A8 n8 k8, .slice D8 m8 d8] 60) = w9 := ⟨_, rfl⟩
  have HW9 := Lib.hid hw9
  rw [hw9] at ht9 hh9 b9
  have hb9 := hb8.trans (b9.mono hb8.size)
  have z8 := b9
  have z7 := b8.trans (z8.mono b8.size)
  have z6 := b7.trans (z7.mono b7.size)
  have z5 := b6.trans (z6.mono b6.size)
  have z4 := b5.trans (z5.mono b5.size)
  have z3 := b4.trans (z4.mono b4.size)
  have z2 := b3.trans (z3.mono b3.size)
  have hr9 := (hr3.below z3 hr3.lt)
  have hf9 := (hf5.below z5 hf5.lt)
  have hs9 := (hs7.below z7 hs7.lt)
  obtain rfl : M4 = (codeL K R T).length := by rw [← (Sl.of_own ho4).1, List.length_map]
  have hl3 := own_le ho3
  have hl6 := own_le ho6
  have hm6 : (fromT kk rr V).2.2.length ≤ 9223372036854775807 := by have := hl6; unfold maxLen at this; omega
  have hI := fun (wz : World) (hz : Below w9.heap.size w9 wz) => nats_b wz C3 C4 (codeL K R T).length (codeL K R T).length c3 c4 (codeL K R T) (codeL K R T) (((Sl.of_own ho3).below z3).below hz) (((Sl.of_own ho4).below z4).below hz) (by omega)
  have hdd : decide (codeL K R T = codeL K R T) = true := decide_eq_true rfl
  rw [hdd] at hI
  have HNATS := Lib.hid hI
  have HIS := Lib.hid (fun (wz : World) (hz : Below w9.heap.size w9 wz) (t : Option Tale) (ht : TaleOk t) (v u : Value) (hv : ErrV wz E t v) (hu : WantV wz t u) => rawIs_c wz E (hE.below (hb9.trans (hz.mono hb9.size))) (hT.below (hb9.trans (hz.mono hb9.size))) t ht v u hv hu)
  have HRU := Lib.hid (fun (wz : World) (hz : Below w9.heap.size w9 wz) => rules_same wz (fromT kk rr V).1 (fromT kk rr V).2.1 C6 C8 (fromT kk rr V).2.2.length c6 c8 (ints (fromT kk rr V).2.2) (((Sl.of_own ho6).below z6).below hz) (((Sl.of_own ho8).below z8).below hz) hm6)
  have HKN := Lib.hid (fun (wz : World) (hz : Below w9.heap.size w9 wz) => keptN_c wz (some ⟨w1.heap.size, 0, none⟩) B m (m + 2) d xs (hX.below (hb9.trans (hz.mono hb9.size))) ((hM2'.below z2).below hz) (Nat.le_refl _) (by simp only [maxLen]; omega))
  have HF := Lib.hid (fun (wz : World) (hz : Below w9.heap.size w9 wz) => (⟨(hr9.below hz hr9.lt).facts, (hf9.below hz hf9.lt).facts, (hs9.below hz hs9.lt).facts, (ht9.below hz ht9.lt).facts, (hh9.below hz hh9.lt).facts⟩ : _ ∧ _ ∧ _ ∧ _ ∧ _))
  have HRL := Lib.hid hr9.lt
  have HE3 := Lib.hid (he3.below z3)
  have HU4 := Lib.hid (hu4.below z4)
  have HE6 := Lib.hid (he6.below z6)
  have HU8 := Lib.hid (hu8.below b9)
  have HC3 := Lib.hid (own_below ho3 z3)
  have HC6 := Lib.hid (own_below ho6 z6)
  have HB9 := Lib.hid hb9
  have HER := Lib.hid hE
  have HS := Lib.hid hS
  unfold ruleV at HRU
  clear hw9 hb0 hb1 hb2 hb3 hb4 hb5 hb6 hb7 hb8 hb9 z2 z3 z4 z5 z6 z7 z8 b2 b3 b4 b5 b6 b7 b8 b9 c25 hI hdd hE hT hS hX hr0 hr3 hr9 hf9 hs9 ht9 hh9 hf5 hs7 he3 hu4 he6 hu8 ho3 ho4 ho6 ho8 hnum2 hM2' hm6 hl3 hl6 HE
  have h0 := Below.refl w9.heap.size w9
  go_wp2_with fail
  rw [HW9.out]
  refine (HNATS.out _ h0).mono ?_
  rintro e w10 ⟨rfl, b10⟩
  obtain ⟨⟨r0, r1, r2, _⟩, ⟨f0, f1, f2, _⟩, ⟨s0, s1, s2, _⟩, ⟨t0, t1, t2, _⟩, ⟨g0, g1, g2, _⟩⟩ := HF.out _ b10
  go_wp2_with fail
  refine (HIS.out _ b10 _ (small_ok K R T) _ _ (HE3.out.below b10) (HU4.out.below b10).want).mono ?_
  rintro e w11 ⟨rfl, b11⟩
  have hb11 := b10.trans (b11.mono b10.size)
  obtain ⟨⟨r0, r1, r2, _⟩, ⟨f0, f1, f2, _⟩, ⟨s0, s1, s2, _⟩, ⟨t0, t1, t2, _⟩, ⟨g0, g1, g2, _⟩⟩ := HF.out _ hb11
  go_wp2_with fail
  refine (HRU.out _ hb11).mono ?_
  rintro e w12 ⟨rfl, b12⟩
  have hb12 := hb11.trans (b12.mono hb11.size)
  obtain ⟨⟨r0, r1, r2, _⟩, ⟨f0, f1, f2, _⟩, ⟨s0, s1, s2, _⟩, ⟨t0, t1, t2, _⟩, ⟨g0, g1, g2, _⟩⟩ := HF.out _ hb12
  go_wp2_with fail
  refine (HIS.out _ hb12 _ (from_taleOk kk rr V) _ _ (HE6.out.below hb12) (HU8.out.below hb12).want).mono ?_
  rintro e w13 ⟨rfl, b13⟩
  have hb13 := hb12.trans (b13.mono hb12.size)
  go_wp2_with fail
  refine (HKN.out _ hb13).mono ?_
  rintro e w14 ⟨rfl, b14⟩
  have hb14 := hb13.trans (b14.mono hb13.size)
  have he3 := HE3.out
  have he6 := HE6.out
  clear r0 r1 r2 f0 f1 f2 s0 s1 s2 t0 t1 t2 g0 g1 g2 HNATS HIS HRU HKN HE3 HE6 HU4 HU8 HW5 HW7 HW9
  cases hsm : small K R T with
  | some tl =>
    rw [hsm] at he3
    obtain ⟨u3, q3, rfl⟩ := ErrIs.iface (show ErrIs w9 E tl.1 tl.2 v3 from he3)
    clear he3 hsm
    cases hfr : fromN kk rr V with
    | error tl =>
      rw [hfr] at he6
      obtain ⟨u6, q6, rfl⟩ := ErrIs.iface (show ErrIs w9 E tl.1 tl.2 v6 from he6)
      clear he6 hfr
      go_wp2_with fail
      go_ret
      exact ⟨rfl, HB9.out.trans (hb14.mono HB9.out.size)⟩
    | ok tt =>
      rw [hfr] at he6
      obtain rfl : v6 = .nilIface := he6
      obtain ⟨a, b, rfl, rfl, hru2, hs2, hva⟩ := from_ok hfr
      have HCD : Hid (Calls Tryd.prog 31 #[.agg #[.int .i64 (fromT a b V).1, .int .i64 (fromT a b V).2.1, .slice C6 (fromT a b V).2.2.length c6]] w14 _) := Lib.hid (by
        have h := code_good w14 E (HER.out.below (HB9.out.trans (hb14.mono HB9.out.size))) a b C6 tt.length c6 tt hru2 hs2 (by have h2 := (Sl.of_own HC6.out).below hb14; rw [fromT_ok hfr] at h2; exact h2)
        rw [fromT_ok hfr]
        rw [hva] at h
        exact h)
      obtain ⟨⟨r0, r1, r2, _⟩, _, ⟨s0, s1, s2, _⟩, _, _⟩ := HF.out _ hb14
      clear hru2 hs2 hva hfr
      go_wp2_with fail
      refine (HCD.out).mono ?_
      rintro e w18 ⟨C18, c18, rfl, ho18, b18⟩
      have hb18 := hb14.trans (b18.mono hb14.size)
      have HCM := Lib.hid (cmp_n (r := 0) (num_own ho18) (HNB.out w18 (HB9.out.trans (hb18.mono HB9.out.size))) (by simp [cmpN]))
      clear r0 r1 r2 s0 s1 s2 ho18 b18
      go_wp2_with fail
      refine (HCM.out).mono ?_
      rintro e w19 ⟨rfl, hb19⟩
      have HB19 := Lib.hid (HB9.out.trans ((hb18.trans (hb19.mono hb18.size)).mono HB9.out.size))
      clear hb18 hb19 HCM HCD
      go_wp2_with fail
      go_ret
      exact ⟨rfl, HB19.out⟩
  | none =>
    rw [hsm] at he3
    obtain rfl : v3 = .nilIface := he3
    obtain ⟨k, r, t, rfl, rfl, rfl, hru, hs⟩ := small_rule hsm
    obtain rfl : t.length = n := by simpa [ints] using HS.out.1
    have hlen : (limbs (valB k t)).length ≤ 1000000000 := by
      have h1 := limbs_len_of_lt t.length _ (Nat.lt_of_lt_of_le (digN_val hru.k1 hru.sym).2 (Nat.pow_le_pow_left (by have := hru.k4; unfold W32; omega) _))
      omega
    have hcl := codeL_rule hsm
    have HFG : Hid (Calls Tryd.prog 32 #[.int .i64 (k : Int), .int .i64 (r : Int), .slice C3 (codeL k r (ints t)).length c3] w14 _) := Lib.hid (by
      have h := from_u w14 E (HER.out.below (HB9.out.trans (hb14.mono HB9.out.size))) k r (v := valB k t) (num_own (by have h2 := own_below HC3.out hb14; rw [hcl] at h2; exact h2)) hlen
      rw [fromT_ok (from_code hru hs), from_code hru hs] at h
      rw [hcl]
      exact h)
    obtain ⟨⟨r0, r1, r2, _⟩, _, _, _, _⟩ := HF.out _ hb14
    clear hlen hcl hsm hru
    go_wp2_with fail
    refine (HFG.out).mono ?_
    rintro e w15 ⟨C15, c15, v15, rfl, ho15, he15, b15⟩
    obtain rfl : v15 = .nilIface := he15
    have hb15 := hb14.trans (b15.mono hb14.size)
    have b16 := (Below.refl w15.heap.size w15).alloc (Nat.le_refl _) (.cells #[.int .i64 (k : Int), .int .i64 (r : Int), .slice C15 t.length c15] 24)
    have hb16 := hb15.trans (b16.mono hb15.size)
    have HR2 := Lib.hid (rules_same _ k r C15 A t.length c15 c (ints t) ((Sl.of_own ho15).below b16) (HS.out.below (HB9.out.trans (hb16.mono HB9.out.size))) (by omega))
    have hl15 : w.heap.size < w15.heap.size := Nat.lt_of_lt_of_le HRL.out hb15.size
    obtain ⟨⟨r0, r1, r2, _⟩, _, _, _, _⟩ := HF.out _ hb15
    unfold ruleV at HR2
    clear ho15 b16 b15 HFG
    go_wp2_with fail
    refine (HR2.out).mono ?_
    rintro e w17 ⟨rfl, b17⟩
    have hb17 := hb16.trans (b17.mono hb16.size)
    clear hb16 b17 r0 r1 r2
    cases hfr : fromN kk rr V with
    | error tl =>
      rw [hfr] at he6
      obtain ⟨u6, q6, rfl⟩ := ErrIs.iface (show ErrIs w9 E tl.1 tl.2 v6 from he6)
      clear he6 hfr
      go_wp2_with fail
      go_ret
      exact ⟨rfl, HB9.out.trans (hb17.mono HB9.out.size)⟩
    | ok tt =>
      rw [hfr] at he6
      obtain rfl : v6 = .nilIface := he6
      obtain ⟨a, b, rfl, rfl, hru2, hs2, hva⟩ := from_ok hfr
      have HCD : Hid (Calls Tryd.prog 31 #[.agg #[.int .i64 (fromT a b V).1, .int .i64 (fromT a b V).2.1, .slice C6 (fromT a b V).2.2.length c6]] w17 _) := Lib.hid (by
        have h := code_good w17 E (HER.out.below (HB9.out.trans (hb17.mono HB9.out.size))) a b C6 tt.length c6 tt hru2 hs2 (by have h2 := (Sl.of_own HC6.out).below hb17; rw [fromT_ok hfr] at h2; exact h2)
        rw [fromT_ok hfr]
        rw [hva] at h
        exact h)
      obtain ⟨⟨r0, r1, r2, _⟩, _, ⟨s0, s1, s2, _⟩, _, _⟩ := HF.out _ hb17
      clear hru2 hs2 hva hfr
      go_wp2_with fail
      refine (HCD.out).mono ?_
      rintro e w18 ⟨C18, c18, rfl, ho18, b18⟩
      have hb18 := hb17.trans (b18.mono hb17.size)
      have HCM := Lib.hid (cmp_n (r := 0) (num_own ho18) (HNB.out w18 (HB9.out.trans (hb18.mono HB9.out.size))) (by simp [cmpN]))
      clear r0 r1 r2 s0 s1 s2 ho18 b18
      go_wp2_with fail
      refine (HCM.out).mono ?_
      rintro e w19 ⟨rfl, hb19⟩
      have HB19 := Lib.hid (HB9.out.trans ((hb18.trans (hb19.mono hb18.size)).mono HB9.out.size))
      clear hb18 hb19 HCM HCD
      go_wp2_with fail
      go_ret
      exact ⟨rfl, HB19.out⟩

theorem ruleCodes_c (w : World) (E : Nat → Addr) (hE : Errs w E) (hT : ErrT w) (K R kk rr : Int) (A B : Option Addr) (n c m d : Nat) (T : List Int) (xs : List Nat) (hS : Sl w A n (T.map (Value.int .i64))) (hn : n ≤ c) (hz : c * 8 ≤ 140737488351232)
    (hX : Sl w B m (xs.map wv)) (hn1 : m ≤ d) (hm1 : d ≤ maxLen) (hok : OkB W32 xs) :
    Calls Tryd.prog 13 #[ruleV K R A n c, .int .i64 kk, .int .i64 rr, .slice B m d] w fun e w' => e = .returned (.bool true) ∧ Below w.heap.size w w' := by
  by_cases h : 200 < m
  · exact codes_long w E hE K R kk rr A B n c m d h
  · exact codes_main w E hE hT K R kk rr A B n c m d T xs hS hn hz hX hn1 hm1 hok (by omega)
end Go.Proofs.YtfgjcdfmlpdkaaaDoor
