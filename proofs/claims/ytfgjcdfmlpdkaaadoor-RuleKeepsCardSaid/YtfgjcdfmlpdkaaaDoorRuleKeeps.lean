/- The call of RuleKeeps: it returns true. Condition: the lists read from memory; the error variables hold what E says. -/
import Derived.Test.YtfgjcdfmlpdkaaaDoorLentR
import Derived.Test.YtfgjcdfmlpdkaaaDoorRuleC
import Derived.Test.YtfgjcdfmlpdkaaaDoorLaw4A
import Derived.Test.YtfgjcdfmlpdkaaaDoorCodeB
import Derived.Test.YtfgjcdfmlpdkaaaDoorCopy
import Derived.Test.YtfgjcdfmlpdkaaaDoorRanged
import Derived.Test.YtfgjcdfmlpdkaaaDoorRulesEq
namespace Go.Proofs.YtfgjcdfmlpdkaaaDoor
open Go.RowKit RuleP NatP

/-- A list of a result, and the tale of a refusal. -/
def okK : Except Tale (List Int) → List Int
  | .ok l => l
  | .error _ => []
def wantK {α : Type} : Except Tale α → Option Tale
  | .ok _ => none
  | .error t => some t

theorem stepK_u (w : World) (E : Nat → Addr) (hE : Errs w E) (K R : Int) (A B : Option Addr) (n c m d : Nat) (T W : List Int) (hT : Sl w A n (T.map (Value.int .i64))) (hm : n ≤ 9223372036854775807) (hW : Sl w B m (W.map (Value.int .i64))) (hm2 : m ≤ 9223372036854775807) :
    Calls Tryd.prog 24 #[ruleV K R A n c, .slice B m d] w fun e w' => ∃ (C : Option Addr) (M cc : Nat) (v : Value), e = .returned (.tuple #[.slice C M cc, v]) ∧ w'.ownsRow w.heap.size 3 1 (.slice C M cc) M ((okK (RuleP.step K R T W)).map (Value.int .i64)) ∧ ErrV w' E (wantK (RuleP.step K R T W)) v ∧ Below w.heap.size w w' := by
  have hl : W.length = m := by simpa using hW.1
  cases hs : RuleP.step K R T W with
  | error tl =>
    refine (step_bad w E hE K R A B n c m d T W hT hm hW hm2 tl hs).mono ?_
    rintro e w' ⟨v, rfl, he, hb⟩
    exact ⟨none, 0, 0, v, rfl, ⟨rfl, .inl ⟨rfl, rfl⟩⟩, he, hb⟩
  | ok l =>
    unfold RuleP.step at hs
    split at hs
    · cases hs
    · rename_i hc
      obtain ⟨k, r, t, rfl, rfl, rfl, hr⟩ := check_none hc
      split at hs
      · cases hs
      · rename_i h4
        split at hs
        · cases hs
        · rename_i ho
          obtain ⟨v, rfl, hv⟩ := odd_nat ho
          injection hs with hs
          subst hs
          refine (step_good w E hE k r A B n c m d t v hr hv hT hW (by omega)).mono ?_
          rintro e w' ⟨C, cc, rfl, hown, hb⟩
          rw [Int.toNat_natCast, Int.toNat_natCast, nats_ints, nats_ints]
          exact ⟨C, _, cc, .nilIface, rfl, hown, rfl, hb⟩

/-- rule.From of a rule's number. -/
theorem from_good (w : World) (E : Nat → Addr) (hE : Errs w E) {k r : Nat} {t : List Nat} (hr : IsRule k r t) (hs : t.length ≤ 256) {A : Option Addr} {n c : Nat} (hN : Num w A n c (valB k t)) (hn : n ≤ 1000000000) :
    Calls Tryd.prog 32 #[.int .i64 k, .int .i64 r, .slice A n c] w fun e w' => ∃ C cc, e = .returned (.tuple #[.agg #[.int .i64 (k : Int), .int .i64 (r : Int), .slice C t.length cc], .nilIface]) ∧
      w'.ownsRow w.heap.size 3 1 (.slice C t.length cc) t.length ((ints t).map (Value.int .i64)) ∧ Below w.heap.size w w' := by
  have h := ruleFrom_c w E hE k r hN hn
  rw [from_code hr hs] at h
  exact h

set_option maxRecDepth 100000 in
set_option maxHeartbeats 1000000 in
theorem keeps_long (w : World) (E : Nat → Addr) (hE : Errs w E) (K R : Int) (A B : Option Addr) (n c m d : Nat) (h : 100 < m ∨ (m ≤ 100 ∧ 256 < n)) :
    Calls Tryd.prog 7 #[ruleV K R A n c, .slice B m d] w fun e w' => e = .returned (.bool true) ∧ Below w.heap.size w w' := by
  have hb0 := (Below.refl w.heap.size w).alloc (Nat.le_refl _) (.cells #[.int .i64 K, .int .i64 R, .slice A n c] 24)
  have HE := Lib.hid (hE.below hb0)
  have hr0 := RuleAt.new w (.int .i64 K) (.int .i64 R) (.slice A n c)
  unfold ruleV at *
  rcases h with h | ⟨h1, h⟩
  all_goals
    go_enter Tryd.func7, Tryd.ntmps7
    go_wp2_with fail
    refine (awake4_c _ E HE.out).mono ?_
    rintro e w1 ⟨rfl, b1⟩
    have hr1 := hr0.below b1 (by simp)
    have hb1 := below_box b1
    obtain ⟨r0, r1, r2, _⟩ := hr1.facts
    clear b1 hr0
    go_wp2_with fail
    go_ret
    exact ⟨rfl, hb1⟩

set_option maxRecDepth 100000 in
set_option maxHeartbeats 4000000 in
theorem keeps_main (w : World) (E : Nat → Addr) (hE : Errs w E) (K R : Int) (A B : Option Addr) (n c m d : Nat) (T W : List Int) (hS : Sl w A n (T.map (Value.int .i64))) (hn : n ≤ c) (_ : c * 8 ≤ 140737488351232)
    (hS1 : Sl w B m (W.map (Value.int .i64))) (_ : m ≤ d) (_ : d * 8 ≤ 140737488351232) (hm : m ≤ 100) (hn2 : n ≤ 256) :
    Calls Tryd.prog 7 #[ruleV K R A n c, .slice B m d] w fun e w' => e = .returned (.bool true) ∧ Below w.heap.size w w' := by
  have hb0 := (Below.refl w.heap.size w).alloc (Nat.le_refl _) (.cells #[.int .i64 K, .int .i64 R, .slice A n c] 24)
  have HE := Lib.hid (hE.below hb0)
  have hr0 := RuleAt.new w (.int .i64 K) (.int .i64 R) (.slice A n c)
  unfold ruleV at *
  go_enter Tryd.func7, Tryd.ntmps7
  go_wp2_with fail
  refine (awake4_c _ E HE.out).mono ?_
  rintro e w1 ⟨rfl, b1⟩
  have hr1 := hr0.below b1 (by simp)
  have hb1 := below_box b1
  obtain ⟨r0, r1, r2, _⟩ := hr1.facts
  clear b1 hb0 hr0
  go_wp2_with fail
  refine (lentRule_c w1 K R A n c _ (hS.below hb1) (ints_one T) (by omega)).mono ?_
  rintro e w2 ⟨g, rfl, hg, hown, b2⟩
  have hg2 := (hown.lt g rfl).2
  have hb2 := hb1.trans (b2.mono hb1.size)
  have hr2 := hr1.below b2 hr1.lt
  have hm3 := RuleAt.new w2 (.int .i64 K) (.int .i64 R) (.slice (some ⟨g, 0, none⟩) n (n + 2))
  have b3 := (Below.refl w2.heap.size w2).alloc (Nat.le_refl _) (.cells #[.int .i64 K, .int .i64 R, .slice (some ⟨g, 0, none⟩) n (n + 2)] 24)
  unfold ruleV
  obtain ⟨w3, hw3⟩ : ∃ w3, w2.alloc (.cells #[.int .i64 K, .int .i64 R, .slice (some ⟨g, 0, none⟩) n (n + 2)] 24) = w3 := ⟨_, rfl⟩
  have HW3 := Lib.hid hw3
  rw [hw3] at hm3 b3
  have hb3 := hb2.trans (b3.mono hb2.size)
  have hr3 := hr2.below b3 hr2.lt
  have hs3 : w3.heap.size = w2.heap.size + 1 := by rw [← hw3]; simp
  have HS3 := Lib.hid hs3
  have hM3 := own_below hown b3
  clear r0 r1 r2 hr1 hr2 hown b2 hw3 hs3
  go_wp2_with fail
  rw [HW3.out]
  refine (lent_c w3 B m d _ (hS1.below hb3) (ints_one W) (by omega)).mono ?_
  rintro e w4 ⟨rfl, hV4, b4⟩
  have hb4 := hb3.trans (b4.mono hb3.size)
  have hM4 := own_below hM3 b4
  have hA4 : Sl w4 (some ⟨g, 0, none⟩) n (T.map (Value.int .i64)) := sl_take' (Sl.of_own hM4) (by simpa using hS.1)
  have hVs : Sl w4 (some ⟨w3.heap.size, 0, none⟩) m (W.map (Value.int .i64)) := sl_take' (Sl.of_own hV4) (by simpa using hS1.1)
  have hm4 := hm3.below b4 hm3.lt
  have hr4 := hr3.below b4 hr3.lt
  have hs4 := b4.size
  have hv4 := (hV4.lt _ rfl).2
  obtain ⟨s0, s1, s2, _⟩ := hm4.facts
  clear hm3 hr3 hM3
  go_wp2_with fail
  refine (stepK_u w4 E (hE.below hb4) K R (some ⟨g, 0, none⟩) (some ⟨w3.heap.size, 0, none⟩) n (n + 2) m (m + 2) T W hA4 (by omega) hVs (by omega)).mono ?_
  rintro e w5 ⟨C5, M5, c5, v5, rfl, ho5, he5, b5⟩
  have hb5 := hb4.trans (b5.mono hb4.size)
  have hm5 := hm4.below b5 hm4.lt
  obtain ⟨s0, s1, s2, _⟩ := hm5.facts
  go_wp2_with fail
  refine (stepK_u w5 E (hE.below hb5) K R (some ⟨g, 0, none⟩) (some ⟨w3.heap.size, 0, none⟩) n (n + 2) m (m + 2) T W (hA4.below b5) (by omega) (hVs.below b5) (by omega)).mono ?_
  rintro e w6 ⟨C6, M6, c6, v6, rfl, ho6, he6, b6⟩
  have hb6 := hb5.trans (b6.mono hb5.size)
  have c46 := b5.trans (b6.mono b5.size)
  have hm6 := hm4.below c46 hm4.lt
  have hr6 := hr4.below c46 hr4.lt
  have he5' := he5.below b6
  cases hst : RuleP.step K R T W with
  | error tl =>
    rw [hst] at he5' he6
    obtain ⟨u5, q5, rfl⟩ := ErrIs.iface (show ErrIs w6 E tl.1 tl.2 v5 from he5')
    obtain ⟨u6, q6, rfl⟩ := ErrIs.iface (show ErrIs w6 E tl.1 tl.2 v6 from he6)
    obtain ⟨s0, s1, s2, _⟩ := hm6.facts
    obtain ⟨r0, r1, r2, _⟩ := hr6.facts
    have HK := Lib.hid (keptRule_c w6 K R (some ⟨g, 0, none⟩) A n (n + 2) c T (hS.below hb6) ((Sl.of_own hM4).below c46) (Nat.le_refl _) (by simp only [maxLen]; omega))
    unfold ruleV at HK
    clear he5' he6 he5 ho5 ho6 hM4 hV4 hA4 hVs hm6 hr6 hm5 hm4 hr4 hst
    go_wp2_with fail
    refine (HK.out).mono ?_
    rintro e w7 ⟨rfl, b7⟩
    have HB := Lib.hid (hb6.trans (b7.mono hb6.size))
    clear b7
    go_wp2_with fail
    go_ret
    exact ⟨rfl, HB.out⟩
  | ok l =>
    rw [hst] at he5' he6 ho5 ho6
    obtain rfl : v5 = .nilIface := he5'
    obtain rfl : v6 = .nilIface := he6
    have hl5 : M5 = l.length := by simpa [okK] using (Sl.of_own ho5).1.symm
    have hl6 : M6 = l.length := by simpa [okK] using (Sl.of_own ho6).1.symm
    have hll : l.length ≤ 100 := by
      have hw := (by simpa using hS1.1 : W.length = m)
      unfold RuleP.step at hst
      split at hst
      · cases hst
      · split at hst
        · cases hst
        · split at hst
          · cases hst
          · cases hst
            rw [ints_len, image_len]
            simp [nats]
            omega
    subst hl5 hl6
    obtain ⟨k, r, t, rfl, rfl, rfl, hru⟩ : ∃ (k r : Nat) (t : List Nat), K = (k : Int) ∧ R = (r : Int) ∧ T = ints t ∧ IsRule k r t := by
      unfold RuleP.step at hst
      split at hst
      · cases hst
      · rename_i hc; exact check_none hc
    have htn : t.length = n := by simpa [ints] using hS.1
    have hR5 := (Row.of ho5).below b6
    have hR6 := Row.of ho6
    have hs5 := b5.size
    have hs6 := b6.size
    obtain ⟨s0, s1, s2, _⟩ := hm6.facts
    clear ho5 ho6 he5 hm5 hst
    go_wp2_with fail
    refine (code_good w6 E (hE.below hb6) k r (some ⟨g, 0, none⟩) n (n + 2) t hru (by omega) (hA4.below c46)).mono ?_
    rintro e w7 ⟨C7, c7, rfl, ho7, b7⟩
    subst htn
    have ht1 : 0 < t.length := by rw [hru.len]; exact Nat.pow_pos (by have := hru.k1; omega)
    have hlen : (limbs (valB k t)).length ≤ 1000000000 := by
      have h1 := limbs_len_of_lt t.length _ (Nat.lt_of_lt_of_le (digN_val hru.k1 hru.sym).2 (Nat.pow_le_pow_left (by have := hru.k4; unfold W32; omega) _))
      omega
    have hb7 := hb6.trans (b7.mono hb6.size)
    have hs7 := b7.size
    have c47 := c46.trans (b7.mono c46.size)
    have hr7 := hr6.below b7 hr6.lt
    have hR57 := hR5.below b7
    have hm7 := hm6.below b7 hm6.lt
    have hCl := Lib.hid (fun b hb => ho7.lt b hb)
    have hR67 := hR6.below b7
    have HF7 := Lib.hid (from_good w7 E (hE.below hb7) hru hn2 (num_own ho7) hlen)
    obtain ⟨r0, r1, r2, _⟩ := hr7.facts
    clear s0 s1 s2 hm6 hr6 hR5 hR6 hr4 hm4
    go_wp2_with fail
    refine (HF7.out).mono ?_
    rintro e w8 ⟨S8, d8, rfl, ho8, b8⟩
    have hx9 := RuleAt.new w8 (.int .i64 (k : Int)) (.int .i64 (r : Int)) (.slice S8 t.length d8)
    have b9 := (Below.refl w8.heap.size w8).alloc (Nat.le_refl _) (.cells #[.int .i64 (k : Int), .int .i64 (r : Int), .slice S8 t.length d8] 24)
    obtain ⟨w9, hw9⟩ : ∃ w9, w8.alloc (.cells #[.int .i64 (k : Int), .int .i64 (r : Int), .slice S8 t.length d8] 24) = w9 := ⟨_, rfl⟩
    have HW9 := Lib.hid hw9
    have hs9 : Hid (w9.heap.size = w8.heap.size + 1) := Lib.hid (by rw [← hw9]; simp)
    rw [hw9] at hx9 b9
    have c79 := b8.trans (b9.mono b8.size)
    have hb9 := hb7.trans (c79.mono hb7.size)
    have c49 := c47.trans (c79.mono c47.size)
    have hr9 := hr7.below c79 hr7.lt
    have hR59 := hR57.below c79
    have hm9 := hm7.below c79 hm7.lt
    have hR69 := hR67.below c79
    have hC9 := own_below ho7 c79
    have hR89 := (Row.of ho8).below b9
    have HF9 := Lib.hid (from_good w9 E (hE.below hb9) hru hn2 (num_own hC9) hlen)
    have hr8 := hr7.below b8 hr7.lt
    have hl8 := hr8.lt
    obtain ⟨r0, r1, r2, _⟩ := hr8.facts
    clear hr8 hr7 hR57 hR67 ho7 ho8 hw9
    go_wp2_with fail
    rw [HW9.out]
    refine (HF9.out).mono ?_
    rintro e w10 ⟨T10, d10, rfl, ho10, b10⟩
    have hy11 := RuleAt.new w10 (.int .i64 (k : Int)) (.int .i64 (r : Int)) (.slice T10 t.length d10)
    have b11 := (Below.refl w10.heap.size w10).alloc (Nat.le_refl _) (.cells #[.int .i64 (k : Int), .int .i64 (r : Int), .slice T10 t.length d10] 24)
    obtain ⟨w11, hw11⟩ : ∃ w11, w10.alloc (.cells #[.int .i64 (k : Int), .int .i64 (r : Int), .slice T10 t.length d10] 24) = w11 := ⟨_, rfl⟩
    have HW11 := Lib.hid hw11
    have hs11 : Hid (w11.heap.size = w10.heap.size + 1) := Lib.hid (by rw [← hw11]; simp)
    rw [hw11] at hy11 b11
    have c911 := b10.trans (b11.mono b10.size)
    have hb11 := hb9.trans (c911.mono hb9.size)
    have c411 := c49.trans (c911.mono c49.size)
    have hr11 := hr9.below c911 hr9.lt
    have hx11 := hx9.below c911 hx9.lt
    have hR511 := hR59.below c911
    have hm11 := hm9.below c911 hm9.lt
    have hR611 := hR69.below c911
    have hC11 := own_below hC9 c911
    have hR811 := hR89.below c911
    have hR1011 := (Row.of ho10).below b11
    have hS11 := hS.below hb11
    have hi12 := ints_b w11 C5 C6 l.length l.length c5 c6 l l hR511.sl hR611.sl (by omega) (by omega)
    rw [decide_eq_true rfl] at hi12
    have HI12 := Lib.hid hi12
    have HRT := Lib.hid (fun (wz : World) (h : Below w11.heap.size w11 wz) => (⟨(hx11.below h hx11.lt).facts, (hy11.below h hy11.lt).facts, (hr11.below h hr11.lt).facts⟩ : _ ∧ _ ∧ _))
    have HS12 := Lib.hid (fun (wz : World) (h : Below w11.heap.size w11 wz) => rules_same wz k r S8 A t.length d8 c (ints t) ((hR811.below h).sl) (hS11.below h) (by omega))
    have HS13 := Lib.hid (fun (wz : World) (h : Below w11.heap.size w11 wz) => rules_same wz k r T10 A t.length d10 c (ints t) ((hR1011.below h).sl) (hS11.below h) (by omega))
    unfold ruleV at HS12 HS13
    clear hr9 hm7 hm9 hR59 hR69 hC9 hR89 ho10 hw11 hi12 r0 r1 r2
    go_wp2_with fail
    rw [HW11.out]
    refine (HI12.out).mono ?_
    rintro e w12 ⟨rfl, b12⟩
    obtain ⟨⟨x0, x1, x2, _⟩, ⟨y0, y1, y2, _⟩, ⟨r0, r1, r2, _⟩⟩ := HRT.out w12 b12
    go_wp2_with fail
    refine (HS12.out w12 b12).mono ?_
    rintro e w13 ⟨rfl, b13⟩
    have c13 := b12.trans (b13.mono b12.size)
    obtain ⟨⟨x0, x1, x2, _⟩, ⟨y0, y1, y2, _⟩, ⟨r0, r1, r2, _⟩⟩ := HRT.out w13 c13
    go_wp2_with fail
    refine (HS13.out w13 c13).mono ?_
    rintro e w14 ⟨rfl, b14⟩
    have c14 := c13.trans (b14.mono c13.size)
    have HCP := Lib.hid (copy_c w14 C6 l.length c6 _ (hR611.below c14).sl (ints_one l) (by omega))
    clear x0 x1 x2 y0 y1 y2 r0 r1 r2
    go_wp2_with fail
    refine (HCP.out).mono ?_
    rintro e w15 ⟨D, dd, rfl, ho15, b15⟩
    have c15 := c14.trans (b15.mono c14.size)
    have hb15 := hb11.trans (c15.mono hb11.size)
    have c415 := c411.trans (c15.mono c411.size)
    have hV15 := own_below hV4 c415
    have hM15 := own_below hM4 c415
    have hr15 := hr11.below c15 hr11.lt
    have hx15 := hx11.below c15 hx11.lt
    have hy15 := hy11.below c15 hy11.lt
    have hm15 := hm11.below c15 hm11.lt
    have hR515 := hR511.below c15
    have hR615 := hR611.below c15
    have hC15 := own_below hC11 c15
    have hR815 := hR811.below c15
    have hR1015 := hR1011.below c15
    have z14 := c14.size
    have z15 := b15.size
    have z3 := hb3.size
    have z2 := hb2.size
    have z5 := b5.size
    have z6 := b6.size
    have z8 := b8.size
    have z10 := b10.size
    have z9 := hs9.out
    have z11 := hs11.out
    have z33 := HS3.out
    have Z := Lib.hid (⟨⟨hv4, hg2, by omega, by omega⟩, ⟨z5, z6, hs7, z8⟩, ⟨by omega, z10, by omega⟩, z14, z15⟩ : (w3.heap.size < w4.heap.size ∧ g < w2.heap.size ∧ w2.heap.size < w3.heap.size ∧ w.heap.size < w3.heap.size) ∧
      (w4.heap.size ≤ w5.heap.size ∧ w5.heap.size ≤ w6.heap.size ∧ w6.heap.size ≤ w7.heap.size ∧ w7.heap.size ≤ w8.heap.size) ∧
      (w8.heap.size < w9.heap.size ∧ w9.heap.size ≤ w10.heap.size ∧ w10.heap.size < w11.heap.size) ∧ w11.heap.size ≤ w14.heap.size ∧ w14.heap.size ≤ w15.heap.size)
    have HST := Lib.hid (fun (wr : World) (hk : Keeps (fun b => b = w3.heap.size) w15 wr) => by
      obtain ⟨⟨a1, a2, a3, a4⟩, ⟨a5, a6, a7, a8⟩, ⟨a9, a10, a11⟩, a12, a13⟩ := Z.out
      exact (⟨⟨hr15.keeps hk (fun h => by have h : w.heap.size = w3.heap.size := h; omega), hm15.keeps hk (fun h => by have h : w2.heap.size = w3.heap.size := h; omega),
          hx15.keeps hk (fun h => by have h : w8.heap.size = w3.heap.size := h; omega), hy15.keeps hk (fun h => by have h : w10.heap.size = w3.heap.size := h; omega)⟩,
        ⟨hR515.keeps hk (fun b h _ _ => by have h : b = w3.heap.size := h; omega), hR615.keeps hk (fun b h _ _ => by have h : b = w3.heap.size := h; omega),
          hR815.keeps hk (fun b h _ _ => by have h : b = w3.heap.size := h; omega), hR1015.keeps hk (fun b h _ _ => by have h : b = w3.heap.size := h; omega)⟩,
        own_keeps hM15 hk (fun b hb h => by have h : b = w3.heap.size := h; simp [Value.ownBlock] at hb; omega),
        own_keeps hC15 hk (fun b hb h => by have h : b = w3.heap.size := h; have := (hC15.lt b hb).1; omega),
        own_keeps ho15 hk (fun b hb h => by have h : b = w3.heap.size := h; have := (ho15.lt b hb).1; omega),
        hb15.trans (hk.below (by omega) (fun b h => by have h : b = w3.heap.size := h; omega))⟩ : (_ ∧ _ ∧ _ ∧ _) ∧ (_ ∧ _ ∧ _ ∧ _) ∧ _ ∧ _ ∧ _ ∧ _))
    clear hb1 hb2 hb3 hb4 hb5 hb6 hb7 hb9 hb11 hM4 hV4 hA4 hVs c46 c47 c49 c411 c415 c79 c911 hr11 hx11 hy11 hm11 hR511 hR611 hC11 hR811 hR1011 hS11 HF7 HF9 HI12 HS12 HS13 HCP HRT hr15 hx15 hy15 hm15 hR515 hR615 hC15 hR815 hR1015 hM15 hb15 ho15 b5 b6 b7 b8 b9 b10 b11 b12 b13 b14 b15 c13 c14 c15
    clear z14 z15 z3 z2 z5 z6 z8 z10 z9 z11 z33 hs5 hs6 hs7 hs4 hv4 hg2
    go_wp2_with fail
    go_loopw [18] (fun iv wr => ∃ (j : Nat) (Z : List Int), j ≤ m ∧ iv = .int .i64 (j : Int) ∧ wr.ownsRow w3.heap.size 3 1 (.slice (some ⟨w3.heap.size, 0, none⟩) (m + 2) (m + 2)) (m + 2) (Z.map (Value.int .i64)) ∧ Hid (Keeps (fun b => b = w3.heap.size) w15 wr)) (fun iv _ => m - (intOf iv).toNat)
    case atStart => exact ⟨0, W ++ [7001, 7002], Nat.zero_le _, rfl, by simpa using hV15, Lib.hid (Keeps.refl _ _)⟩
    case round =>
      obtain ⟨j, Y, hj, rfl, hown, hk⟩ := hrel
      clear hV15
      by_cases hlt : j < m
      · have hY : Y.length = m + 2 := by simpa using (Sl.of_own hown).1
        obtain ⟨z, hz⟩ : ∃ z, Y[j]? = some z := ⟨_, List.getElem?_eq_getElem (by omega)⟩
        have hcell : wr.cell? ⟨w3.heap.size, j, none⟩ = some (.int .i64 z) := by rw [hown.cellAt j (by omega), List.getElem?_map, hz]; rfl
        have hfr := hown.frozenAt j
        have hst := (hown.stored j (.int .i64 0)).1
        rw [← List.map_set] at hst
        have hk2 := Keeps.of_setCell wr ⟨w3.heap.size, j, none⟩ (.int .i64 0)
        have HK := Lib.hid (hk.out.trans hk2 (fun _ _ h => h))
        clear hY hz hown hk hk2 HST Z
        go_wp2_with fail
        exact ⟨⟨j + 1, _, by omega, by go_num, hst, HK⟩, by simp [intOf]; omega⟩
      · have hjm : Hid (j = m) := Lib.hid (by omega)
        obtain ⟨⟨hr16, hm16, hx16, hy16⟩, ⟨hR516, hR616, hR816, hR1016⟩, hM16, hC16, ho16, hb16⟩ := HST.out wr hk.out
        have hi17 := ints_b wr C5 D l.length l.length c5 dd l l hR516.sl (Sl.of_own ho16) (by omega) (by omega)
        rw [decide_eq_true rfl] at hi17
        have HI17 := Lib.hid hi17
        have hj15 : Hid (w15.heap.size ≤ wr.heap.size) := Lib.hid hk.out.size
        clear hi17 HST hown hk
        go_wp2_with fail
        refine (HI17.out).mono ?_
        rintro e w17 ⟨rfl, b17⟩
        have s17 := b17.size
        have s16 := hb16.size
        have hx17 := hx16.below b17 hx16.lt
        have hy17 := hy16.below b17 hy16.lt
        have hr17 := hr16.below b17 hr16.lt
        have hm17 := hm16.below b17 hm16.lt
        have hR517 := hR516.below b17
        have hR617 := hR616.below b17
        have hR817 := hR816.below b17
        have hR1017 := hR1016.below b17
        have hM17 := own_below hM16 b17
        have hC17 := own_below hC16 b17
        have hb17 := hb16.trans (b17.mono hb16.size)
        obtain ⟨x0, x1, x2, _⟩ := hx17.facts
        obtain ⟨y0, y1, y2, _⟩ := hy17.facts
        clear hx16 hy16 hr16 hm16 hR516 hR616 hR816 hR1016 hM16 hC16 ho16 HI17 HW9 HW11
        go_wp2_with fail
        have ba : Below w17.heap.size w17 (w17.alloc (.cells #[.slice C5 l.length c5, .slice C6 l.length c6, .slice S8 t.length d8, .slice T10 t.length d10] 22)) := (Below.refl _ _).alloc (Nat.le_refl _) _
        have hlit := World.ownsRow_lit (base := w17.heap.size) (e := 22) (size := 1) w17 #[.slice C5 l.length c5, .slice C6 l.length c6, .slice S8 t.length d8, .slice T10 t.length d10] 4 (Nat.le_refl _) (by decide) rfl
        obtain ⟨wa, hwa⟩ : ∃ wa, w17.alloc (.cells #[.slice C5 l.length c5, .slice C6 l.length c6, .slice S8 t.length d8, .slice T10 t.length d10] 22) = wa := ⟨_, rfl⟩
        rw [hwa]
        rw [hwa] at ba hlit
        have sa := ba.size
        have hra := hr17.below ba hr17.lt
        have hma := hm17.below ba hm17.lt
        have hR5a := hR517.below ba
        have hR6a := hR617.below ba
        have hR8a := hR817.below ba
        have hR10a := hR1017.below ba
        have hMa := own_below hM17 ba
        have hCa := own_below hC17 ba
        have hba := hb17.trans (ba.mono hb17.size)
        have hSa := hS.below hba
        obtain ⟨⟨a1, a2, a3, a4⟩, ⟨a5, a6, a7, a8⟩, ⟨a9, a10, a11⟩, a12, a13⟩ := Z.out
        have hrg : Ranged wa w4.heap.size [(.slice C5 l.length c5, l), (.slice C6 l.length c6, l), (.slice S8 t.length d8, ints t), (.slice T10 t.length d10, ints t)] :=
          .cons (Nat.le_refl _) a5 hR5a rfl (Nat.le_refl _) (.cons (Nat.le_refl _) a6 hR6a rfl a7 (.cons (Nat.le_refl _) a8 hR8a (ints_len t) (Nat.le_of_lt a9) (.cons (Nat.le_refl _) a10 hR10a (ints_len t) (Nat.le_refl _) (.nil _ _))))
        have hin : ∀ b, Apart.Foot [(.slice C5 l.length c5, l), (.slice C6 l.length c6, l), (.slice S8 t.length d8, ints t), (.slice T10 t.length d10, ints t)] b → (w4.heap.size ≤ b ∧ b < w6.heap.size) ∨ (w7.heap.size ≤ b ∧ b < w8.heap.size) ∨ (w9.heap.size ≤ b ∧ b < w10.heap.size) := by
          rintro b ⟨p, hp, hg⟩
          simp only [List.mem_cons, List.not_mem_nil, or_false] at hp
          rcases hp with rfl | rfl | rfl | rfl
          · have := (hR5a.own.lt b hg).1; have := hR5a.hi b hg; omega
          · have := (hR6a.own.lt b hg).1; have := hR6a.hi b hg; omega
          · have := (hR8a.own.lt b hg).1; have := hR8a.hi b hg; omega
          · have := (hR10a.own.lt b hg).1; have := hR10a.hi b hg; omega
        refine (apart_r wa (some ⟨w17.heap.size, 0, none⟩) 4 4 _ w4.heap.size (Sl.of_own hlit) hrg ?_ (by decide) ?_).mono ?_
        · rintro ad had hf
          cases had
          rcases hin _ hf with h | h | h <;> (simp only at h; have := hj15.out; omega)
        · intro p hp
          simp only [List.mem_cons, List.not_mem_nil, or_false] at hp
          rcases hp with rfl | rfl | rfl | rfl <;> simp only [ints_len] <;> omega
        rintro e w18 ⟨rfl, hk18⟩
        have hr18 := hra.keeps hk18 (fun h => by rcases hin _ h with h | h | h <;> omega)
        have hm18 := hma.keeps hk18 (fun h => by rcases hin _ h with h | h | h <;> omega)
        have hM18 := own_keeps hMa hk18 (fun b hb h => by simp [Value.ownBlock] at hb; rcases hin _ h with h | h | h <;> omega)
        have hC18 := own_keeps hCa hk18 (fun b hb h => by have := hCl.out b hb; rcases hin _ h with h | h | h <;> omega)
        have hb18 := hba.trans (hk18.below hba.size (fun b h => by rcases hin _ h with h | h | h <;> omega))
        have hS18 := hS.below hb18
        have HK := Lib.hid (keptRule_c w18 k r (some ⟨g, 0, none⟩) A t.length (t.length + 2) c (ints t) hS18 (Sl.of_own hM18) (Nat.le_refl _) (by simp only [maxLen]; omega))
        unfold ruleV at HK
        have s18 := hb18.size
        clear hwa hlit ba hra hma hR5a hR6a hR8a hR10a hMa hCa hba hSa hrg hin hk18 hr17 hm17 hR517 hR617 hR817 hR1017 hM17 hC17 hb17 a1 a2 a3 a4 a5 a6 a7 a8 a9 a10 a11 a12 a13 x0 x1 x2 y0 y1 y2
        obtain ⟨r0, r1, r2, _⟩ := hr18.facts
        obtain ⟨m0, m1, m2, _⟩ := hm18.facts
        go_wp2_with fail
        refine (HK.out).mono ?_
        rintro e w19 ⟨rfl, b19⟩
        have hb19 := hb18.trans (b19.mono hb18.size)
        have hr19 := hr18.below b19 hr18.lt
        have hC19 := own_below hC18 b19
        have HF19 := Lib.hid (from_good w19 E (hE.below hb19) hru hn2 (num_own hC19) hlen)
        clear r0 r1 r2 m0 m1 m2 HK hm18 hr18
        obtain ⟨r0, r1, r2, _⟩ := hr19.facts
        go_wp2_with fail
        refine (HF19.out).mono ?_
        rintro e w20 ⟨U20, d20, rfl, ho20, b20⟩
        have hb20 := hb19.trans (b20.mono hb19.size)
        have hr20 := hr19.below b20 hr19.lt
        have hl20 := hr20.lt
        have b21 := (Below.refl w20.heap.size w20).alloc (Nat.le_refl _) (.cells #[.int .i64 (k : Int), .int .i64 (r : Int), .slice U20 t.length d20] 24)
        have hb21 := hb20.trans (b21.mono hb20.size)
        have HRS := Lib.hid (rules_same _ k r U20 A t.length d20 c (ints t) ((Sl.of_own ho20).below b21) (hS.below hb21) (by omega))
        have HB21 := Lib.hid hb21
        unfold ruleV at HRS
        clear r0 r1 r2 hr19 b21 hb21
        obtain ⟨r0, r1, r2, _⟩ := hr20.facts
        go_wp2_with fail
        refine (HRS.out).mono ?_
        rintro e w22 ⟨rfl, b22⟩
        have HB22 := Lib.hid (HB21.out.trans (b22.mono HB21.out.size))
        clear HB21 b22 r0 r1 r2
        go_wp2_with fail
        go_ret
        exact ⟨rfl, HB22.out⟩

theorem ruleKeeps_c (w : World) (E : Nat → Addr) (hE : Errs w E) (K R : Int) (A B : Option Addr) (n c m d : Nat) (T W : List Int) (hS : Sl w A n (T.map (Value.int .i64))) (hn : n ≤ c) (hz : c * 8 ≤ 140737488351232)
    (hS1 : Sl w B m (W.map (Value.int .i64))) (hn1 : m ≤ d) (hz1 : d * 8 ≤ 140737488351232) :
    Calls Tryd.prog 7 #[ruleV K R A n c, .slice B m d] w fun e w' => e = .returned (.bool true) ∧ Below w.heap.size w w' := by
  by_cases h1 : 100 < m
  · exact keeps_long w E hE K R A B n c m d (.inl h1)
  · by_cases h2 : 256 < n
    · exact keeps_long w E hE K R A B n c m d (.inr ⟨by omega, h2⟩)
    · exact keeps_main w E hE K R A B n c m d T W hS hn hz hS1 hn1 hz1 (by omega) (by omega)
end Go.Proofs.YtfgjcdfmlpdkaaaDoor
