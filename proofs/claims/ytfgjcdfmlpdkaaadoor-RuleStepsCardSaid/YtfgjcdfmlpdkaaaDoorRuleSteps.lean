/- The call of RuleSteps: it returns true. Condition: the lists read from memory; the error variables hold what E says. -/
import Derived.Test.YtfgjcdfmlpdkaaaDoorLentR
import Derived.Test.YtfgjcdfmlpdkaaaDoorRefU
import Derived.Test.YtfgjcdfmlpdkaaaDoorLaw4A
namespace Go.Proofs.YtfgjcdfmlpdkaaaDoor
open Go.RowKit RuleP

theorem odd_taleOk (k : Int) (w : List Int) (n : Nat) (h1 : 1 ≤ n) (h2 : n ≤ 11) (op : ByteArray) : TaleOk ((odd k w).map fun i => (n, [(op, (i : Int))])) := by
  intro t ht
  cases ho : odd k w with
  | none => rw [ho] at ht; cases ht
  | some i => rw [ho] at ht; cases ht; exact ⟨h1, h2⟩
theorem step_taleOk (K R : Int) (T W : List Int) : TaleOk (wantOf (RuleP.step K R T W)) := by
  intro t ht
  unfold RuleP.step at ht
  split at ht
  · rename_i t' hc
    cases ht
    exact check_ok K R T t hc
  · split at ht
    · cases ht; exact ⟨by simp, by simp⟩
    · split at ht
      · cases ht; exact ⟨by simp, by simp⟩
      · cases ht
theorem local_taleOk (K R : Int) (T W : List Int) : TaleOk (wantOf (RuleP.local' K R T W)) := by
  intro t ht
  unfold RuleP.local' at ht
  split at ht
  · rename_i t' hc
    cases ht
    exact check_ok K R T t hc
  · split at ht
    · cases ht; exact ⟨by simp, by simp⟩
    · split at ht
      · cases ht; exact ⟨by simp, by simp⟩
      · cases ht

theorem step_u (w : World) (E : Nat → Addr) (hE : Errs w E) (K R : Int) (A B : Option Addr) (n c m d : Nat) (T W : List Int) (hT : Sl w A n (T.map (Value.int .i64))) (hm : n ≤ 9223372036854775807) (hW : Sl w B m (W.map (Value.int .i64))) (hm2 : m ≤ 9223372036854775807) :
    Calls Tryd.prog 24 #[ruleV K R A n c, .slice B m d] w fun e w' => ∃ (C : Option Addr) (M cc : Nat) (v : Value), e = .returned (.tuple #[.slice C M cc, v]) ∧ w'.ownsRow w.heap.size 3 1 (.slice C M cc) M ((okOr (RuleP.step K R T W)).map (Value.int .i64)) ∧ ErrV w' E (wantOf (RuleP.step K R T W)) v ∧ Below w.heap.size w w' := by
  have hl : W.length = m := by simpa using hW.1
  cases hs : RuleP.step K R T W with
  | error tl =>
    refine (step_bad w E hE K R A B n c m d T W hT hm hW hm2 tl hs).mono ?_
    rintro e w' ⟨v, rfl, he, hb⟩
    exact ⟨none, 0, 0, v, rfl, ⟨rfl, .inl ⟨rfl, rfl⟩⟩, he, hb⟩
  | ok l =>
    unfold RuleP.step at hs
    split at hs
    · cases hs
    · rename_i hc
      obtain ⟨k, r, t, rfl, rfl, rfl, hr⟩ := check_none hc
      split at hs
      · cases hs
      · rename_i h4
        split at hs
        · cases hs
        · rename_i ho
          obtain ⟨v, rfl, hv⟩ := odd_nat ho
          injection hs with hs
          subst hs
          refine (step_good w E hE k r A B n c m d t v hr hv hT hW (by omega)).mono ?_
          rintro e w' ⟨C, cc, rfl, hown, hb⟩
          rw [Int.toNat_natCast, Int.toNat_natCast, nats_ints, nats_ints]
          exact ⟨C, _, cc, .nilIface, rfl, hown, rfl, hb⟩
theorem local_u (w : World) (E : Nat → Addr) (hE : Errs w E) (K R : Int) (A B : Option Addr) (n c m d : Nat) (T W : List Int) (hT : Sl w A n (T.map (Value.int .i64))) (hm : n ≤ 9223372036854775807) (hW : Sl w B m (W.map (Value.int .i64))) (hm2 : m ≤ 9223372036854775807) :
    Calls Tryd.prog 25 #[ruleV K R A n c, .slice B m d] w fun e w' => ∃ (v : Value), e = .returned (.tuple #[.int .i64 (intOr (RuleP.local' K R T W)), v]) ∧ ErrV w' E (wantOf (RuleP.local' K R T W)) v ∧ Below w.heap.size w w' := by
  have hl : W.length = m := by simpa using hW.1
  cases hs : RuleP.local' K R T W with
  | error tl =>
    refine (local_bad w E hE K R A B n c m d T W hT hm hW hm2 tl hs).mono ?_
    rintro e w' ⟨v, rfl, he, hb⟩
    exact ⟨v, rfl, he, hb⟩
  | ok l =>
    unfold RuleP.local' at hs
    split at hs
    · cases hs
    · rename_i hc
      obtain ⟨k, r, t, rfl, rfl, rfl, hr⟩ := check_none hc
      split at hs
      · cases hs
      · rename_i h4
        split at hs
        · cases hs
        · rename_i ho
          obtain ⟨v, rfl, hv⟩ := odd_nat ho
          injection hs with hs
          subst hs
          refine (local_good w E hE k r A B n c m d t v hr hv hT hW (by omega)).mono ?_
          rintro e w' ⟨rfl, hb⟩
          rw [Int.toNat_natCast, nats_ints, nats_ints]
          exact ⟨.nilIface, rfl, rfl, hb⟩

set_option maxRecDepth 100000 in
set_option maxHeartbeats 1000000 in
theorem ruleSteps_c (w : World) (E : Nat → Addr) (hE : Errs w E) (hT : ErrT w) (K R : Int) (A B D : Option Addr) (n c m d p q : Nat) (T W X : List Int) (hS : Sl w A n (T.map (Value.int .i64))) (hn : n ≤ c) (hz : c * 8 ≤ 140737488351232)
    (hS1 : Sl w B m (W.map (Value.int .i64))) (hn1 : m ≤ d) (hz1 : d * 8 ≤ 140737488351232) (hS2 : Sl w D p (X.map (Value.int .i64))) (hn2 : p ≤ q) (hz2 : q * 8 ≤ 140737488351232) :
    Calls Tryd.prog 12 #[ruleV K R A n c, .slice B m d, .slice D p q] w fun e w' => e = .returned (.bool true) ∧ Below w.heap.size w w' := by
  have hb0 := (Below.refl w.heap.size w).alloc (Nat.le_refl _) (.cells #[.int .i64 K, .int .i64 R, .slice A n c] 24)
  have HE := Lib.hid (hE.below hb0)
  have hr0 := RuleAt.new w (.int .i64 K) (.int .i64 R) (.slice A n c)
  unfold ruleV at *
  go_enter Tryd.func12, Tryd.ntmps12
  go_wp2_with fail
  refine (awake4_c _ E HE.out).mono ?_
  rintro e w1 ⟨rfl, b1⟩
  have hr1 := hr0.below b1 (by simp)
  have hb1 := below_box b1
  obtain ⟨r0, r1, r2, _⟩ := hr1.facts
  clear b1
  go_wp2_with fail
  refine (lentRule_c w1 K R A n c _ (hS.below hb1) (ints_one T) (by omega)).mono ?_
  rintro e w2 ⟨g, rfl, hg, hown, b2⟩
  have hb2 := hb1.trans (b2.mono hb1.size)
  have hr2 := hr1.below b2 hr1.lt
  have hm3 := RuleAt.new w2 (.int .i64 K) (.int .i64 R) (.slice (some ⟨g, 0, none⟩) n (n + 2))
  have b3 := (Below.refl w2.heap.size w2).alloc (Nat.le_refl _) (.cells #[.int .i64 K, .int .i64 R, .slice (some ⟨g, 0, none⟩) n (n + 2)] 24)
  unfold ruleV
  obtain ⟨w3, hw3⟩ : ∃ w3, w2.alloc (.cells #[.int .i64 K, .int .i64 R, .slice (some ⟨g, 0, none⟩) n (n + 2)] 24) = w3 := ⟨_, rfl⟩
  have HW3 := Lib.hid hw3
  rw [hw3] at hm3 b3
  have hb3 := hb2.trans (b3.mono hb2.size)
  have hr3 := hr2.below b3 hr2.lt
  have ho3 := own_below hown b3
  clear r0 r1 r2 hr1 hr2 hown b2 hw3
  go_wp2_with fail
  rw [HW3.out]
  refine (lent_c w3 B m d _ (hS1.below hb3) (ints_one W) (by omega)).mono ?_
  rintro e w4 ⟨rfl, ho4, b4⟩
  have hb4 := hb3.trans (b4.mono hb3.size)
  go_wp2_with fail
  refine (lent_c w4 D p q _ (hS2.below hb4) (ints_one X) (by omega)).mono ?_
  rintro e w5 ⟨rfl, ho5, b5⟩
  have hb5 := hb4.trans (b5.mono hb4.size)
  have c35 := b4.trans (b5.mono b4.size)
  have hS35 := (Sl.of_own ho3).below c35
  have hA5 : Sl w5 (some ⟨g, 0, none⟩) n (T.map (Value.int .i64)) := sl_take' hS35 (by simpa using hS.1)
  have hV5' := (Sl.of_own ho4).below b5
  have hV5 : Sl w5 (some ⟨w3.heap.size, 0, none⟩) m (W.map (Value.int .i64)) := sl_take' hV5' (by simpa using hS1.1)
  have hY5' := Sl.of_own ho5
  have hY5 : Sl w5 (some ⟨w4.heap.size, 0, none⟩) p (X.map (Value.int .i64)) := sl_take' hY5' (by simpa using hS2.1)
  have hm5 := hm3.below c35 hm3.lt
  have hr5 := hr3.below c35 hr3.lt
  obtain ⟨r0, r1, r2, _⟩ := hr5.facts
  obtain ⟨s0, s1, s2, _⟩ := hm5.facts
  have HS5 := Lib.hid hS35
  clear hm3 hr3 ho3 ho4 ho5 hS35 b3 b4 b5 c35
  go_wp2_with fail
  refine (step_u w5 E (hE.below hb5) K R (some ⟨g, 0, none⟩) (some ⟨w3.heap.size, 0, none⟩) n (n + 2) m (m + 2) T W hA5 (by omega) hV5 (by omega)).mono ?_
  rintro e w6 ⟨C6, M6, c6, v6, rfl, ho6, he6, b6⟩
  have hb6 := hb5.trans (b6.mono hb5.size)
  obtain ⟨r0, r1, r2, _⟩ := (hr5.below b6 hr5.lt).facts
  go_wp2_with fail
  refine (refStep_c w6 K R A B n c m d T W (hS.below hb6) (by omega) (hS1.below hb6) hn1 (by simp only [maxLen]; omega)).mono ?_
  rintro e w7 ⟨C7, M7, c7, N7, A7, n7, k7, D7, m7, d7, rfl, ho7, hu7, b7⟩
  have hb7 := hb6.trans (b7.mono hb6.size)
  have hf8 := WantAt.new w7 (.int .i64 (N7 : Int)) (.slice A7 n7 k7) (.slice D7 m7 d7)
  have b8 := (Below.refl w7.heap.size w7).alloc (Nat.le_refl _) (.cells #[.int .i64 (N7 : Int), .slice A7 n7 k7, .slice D7 m7 d7] 60)
  obtain ⟨w8, hw8⟩ : ∃ w8, w7.alloc (.cells #[.int .i64 (N7 : Int), .slice A7 n7 k7, .slice D7 m7 d7] 60) = w8 := ⟨_, rfl⟩
  have HW8 := Lib.hid hw8
  rw [hw8] at hf8 b8
  have hb8 := hb7.trans (b8.mono hb7.size)
  have c57 := b6.trans (b7.mono b6.size)
  have c58 := c57.trans (b8.mono c57.size)
  have hm8 := hm5.below c57 hm5.lt
  obtain ⟨s0, s1, s2, _⟩ := hm8.facts
  have q7 := hm8.lt
  clear hw8
  go_wp2_with fail
  rw [HW8.out]
  refine (local_u w8 E (hE.below hb8) K R (some ⟨g, 0, none⟩) (some ⟨w4.heap.size, 0, none⟩) n (n + 2) p (p + 2) T X (hA5.below c58) (by omega) (hY5.below c58) (by omega)).mono ?_
  rintro e w9 ⟨v9, rfl, he9, b9⟩
  have hb9 := hb8.trans (b9.mono hb8.size)
  have c59 := c58.trans (b9.mono c58.size)
  obtain ⟨r0, r1, r2, _⟩ := (hr5.below c59 hr5.lt).facts
  go_wp2_with fail
  refine (refLocal_c w9 K R A D n c p q T X (hS.below hb9) (by omega) (hS2.below hb9) (by omega)).mono ?_
  rintro e w10 ⟨N10, A10, n10, k10, D10, m10, d10, rfl, hu10, b10⟩
  have hb10 := hb9.trans (b10.mono hb9.size)
  have hh11 := WantAt.new w10 (.int .i64 (N10 : Int)) (.slice A10 n10 k10) (.slice D10 m10 d10)
  have b11 := (Below.refl w10.heap.size w10).alloc (Nat.le_refl _) (.cells #[.int .i64 (N10 : Int), .slice A10 n10 k10, .slice D10 m10 d10] 60)
  obtain ⟨w11, hw11⟩ : ∃ w11, w10.alloc (.cells #[.int .i64 (N10 : Int), .slice A10 n10 k10, .slice D10 m10 d10] 60) = w11 := ⟨_, rfl⟩
  have HW11 := Lib.hid hw11
  rw [hw11] at hh11 b11
  have hb11 := hb10.trans (b11.mono hb10.size)
  have z9 := b10.trans (b11.mono b10.size)
  have z8 := b9.trans (z9.mono b9.size)
  have z7 := b8.trans (z8.mono b8.size)
  have z6 := b7.trans (z7.mono b7.size)
  have z5 := b6.trans (z6.mono b6.size)
  have hm11 := (hm5.below z5 hm5.lt).facts
  have hr11 := (hr5.below z5 hr5.lt).facts
  have hf11 := (hf8.below z8 hf8.lt).facts
  have hh11' := hh11.facts
  have HF := Lib.hid (fun (wz : World) (hz : Below w11.heap.size w11 wz) => (⟨cell_later hz hr11.1, cell_later hz hr11.2.1, cell_later hz hr11.2.2.1, cell_later hz hm11.1, cell_later hz hm11.2.1, cell_later hz hm11.2.2.1, cell_later hz hf11.1, cell_later hz hf11.2.1, cell_later hz hf11.2.2.1, cell_later hz hh11'.1, cell_later hz hh11'.2.1, cell_later hz hh11'.2.2.1⟩ :
    wz.cell? ⟨w.heap.size, 0, none⟩ = some (.int .i64 K) ∧ wz.cell? ⟨w.heap.size, 1, none⟩ = some (.int .i64 R) ∧ wz.cell? ⟨w.heap.size, 2, none⟩ = some (.slice A n c) ∧
    wz.cell? ⟨w2.heap.size, 0, none⟩ = some (.int .i64 K) ∧ wz.cell? ⟨w2.heap.size, 1, none⟩ = some (.int .i64 R) ∧ wz.cell? ⟨w2.heap.size, 2, none⟩ = some (.slice (some ⟨g, 0, none⟩) n (n + 2)) ∧
    wz.cell? ⟨w7.heap.size, 0, none⟩ = some (.int .i64 (N7 : Int)) ∧ wz.cell? ⟨w7.heap.size, 1, none⟩ = some (.slice A7 n7 k7) ∧ wz.cell? ⟨w7.heap.size, 2, none⟩ = some (.slice D7 m7 d7) ∧
    wz.cell? ⟨w10.heap.size, 0, none⟩ = some (.int .i64 (N10 : Int)) ∧ wz.cell? ⟨w10.heap.size, 1, none⟩ = some (.slice A10 n10 k10) ∧ wz.cell? ⟨w10.heap.size, 2, none⟩ = some (.slice D10 m10 d10)))
  have hl6 := own_le ho6
  have hl7 := own_le ho7
  unfold maxLen at hl6 hl7
  obtain rfl : M6 = M7 := by rw [← (Sl.of_own ho6).1, ← (Sl.of_own ho7).1]
  have hI := fun (wz : World) (hz : Below w11.heap.size w11 wz) => ints_b wz C6 C7 M6 M6 c6 c7 (okOr (RuleP.step K R T W)) (okOr (RuleP.step K R T W)) (((Sl.of_own ho6).below z6).below hz) (((Sl.of_own ho7).below z7).below hz) (by omega) (by omega)
  rw [decide_eq_true rfl] at hI
  have HINTS := Lib.hid hI
  have hSB := hS.below hb11
  have hS1B := hS1.below hb11
  have hS2B := hS2.below hb11
  have HIS := Lib.hid (fun (wz : World) (hz : Below w11.heap.size w11 wz) (t : Option Tale) (ht : TaleOk t) (v u : Value) (hv : ErrV wz E t v) (hu : WantV wz t u) => rawIs_c wz E (hE.below (hb11.trans (hz.mono hb11.size))) (hT.below (hb11.trans (hz.mono hb11.size))) t ht v u hv hu)
  have hSg := (hA5.below z5)
  have HKV := Lib.hid (fun (wz : World) (hz : Below w11.heap.size w11 wz) => kept_c wz (some ⟨w3.heap.size, 0, none⟩) B m (m + 2) d W (hS1B.below hz) ((hV5'.below z5).below hz) (Nat.le_refl _) (by simp only [maxLen]; omega))
  have HKY := Lib.hid (fun (wz : World) (hz : Below w11.heap.size w11 wz) => kept_c wz (some ⟨w4.heap.size, 0, none⟩) D p (p + 2) q X (hS2B.below hz) ((hY5'.below z5).below hz) (Nat.le_refl _) (by simp only [maxLen]; omega))
  have HKP := Lib.hid (fun (wz : World) (hz : Below w11.heap.size w11 wz) => keptRule_c wz K R (some ⟨g, 0, none⟩) A n (n + 2) c T (hSB.below hz) ((HS5.out.below z5).below hz) (Nat.le_refl _) (by simp only [maxLen]; omega))
  have HE6 := Lib.hid (he6.below z6)
  have HU7 := Lib.hid (hu7.below z7)
  have HE9 := Lib.hid (he9.below z9)
  have HU10 := Lib.hid (hu10.below b11)
  have HB11 := Lib.hid hb11
  obtain ⟨sN, hsN⟩ : ∃ sN, intOr (RuleP.local' K R T X) = sN := ⟨_, rfl⟩
  rw [hsN]
  have hnn : (sN == sN) = true := by simp
  clear q7 hE hT hS hS1 hS2 hSB hS1B hS2B hI hw11 hsN hm11 hr11 hf11 hh11 hh11' z9 z8 z7 z6 z5 b6 b7 b8 b9 b10 b11 hb11 hb10 hb9 hb8 hb7 hb6 hb5 hb4 hb3 hb2 hb1 hb0 r0 r1 r2 s0 s1 s2 hm5 hr5 hm8 hf8 he6 he9 hu7 hu10 ho6 ho7 hA5 hV5 hV5' hY5 hY5' hr0 c57 c58 c59 hSg
  unfold ruleV at HKP
  have h0 := Below.refl w11.heap.size w11
  obtain ⟨p0, p1, p2, p3, p4, p5, p6, p7, p8, p9, p10, p11⟩ := HF.out _ h0
  go_wp2_with fail
  rw [HW11.out]
  refine (HINTS.out _ h0).mono ?_
  rintro e w12 ⟨rfl, b12⟩
  obtain ⟨p0, p1, p2, p3, p4, p5, p6, p7, p8, p9, p10, p11⟩ := HF.out _ b12
  go_wp2_with fail
  refine (HIS.out _ b12 _ (step_taleOk K R T W) _ _ (HE6.out.below b12) (HU7.out.below b12).want).mono ?_
  rintro e w13 ⟨rfl, b13⟩
  have hb13 := b12.trans (b13.mono b12.size)
  obtain ⟨p0, p1, p2, p3, p4, p5, p6, p7, p8, p9, p10, p11⟩ := HF.out _ hb13
  go_wp2_with fail
  refine (HIS.out _ hb13 _ (local_taleOk K R T X) _ _ (HE9.out.below hb13) (HU10.out.below hb13).want).mono ?_
  rintro e w14 ⟨rfl, b14⟩
  have hb14 := hb13.trans (b14.mono hb13.size)
  obtain ⟨p0, p1, p2, p3, p4, p5, p6, p7, p8, p9, p10, p11⟩ := HF.out _ hb14
  go_wp2_with fail
  refine (HKP.out _ hb14).mono ?_
  rintro e w15 ⟨rfl, b15⟩
  have hb15 := hb14.trans (b15.mono hb14.size)
  go_wp2_with fail
  refine (HKV.out _ hb15).mono ?_
  rintro e w16 ⟨rfl, b16⟩
  have hb16 := hb15.trans (b16.mono hb15.size)
  go_wp2_with fail
  refine (HKY.out _ hb16).mono ?_
  rintro e w17 ⟨rfl, b17⟩
  have hb17 := hb16.trans (b17.mono hb16.size)
  go_wp2_with fail
  go_ret
  exact ⟨rfl, HB11.out.trans (hb17.mono HB11.out.size)⟩
end Go.Proofs.YtfgjcdfmlpdkaaaDoor
