/- The call of WholeFair: it returns true. Condition: the table reads from memory; the error variables hold what E says. -/
import Derived.Test.YtibplgpolmplpaaGreatDoorW22
import Derived.Test.YtibplgpolmplpaaGreatDoorW23
namespace Go.Proofs.YtibplgpolmplpaaGreatDoor
open Go.RowKit RuleP SubP

theorem tmod5 (x : Int) : -4 ≤ x.tmod 5 ∧ x.tmod 5 ≤ 4 ∧ (x.tmod 5 + 5) % 5 = x % 5 := by
  rcases Int.lt_or_le x 0 with h | h
  · have : x.tmod 5 = -((-x) % 5) := by
      rw [← Int.tmod_eq_emod_of_nonneg (by omega : 0 ≤ -x), Int.neg_tmod, Int.neg_neg]
    omega
  · rw [Int.tmod_eq_emod_of_nonneg h]; omega

/-- By a rule without twins all words are fair. -/
theorem fair_finite {k r : Nat} {t x : List Nat} (hr : IsRule k r t) (hno : ∀ a b, ¬ RuleP.Twin k r t a b) (hx : ∀ s ∈ x, s < k) : (preL k r t x).length = k ^ (2 * r) :=
  onto_fair hr (fun _ hv => single_onto hr hno hv) hx
/-- The orphan is not fair. -/
theorem fair_orphan {k r : Nat} {t x a b : List Nat} (hr : IsRule k r t) (htw : RuleP.Twin k r t a b) (h : fin k (k ^ (2 * r)) t true = .orphan x) (hf : k = 1 ∨ AllFair k r t x.length) : False := by
  obtain ⟨h1, _, h3, _⟩ := fin_hasNot hr.k1 h
  rcases hf with rfl | hf
  · exact one_symbol htw
  · have := hf x rfl h1
    rw [h3] at this
    have hp : 0 < k ^ (2 * r) := Nat.pow_pos hr.k1
    simp only [List.length_nil] at this
    omega

set_option maxRecDepth 100000 in
set_option maxHeartbeats 4000000 in
theorem wholeFair_c (w : World) (E : Nat → Addr) (hE : ErrW w E) (K R : Int) (A : Option Addr) (n c : Nat) (T : List Int) (hS : Sl w A n (T.map (Value.int .i64))) (hn : n ≤ 9223372036854775807) (N : Int) :
    Calls Tryz.prog 5 #[ruleV K R A n c, .int .i64 N] w fun e w' => e = .returned (.bool true) ∧ Below w.heap.size w w' := by
  have hnl : T.length = n := by simpa using hS.1
  have hb0 := (Below.refl w.heap.size w).alloc (Nat.le_refl _) (.cells #[.int .i64 K, .int .i64 R, .slice A n c] 24)
  have HER := Lib.hid (fun (wz : World) (hz : Below w.heap.size w wz) => (⟨hE.below hz, hS.below hz⟩ : _ ∧ _))
  have HAW := Lib.hid (counts_c _ E (HER.out _ hb0).1)
  have hr0 := RuleAt.new w (.int .i64 K) (.int .i64 R) (.slice A n c)
  have HNL := Lib.hid (And.intro hnl hn)
  clear hE hS hnl hn
  unfold ruleV at *
  go_enter Tryz.func5, Tryz.ntmps5
  go_wp2_with fail
  refine (HAW.out).mono ?_
  rintro e w1 ⟨rfl, b1⟩
  have hr1 := hr0.below b1 (by simp)
  have hb1 := below_box b1
  obtain ⟨r0, r1, r2, _⟩ := hr1.facts
  have HB1 := Lib.hid hb1
  have HR1 := Lib.hid hr1
  obtain ⟨t1, t2, t3⟩ := tmod5 N
  obtain ⟨y, hy⟩ := Int.eq_ofNat_of_zero_le (show 0 ≤ N % 5 by omega)
  have hyl : y < 5 := by omega
  rw [hy] at t3
  clear hr0 hb0 b1 hr1 hb1 HAW hy
  cases hsm : small K R T with
  | some tl =>
    have hfb := finite_bad w1 E (HER.out w1 HB1.out).1.1 K R A n c T (HER.out w1 HB1.out).2 HNL.out.2 tl hsm
    have HSM := Lib.hid hsm
    unfold ruleV at hfb
    have HFB := Lib.hid hfb
    clear hsm hfb
    go_wp2_with fail
    refine (HFB.out).mono ?_
    rintro e w2 ⟨u, p, rfl, b2⟩
    have hb2 := HB1.out.trans (b2.mono HB1.out.size)
    have hr2 := HR1.out.below b2 HR1.out.lt
    obtain ⟨r0, r1, r2, _⟩ := hr2.facts
    obtain ⟨tc, htc⟩ := smallC_bad HSM.out
    have hcf := cFair_bad w2 E (HER.out w2 hb2).1.1 K R A n c T (HER.out w2 hb2).2 HNL.out.2 (y : Int) tc htc
    unfold ruleV at hcf
    have HCF := Lib.hid hcf
    have HB2 := Lib.hid hb2
    clear hb2 hr2 b2 htc hcf HFB
    go_wp2_with fail
    refine (HCF.out).mono ?_
    rintro e w3 ⟨v, rfl, _, b3⟩
    have HB3 := Lib.hid (HB2.out.trans (b3.mono HB2.out.size))
    clear b3 HCF
    go_wp2_with fail
    go_ret
    exact ⟨rfl, HB3.out⟩
  | none =>
    obtain ⟨k, r, t, rfl, rfl, rfl, hr, h256⟩ := small_parts hsm
    have hff := finite_c w1 E (HER.out w1 HB1.out).1.1 k r n c A t (HER.out w1 HB1.out).2 hr h256
    unfold ruleV at hff
    have HFF := Lib.hid hff
    have HRU := Lib.hid (And.intro hr h256)
    clear hsm hff hr h256
    go_wp2_with fail
    refine (HFF.out).mono ?_
    rintro e w2 ⟨f, C2, n2, c2, v2, rfl, b2, hf1, hf2, _⟩
    have hb2 := HB1.out.trans (b2.mono HB1.out.size)
    have hr2 := HR1.out.below b2 HR1.out.lt
    obtain ⟨r0, r1, r2, _⟩ := hr2.facts
    have hcf := cFair_c w2 E (HER.out w2 hb2).1.1 k r A n c t (HER.out w2 hb2).2 HRU.out.1 HRU.out.2 y (by omega)
    unfold ruleV at hcf
    have HCF := Lib.hid hcf
    have HB2 := Lib.hid hb2
    have HR2 := Lib.hid hr2
    have HF1 := Lib.hid hf1
    have HF2 := Lib.hid hf2
    clear hb2 hr2 b2 hcf HFF hf1 hf2
    go_wp2_with fail
    refine (HCF.out).mono ?_
    rintro e w3 hfp
    cases f with
    | true =>
      have hno := HF1.out rfl
      rcases hfp with ⟨rfl, _, b3⟩ | ⟨C3, c3, x, rfl, _, _, hx, hbad, _⟩
      · have HB3 := Lib.hid (HB2.out.trans (b3.mono HB2.out.size))
        clear b3 HCF
        go_wp2_with fail
        go_ret
        exact ⟨rfl, HB3.out⟩
      · exact absurd (fair_finite HRU.out.1 hno hx) hbad
    | false =>
      obtain ⟨ta, tb, htw⟩ := HF2.out rfl
      have HTW := Lib.hid htw
      have hmk : ∃ (fb : Bool) (C3 : Option Addr) (n3 c3 : Nat), e = .returned (.tuple #[.bool fb, .slice C3 n3 c3, .nilIface]) ∧ (fb = false → n3 = y) ∧ Below w2.heap.size w2 w3 := by
        rcases hfp with ⟨rfl, _, b3⟩ | ⟨C3, c3, x, rfl, _, _, hx, hbad, b3⟩
        · exact ⟨true, none, 0, 0, rfl, fun h => (by cases h), b3⟩
        · exact ⟨false, C3, y, c3, rfl, fun _ => rfl, b3⟩
      obtain ⟨fb, C3, n3, c3, rfl, hn3, b3⟩ := hmk
      have hb3 := HB2.out.trans (b3.mono HB2.out.size)
      have hr3 := HR2.out.below b3 HR2.out.lt
      obtain ⟨r0, r1, r2, _⟩ := hr3.facts
      have hon := onto_good w3 E (HER.out w3 hb3).1.1 (HER.out w3 hb3).1.2.1 (HER.out w3 hb3).1.2.2.1 (HER.out w3 hb3).1.2.2.2 k r A n c t (HER.out w3 hb3).2 HRU.out.1 HRU.out.2
      unfold ruleV at hon
      have HON := Lib.hid hon
      have HB3 := Lib.hid hb3
      have HR3 := Lib.hid hr3
      clear htw hfp b3 hb3 hr3 hon HCF
      cases fb
      all_goals
        first
          | (obtain rfl : n3 = y := hn3 rfl)
          | skip
        clear hn3
        go_wp2_with fail
        refine (HON.out).mono ?_
        rintro e w4 hop
        cases hfin : fin k (k ^ (2 * r)) t true with
        | go S row =>
          exact (onto_single HRU.out.1 (fun v hv => fin_has HRU.out.1.k1 hfin v hv) HTW.out).elim
        | over =>
          obtain ⟨v, rfl, he, b4⟩ := hop.2.2 hfin
          obtain ⟨u, p, rfl⟩ : ∃ u p, v = .iface u p := ErrIs.iface (show ErrIs w4 E 4 _ v from he)
          have HB4 := Lib.hid (HB3.out.trans (b4.mono HB3.out.size))
          clear hop hfin he b4
          go_wp2_with fail
          go_ret
          exact ⟨rfl, HB4.out⟩
        | orphan x =>
          obtain ⟨v, rfl, ho, b4⟩ := hop.2.1 x hfin
          obtain ⟨C4, c4, rfl, _, _⟩ := own_slice ho
          have hb4 := HB3.out.trans (b4.mono HB3.out.size)
          have hr4 := HR3.out.below b4 HR3.out.lt
          obtain ⟨r0, r1, r2, _⟩ := hr4.facts
          have HFIN := Lib.hid hfin
          obtain ⟨xl, hxl⟩ : ∃ xl, x.length = xl := ⟨_, rfl⟩
          rw [hxl]
          have HXL := Lib.hid hxl
          have HB4 := Lib.hid hb4
          clear hop hfin ho hxl b4 hr4
          by_cases hx6 : xl ≤ 6
          · by_cases hn64 : n ≤ 64
            · have hcf := cFair_c w4 E (HER.out w4 hb4).1.1 k r A n c t (HER.out w4 hb4).2 HRU.out.1 HRU.out.2 xl hx6
              unfold ruleV at hcf
              have HCF := Lib.hid hcf
              have c1 : ¬ (6 : Int) < (xl : Int) := by omega
              have c2 : ¬ (64 : Int) < (n : Int) := by omega
              clear hcf hb4
              go_wp2_with fail
              refine (HCF.out).mono ?_
              rintro e w5 hfp
              rcases hfp with ⟨rfl, hall, b5⟩ | ⟨C5, c5, z, rfl, _, _, _, _, b5⟩
              · exact (fair_orphan HRU.out.1 HTW.out HFIN.out (by rw [HXL.out]; exact hall)).elim
              · have HB5 := Lib.hid (HB4.out.trans (b5.mono HB4.out.size))
                clear b5 HCF
                go_wp2_with fail
                go_ret
                exact ⟨rfl, HB5.out⟩
            · have c1 : ¬ (6 : Int) < (xl : Int) := by omega
              have c2 : (64 : Int) < (n : Int) := by omega
              clear hb4
              go_wp2_with fail
              go_ret
              exact ⟨rfl, HB4.out⟩
          · have c1 : (6 : Int) < (xl : Int) := by omega
            clear hb4
            go_wp2_with fail
            go_ret
            exact ⟨rfl, HB4.out⟩
end Go.Proofs.YtibplgpolmplpaaGreatDoor
