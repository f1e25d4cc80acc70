/- The call of WholeOnto: it returns true. Condition: the lists read from memory; the error variables hold what E says. -/
import Derived.Test.YtibplgpolmplpaaGreatDoorW22
import Derived.Test.YtibplgpolmplpaaGreatDoorW23
import Derived.Test.YtibplgpolmplpaaGreatDoorW24
namespace Go.Proofs.YtibplgpolmplpaaGreatDoor
open Go.RowKit RuleP SubP NatP

theorem wordsV_none {k r : Nat} {t : List Nat} {X : List Int} (hr : IsRule k r t) (h : t.length ≤ 256) (hn : (wordsV (k : Int) (r : Int) (ints t) X).2 = none) :
    ∃ x, X = ints x ∧ (∀ s ∈ x, s < k) ∧ x.length ≤ 256 ∧ (wordsV (k : Int) (r : Int) (ints t) X).1 = (preL k r t x).length := by
  cases hs : symT (k : Int) X 256 with
  | some tl =>
    unfold wordsV at hn
    rw [smallC_rule hr h] at hn
    simp only [hs] at hn
    cases hn
  | none =>
    obtain ⟨x, rfl, hl, hx⟩ := symT_none hs
    exact ⟨x, rfl, hx, hl, by rw [wordsV_good hr h hx hl]⟩

/-- count.Words of a good rule and any list. -/
theorem wordsG_c (w : World) (E : Nat → Addr) (hE : Errs w E) (k r : Nat) (A : Option Addr) (n c : Nat) (t : List Nat) (hT : Sl w A n ((ints t).map (Value.int .i64))) (hm : n ≤ 9223372036854775807) (hr : IsRule k r t) (h256 : t.length ≤ 256)
    (B : Option Addr) (m d : Nat) (X : List Int) (hX : Sl w B m (X.map (Value.int .i64))) (hm2 : m ≤ 9223372036854775807) :
    Calls Tryz.prog 13 #[ruleV (k : Int) (r : Int) A n c, .slice B m d] w fun e w' => ∃ (C : Option Addr) (l cc : Nat) (v : Value), e = .returned (.tuple #[.slice C l cc, v]) ∧ Below w.heap.size w w' ∧
      ((∃ u p, v = .iface u p) ∨ (v = .nilIface ∧ ∃ x, X = ints x ∧ (∀ s ∈ x, s < k) ∧ x.length ≤ 256 ∧ l = (limbs (preL k r t x).length).length ∧ l ≤ maxLen ∧ Sl w' C l ((limbs (preL k r t x).length).map wv))) := by
  refine (cWords_c w E hE (k : Int) (r : Int) A n c (ints t) hT hm B m d X hX hm2).mono fun e w' h => ?_
  obtain ⟨C, cc, v, rfl, ho, hv, hb⟩ := h
  refine ⟨C, _, cc, v, rfl, hb, ?_⟩
  cases hn : (wordsV (k : Int) (r : Int) (ints t) X).2 with
  | some tl =>
    rw [hn] at hv
    exact .inl (ErrIs.iface (show ErrIs w' E tl.1 tl.2 v from hv))
  | none =>
    rw [hn] at hv
    obtain ⟨x, h1, h2, h3, h4⟩ := wordsV_none hr h256 hn
    rw [h4] at ho ⊢
    have hle := own_le ho
    exact .inr ⟨hv, x, h1, h2, h3, rfl, Nat.le_trans hle.1 hle.2, Sl.of_own ho⟩
/-- count.Words of a good rule and a good word. -/
theorem wordsX_c (w : World) (E : Nat → Addr) (hE : Errs w E) (k r : Nat) (A : Option Addr) (n c : Nat) (t : List Nat) (hT : Sl w A n ((ints t).map (Value.int .i64))) (hm : n ≤ 9223372036854775807) (hr : IsRule k r t) (h256 : t.length ≤ 256)
    (B : Option Addr) (m d : Nat) (x : List Nat) (hX : Sl w B m ((ints x).map (Value.int .i64))) (hm2 : m ≤ 9223372036854775807) (hx : ∀ s ∈ x, s < k) (hxl : x.length ≤ 256) :
    Calls Tryz.prog 13 #[ruleV (k : Int) (r : Int) A n c, .slice B m d] w fun e w' => ∃ (C : Option Addr) (l cc : Nat), e = .returned (.tuple #[.slice C l cc, .nilIface]) ∧ l = (limbs (preL k r t x).length).length ∧ Below w.heap.size w w' := by
  refine (cWords_c w E hE (k : Int) (r : Int) A n c (ints t) hT hm B m d (ints x) hX hm2).mono fun e w' h => ?_
  rw [wordsV_good hr h256 hx hxl] at h
  obtain ⟨C, cc, v, rfl, ho, hv, hb⟩ := h
  obtain rfl : v = .nilIface := hv
  exact ⟨C, _, cc, rfl, rfl, hb⟩
theorem limbs_nz {v : Nat} (h : v ≠ 0) : (limbs v).length ≠ 0 := fun e => h (limbs_zero e)

set_option maxRecDepth 100000 in
set_option maxHeartbeats 4000000 in
theorem wholeOnto_c (w : World) (E : Nat → Addr) (hE : ErrW w E) (K R : Int) (A : Option Addr) (n c : Nat) (T : List Int) (hS : Sl w A n (T.map (Value.int .i64))) (hn : n ≤ 9223372036854775807)
    (B : Option Addr) (m d : Nat) (X : List Int) (hX : Sl w B m (X.map (Value.int .i64))) (hm : m ≤ 9223372036854775807) :
    Calls Tryz.prog 3 #[ruleV K R A n c, .slice B m d] w fun e w' => e = .returned (.bool true) ∧ Below w.heap.size w w' := by
  have hb0 := (Below.refl w.heap.size w).alloc (Nat.le_refl _) (.cells #[.int .i64 K, .int .i64 R, .slice A n c] 24)
  have HER := Lib.hid (fun (wz : World) (hz : Below w.heap.size w wz) => (⟨hE.below hz, hS.below hz, hX.below hz⟩ : _ ∧ _ ∧ _))
  have HAW := Lib.hid (counts_c _ E (HER.out _ hb0).1)
  have hr0 := RuleAt.new w (.int .i64 K) (.int .i64 R) (.slice A n c)
  have HNL := Lib.hid (And.intro hn hm)
  clear hE hS hn hX hm
  unfold ruleV at *
  go_enter Tryz.func3, Tryz.ntmps3
  go_wp2_with fail
  refine (HAW.out).mono ?_
  rintro e w1 ⟨rfl, b1⟩
  have hr1 := hr0.below b1 (by simp)
  have hb1 := below_box b1
  obtain ⟨r0, r1, r2, _⟩ := hr1.facts
  have HB1 := Lib.hid hb1
  have HR1 := Lib.hid hr1
  clear hr0 hb0 b1 hr1 hb1 HAW
  cases hsm : small K R T with
  | some tl =>
    have hfb := onto_bad w1 E (HER.out w1 HB1.out).1.1 (HER.out w1 HB1.out).1.2.1 (HER.out w1 HB1.out).1.2.2.1 (HER.out w1 HB1.out).1.2.2.2 K R A n c T (HER.out w1 HB1.out).2.1 HNL.out.1 tl hsm
    have HSM := Lib.hid hsm
    unfold ruleV at hfb
    have HFB := Lib.hid hfb
    clear hsm hfb
    go_wp2_with fail
    refine (HFB.out).mono ?_
    rintro e w2 ⟨v, rfl, hv, b2⟩
    obtain ⟨u, p, rfl⟩ : ∃ u p, v = .iface u p := ErrIs.iface (show ErrIs w2 E tl.1 _ v from hv)
    have hb2 := HB1.out.trans (b2.mono HB1.out.size)
    have hr2 := HR1.out.below b2 HR1.out.lt
    obtain ⟨r0, r1, r2, _⟩ := hr2.facts
    have hsc := small_c w2 E (HER.out w2 hb2).1.1 K R A n c T (HER.out w2 hb2).2.1 HNL.out.1
    rw [HSM.out] at hsc
    unfold ruleV at hsc
    have HSC := Lib.hid hsc
    have HB2 := Lib.hid hb2
    clear hv hb2 hr2 b2 hsc HFB
    go_wp2_with fail
    refine (HSC.out).mono ?_
    rintro e w3 ⟨v, rfl, hv, b3⟩
    obtain ⟨u3, p3, rfl⟩ : ∃ u p, v = .iface u p := ErrIs.iface (show ErrIs w3 E tl.1 _ v from hv)
    have HB3 := Lib.hid (HB2.out.trans (b3.mono HB2.out.size))
    clear hv b3 HSC
    go_wp2_with fail
    go_ret
    exact ⟨rfl, HB3.out⟩
  | none =>
    have HSM := Lib.hid hsm
    obtain ⟨k, r, t, rfl, rfl, rfl, hr, h256⟩ := small_parts hsm
    have hff := onto_good w1 E (HER.out w1 HB1.out).1.1 (HER.out w1 HB1.out).1.2.1 (HER.out w1 HB1.out).1.2.2.1 (HER.out w1 HB1.out).1.2.2.2 k r A n c t (HER.out w1 HB1.out).2.1 hr h256
    unfold ruleV at hff
    have HFF := Lib.hid hff
    have HRU := Lib.hid (And.intro hr h256)
    clear hsm hff hr h256
    go_wp2_with fail
    refine (HFF.out).mono ?_
    rintro e w2 hop
    have hb2s : ∃ (yes : Bool) (C : Option Addr) (xl xc : Nat) (v : Value), e = .returned (.tuple #[.bool yes, .slice C xl xc, v]) ∧ Below w1.heap.size w1 w2 ∧
        ((fin k (k ^ (2 * r)) t true = .over ∧ yes = false ∧ xl = 0 ∧ ErrIs w2 E 4 [(sSubset, 0)] v) ∨ (v = .nilIface ∧ ((yes = true ∧ xl = 0 ∧ ∃ S row, fin k (k ^ (2 * r)) t true = .go S row) ∨ (yes = false ∧ ∃ x, fin k (k ^ (2 * r)) t true = .orphan x ∧ x.length = xl ∧ xl ≤ maxLen ∧ xl ≤ xc ∧ Sl w2 C xl ((ints x).map (Value.int .i64)))))) := by
      cases hfin : fin k (k ^ (2 * r)) t true with
      | go S row =>
        have hrow := (fin_inv (Nat.pow_pos HRU.out.1.k1) hfin).1
        subst hrow
        obtain ⟨rfl, b2⟩ := hop.1 S hfin
        exact ⟨true, none, 0, 0, .nilIface, rfl, b2, .inr ⟨rfl, .inl ⟨rfl, rfl, S, [], rfl⟩⟩⟩
      | over =>
        obtain ⟨v, rfl, he, b2⟩ := hop.2.2 hfin
        exact ⟨false, none, 0, 0, v, rfl, b2, .inl ⟨rfl, rfl, rfl, he⟩⟩
      | orphan x =>
        obtain ⟨v, rfl, ho, b2⟩ := hop.2.1 x hfin
        obtain ⟨C, xc, rfl, _, _⟩ := own_slice ho
        have hle := own_le ho
        exact ⟨false, C, x.length, xc, .nilIface, rfl, b2, .inr ⟨rfl, .inr ⟨rfl, x, rfl, rfl, Nat.le_trans hle.1 hle.2, hle.1, Sl.of_own ho⟩⟩⟩
    obtain ⟨yes, C, xl, xc, v, rfl, b2, hor⟩ := hb2s
    have hb2 := HB1.out.trans (b2.mono HB1.out.size)
    have hr2 := HR1.out.below b2 HR1.out.lt
    obtain ⟨r0, r1, r2, _⟩ := hr2.facts
    have hsc := small_c w2 E (HER.out w2 hb2).1.1 (k : Int) (r : Int) A n c (ints t) (HER.out w2 hb2).2.1 HNL.out.1
    rw [HSM.out] at hsc
    unfold ruleV at hsc
    have HSC := Lib.hid hsc
    have HB2 := Lib.hid hb2
    have HR2 := Lib.hid hr2
    have HOR := Lib.hid hor
    clear hop hor hb2 hr2 b2 hsc HFF
    go_wp2_with fail
    refine (HSC.out).mono ?_
    rintro e w3 ⟨vs, rfl, hvs, b3⟩
    obtain rfl : vs = .nilIface := hvs
    have hb3 := HB2.out.trans (b3.mono HB2.out.size)
    have hr3 := HR2.out.below b3 HR2.out.lt
    obtain ⟨r0, r1, r2, _⟩ := hr3.facts
    have HB3 := Lib.hid hb3
    have HR3 := Lib.hid hr3
    have HB23 := Lib.hid b3
    clear HSC
    rcases HOR.out with ⟨hfin, hy, hxl, herr⟩ | ⟨hv, hor⟩
    · subst hy hxl
      obtain ⟨u, p, rfl⟩ : ∃ u p, v = .iface u p := ErrIs.iface herr
      have hwk := walk_good w3 E (HER.out w3 hb3).1.1 (HER.out w3 hb3).1.2.1 (HER.out w3 hb3).1.2.2.1 (HER.out w3 hb3).1.2.2.2 k r A n c t (HER.out w3 hb3).2.1 HRU.out.1 HRU.out.2
      unfold ruleV at hwk
      have HWK := Lib.hid hwk
      have HFIN := Lib.hid (walk_over (Nat.pow_pos HRU.out.1.k1) hfin)
      have HERR := Lib.hid (herr.below b3)
      clear hwk hfin herr hb3 hr3 b3 HOR
      go_wp2_with fail
      refine (HWK.out).mono ?_
      rintro e w4 hwp
      obtain ⟨v4, rfl, hv4, b4⟩ := hwp.2 HFIN.out
      have he4 : ErrIs w4 E 4 [(sSubset, 0)] v4 := hv4
      obtain ⟨u4, p4, rfl⟩ := ErrIs.iface he4
      have hb4 := HB3.out.trans (b4.mono HB3.out.size)
      unfold autoV
      have b5 := (Below.refl w4.heap.size w4).alloc (Nat.le_refl _) (.cells #[.int .i64 0, .slice none 0 0] 33)
      have hgl := (HER.out _ (hb4.trans (b5.mono hb4.size))).1.1.e4
      obtain ⟨w5, hw5⟩ : ∃ w5, w4.alloc (.cells #[.int .i64 0, .slice none 0 0] 33) = w5 := ⟨_, rfl⟩
      rw [hw5] at b5
      have hb5 := hb4.trans (b5.mono hb4.size)
      have hg := (HER.out w5 hb5).1.1.e4
      have HI1 := Lib.hid (errorsIs_c w5 E 4 _ _ ((HERR.out.below b4).below b5))
      have HI2 := Lib.hid (errorsIs_c w5 E 4 _ _ (he4.below b5))
      have HB5 := Lib.hid hb5
      have HW5 := Lib.hid hw5
      clear hwp hv4 he4 b4 hb4 b5 hb5 hw5 HWK
      go_wp2_with fail
      rw [HW5.out]
      refine (HI1.out).mono ?_
      rintro e w6 ⟨rfl, rfl⟩
      go_wp2_with fail
      refine (HI2.out).mono ?_
      rintro e w6 ⟨rfl, rfl⟩
      go_wp2_with fail
      go_ret
      exact ⟨rfl, HB5.out⟩
    · subst hv
      have hwc := wordsG_c w3 E (HER.out w3 hb3).1.1 k r A n c t (HER.out w3 hb3).2.1 HNL.out.1 HRU.out.1 HRU.out.2 B m d X (HER.out w3 hb3).2.2 HNL.out.2
      unfold ruleV at hwc
      have HWC := Lib.hid hwc
      have HO2 := Lib.hid hor
      clear hwc hor hb3 hr3 b3 HOR
      go_wp2_with fail
      refine (HWC.out).mono ?_
      rintro e w4 ⟨C4, l4, c4, v4, rfl, b4, hor4⟩
      have hb4 := HB3.out.trans (b4.mono HB3.out.size)
      have hr4 := HR3.out.below b4 HR3.out.lt
      obtain ⟨r0, r1, r2, _⟩ := hr4.facts
      have HB4 := Lib.hid hb4
      have HR4 := Lib.hid hr4
      have HB24 := Lib.hid (HB23.out.trans (b4.mono HB23.out.size))
      have HO4 := Lib.hid hor4
      clear hor4 hr4 b4 HWC
      rcases HO2.out with ⟨hy, hxl, S, row, hfin⟩ | ⟨hy, x, hfin, hxl, hxm, hxc, hxs⟩
      · subst hy hxl
        have HALL := Lib.hid (fun v hv => fin_has HRU.out.1.k1 hfin v hv)
        clear hfin
        rcases HO4.out with ⟨u, p, rfl⟩ | ⟨rfl, x, _, hx, _, hl4, hlm, hs4⟩
        · clear hb4
          go_wp2_with fail
          go_ret
          exact ⟨rfl, HB4.out⟩
        · have hsh := share_c w4 E (HER.out w4 hb4).1.1 k r n c A t (HER.out w4 hb4).2.1 HRU.out.1 HRU.out.2
          unfold ruleV at hsh
          have hfair := onto_fair HRU.out.1 HALL.out hx
          rw [hfair] at hs4 hl4
          have HSH := Lib.hid hsh
          have HS4 := Lib.hid (And.intro hs4 hlm)
          clear hsh hfair hs4 hlm hb4 hl4 hx
          go_wp2_with fail
          refine (HSH.out).mono ?_
          rintro e w5 ⟨C5, c5, rfl, _, ho5, b5⟩
          have HN := Lib.hid (nats_b w5 C4 C5 l4 _ c4 c5 _ _ (HS4.out.1.below b5) (Sl.of_own ho5) HS4.out.2)
          rw [decide_eq_true rfl] at HN
          have HB5 := Lib.hid (HB4.out.trans (b5.mono HB4.out.size))
          clear ho5 b5 HSH
          go_wp2_with fail
          refine (HN.out).mono ?_
          rintro e w6 ⟨rfl, b6⟩
          have HB6 := Lib.hid (HB5.out.trans (b6.mono HB5.out.size))
          clear b6 HN
          go_wp2_with fail
          go_ret
          exact ⟨rfl, HB6.out⟩
      · subst hy
        obtain ⟨hxk, hxne, hpre, hahead⟩ := fin_hasNot HRU.out.1.k1 hfin
        have hx0 : 0 < xl := by rw [← hxl]; exact List.length_pos_iff.2 hxne
        have hxl0 : ¬ (xl : Int) = 0 := by omega
        have HXF := Lib.hid (And.intro hxk (And.intro hxne (And.intro hpre (And.intro hahead hxl))))
        have HXS := Lib.hid (fun (wz : World) (hz : Below w2.heap.size w2 wz) => hxs.below hz)
        have hxm' : xl ≤ 9223372036854775807 := by simp only [maxLen] at hxm; omega
        clear hfin hxk hxne hpre hahead hxl hxs hxm
        rcases HO4.out with ⟨u, p, rfl⟩ | ⟨rfl, y, hX, hy, hyl, hl4, _, _⟩
        · obtain ⟨w5, hw5⟩ : ∃ w5, w5 = w4 := ⟨_, rfl⟩
          subst hw5
          have HB5 := HB4
          have HB25 := HB24
          have HR5 := HR4
          clear hb4
          have hb5 := HB5.out
          have hx5 := HXS.out w5 HB25.out
          by_cases hx256 : xl ≤ 256
          · have c1 : ¬ (256 : Int) < (xl : Int) := by omega
            have hxr : x.length ≤ 256 := by rw [HXF.out.2.2.2.2]; exact hx256
            have hwx := wordsX_c w5 E (HER.out w5 hb5).1.1 k r A n c t (HER.out w5 hb5).2.1 HNL.out.1 HRU.out.1 HRU.out.2 C xl xc x hx5 hxm' HXF.out.1 hxr
            unfold ruleV at hwx
            have HWX := Lib.hid hwx
            clear hwx hb5 hx5
            go_wp2_with fail
            refine (HWX.out).mono ?_
            rintro e w6 ⟨C6, l6, c6, rfl, hl6, b6⟩
            rw [HXF.out.2.2.1, show limbs ([] : List (List Nat)).length = [] from limbs_0] at hl6
            obtain rfl : l6 = 0 := hl6
            have hb6 := HB5.out.trans (b6.mono HB5.out.size)
            have hr6 := HR5.out.below b6 HR5.out.lt
            obtain ⟨r0, r1, r2, _⟩ := hr6.facts
            obtain ⟨q, hq⟩ : ∃ q, xl = q + 1 := ⟨xl - 1, by omega⟩
            have hdl : x.take (x.length - 1) = x.take q := by rw [HXF.out.2.2.2.2]; congr 1; omega
            have hslt := drop_slt (k := k) HXF.out.2.1
            rw [hdl] at hslt
            have hyk : ∀ s ∈ x.take q, s < k := fun s hs => HXF.out.1 s (List.mem_of_mem_take hs)
            have hyne := HXF.out.2.2.2.1 (x.take q) hyk hslt
            have hys : Sl w6 C q ((ints (x.take q)).map (Value.int .i64)) := by
              have h0 := HXS.out w6 (HB25.out.trans (b6.mono HB25.out.size))
              refine ⟨by simp [ints]; have := HXF.out.2.2.2.2; omega, fun j v hv => ?_⟩
              have hjq : j < q := by
                have := (List.getElem?_eq_some_iff.1 hv).1
                simp [ints] at this
                omega
              refine h0.2 j v ?_
              rw [← hv]
              simp only [ints, List.map_take, List.getElem?_take, if_pos hjq]
            have hwy := fun (wz : World) (hz : Below w6.heap.size w6 wz) => wordsX_c wz E (HER.out wz (hb6.trans (hz.mono hb6.size))).1.1 k r A n c t (HER.out wz (hb6.trans (hz.mono hb6.size))).2.1 HNL.out.1 HRU.out.1 HRU.out.2 C q xc (x.take q) (hys.below hz) (by omega) hyk (by simp; omega)
            have hnz : (limbs (preL k r t (x.take q)).length).length ≠ 0 := limbs_nz (fun e => hyne (List.eq_nil_of_length_eq_zero e))
            obtain ⟨ly, hly⟩ : ∃ ly, (limbs (preL k r t (x.take q)).length).length = ly := ⟨_, rfl⟩
            rw [hly] at hwy hnz
            unfold ruleV at hwy
            have HWY := Lib.hid hwy
            have HB6 := Lib.hid hb6
            have d1 : (xl : Int) - 1 = (q : Int) := by omega
            have d2 : IntKind.i64.wrap ((xl : Int) - 1) = (q : Int) := by rw [d1]; exact IntWalk.i64_in _ (by omega)
            have d3 : (q : Int) ≤ (xc : Int) := by omega
            have d4 : (0 : Int) ≤ (q : Int) := by omega
            have d5 : (0 : Int) < (ly : Int) := by omega
            have d7 : 0 < ly := by omega
            have d6 : IntKind.i64.wrap (q : Int) = (q : Int) := IntWalk.i64_in _ (by omega)
            clear hdl hslt hyk hyne hys hwy hb6 hr6 b6 hly hq HWX
            go_wp2_with fail
            go_region_with (go_at_call 13; refine (HWY.out _ (Below.refl w6.heap.size w6).drew).mono ?_; rintro e w7 ⟨C7, l7, c7, rfl, hl7, b7⟩)
            all_goals
              subst hl7
              have HB7 := Lib.hid (HB6.out.trans (((Below.refl w6.heap.size w6).drew.trans b7).mono HB6.out.size))
              clear b7
              go_wp2_with fail
              go_ret
              exact ⟨rfl, HB7.out⟩
          · have c1 : (256 : Int) < (xl : Int) := by omega
            clear hb5 hx5
            go_wp2_with fail
            go_ret
            exact ⟨rfl, HB5.out⟩
        · have hyX := (HER.out w4 hb4).2.2
          rw [hX] at hyX
          have HCM := Lib.hid (wordCmp_g w4 B C m xl d xc y x hyX (HXS.out w4 HB24.out) HNL.out.2 hxm')
          obtain ⟨cw, hcw⟩ : ∃ cw, cmpW y x = cw := ⟨_, rfl⟩
          rw [hcw] at HCM
          have HCW := Lib.hid hcw
          have HL4 := Lib.hid (And.intro hl4 hy)
          clear hyX hcw hb4 hX hl4 hy hyl
          go_wp2_with fail
          refine (HCM.out).mono ?_
          rintro e w5 ⟨rfl, b5⟩
          have hr5 := HR4.out.below b5 HR4.out.lt
          obtain ⟨r0, r1, r2, _⟩ := hr5.facts
          have HR5 := Lib.hid hr5
          have HB5 := Lib.hid (HB4.out.trans (b5.mono HB4.out.size))
          have HB25 := Lib.hid (HB24.out.trans (b5.mono HB24.out.size))
          clear b5 hr5 HCM
          by_cases hc : cw < 0
          · have hl40n : ¬ l4 = 0 := by
              have h1 := cmpW_slt HRU.out.1.k1 HL4.out.2 HXF.out.1 (by rw [HCW.out]; exact hc)
              have h2 := HXF.out.2.2.2.1 y HL4.out.2 h1
              have h3 := limbs_nz (fun e => h2 (List.eq_nil_of_length_eq_zero e))
              rw [← HL4.out.1] at h3
              exact h3
            have hl40 : ¬ (l4 : Int) = 0 := by omega
            have hl4q : ((l4 : Int) == 0) = false := beq_false_of_ne hl40
            have hxlq : ((xl : Int) == 0) = false := beq_false_of_ne hxl0
            have hb5 := HB5.out
            have hx5 := HXS.out w5 HB25.out
            by_cases hx256 : xl ≤ 256
            · have c1 : ¬ (256 : Int) < (xl : Int) := by omega
              have hxr : x.length ≤ 256 := by rw [HXF.out.2.2.2.2]; exact hx256
              have hwx := wordsX_c w5 E (HER.out w5 hb5).1.1 k r A n c t (HER.out w5 hb5).2.1 HNL.out.1 HRU.out.1 HRU.out.2 C xl xc x hx5 hxm' HXF.out.1 hxr
              unfold ruleV at hwx
              have HWX := Lib.hid hwx
              clear hwx hb5 hx5
              go_wp2_with fail
              refine (HWX.out).mono ?_
              rintro e w6 ⟨C6, l6, c6, rfl, hl6, b6⟩
              rw [HXF.out.2.2.1, show limbs ([] : List (List Nat)).length = [] from limbs_0] at hl6
              obtain rfl : l6 = 0 := hl6
              have hb6 := HB5.out.trans (b6.mono HB5.out.size)
              have hr6 := HR5.out.below b6 HR5.out.lt
              obtain ⟨r0, r1, r2, _⟩ := hr6.facts
              obtain ⟨q, hq⟩ : ∃ q, xl = q + 1 := ⟨xl - 1, by omega⟩
              have hdl : x.take (x.length - 1) = x.take q := by rw [HXF.out.2.2.2.2]; congr 1; omega
              have hslt := drop_slt (k := k) HXF.out.2.1
              rw [hdl] at hslt
              have hyk : ∀ s ∈ x.take q, s < k := fun s hs => HXF.out.1 s (List.mem_of_mem_take hs)
              have hyne := HXF.out.2.2.2.1 (x.take q) hyk hslt
              have hys : Sl w6 C q ((ints (x.take q)).map (Value.int .i64)) := by
                have h0 := HXS.out w6 (HB25.out.trans (b6.mono HB25.out.size))
                refine ⟨by simp [ints]; have := HXF.out.2.2.2.2; omega, fun j v hv => ?_⟩
                have hjq : j < q := by
                  have := (List.getElem?_eq_some_iff.1 hv).1
                  simp [ints] at this
                  omega
                refine h0.2 j v ?_
                rw [← hv]
                simp only [ints, List.map_take, List.getElem?_take, if_pos hjq]
              have hwy := fun (wz : World) (hz : Below w6.heap.size w6 wz) => wordsX_c wz E (HER.out wz (hb6.trans (hz.mono hb6.size))).1.1 k r A n c t (HER.out wz (hb6.trans (hz.mono hb6.size))).2.1 HNL.out.1 HRU.out.1 HRU.out.2 C q xc (x.take q) (hys.below hz) (by omega) hyk (by simp; omega)
              have hnz : (limbs (preL k r t (x.take q)).length).length ≠ 0 := limbs_nz (fun e => hyne (List.eq_nil_of_length_eq_zero e))
              obtain ⟨ly, hly⟩ : ∃ ly, (limbs (preL k r t (x.take q)).length).length = ly := ⟨_, rfl⟩
              rw [hly] at hwy hnz
              unfold ruleV at hwy
              have HWY := Lib.hid hwy
              have HB6 := Lib.hid hb6
              have d1 : (xl : Int) - 1 = (q : Int) := by omega
              have d2 : IntKind.i64.wrap ((xl : Int) - 1) = (q : Int) := by rw [d1]; exact IntWalk.i64_in _ (by omega)
              have d3 : (q : Int) ≤ (xc : Int) := by omega
              have d4 : (0 : Int) ≤ (q : Int) := by omega
              have d5 : (0 : Int) < (ly : Int) := by omega
              have d7 : 0 < ly := by omega
              have d6 : IntKind.i64.wrap (q : Int) = (q : Int) := IntWalk.i64_in _ (by omega)
              clear hdl hslt hyk hyne hys hwy hb6 hr6 b6 hly hq HWX
              go_wp2_with fail
              go_region_with (go_at_call 13; refine (HWY.out _ (Below.refl w6.heap.size w6).drew).mono ?_; rintro e w7 ⟨C7, l7, c7, rfl, hl7, b7⟩)
              all_goals
                subst hl7
                have HB7 := Lib.hid (HB6.out.trans (((Below.refl w6.heap.size w6).drew.trans b7).mono HB6.out.size))
                clear b7
                go_wp2_with fail
                go_ret
                exact ⟨rfl, HB7.out⟩
            · have c1 : (256 : Int) < (xl : Int) := by omega
              clear hb5 hx5
              go_wp2_with fail
              go_ret
              exact ⟨rfl, HB5.out⟩
          · skip
            have hb5 := HB5.out
            have hx5 := HXS.out w5 HB25.out
            by_cases hx256 : xl ≤ 256
            · have c1 : ¬ (256 : Int) < (xl : Int) := by omega
              have hxr : x.length ≤ 256 := by rw [HXF.out.2.2.2.2]; exact hx256
              have hwx := wordsX_c w5 E (HER.out w5 hb5).1.1 k r A n c t (HER.out w5 hb5).2.1 HNL.out.1 HRU.out.1 HRU.out.2 C xl xc x hx5 hxm' HXF.out.1 hxr
              unfold ruleV at hwx
              have HWX := Lib.hid hwx
              clear hwx hb5 hx5
              go_wp2_with fail
              refine (HWX.out).mono ?_
              rintro e w6 ⟨C6, l6, c6, rfl, hl6, b6⟩
              rw [HXF.out.2.2.1, show limbs ([] : List (List Nat)).length = [] from limbs_0] at hl6
              obtain rfl : l6 = 0 := hl6
              have hb6 := HB5.out.trans (b6.mono HB5.out.size)
              have hr6 := HR5.out.below b6 HR5.out.lt
              obtain ⟨r0, r1, r2, _⟩ := hr6.facts
              obtain ⟨q, hq⟩ : ∃ q, xl = q + 1 := ⟨xl - 1, by omega⟩
              have hdl : x.take (x.length - 1) = x.take q := by rw [HXF.out.2.2.2.2]; congr 1; omega
              have hslt := drop_slt (k := k) HXF.out.2.1
              rw [hdl] at hslt
              have hyk : ∀ s ∈ x.take q, s < k := fun s hs => HXF.out.1 s (List.mem_of_mem_take hs)
              have hyne := HXF.out.2.2.2.1 (x.take q) hyk hslt
              have hys : Sl w6 C q ((ints (x.take q)).map (Value.int .i64)) := by
                have h0 := HXS.out w6 (HB25.out.trans (b6.mono HB25.out.size))
                refine ⟨by simp [ints]; have := HXF.out.2.2.2.2; omega, fun j v hv => ?_⟩
                have hjq : j < q := by
                  have := (List.getElem?_eq_some_iff.1 hv).1
                  simp [ints] at this
                  omega
                refine h0.2 j v ?_
                rw [← hv]
                simp only [ints, List.map_take, List.getElem?_take, if_pos hjq]
              have hwy := fun (wz : World) (hz : Below w6.heap.size w6 wz) => wordsX_c wz E (HER.out wz (hb6.trans (hz.mono hb6.size))).1.1 k r A n c t (HER.out wz (hb6.trans (hz.mono hb6.size))).2.1 HNL.out.1 HRU.out.1 HRU.out.2 C q xc (x.take q) (hys.below hz) (by omega) hyk (by simp; omega)
              have hnz : (limbs (preL k r t (x.take q)).length).length ≠ 0 := limbs_nz (fun e => hyne (List.eq_nil_of_length_eq_zero e))
              obtain ⟨ly, hly⟩ : ∃ ly, (limbs (preL k r t (x.take q)).length).length = ly := ⟨_, rfl⟩
              rw [hly] at hwy hnz
              unfold ruleV at hwy
              have HWY := Lib.hid hwy
              have HB6 := Lib.hid hb6
              have d1 : (xl : Int) - 1 = (q : Int) := by omega
              have d2 : IntKind.i64.wrap ((xl : Int) - 1) = (q : Int) := by rw [d1]; exact IntWalk.i64_in _ (by omega)
              have d3 : (q : Int) ≤ (xc : Int) := by omega
              have d4 : (0 : Int) ≤ (q : Int) := by omega
              have d5 : (0 : Int) < (ly : Int) := by omega
              have d7 : 0 < ly := by omega
              have d6 : IntKind.i64.wrap (q : Int) = (q : Int) := IntWalk.i64_in _ (by omega)
              clear hdl hslt hyk hyne hys hwy hb6 hr6 b6 hly hq HWX
              go_wp2_with fail
              go_region_with (go_at_call 13; refine (HWY.out _ (Below.refl w6.heap.size w6).drew).mono ?_; rintro e w7 ⟨C7, l7, c7, rfl, hl7, b7⟩)
              all_goals
                subst hl7
                have HB7 := Lib.hid (HB6.out.trans (((Below.refl w6.heap.size w6).drew.trans b7).mono HB6.out.size))
                clear b7
                go_wp2_with fail
                go_ret
                exact ⟨rfl, HB7.out⟩
            · have c1 : (256 : Int) < (xl : Int) := by omega
              clear hb5 hx5
              go_wp2_with fail
              go_ret
              exact ⟨rfl, HB5.out⟩
end Go.Proofs.YtibplgpolmplpaaGreatDoor
