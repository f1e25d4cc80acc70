/- The call of ImageRuns: it returns true. Condition: the lists read from memory; the error variables hold what E says. -/
import Derived.Test.YthilnpfpllplaaaGreatDoorS13
import Derived.Test.YthilnpfpllplaaaGreatDoorS27
namespace Go.Proofs.YthilnpfpllplaaaGreatDoor
open Go.RowKit RuleP SubP

/-- What overlap.Has says of any word. -/
theorem hasO_c (w : World) (E : Nat → Addr) (hE : Errs w E) (k r : Nat) (A B : Option Addr) (n c m d : Nat) (t : List Nat) (W : List Int) (hT : Sl w A n ((ints t).map (Value.int .i64))) (hn : n ≤ 9223372036854775807) (hW : Sl w B m (W.map (Value.int .i64))) (hm : m ≤ 9223372036854775807) (hr : IsRule k r t) (hl : t.length ≤ 256) :
    Calls Tryz.prog 25 #[ruleV k r A n c, .slice B m d] w fun e w' => Below w.heap.size w w' ∧ ((∃ u p, e = .returned (.tuple #[.bool false, .iface u p])) ∨ (∃ v : List Nat, W = ints v ∧ v.length ≤ 256 ∧ (∀ x ∈ v, x < k) ∧ e = .returned (.tuple #[.bool (hasB k r t v), .nilIface]))) := by
  cases h : checkO k r (ints t) W 256 with
  | some tl =>
    refine (has_bad w E hE k r A B n c m d (ints t) W hT hn hW hm tl h).mono ?_
    rintro e w' ⟨v, rfl, he, hb⟩
    have he' : ErrIs w' E tl.1 tl.2 v := he
    obtain ⟨u, p, rfl⟩ := he'.iface
    exact ⟨hb, .inl ⟨u, p, rfl⟩⟩
  | none =>
    obtain ⟨k', r', t', v, hk, hr', ht, rfl, _, _, hv, hs⟩ := checkO_none h
    obtain rfl : k = k' := Int.ofNat.inj hk
    have hvl : v.length = m := by simpa [ints] using hW.1
    refine (has_good w E hE k r A B n c m d t v hr hl hs hT hW (by omega)).mono ?_
    rintro e w' ⟨rfl, hb⟩
    exact ⟨hb, .inr ⟨v, rfl, hv, hs, rfl⟩⟩
theorem hasF_hasB {k r : Nat} {t : List Nat} {S : St} (hr : IsRule k r t) (h256 : t.length ≤ 256) (h : fin k (k ^ (2 * r)) t false = .go S []) {v : List Nat} (hv : ∀ x ∈ v, x < k) (hl : v.length ≤ 256) :
    hasF (k : Int) (r : Int) (ints t) (ints v) = (hasB k r t v, none) ∧ hasB k r t v = (runA (leastA k S.next) 0 ((ints v).map Int.toNat)).isSome := by
  have h1 := hasF_good hr h256 h hv (by omega)
  have h2 := hasF_run (ofF_good hr h256 h) (ws := ints v) (by rw [ints_len]; omega) (odd_ints hv)
  have h3 : (!(before k r t v).isEmpty) = hasB k r t v := by
    unfold hasB
    cases before k r t v <;> rfl
  rw [h3] at h1
  exact ⟨h1, by rw [h1] at h2; exact (Prod.mk.inj h2).1⟩

set_option maxRecDepth 100000 in
set_option maxHeartbeats 4000000 in
theorem imageRuns_c (w : World) (E : Nat → Addr) (hE : Errs w E) (hT : ErrT w) (hAp : Apart12 E) (hB : ErrBlk w E) (K R : Int) (A : Option Addr) (n c : Nat) (T : List Int) (hS : Sl w A n (T.map (Value.int .i64))) (hn : n ≤ c) (hz : c * 8 ≤ 140737488351232)
    (B : Option Addr) (m d : Nat) (W : List Int) (hW : Sl w B m (W.map (Value.int .i64))) (hmd : m ≤ d) (hz2 : d * 8 ≤ 140737488351232) :
    Calls Tryz.prog 6 #[ruleV K R A n c, .slice B m d] w fun e w' => e = .returned (.bool true) ∧ Below w.heap.size w w' := by
  have HER := Lib.hid (fun (wz : World) (hz : Below w.heap.size w wz) => (⟨hE.below hz, hT.below hz, hB.below hz⟩ : _ ∧ _ ∧ _))
  clear hE hT hB
  have hb0 := (Below.refl w.heap.size w).alloc (Nat.le_refl _) (.cells #[.int .i64 K, .int .i64 R, .slice A n c] 24)
  have HAW := Lib.hid (awake11_c _ E (HER.out _ hb0).1 (HER.out _ hb0).2.1 hAp (HER.out _ hb0).2.2)
  have hr0 := RuleAt.new w (.int .i64 K) (.int .i64 R) (.slice A n c)
  have HMW := Lib.hid (show W.length = m by simpa using hW.1)
  have HWS := Lib.hid (fun (wz : World) (hz : Below w.heap.size w wz) => hW.below hz)
  have HTS := Lib.hid (fun (wz : World) (hz : Below w.heap.size w wz) => hS.below hz)
  clear hW hS
  unfold ruleV at *
  go_enter Tryz.func6, Tryz.ntmps6
  go_wp2_with fail
  refine (HAW.out).mono ?_
  rintro e w1 ⟨rfl, b1⟩
  have hr1 := hr0.below b1 (by simp)
  have hb1 := below_box b1
  have hq1 : w.heap.size < w1.heap.size := hr1.lt
  obtain ⟨r0, r1, r2, _⟩ := hr1.facts
  have hWU := leastU_c w1 E (HER.out _ hb1).1 (HER.out _ hb1).2.1 hAp (HER.out _ hb1).2.2 K R A n c T (HTS.out _ hb1) (by omega)
  obtain ⟨o, ho⟩ : ∃ o, ofF 0 K R T = o := ⟨_, rfl⟩
  obtain ⟨kk, L, tt⟩ := o
  rw [ho] at hWU
  unfold ruleV autoV at hWU
  obtain ⟨l1, hl1⟩ : ∃ l1, L.length = l1 := ⟨_, rfl⟩
  dsimp only at hWU
  rw [hl1] at hWU
  have HWU := Lib.hid hWU
  have HO := Lib.hid ho
  have HL1 := Lib.hid hl1
  have HB1 := Lib.hid hb1
  have HR1 := Lib.hid hr1
  clear b1 HAW hWU ho hl1 hb0 hr0 hb1 hr1
  go_wp2_with fail
  refine (HWU.out).mono ?_
  rintro e w2 ⟨C2, c2, rows2, v2, rfl, hR2, he2, b2⟩
  have ha3 : AutoAt (w2.alloc (.cells #[.int .i64 kk, .slice C2 l1 c2] 50)) w2.heap.size (.int .i64 kk) (.slice C2 l1 c2) := heap_new w2 (.cells #[.int .i64 kk, .slice C2 l1 c2] 50)
  have b3 := (Below.refl w2.heap.size w2).alloc (Nat.le_refl _) (.cells #[.int .i64 kk, .slice C2 l1 c2] 50)
  obtain ⟨w3, hw3⟩ : ∃ w3, w2.alloc (.cells #[.int .i64 kk, .slice C2 l1 c2] 50) = w3 := ⟨_, rfl⟩
  have HW3 := Lib.hid hw3
  rw [hw3] at ha3 b3
  have hl3 : w2.heap.size < w3.heap.size := by rw [← hw3]; simp
  have z13 := pure_trans b2 b3
  have HB3 := Lib.hid (HB1.out.trans (z13.mono HB1.out.size))
  obtain ⟨a0, a1, _, _⟩ := ha3.facts
  clear hw3 r0 r1 r2 HWU
  cases tt with
  | some tl =>
    have he2' : ErrIs w2 E tl.1 tl.2 v2 := he2
    obtain ⟨u, p, rfl⟩ := he2'.iface
    have hl0 : l1 = 0 := by
      have h := HO.out
      rcases ofF_cases 0 K R T with ⟨tl', h'⟩ | ⟨k, r, t, S, rfl, rfl, rfl, hr, hl, hS, h', hau⟩
      · rw [h'] at h
        rw [← HL1.out, ← (Prod.mk.inj (Prod.mk.inj h).2).1]
        rfl
      · rw [h'] at h
        cases (Prod.mk.inj (Prod.mk.inj h).2).2
    subst hl0
    clear he2 he2' ha3 hR2 b2 b3 z13
    go_wp2_with fail
    rw [HW3.out]
    go_ret
    exact ⟨rfl, HB3.out⟩
  | none =>
    have he2' : v2 = .nilIface := he2
    clear he2
    subst he2'
    obtain ⟨k, r, t, S, rfl, rfl, rfl, hr, hl, hfin, ho', hau⟩ := (ofF_cases 0 K R T).resolve_left (by
      rintro ⟨tl, h⟩
      have h' := HO.out
      rw [h] at h'
      cases (Prod.mk.inj (Prod.mk.inj h').2).2)
    have hoo := HO.out
    rw [ho'] at hoo
    obtain rfl : (k : Int) = kk := (Prod.mk.inj hoo).1
    have hLL : leastA k S.next = L := (Prod.mk.inj (Prod.mk.inj hoo).2).1
    rw [hLL] at hau
    have HAU := Lib.hid hau
    have HLL := Lib.hid hLL
    have HFI := Lib.hid (⟨hr, hl, hfin⟩ : _ ∧ _ ∧ _)
    have HLI : Hid (ListAt w3 C2 l1 L) := Lib.hid (by
      have h1 : RowsAt w2 w1.heap.size (.slice C2 L.length c2) rows2 L (fun _ => False) := by rw [HL1.out]; exact hR2
      have h2 := h1.list.keep b3
      rwa [HL1.out] at h2)
    have hl0 : 0 < l1 := by rw [← HL1.out]; exact hau.pos
    have HA3 := Lib.hid (fun (wz : World) (hz : Below w3.heap.size w3 wz) => (ha3.below hz hl3).facts)
    have hr3 := HR1.out.below z13 HR1.out.lt
    have hr3l : w.heap.size < w2.heap.size := Nat.lt_of_lt_of_le hq1 b2.size
    have HR3 := Lib.hid (fun (wz : World) (hz : Below w3.heap.size w3 wz) => (hr3.below hz hr3.lt).facts)
    have hho := hasO_c w3 E (HER.out _ HB3.out).1 k r A B n c m d t W (HTS.out _ HB3.out) (by omega) (HWS.out _ HB3.out) (by omega) hr hl
    unfold ruleV at hho
    have HHO := Lib.hid hho
    obtain ⟨r0, r1, r2, _⟩ := (HR1.out.below b2 HR1.out.lt).facts
    clear hho hau hLL hr hl hfin hoo ho' hR2 b2 b3 ha3 hr3 a0 a1
    go_wp2_with fail
    rw [HW3.out]
    refine (HHO.out).mono ?_
    rintro e w4 ⟨b4, ⟨u, p, rfl⟩ | ⟨v, rfl, hv256, hvk, rfl⟩⟩
    · have HB4 := Lib.hid (HB3.out.trans (b4.mono HB3.out.size))
      clear b4 r0 r1 r2
      go_wp2_with fail
      go_ret
      exact ⟨rfl, HB4.out⟩
    · have hb4 := HB3.out.trans (b4.mono HB3.out.size)
      have hhs := hasF_hasB HFI.out.1 HFI.out.2.1 HFI.out.2.2 hvk hv256
      rw [HLL.out] at hhs
      have hhu := has_u w4 E (HER.out _ hb4).1 (HER.out _ hb4).2.1 hAp (HER.out _ hb4).2.2 (k : Int) (r : Int) A n c (ints t) (HTS.out _ hb4) (by omega) B m d (ints v) (HWS.out _ hb4) (by omega)
      rw [hhs.1] at hhu
      obtain ⟨bb, hbb⟩ : ∃ bb, hasB k r t v = bb := ⟨_, rfl⟩
      rw [hbb] at hhs hhu
      rw [hbb]
      unfold ruleV at hhu
      have HHU := Lib.hid hhu
      have HBB := Lib.hid hhs.2
      have HVK := Lib.hid hvk
      have HB4 := Lib.hid hb4
      obtain ⟨r0, r1, r2, _⟩ := HR3.out w4 b4
      have r3 : w.heap.size < w4.heap.size := by have := b4.size; have := z13.size; omega
      clear hhu hhs hbb hvk hb4 HHO
      go_wp2_with fail
      refine (HHU.out).mono ?_
      rintro e w5 ⟨v5, rfl, he5, b5⟩
      have he5' : v5 = .nilIface := he5
      clear he5
      subst he5'
      have z35 := pure_trans b4 b5
      obtain ⟨r0, r1, r2, _⟩ := HR3.out w5 z35
      obtain ⟨a0, a1, _, _⟩ := HA3.out w5 z35
      have hl0' : ¬ (l1 : Int) = 0 := by omega
      have HB5 := Lib.hid (HB3.out.trans (z35.mono HB3.out.size))
      have HZ35 := Lib.hid z35
      have hbn : (bb != bb) = false := by cases bb <;> rfl
      clear z35 b4 b5 HHU
      go_wp2_with fail
      go_loopw [11, 12] (fun sv jv wl => ∃ (j : Nat) (st : Int), jv = .int .i64 (j : Int) ∧ sv = .int .i64 st ∧ j ≤ m ∧ Hid (StAt L ((ints v).take j) st) ∧ Hid (Below w5.heap.size w5 wl)) (fun _ jv _ => m - (intOf jv).toNat)
      case atStart => exact ⟨0, 0, rfl, rfl, Nat.zero_le _, Lib.hid (.inr ⟨0, rfl, rfl, HAU.out.pos⟩), Lib.hid (Below.refl _ _)⟩
      case round =>
        obtain ⟨j, st, rfl, rfl, hj, hst, hBl⟩ := hrel
        obtain ⟨v0, rfl⟩ : ∃ v0, v0 = wr := ⟨_, rfl⟩
        have z30 := pure_trans HZ35.out hBl.out
        obtain ⟨r0, r1, r2, _⟩ := HR3.out v0 z30
        obtain ⟨a0, a1, _, _⟩ := HA3.out v0 z30
        have HREST : Hid (∀ wz : World, Below w5.heap.size w5 wz → True) := Lib.hid (fun _ _ => trivial)
        rcases hst.out with ⟨h1, rfl⟩ | ⟨q, h1, rfl, hq⟩
        · have hrn : bb = false := by
            rw [HBB.out, ← List.take_append_drop j (ints v), List.map_append, runA_app, h1]; rfl
          subst hrn
          by_cases hjl : j < m
          · have hjl' : (j : Int) < (m : Int) := by omega
            clear h1 hst
            go_wp2_with fail
            have HB0 := Lib.hid hBl.out
            clear hBl
            go_loopw [13] (fun iv wl => ∃ (i : Nat), iv = .int .i64 (i : Int) ∧ i ≤ l1 ∧ Hid (Below w5.heap.size w5 wl)) (fun iv _ => l1 - (intOf iv).toNat)
            case atStart => exact ⟨0, rfl, Nat.zero_le _, HB0⟩
            case round =>
              obtain ⟨i, rfl, hi, hB1⟩ := hrel
              obtain ⟨v1, rfl⟩ : ∃ v1, v1 = wr := ⟨_, rfl⟩
              have z31 := pure_trans HZ35.out hB1.out
              obtain ⟨a0, a1, _, _⟩ := HA3.out v1 z31
              have HEND := Lib.hid (HB5.out.trans (hB1.out.mono HB5.out.size))
              by_cases hil : i < l1
              · have hil' : (i : Int) < (l1 : Int) := by omega
                by_cases hi2 : i < 200
                · have hi2' : (i : Int) < 200 := by omega
                  have hi0 : (0 : Int) ≤ (i : Int) := by omega
                  go_wp2_with fail
                  go_loopw [14] (fun jv wl => ∃ (j : Nat), jv = .int .i64 (j : Int) ∧ j ≤ i ∧ Hid (Below w5.heap.size w5 wl)) (fun jv _ => i - (intOf jv).toNat)
                  case atStart => exact ⟨0, rfl, Nat.zero_le _, hB1⟩
                  case round =>
                    obtain ⟨j2, rfl, hj2, hB2⟩ := hrel
                    obtain ⟨v2, rfl⟩ : ∃ v2, v2 = wr := ⟨_, rfl⟩
                    by_cases hji : j2 < i
                    · have hji' : (j2 : Int) < (i : Int) := by omega
                      have hj20 : (0 : Int) ≤ (j2 : Int) := by omega
                      have hj2l : (j2 : Int) < (l1 : Int) := by omega
                      have z32 := pure_trans HZ35.out hB2.out
                      obtain ⟨a0, a1, _, _⟩ := HA3.out v2 z32
                      obtain ⟨adn, li, Pi, ci, rfl, hli, hci, hmi, hsi⟩ := (HLI.out.keep z32).at_ hil
                      obtain ⟨adn', lj, Pj, cj, hadn, hlj, hcj, hmj, hsj⟩ := (HLI.out.keep z32).at_ (show j2 < l1 by omega)
                      obtain rfl := Option.some.inj hadn
                      have hne : li ≠ lj := fun e => by
                        have := least_rows (fin_rows (Nat.pow_pos HFI.out.1.k1) HFI.out.2.2).auto (i := i) (j := j2) (by rw [HLL.out, HL1.out]; exact hil) (by rw [HLL.out, HL1.out]; omega) (by rw [HLL.out, hli, hlj, e])
                        omega
                      have hiq := fun (q : Nat) => ints_c (v2.drewN q) Pi Pj li.length lj.length ci cj li lj (hsi.below (pure_drewN v2 q)) (hsj.below (pure_drewN v2 q)) hmi hmj
                      rw [decide_eq_false hne] at hiq
                      have HQ := Lib.hid hiq
                      have HBX := Lib.hid (fun nq => pure_trans hB2.out (pure_drewN v2 nq))
                      clear hiq hne hli hlj hsi hsj hadn
                      go_wp2_with fail
                      go_quiet ((go_at_call 26; refine Calls.quiet_of (HQ.out _)))
                      go_wp2_with fail
                      exact ⟨⟨j2 + 1, by go_num, by omega, Lib.hid (by first | exact HBX.out _ | exact pure_trans (HBX.out _) (pure_drewN _ _))⟩, by simp [intOf]; omega⟩
                    · obtain rfl : j2 = i := by omega
                      have hji' : ¬ (j2 : Int) < (j2 : Int) := by omega
                      go_wp2_with fail
                      exact ⟨⟨j2 + 1, by go_num, by omega, hB2⟩, by simp [intOf]; omega⟩
                · have hi2' : ¬ (i : Int) < 200 := by omega
                  go_wp2_with fail
                  go_ret
                  exact ⟨rfl, HEND.out⟩
              · have hil' : ¬ (i : Int) < (l1 : Int) := by omega
                go_wp2_with fail
                go_ret
                exact ⟨rfl, HEND.out⟩
          · have hjl' : ¬ (j : Int) < (m : Int) := by omega
            clear h1 hst
            go_wp2_with fail
            have HB0 := Lib.hid hBl.out
            clear hBl
            go_loopw [13] (fun iv wl => ∃ (i : Nat), iv = .int .i64 (i : Int) ∧ i ≤ l1 ∧ Hid (Below w5.heap.size w5 wl)) (fun iv _ => l1 - (intOf iv).toNat)
            case atStart => exact ⟨0, rfl, Nat.zero_le _, HB0⟩
            case round =>
              obtain ⟨i, rfl, hi, hB1⟩ := hrel
              obtain ⟨v1, rfl⟩ : ∃ v1, v1 = wr := ⟨_, rfl⟩
              have z31 := pure_trans HZ35.out hB1.out
              obtain ⟨a0, a1, _, _⟩ := HA3.out v1 z31
              have HEND := Lib.hid (HB5.out.trans (hB1.out.mono HB5.out.size))
              by_cases hil : i < l1
              · have hil' : (i : Int) < (l1 : Int) := by omega
                by_cases hi2 : i < 200
                · have hi2' : (i : Int) < 200 := by omega
                  have hi0 : (0 : Int) ≤ (i : Int) := by omega
                  go_wp2_with fail
                  go_loopw [14] (fun jv wl => ∃ (j : Nat), jv = .int .i64 (j : Int) ∧ j ≤ i ∧ Hid (Below w5.heap.size w5 wl)) (fun jv _ => i - (intOf jv).toNat)
                  case atStart => exact ⟨0, rfl, Nat.zero_le _, hB1⟩
                  case round =>
                    obtain ⟨j2, rfl, hj2, hB2⟩ := hrel
                    obtain ⟨v2, rfl⟩ : ∃ v2, v2 = wr := ⟨_, rfl⟩
                    by_cases hji : j2 < i
                    · have hji' : (j2 : Int) < (i : Int) := by omega
                      have hj20 : (0 : Int) ≤ (j2 : Int) := by omega
                      have hj2l : (j2 : Int) < (l1 : Int) := by omega
                      have z32 := pure_trans HZ35.out hB2.out
                      obtain ⟨a0, a1, _, _⟩ := HA3.out v2 z32
                      obtain ⟨adn, li, Pi, ci, rfl, hli, hci, hmi, hsi⟩ := (HLI.out.keep z32).at_ hil
                      obtain ⟨adn', lj, Pj, cj, hadn, hlj, hcj, hmj, hsj⟩ := (HLI.out.keep z32).at_ (show j2 < l1 by omega)
                      obtain rfl := Option.some.inj hadn
                      have hne : li ≠ lj := fun e => by
                        have := least_rows (fin_rows (Nat.pow_pos HFI.out.1.k1) HFI.out.2.2).auto (i := i) (j := j2) (by rw [HLL.out, HL1.out]; exact hil) (by rw [HLL.out, HL1.out]; omega) (by rw [HLL.out, hli, hlj, e])
                        omega
                      have hiq := fun (q : Nat) => ints_c (v2.drewN q) Pi Pj li.length lj.length ci cj li lj (hsi.below (pure_drewN v2 q)) (hsj.below (pure_drewN v2 q)) hmi hmj
                      rw [decide_eq_false hne] at hiq
                      have HQ := Lib.hid hiq
                      have HBX := Lib.hid (fun nq => pure_trans hB2.out (pure_drewN v2 nq))
                      clear hiq hne hli hlj hsi hsj hadn
                      go_wp2_with fail
                      go_quiet ((go_at_call 26; refine Calls.quiet_of (HQ.out _)))
                      go_wp2_with fail
                      exact ⟨⟨j2 + 1, by go_num, by omega, Lib.hid (by first | exact HBX.out _ | exact pure_trans (HBX.out _) (pure_drewN _ _))⟩, by simp [intOf]; omega⟩
                    · obtain rfl : j2 = i := by omega
                      have hji' : ¬ (j2 : Int) < (j2 : Int) := by omega
                      go_wp2_with fail
                      exact ⟨⟨j2 + 1, by go_num, by omega, hB2⟩, by simp [intOf]; omega⟩
                · have hi2' : ¬ (i : Int) < 200 := by omega
                  go_wp2_with fail
                  go_ret
                  exact ⟨rfl, HEND.out⟩
              · have hil' : ¬ (i : Int) < (l1 : Int) := by omega
                go_wp2_with fail
                go_ret
                exact ⟨rfl, HEND.out⟩
        · have hq0 : (q : Int) ≥ 0 := by omega
          have hq0' : (0 : Int) ≤ (q : Int) := by omega
          by_cases hjl : j < m
          · have hjl' : (j : Int) < (m : Int) := by omega
            have hj0 : (0 : Int) ≤ (j : Int) := by omega
            obtain ⟨adb, x, rfl, hx, hcx⟩ := (HWS.out v0 (HB5.out.trans (hBl.out.mono HB5.out.size))).int_ hjl
            have htk : (ints v).take (j + 1) = (ints v).take j ++ [x] := by rw [List.take_add_one, hx]; rfl
            obtain ⟨s, rfl, hsk⟩ : ∃ s : Nat, x = (s : Int) ∧ s < k := by
              have h2 := List.mem_of_getElem? hx
              unfold ints at h2
              obtain ⟨s, hs, rfl⟩ := List.mem_map.1 h2
              exact ⟨s, rfl, HVK.out s hs⟩
            have hs0 : (0 : Int) ≤ (s : Int) := by omega
            have hsk' : (s : Int) < (k : Int) := by omega
            have HST := Lib.hid (show StAt L ((ints v).take (j + 1)) (nxt L q s) by rw [htk]; exact StAt.snoc HAU.out h1 hq hsk)
            rw [HL1.out] at hq
            have hq' : (q : Int) < (l1 : Int) := by omega
            obtain ⟨adn, l, P, pc, rfl, hl, hcl, _, hsl⟩ := (HLI.out.keep z30).at_ hq
            have hlk : l.length = k := HAU.out.len l (List.mem_of_getElem? hl)
            rw [hlk] at hcl hsl
            obtain ⟨adp, y, rfl, hy, hcy⟩ := hsl.int_ hsk
            have hny : nxt L q s = y := by
              unfold nxt
              rw [List.getD_eq_getElem?_getD (l := L), hl, Option.getD_some, List.getD_eq_getElem?_getD, hy]; rfl
            rw [hny] at HST
            have hd1 : decide ((q : Int) ≥ (l1 : Int)) = false := decide_eq_false (by omega)
            have hd2 : decide ((l1 : Int) ≤ (q : Int)) = false := decide_eq_false (by omega)
            have hd3 : decide (l1 ≤ q) = false := decide_eq_false (by omega)
            have HC := Lib.hid (fun (nq : Nat) => (⟨cell_later (pure_drewN v0 nq) a1, cell_later (pure_drewN v0 nq) hcl, cell_later (pure_drewN v0 nq) hcy, cell_later (pure_drewN v0 nq) hcx⟩ : _ ∧ _ ∧ _ ∧ _))
            have HBX := Lib.hid (fun nq => pure_trans hBl.out (pure_drewN v0 nq))
            clear htk hst h1 hl hlk hsl hny hy hx
            go_wp2_with (go_quiet (fail))
            first
            | exact ⟨⟨j + 1, y, by go_num, rfl, by omega, HST, Lib.hid (by first | exact HBX.out _ | exact pure_trans (HBX.out _) (pure_drewN _ _))⟩, by simp [intOf]; omega⟩
            | (refine ⟨?_, by simp [intOf]; omega⟩
               repeat apply Exists.intro
               refine ⟨⟨j + 1, y, ?_, rfl, by omega, HST, Lib.hid (by first | exact HBX.out _ | exact pure_trans (HBX.out _) (pure_drewN _ _))⟩, rfl⟩
               go_num)
          · have hjl' : ¬ (j : Int) < (m : Int) := by omega
            have hrn : bb = true := by
              rw [List.take_of_length_le (by have := HMW.out; omega)] at h1
              rw [HBB.out, h1]; rfl
            subst hrn
            clear h1 hst
            go_wp2_with fail
            have HB0 := Lib.hid hBl.out
            clear hBl
            go_loopw [13] (fun iv wl => ∃ (i : Nat), iv = .int .i64 (i : Int) ∧ i ≤ l1 ∧ Hid (Below w5.heap.size w5 wl)) (fun iv _ => l1 - (intOf iv).toNat)
            case atStart => exact ⟨0, rfl, Nat.zero_le _, HB0⟩
            case round =>
              obtain ⟨i, rfl, hi, hB1⟩ := hrel
              obtain ⟨v1, rfl⟩ : ∃ v1, v1 = wr := ⟨_, rfl⟩
              have z31 := pure_trans HZ35.out hB1.out
              obtain ⟨a0, a1, _, _⟩ := HA3.out v1 z31
              have HEND := Lib.hid (HB5.out.trans (hB1.out.mono HB5.out.size))
              by_cases hil : i < l1
              · have hil' : (i : Int) < (l1 : Int) := by omega
                by_cases hi2 : i < 200
                · have hi2' : (i : Int) < 200 := by omega
                  have hi0 : (0 : Int) ≤ (i : Int) := by omega
                  go_wp2_with fail
                  go_loopw [14] (fun jv wl => ∃ (j : Nat), jv = .int .i64 (j : Int) ∧ j ≤ i ∧ Hid (Below w5.heap.size w5 wl)) (fun jv _ => i - (intOf jv).toNat)
                  case atStart => exact ⟨0, rfl, Nat.zero_le _, hB1⟩
                  case round =>
                    obtain ⟨j2, rfl, hj2, hB2⟩ := hrel
                    obtain ⟨v2, rfl⟩ : ∃ v2, v2 = wr := ⟨_, rfl⟩
                    by_cases hji : j2 < i
                    · have hji' : (j2 : Int) < (i : Int) := by omega
                      have hj20 : (0 : Int) ≤ (j2 : Int) := by omega
                      have hj2l : (j2 : Int) < (l1 : Int) := by omega
                      have z32 := pure_trans HZ35.out hB2.out
                      obtain ⟨a0, a1, _, _⟩ := HA3.out v2 z32
                      obtain ⟨adn, li, Pi, ci, rfl, hli, hci, hmi, hsi⟩ := (HLI.out.keep z32).at_ hil
                      obtain ⟨adn', lj, Pj, cj, hadn, hlj, hcj, hmj, hsj⟩ := (HLI.out.keep z32).at_ (show j2 < l1 by omega)
                      obtain rfl := Option.some.inj hadn
                      have hne : li ≠ lj := fun e => by
                        have := least_rows (fin_rows (Nat.pow_pos HFI.out.1.k1) HFI.out.2.2).auto (i := i) (j := j2) (by rw [HLL.out, HL1.out]; exact hil) (by rw [HLL.out, HL1.out]; omega) (by rw [HLL.out, hli, hlj, e])
                        omega
                      have hiq := fun (q : Nat) => ints_c (v2.drewN q) Pi Pj li.length lj.length ci cj li lj (hsi.below (pure_drewN v2 q)) (hsj.below (pure_drewN v2 q)) hmi hmj
                      rw [decide_eq_false hne] at hiq
                      have HQ := Lib.hid hiq
                      have HBX := Lib.hid (fun nq => pure_trans hB2.out (pure_drewN v2 nq))
                      clear hiq hne hli hlj hsi hsj hadn
                      go_wp2_with fail
                      go_quiet ((go_at_call 26; refine Calls.quiet_of (HQ.out _)))
                      go_wp2_with fail
                      exact ⟨⟨j2 + 1, by go_num, by omega, Lib.hid (by first | exact HBX.out _ | exact pure_trans (HBX.out _) (pure_drewN _ _))⟩, by simp [intOf]; omega⟩
                    · obtain rfl : j2 = i := by omega
                      have hji' : ¬ (j2 : Int) < (j2 : Int) := by omega
                      go_wp2_with fail
                      exact ⟨⟨j2 + 1, by go_num, by omega, hB2⟩, by simp [intOf]; omega⟩
                · have hi2' : ¬ (i : Int) < 200 := by omega
                  go_wp2_with fail
                  go_ret
                  exact ⟨rfl, HEND.out⟩
              · have hil' : ¬ (i : Int) < (l1 : Int) := by omega
                go_wp2_with fail
                go_ret
                exact ⟨rfl, HEND.out⟩
end Go.Proofs.YthilnpfpllplaaaGreatDoor
