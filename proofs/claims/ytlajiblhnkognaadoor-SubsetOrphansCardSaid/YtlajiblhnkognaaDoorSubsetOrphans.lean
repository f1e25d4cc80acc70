/- The call of SubsetOrphans: it returns true. Condition: the lists read from memory; the error variables hold what E says. -/
import Derived.Test.YtlajiblhnkognaaDoorSubWalkU
import Derived.Test.YtlajiblhnkognaaDoorSubT
import Derived.Deep.RegionHeld3
namespace Go.Proofs.YtlajiblhnkognaaDoor
open Go.RowKit RuleP SubP BagP

theorem ontoF_cases (K R : Int) (T : List Int) : (∃ tl, ontoF K R T = (false, [], some tl)) ∨
    (∃ (k r : Nat) (t : List Nat), K = (k : Int) ∧ R = (r : Int) ∧ T = ints t ∧ IsRule k r t ∧ t.length ≤ 256 ∧
      ((ontoF K R T = (true, [], none) ∧ ∀ y : List Nat, (∀ s ∈ y, s < k) → before k r t y ≠ []) ∨
       ∃ x : List Nat, ontoF K R T = (false, ints x, none) ∧ (∀ s ∈ x, s < k) ∧ x ≠ [] ∧ x.length ≤ 4096 ∧ before k r t x = [] ∧ ∀ y : List Nat, (∀ s ∈ y, s < k) → Slt k y x → before k r t y ≠ [])) := by
  cases hs : small K R T with
  | some tl => exact .inl ⟨_, ontoF_bad hs⟩
  | none =>
    obtain ⟨k, r, t, rfl, rfl, rfl, hr, hl⟩ := small_none' hs
    have hN : 0 < k ^ (2 * r) := Nat.pow_pos hr.k1
    obtain ⟨o, ho⟩ : ∃ o, fin k (k ^ (2 * r)) t true = o := ⟨_, rfl⟩
    have hg := ontoF_good hr hl ho
    cases o with
    | go S row => exact .inr ⟨k, r, t, rfl, rfl, rfl, hr, hl, .inl ⟨hg, fun y hy => (before_run hr.k1).2 (fin_yes hN ho hy)⟩⟩
    | orphan x =>
      obtain ⟨h1, h2, h3, h4⟩ := fin_orphan hN ho
      refine .inr ⟨k, r, t, rfl, rfl, rfl, hr, hl, .inr ⟨x, hg, h1, h2, orphan_len2 hN ho, ?_, fun y hy hlt => (before_run hr.k1).2 (h4 y hy hlt)⟩⟩
      by_cases e : before k r t x = []
      · exact e
      · exact absurd h3 ((before_run hr.k1).1 e)
    | over => exact .inl ⟨_, hg⟩

/-- What Has says of any word. -/
theorem hasO (w : World) (E : Nat → Addr) (hE : Errs w E) (k r : Nat) (A B : Option Addr) (n c m d : Nat) (t : List Nat) (W : List Int) (hT : Sl w A n ((ints t).map (Value.int .i64))) (hn : n ≤ 9223372036854775807) (hW : Sl w B m (W.map (Value.int .i64))) (hm : m ≤ 9223372036854775807) (hr : IsRule k r t) (hl : t.length ≤ 256) :
    Calls Tryd.prog 24 #[ruleV k r A n c, .slice B m d] w fun e w' => Below w.heap.size w w' ∧ ((∃ u p, e = .returned (.tuple #[.bool false, .iface u p])) ∨ (∃ v : List Nat, W = ints v ∧ v.length ≤ 256 ∧ (∀ x ∈ v, x < k) ∧ e = .returned (.tuple #[.bool (hasB k r t v), .nilIface]))) := by
  cases h : checkO k r (ints t) W 256 with
  | some tl =>
    refine (has_bad w E hE k r A B n c m d (ints t) W hT hn hW hm tl h).mono ?_
    rintro e w' ⟨v, rfl, he, hb⟩
    have he' : ErrIs w' E tl.1 tl.2 v := he
    obtain ⟨u, p, rfl⟩ := he'.iface
    exact ⟨hb, .inl ⟨u, p, rfl⟩⟩
  | none =>
    obtain ⟨k', r', t', v, hk, hr', ht, rfl, _, _, hv, hs⟩ := checkO_none h
    obtain rfl : k = k' := Int.ofNat.inj hk
    have hvl : v.length = m := by simpa [ints] using hW.1
    refine (has_good w E hE k r A B n c m d t v hr hl hs hT hW (by omega)).mono ?_
    rintro e w' ⟨rfl, hb⟩
    exact ⟨hb, .inr ⟨v, rfl, hv, hs, rfl⟩⟩

set_option maxRecDepth 100000 in
set_option maxHeartbeats 2000000 in
theorem subsetOrphans_bad (w : World) (E : Nat → Addr) (hE : Errs w E) (hT : ErrT w) (hAp : Apart12 E) (hB : ErrBlk w E) (K R : Int) (A : Option Addr) (n c : Nat) (T : List Int) (hS : Sl w A n (T.map (Value.int .i64))) (hn : n ≤ c) (hz : c * 8 ≤ 140737488351232)
    (B : Option Addr) (m d : Nat) (tl : Tale) (ho : ontoF K R T = (false, [], some tl)) :
    Calls Tryd.prog 7 #[ruleV K R A n c, .slice B m d] w fun e w' => e = .returned (.bool true) ∧ Below w.heap.size w w' := by
  have HER := Lib.hid (fun (wz : World) (hz : Below w.heap.size w wz) => (⟨hE.below hz, hT.below hz, hB.below hz⟩ : _ ∧ _ ∧ _))
  clear hE hT hB
  have hb0 := (Below.refl w.heap.size w).alloc (Nat.le_refl _) (.cells #[.int .i64 K, .int .i64 R, .slice A n c] 24)
  have HAW := Lib.hid (awake10_c _ E (HER.out _ hb0).1 (HER.out _ hb0).2.1 hAp (HER.out _ hb0).2.2)
  have hr0 := RuleAt.new w (.int .i64 K) (.int .i64 R) (.slice A n c)
  unfold ruleV at *
  go_enter Tryd.func7, Tryd.ntmps7
  go_wp2_with fail
  refine (HAW.out).mono ?_
  rintro e w1 ⟨rfl, b1⟩
  have hr1 := hr0.below b1 (by simp)
  have hb1 := below_box b1
  obtain ⟨r0, r1, r2, _⟩ := hr1.facts
  have hOU := onto_u w1 E (HER.out _ hb1).1 (HER.out _ hb1).2.1 hAp (HER.out _ hb1).2.2 K R A n c T (hS.below hb1) (by omega)
  rw [ho] at hOU
  unfold ruleV at hOU
  have HOU := Lib.hid hOU
  clear b1 HAW hOU ho hr1 hr0 hS hb0
  go_wp2_with fail
  refine (HOU.out).mono ?_
  rintro e w2 ⟨C2, M2, c2, v2, rfl, ho2, he2, b2⟩
  have he2' : ErrIs w2 E tl.1 tl.2 v2 := he2
  obtain ⟨u, p, rfl⟩ := he2'.iface
  have hM2 : M2 = 0 := (Sl.of_own ho2).1.symm
  clear he2 he2' ho2
  subst hM2
  have HB2 := Lib.hid (hb1.trans (b2.mono hb1.size))
  go_wp2_with fail
  go_ret
  exact ⟨rfl, HB2.out⟩

set_option maxRecDepth 100000 in
set_option maxHeartbeats 2000000 in
theorem subsetOrphans_yes (w : World) (E : Nat → Addr) (hE : Errs w E) (hT : ErrT w) (hAp : Apart12 E) (hB : ErrBlk w E) (k r : Nat) (A : Option Addr) (n c : Nat) (t : List Nat) (hS : Sl w A n ((ints t).map (Value.int .i64))) (hn : n ≤ c) (hz : c * 8 ≤ 140737488351232)
    (B : Option Addr) (m d : Nat) (W : List Int) (hW : Sl w B m (W.map (Value.int .i64))) (hm : m ≤ d) (hd : d * 8 ≤ 140737488351232) (hr : IsRule k r t) (hl : t.length ≤ 256) (ho : ontoF k r (ints t) = (true, [], none)) (hy : ∀ y : List Nat, (∀ s ∈ y, s < k) → before k r t y ≠ []) :
    Calls Tryd.prog 7 #[ruleV k r A n c, .slice B m d] w fun e w' => e = .returned (.bool true) ∧ Below w.heap.size w w' := by
  have HER := Lib.hid (fun (wz : World) (hz : Below w.heap.size w wz) => (⟨hE.below hz, hT.below hz, hB.below hz⟩ : _ ∧ _ ∧ _))
  clear hE hT hB
  have hb0 := (Below.refl w.heap.size w).alloc (Nat.le_refl _) (.cells #[.int .i64 (k : Int), .int .i64 (r : Int), .slice A n c] 24)
  have HAW := Lib.hid (awake10_c _ E (HER.out _ hb0).1 (HER.out _ hb0).2.1 hAp (HER.out _ hb0).2.2)
  have hr0 := RuleAt.new w (.int .i64 (k : Int)) (.int .i64 (r : Int)) (.slice A n c)
  have HYS := Lib.hid hy
  unfold ruleV at *
  go_enter Tryd.func7, Tryd.ntmps7
  go_wp2_with fail
  refine (HAW.out).mono ?_
  rintro e w1 ⟨rfl, b1⟩
  have hr1 := hr0.below b1 (by simp)
  have hb1 := below_box b1
  have HR := Lib.hid (fun (wz : World) (hz : Below w1.heap.size w1 wz) => (hr1.below hz hr1.lt).facts)
  obtain ⟨r0, r1, r2, _⟩ := hr1.facts
  have hOU := onto_u w1 E (HER.out _ hb1).1 (HER.out _ hb1).2.1 hAp (HER.out _ hb1).2.2 (k : Int) (r : Int) A n c (ints t) (hS.below hb1) (by omega)
  rw [ho] at hOU
  unfold ruleV at hOU
  have HOU := Lib.hid hOU
  have hHH := fun (wz : World) (hz : Below w.heap.size w wz) => hasO wz E (HER.out _ hz).1 k r A B n c m d t W (hS.below hz) (by omega) (hW.below hz) (by omega) hr hl
  unfold ruleV at hHH
  have HHH := Lib.hid hHH
  clear b1 HAW hOU ho hr1 hr0 hS hb0 hHH hW hr hl hy
  go_wp2_with fail
  refine (HOU.out).mono ?_
  rintro e w2 ⟨C2, M2, c2, v2, rfl, ho2, he2, b2⟩
  have he2' : v2 = .nilIface := he2
  have hM2 : M2 = 0 := (Sl.of_own ho2).1.symm
  clear he2 ho2
  subst he2' hM2
  have hb2 := hb1.trans (b2.mono hb1.size)
  obtain ⟨r0, r1, r2, _⟩ := HR.out w2 b2
  go_wp2_with fail
  refine (HHH.out w2 hb2).mono ?_
  rintro e w3 ⟨b3, h⟩
  have HB3 := Lib.hid (hb2.trans (b3.mono hb2.size))
  clear hb2 b3
  rcases h with ⟨u, p, rfl⟩ | ⟨v, _, _, hv, rfl⟩
  · go_wp2_with fail
    go_ret
    exact ⟨rfl, HB3.out⟩
  · have hh : hasB k r t v = true := decide_eq_true (HYS.out v hv)
    rw [hh]
    clear hh
    go_wp2_with fail
    go_ret
    exact ⟨rfl, HB3.out⟩

theorem add_blk (g i : Nat) : (⟨g, 0, none⟩ : Addr).add i = ⟨g, i, none⟩ := by
  by_cases h : i = 0
  · subst h; rfl
  · simp [Addr.add, h]
/-- A word without its first symbol. -/
theorem dropOne {w : World} {g M : Nat} {x : List Nat} {D : Option Addr} (h : Sl w (some ⟨g, 0, none⟩) M ((ints x).map (Value.int .i64))) (hM : x.length = M) (hD : D = some ⟨g, 1, none⟩ ∨ M ≤ 1) : Sl w D (M - 1) ((ints (x.drop 1)).map (Value.int .i64)) := by
  refine ⟨by simp [ints, hM], fun j u hj => ?_⟩
  have hj' : ((ints x).map (Value.int .i64))[j + 1]? = some u := by
    rw [show (ints (x.drop 1)).map (Value.int .i64) = ((ints x).map (Value.int .i64)).drop 1 by simp [ints, List.map_drop], List.getElem?_drop, Nat.add_comm] at hj
    exact hj
  have hl := (List.getElem?_eq_some_iff.1 hj').1
  rw [h.1] at hl
  obtain ⟨ad, e, hc⟩ := h.2 (j + 1) u hj'
  cases e
  rcases hD with rfl | hD
  · exact ⟨_, rfl, by rw [show (⟨g, 1, none⟩ : Addr).add j = (⟨g, 0, none⟩ : Addr).add (j + 1) by simp [Addr.add, Nat.add_comm]]; exact hc⟩
  · omega

set_option maxRecDepth 100000 in
set_option maxHeartbeats 8000000 in
theorem subsetOrphans_no (w : World) (E : Nat → Addr) (hE : Errs w E) (hT : ErrT w) (hAp : Apart12 E) (hB : ErrBlk w E) (k r : Nat) (A : Option Addr) (n c : Nat) (t : List Nat) (hS : Sl w A n ((ints t).map (Value.int .i64))) (hn : n ≤ c) (hz : c * 8 ≤ 140737488351232)
    (B : Option Addr) (m d : Nat) (W : List Int) (hW : Sl w B m (W.map (Value.int .i64))) (hm : m ≤ d) (hd : d * 8 ≤ 140737488351232) (hr : IsRule k r t) (hl : t.length ≤ 256) (x : List Nat) (ho : ontoF k r (ints t) = (false, ints x, none)) (hx : ∀ s ∈ x, s < k) (hx0 : x ≠ []) (hx1 : x.length ≤ 4096)
    (hno : before k r t x = []) (hy : ∀ y : List Nat, (∀ s ∈ y, s < k) → Slt k y x → before k r t y ≠ []) :
    Calls Tryd.prog 7 #[ruleV k r A n c, .slice B m d] w fun e w' => e = .returned (.bool true) ∧ Below w.heap.size w w' := by
  have HER := Lib.hid (fun (wz : World) (hz : Below w.heap.size w wz) => (⟨hE.below hz, hT.below hz, hB.below hz⟩ : _ ∧ _ ∧ _))
  clear hE hT hB
  have hb0 := (Below.refl w.heap.size w).alloc (Nat.le_refl _) (.cells #[.int .i64 (k : Int), .int .i64 (r : Int), .slice A n c] 24)
  have HAW := Lib.hid (awake10_c _ E (HER.out _ hb0).1 (HER.out _ hb0).2.1 hAp (HER.out _ hb0).2.2)
  have hr0 := RuleAt.new w (.int .i64 (k : Int)) (.int .i64 (r : Int)) (.slice A n c)
  have HYS := Lib.hid hy
  have HXS := Lib.hid hx
  have HNO := Lib.hid hno
  have hk4 := hr.k4
  obtain ⟨M, hM⟩ : ∃ M, x.length = M := ⟨_, rfl⟩
  have hM0 : 0 < M := by rw [← hM]; exact List.length_pos_iff.2 hx0
  rw [hM] at hx1
  unfold ruleV at *
  go_enter Tryd.func7, Tryd.ntmps7
  go_wp2_with fail
  refine (HAW.out).mono ?_
  rintro e w1 ⟨rfl, b1⟩
  have hr1 := hr0.below b1 (by simp)
  have hb1 := below_box b1
  have HR := Lib.hid (fun (wz : World) (hz : Below w1.heap.size w1 wz) => (hr1.below hz hr1.lt).facts)
  obtain ⟨r0, r1, r2, _⟩ := hr1.facts
  have hOU := onto_u w1 E (HER.out _ hb1).1 (HER.out _ hb1).2.1 hAp (HER.out _ hb1).2.2 (k : Int) (r : Int) A n c (ints t) (hS.below hb1) (by omega)
  rw [ho] at hOU
  unfold ruleV at hOU
  have HOU := Lib.hid hOU
  have hHH := fun (wz : World) (hz : Below w.heap.size w wz) => hasO wz E (HER.out _ hz).1 k r A B n c m d t W (hS.below hz) (by omega) (hW.below hz) (by omega) hr hl
  unfold ruleV at hHH
  have HHH := Lib.hid hHH
  have hHG := fun (wz : World) (hz : Below w.heap.size w wz) (D : Option Addr) (m' d' : Nat) (y : List Nat) (hys : ∀ s ∈ y, s < k) (hD : Sl wz D m' ((ints y).map (Value.int .i64))) (hm' : m' ≤ 256) => has_good wz E (HER.out _ hz).1 k r A D n c m' d' t y hr hl hys (hS.below hz) hD hm'
  unfold ruleV at hHG
  have HHG := Lib.hid hHG
  have HWW := Lib.hid (fun (wz : World) (hz : Below w.heap.size w wz) => hW.below hz)
  have HM := Lib.hid hM
  clear b1 HAW hOU ho hr1 hr0 hS hb0 hHH hHG hW hr hl hy hx hno hM hx0
  go_wp2_with fail
  refine (HOU.out).mono ?_
  rintro e w2 ⟨C2, M2, c2, v2, rfl, ho2, he2, b2⟩
  have he2' : v2 = .nilIface := he2
  have hM2 : M2 = M := by rw [← (Sl.of_own ho2).1, ← HM.out]; simp [ints]
  clear he2
  subst he2' hM2
  have hb2 := hb1.trans (b2.mono hb1.size)
  have hco := own_le ho2
  have hox : Sl w2 C2 M2 ((ints x).map (Value.int .i64)) := Sl.of_own ho2
  obtain ⟨g, hg⟩ : ∃ g, C2 = some ⟨g, 0, none⟩ := by
    rcases ho2.2 with ⟨h, _⟩ | ⟨g, cap, cur, h, _⟩
    · injection h with _ h _
      omega
    · injection h with h _ _
      exact ⟨g, h⟩
  subst hg
  have HOX := Lib.hid (fun (wz : World) (hz : Below w2.heap.size w2 wz) => hox.below hz)
  have HR2 := Lib.hid (fun (wz : World) (hz : Below w2.heap.size w2 wz) => HR.out wz (pure_trans b2 hz))
  have HB2 := Lib.hid hb2
  obtain ⟨r0, r1, r2, _⟩ := HR.out w2 b2
  clear ho2 hox b2 HR
  go_wp2_with fail
  refine (HHH.out w2 hb2).mono ?_
  rintro e w3 ⟨b3, h⟩
  by_cases h250 : 250 < M2
  · have HB3 := Lib.hid (hb2.trans (b3.mono hb2.size))
    clear hb2 b3
    rcases h with ⟨u, p, rfl⟩ | ⟨v, _, _, hv, rfl⟩
    · go_wp2_with fail
      go_ret
      exact ⟨rfl, HB3.out⟩
    · obtain ⟨hh, hhe⟩ : ∃ hh, hasB k r t v = hh := ⟨_, rfl⟩
      rw [hhe]
      clear hhe
      go_wp2_with fail
      go_ret
      exact ⟨rfl, HB3.out⟩
  · obtain ⟨r0, r1, r2, _⟩ := HR2.out w3 b3
    have hb3 := hb2.trans (b3.mono hb2.size)
    have hhx : hasB k r t x = false := decide_eq_false (by rw [HNO.out]; simp)
    have hhg := HHG.out w3 hb3 (some ⟨g, 0, none⟩) M2 c2 x HXS.out (HOX.out w3 b3) (by omega)
    rw [hhx] at hhg
    have HG3 := Lib.hid hhg
    clear hhg hhx hb2
    obtain ⟨M1, hM1⟩ : ∃ M1, M2 = M1 + 1 := ⟨M2 - 1, by omega⟩
    have HM1 := Lib.hid hM1
    have hz0 : ((M2 : Int) == 0) = false := by simp; omega
    have hz1 : decide ((250 : Int) < (M2 : Int)) = false := decide_eq_false (by omega)
    have HY := Lib.hid (fun (wz : World) (hz : Below w2.heap.size w2 wz) (D : Option Addr) (m' d' : Nat) (y : List Nat) (hys : ∀ s ∈ y, s < k) (hlt : Slt k y x) (hD : Sl wz D m' ((ints y).map (Value.int .i64))) (hm' : m' ≤ 256) => (by
      have h := HHG.out wz (HB2.out.trans (hz.mono HB2.out.size)) D m' d' y hys hD hm'
      rw [show hasB k r t y = true from decide_eq_true (HYS.out y hys hlt)] at h
      exact h : Calls Tryd.prog 24 #[.agg #[.int .i64 (k : Int), .int .i64 (r : Int), .slice A n c], .slice D m' d'] wz fun e w' => e = .returned (.tuple #[.bool true, .nilIface]) ∧ Below wz.heap.size wz w'))
    clear hM1
    rcases h with ⟨u, p, rfl⟩ | ⟨v, hWv, hvl, hv, rfl⟩
    go_wp2_with fail
    refine (HG3.out).mono ?_
    rintro e w4 ⟨rfl, b4⟩
    have b24 := pure_trans b3 b4
    go_wp2_with fail
    clear HG3 hb3 b3 b4 r0 r1 r2
    rotate_left
    cases hh : hasB k r t v
    have hneg : ¬ Slt k v x := fun hs => by
      have := HYS.out v hv hs
      unfold hasB at hh
      exact absurd (decide_eq_false_iff_not.1 hh) (fun h => h this)
    have hcm := cmpW_pos hv HXS.out hneg
    have HCM := Lib.hid (fun (wz : World) (hz : Below w2.heap.size w2 wz) => wordCmp_g wz B (some ⟨g, 0, none⟩) m M2 d c2 v x (by rw [← hWv]; exact HWW.out wz (HB2.out.trans (hz.mono HB2.out.size))) (HOX.out wz hz) (by omega) (by omega))
    obtain ⟨q, hq⟩ : ∃ q, cmpW v x = q := ⟨_, rfl⟩
    rw [hq] at hcm HCM
    clear hh hWv hneg hq
    go_wp2_with fail
    refine (HG3.out).mono ?_
    rintro e w3' ⟨rfl, b4⟩
    have b23 := pure_trans b3 b4
    go_wp2_with fail
    refine (HCM.out w3' b23).mono ?_
    rintro e w4 ⟨rfl, b5⟩
    have b24 := pure_trans b23 b5
    go_wp2_with fail
    clear HG3 hb3 b3 b4 b5 b23 r0 r1 r2 HCM
    rotate_left
    clear hh hWv
    go_wp2_with fail
    refine (HG3.out).mono ?_
    rintro e w4 ⟨rfl, b4⟩
    have b24 := pure_trans b3 b4
    go_wp2_with fail
    clear HG3 hb3 b3 b4 r0 r1 r2
    rotate_left
    all_goals by_cases hc1 : c2 = 1
    all_goals first | subst hc1 | skip
    all_goals
      obtain ⟨r0, r1, r2, _⟩ := HR2.out w4 b24
      have HDD := Lib.hid (fun (wz : World) (hz : Below w2.heap.size w2 wz) (D : Option Addr) (hD : D = some ⟨g, 1, none⟩ ∨ M2 ≤ 1) => dropOne (HOX.out wz hz) HM.out hD)
      have HD0 := Lib.hid (fun (wz : World) (D : Option Addr) (h : M2 ≤ 1) => (⟨by simp [ints, HM.out]; omega, fun j u hj => by
        have hl := (List.getElem?_eq_some_iff.1 hj).1
        simp [ints, HM.out] at hl
        omega⟩ : Sl wz D 0 ((ints (x.drop 1)).map (Value.int .i64))))
      have HX1 := Lib.hid (show ∀ s ∈ x.drop 1, s < k from fun s hs => HXS.out s (List.mem_of_mem_drop hs))
      have HX2 := Lib.hid (show Slt k (x.drop 1) x from Slt.shorter (by rw [List.length_drop, HM.out]; omega))
      have HX3 := Lib.hid (show ∀ s ∈ x.take M1, s < k from fun s hs => HXS.out s (List.mem_of_mem_take hs))
      have HX4 := Lib.hid (show Slt k (x.take M1) x from Slt.shorter (by rw [List.length_take, HM.out, HM1.out]; omega))
      have HX5 := Lib.hid (show M2 - 1 ≤ 256 by omega)
      have HX6 := Lib.hid (show M1 ≤ 256 by have := HM1.out; omega)
      have HT := Lib.hid (show ∀ wz, Below w2.heap.size w2 wz → Sl wz (some ⟨g, 0, none⟩) M1 ((ints (x.take M1)).map (Value.int .i64)) from fun wz hz => by
        have h := HOX.out wz hz
        have e : (ints x).map (Value.int .i64) = (ints (x.take M1)).map (Value.int .i64) ++ (ints (x.drop M1)).map (Value.int .i64) := by
          rw [← List.map_append]
          unfold ints
          rw [← List.map_append, List.take_append_drop]
        rw [e] at h
        exact sl_take' h (by simp [ints, HM.out, HM1.out]))
      have s1 : (1 : Int) ≤ (M2 : Int) := by omega
      have s2 : (M2 : Int) ≤ _ := Int.ofNat_le.2 hco.1
      have s2' := hco.1
      go_region_held3 (fun w' => w'.cell? ⟨w.heap.size, 0, none⟩ = some (.int .i64 (k : Int)) ∧ w'.cell? ⟨w.heap.size, 1, none⟩ = some (.int .i64 (r : Int)) ∧ w'.cell? ⟨w.heap.size, 2, none⟩ = some (.slice A n c))
        (first | go_keep)
        (first
          | (go_at_call 24
             (with_reducible refine (HY.out _ (b24.drew) (some ⟨g, 1, none⟩) (M2 - 1) _ (x.drop 1) HX1.out HX2.out (HDD.out _ (b24.drew) _ (Or.inl rfl)) HX5.out).mono ?_)
             rintro e w5 ⟨rfl, b5⟩
             have x0 := cell_later b5 r0
             have x1 := cell_later b5 r1
             have x2 := cell_later b5 r2)
          | (go_at_call 24
             (refine (HY.out _ (b24.drew) (some ⟨g, 0, none⟩) 0 _ (x.drop 1) HX1.out HX2.out (HD0.out _ _ s2') (Nat.zero_le _)).mono ?_)
             rintro e w5 ⟨rfl, b5⟩
             have x0 := cell_later b5 r0
             have x1 := cell_later b5 r1
             have x2 := cell_later b5 r2)
          | fail)
      have b25 := (b24.drew).trans (b5.mono (b24.drew).size)
      obtain ⟨r0, r1, r2, _⟩ := HR2.out w5 b25
      clear x0 x1 x2 b5 s1 s2 s2'
      go_wp2_with fail
      have hco' := hco.1
      have s3 : IntKind.i64.wrap ((M2 : Int) - 1) = (M1 : Int) := by
        rw [IntWalk.i64_in _ (by omega)]
        have := HM1.out
        omega
      have s4 : (0 : Int) ≤ (M1 : Int) := by omega
      have s5 : (M1 : Int) ≤ _ := Int.ofNat_le.2 (Nat.le_trans (show M1 ≤ M2 by have := HM1.out; omega) hco.1)
      try (rw [show (((1 : Nat)) : Int) = (1 : Int) from rfl] at s5)
      go_region_held3 (fun w' => w'.cell? ⟨w.heap.size, 0, none⟩ = some (.int .i64 (k : Int)) ∧ w'.cell? ⟨w.heap.size, 1, none⟩ = some (.int .i64 (r : Int)) ∧ w'.cell? ⟨w.heap.size, 2, none⟩ = some (.slice A n c))
        (first | go_keep)
        (first
          | (go_at_call 24
             (refine (HY.out _ (b25.drew) (some ⟨g, 0, none⟩) M1 _ (x.take M1) HX3.out HX4.out (HT.out _ (b25.drew)) HX6.out).mono ?_)
             rintro e w6 ⟨rfl, b6⟩
             have x0 := cell_later b6 r0
             have x1 := cell_later b6 r1
             have x2 := cell_later b6 r2))
      have HB26 := Lib.hid ((b25.drew).trans (b6.mono (b25.drew).size))
      clear x0 x1 x2 b6 b25 b24 s3 s4 s5 r0 r1 r2 HX1 HX2 HX3 HX4 HX5 HX6 HT HD0 HDD HHG HHH
      go_wp2_with fail
      go_loopw [15] (fun iv wl => ∃ i : Nat, i ≤ M2 ∧ iv = .int .i64 (i : Int) ∧ Hid (Below w2.heap.size w2 wl)) (fun iv _ => M2 - (intOf iv).toNat)
      case atStart => exact ⟨0, Nat.zero_le _, rfl, HB26⟩
      case round =>
        obtain ⟨i, hi, rfl, hb⟩ := hrel
        by_cases hlt : i < M2
        · have hlt' : (i : Int) < (M2 : Int) := by omega
          obtain ⟨xi, hxi⟩ : ∃ xi, x[i]? = some xi := ⟨_, List.getElem?_eq_getElem (by rw [HM.out]; exact hlt)⟩
          have hx4 : xi < k := HXS.out xi (List.mem_of_getElem? hxi)
          have HXI := Lib.hid hxi
          have HCE := Lib.hid (fun (wz : World) (hz : Below w2.heap.size w2 wz) => (by
            obtain ⟨ad, e, hc⟩ := (HOX.out wz hz).2 i (.int .i64 (xi : Int)) (by unfold ints; simp [List.getElem?_map, HXI.out])
            cases e
            rw [add_blk] at hc
            exact hc : wz.cell? ⟨g, i, none⟩ = some (.int .i64 (xi : Int))))
          clear hxi
          obtain ⟨wo, rfl⟩ : ∃ wo : World, wo = wr := ⟨_, rfl⟩
          go_wp2_with fail
          go_loopw [16] (fun yv wl => ∃ y : Nat, y ≤ xi ∧ yv = .int .i64 (y : Int) ∧ Hid (Below w2.heap.size w2 wl)) (fun yv _ => xi - (intOf yv).toNat)
          case atStart => exact ⟨0, Nat.zero_le _, rfl, hb⟩
          case round =>
            clear hb
            obtain ⟨y, hy, rfl, hb⟩ := hrel
            have hc := HCE.out wr hb.out
            by_cases hly : y < xi
            · have hly' : (y : Int) < (xi : Int) := by omega
              have t1 : (0 : Int) ≤ (i : Int) := by omega
              have t2 : (i : Int) ≤ _ := Int.ofNat_le.2 (Nat.le_trans hi hco.1)
              try (rw [show (((1 : Nat)) : Int) = (1 : Int) from rfl] at t2)
              have htk : Sl wr (some ⟨g, 0, none⟩) i ((ints (x.take i)).map (Value.int .i64)) := by
                have h := HOX.out wr hb.out
                have e : (ints x).map (Value.int .i64) = (ints (x.take i)).map (Value.int .i64) ++ (ints (x.drop i)).map (Value.int .i64) := by
                  rw [← List.map_append]
                  unfold ints
                  rw [← List.map_append, List.take_append_drop]
                rw [e] at h
                exact sl_take' h (by simp [ints, HM.out]; omega)
              have HCP := Lib.hid (fun (cc : Nat) => copy_c wr (some ⟨g, 0, none⟩) i cc _ htk (ints_one _) (by omega))
              have HYL := Lib.hid (show ∀ s ∈ x.take i ++ [y], s < k from fun s hs => by
                rcases List.mem_append.1 hs with h | h
                · exact HXS.out s (List.mem_of_mem_take h)
                · rw [List.mem_singleton] at h; omega)
              have HYS2 := Lib.hid (show Slt k (x.take i ++ [y]) x from Slt.take (by rw [HM.out]; exact hlt) (by rw [getD_of HXI.out]; exact hly))
              clear htk
              go_wp2_with fail
              refine (HCP.out _).mono ?_
              rintro e w6 ⟨C6, cc6, rfl, hown6, b6⟩
              have HY6 := Lib.hid (show (ints (x.take i)).map (Value.int .i64) ++ [.int .i64 (y : Int)] = (ints (x.take i ++ [y])).map (Value.int .i64) by simp [ints])
              have hb6 := b6.size
              have hm1 : i + 1 ≤ maxLen := by simp only [maxLen]; omega
              have hm2 : (i + 1) * 8 ≤ 140737488355328 := by omega
              clear hc
              go_wp2_with (at_builtin; refine wpList_push rfl _ _ _ rfl tInts hown6 rfl _ 0 rfl rfl rfl hm1 hm2 hb6 ?_; intro g7 cap7 w7 hown7 hg7 hat7 hlt7; have b7 := hb.out.trans ((b6.grown hg7 hb6 (fun q hq => (hown6.lt q hq).1)).mono hb.out.size); obtain ⟨r0, r1, r2, _⟩ := HR2.out w7 b7)
              rw [HY6.out] at hown7
              refine (HY.out w7 b7 (some ⟨g7, 0, none⟩) (i + 1) cap7 _ HYL.out HYS2.out (Sl.of_own hown7) (by omega)).mono ?_
              rintro e w8 ⟨rfl, b8⟩
              have HB8 := Lib.hid (b7.trans (b8.mono b7.size))
              clear b7 b8 hown7 hg7 hat7 hlt7 hown6 b6 hb6 r0 r1 r2
              go_wp2_with fail
              exact ⟨⟨y + 1, by omega, by go_num, HB8⟩, by simp [intOf]; omega⟩
            · have hly' : ¬ (y : Int) < (xi : Int) := by omega
              go_wp2_with fail
              exact ⟨⟨i + 1, by omega, by go_num, hb⟩, by simp [intOf]; omega⟩
        · have hlt' : ¬ (i : Int) < (M2 : Int) := by omega
          go_wp2_with fail
          go_ret
          exact ⟨rfl, HB2.out.trans (hb.out.mono HB2.out.size)⟩

theorem subsetOrphans_c (w : World) (E : Nat → Addr) (hE : Errs w E) (hT : ErrT w) (hAp : Apart12 E) (hB : ErrBlk w E) (K R : Int) (A : Option Addr) (n c : Nat) (T : List Int) (hS : Sl w A n (T.map (Value.int .i64))) (hn : n ≤ c) (hz : c * 8 ≤ 140737488351232)
    (B : Option Addr) (m d : Nat) (W : List Int) (hW : Sl w B m (W.map (Value.int .i64))) (hm : m ≤ d) (hd : d * 8 ≤ 140737488351232) :
    Calls Tryd.prog 7 #[ruleV K R A n c, .slice B m d] w fun e w' => e = .returned (.bool true) ∧ Below w.heap.size w w' := by
  rcases ontoF_cases K R T with ⟨tl, h⟩ | ⟨k, r, t, rfl, rfl, rfl, hr, hl, ⟨h, hy⟩ | ⟨x, h, h1, h2, h3, h4, h5⟩⟩
  · exact subsetOrphans_bad w E hE hT hAp hB K R A n c T hS hn hz B m d tl h
  · exact subsetOrphans_yes w E hE hT hAp hB k r A n c t hS hn hz B m d W hW hm hd hr hl h hy
  · exact subsetOrphans_no w E hE hT hAp hB k r A n c t hS hn hz B m d W hW hm hd hr hl x h h1 h2 h3 h4 h5
end Go.Proofs.YtlajiblhnkognaaDoor
