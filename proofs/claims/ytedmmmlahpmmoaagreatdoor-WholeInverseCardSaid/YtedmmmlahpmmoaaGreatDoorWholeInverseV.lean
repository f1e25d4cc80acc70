/- A rule and its inverse undo each other, on rings and on rows: edentop.WholeInverse returns true for every input. Condition: the lists read from memory; the error variables hold what E says. -/
import Derived.Test.YtedmmmlahpmmoaaGreatDoorV25
import Derived.Test.YtedmmmlahpmmoaaGreatDoorV32
namespace Go.Proofs.YtedmmmlahpmmoaaGreatDoor
open Go.RowKit RuleP TarjP PairP

theorem RowIs.lens {w : World} {D : RowD} (h : RowIs w D) : D.l.length = D.nl ∧ D.c.length = D.nc ∧ D.r.length = D.nr :=
  ⟨by simpa [ints] using h.l.1, by simpa [ints] using h.c.1, by simpa [ints] using h.r.1⟩
theorem RowTo.sym {k r : Nat} {t : List Nat} {D D' : RowD} (h : RowTo k r t D D') (hl : D.l.length = D.nl ∧ D.c.length = D.nc ∧ D.r.length = D.nr) (l0 : 0 < D.nl) (r0 : 0 < D.nr) : D'.sym = stepZ k r t D.sym := by
  have e := row_step (k := k) (ρ := r) (t := t) (a := D.at_) (l := D.l) (c := D.c) (r := D.r) (by omega) (by omega)
  have e1 : D.sym = rowSym D.at_ D.l D.c D.r := rfl
  have e2 : D'.sym = rowSym D'.at_ D'.l D'.c D'.r := rfl
  rw [e2, h.at_, h.l, h.c, h.r, e1, ← hl.1, ← hl.2.1, ← hl.2.2]
  exact e
theorem RowSym.all {k : Nat} {D : RowD} (h : RowSym k D) (hl : D.l.length = D.nl ∧ D.c.length = D.nc ∧ D.r.length = D.nr) (l0 : 0 < D.nl) (r0 : 0 < D.nr) : ∀ z, D.sym z < k := rowSym_lt h.1 h.2.1 h.2.2 (by omega) (by omega)
theorem RowTo.symk {k r : Nat} {t : List Nat} {D D' : RowD} (h : RowTo k r t D D') (hr : IsRule k r t) (hs : ∀ z, D.sym z < k) : RowSym k D' := by
  have h1 := fun z => stepZ_lt hr hs z
  exact ⟨by rw [h.l]; exact winZ_sym h1 _ _, by rw [h.c]; exact winZ_sym h1 _ _, by rw [h.r]; exact winZ_sym h1 _ _⟩
/-- What the law's four steps give. -/
structure RowGo (k : Nat) (D : RowD) (lo hi : Int) (c : Nat) : Prop where
  sy : RowSym k D
  a1 : lo ≤ D.at_
  a2 : D.at_ ≤ hi
  l0 : 0 < D.nl
  l1 : D.nl ≤ 100
  r0 : 0 < D.nr
  r1 : D.nr ≤ 100
  c1 : D.nc ≤ c
theorem RowTo.go {k r : Nat} {t : List Nat} {D D' : RowD} {lo hi : Int} {c : Nat} (h : RowTo k r t D D') (hr : IsRule k r t) (hl : D.l.length = D.nl ∧ D.c.length = D.nc ∧ D.r.length = D.nr) (g : RowGo k D lo hi c) : RowGo k D' (lo - 3) hi (c + 6) := by
  have h3 := hr.r3
  refine ⟨h.symk hr (g.sy.all hl g.l0 g.r0), ?_, ?_, ?_, ?_, ?_, ?_, ?_⟩
  · rw [h.at_]; have := g.a1; omega
  · rw [h.at_]; have := g.a2; omega
  · rw [h.nl]; exact g.l0
  · rw [h.nl]; exact g.l1
  · rw [h.nr]; exact g.r0
  · rw [h.nr]; exact g.r1
  · rw [h.nc]; have := g.c1; omega
/-- A row that fits, as a row of symbols. -/
theorem RowFit.row {k : Nat} {X : RowV} (h : RowFit k X) : ∃ D : RowD, D.toV = X ∧ RowSym k D := by
  obtain ⟨at0, AL, nl, cl, AC, nc, cc, AR, nr, cr, L, C, R⟩ := X
  have key : ∀ W : List Int, odd (k : Int) W = none → ∃ l : List Nat, W = ints l ∧ ∀ x ∈ l, x < k := fun W hW => by
    refine ⟨W.map Int.toNat, ?_, fun x hx => ?_⟩
    · unfold ints
      rw [List.map_map]
      conv => lhs; rw [← List.map_id W]
      refine List.map_congr_left fun y hy => ?_
      have := odd_mem hW hy
      show y = ((y.toNat : Nat) : Int)
      omega
    · obtain ⟨y, hy, rfl⟩ := List.mem_map.1 hx
      have := odd_mem hW hy
      omega
  obtain ⟨l, rfl, h1⟩ := key L h.l
  obtain ⟨c, rfl, h2⟩ := key C h.c
  obtain ⟨r, rfl, h3⟩ := key R h.r
  exact ⟨⟨at0, AL, nl, cl, AC, nc, cc, AR, nr, cr, l, c, r⟩, rfl, h1, h2, h3⟩
/-- A word that is a ring. -/
theorem RingOk.word {k m : Nat} {W : List Int} (h : RingOk k m W) : ∃ s : List Nat, W = ints s ∧ ∀ x ∈ s, x < k := by
  refine ⟨W.map Int.toNat, ?_, fun x hx => ?_⟩
  · unfold ints
    rw [List.map_map]
    conv => lhs; rw [← List.map_id W]
    refine List.map_congr_left fun y hy => ?_
    have := odd_mem h.2.2 hy
    show y = ((y.toNat : Nat) : Int)
    omega
  · obtain ⟨y, hy, rfl⟩ := List.mem_map.1 hx
    have := odd_mem h.2.2 hy
    omega
theorem ringOk_ringI {k r m : Nat} {t s : List Nat} (hr : IsRule k r t) (hs : ∀ x ∈ s, x < k) (hm : s.length = m) (h0 : 0 < m) (h4 : m ≤ 4096) : RingOk k m (ints (ringI k r t s)) := by
  refine ⟨h0, h4, odd_of fun x hx => ?_⟩
  obtain ⟨y, hy, rfl⟩ := List.mem_map.1 hx
  have := ringI_sym hr hs y hy
  omega
/-- The rule that was found undoes the first, both ways. -/
theorem find_left {k r ρ : Nat} {t : List Nat} {T : List Int} (hr : IsRule k r t) (h : findP k r t 4 0 = some (ρ, T)) : ∃ u : List Nat, T = ints u ∧ IsRule k ρ u ∧ RuleP.Left k r t ρ u ∧ RuleP.Left k ρ u r t := by
  obtain ⟨h1, h2, h3⟩ := findP_ok 4 0 h
  simp only at h1 h2 h3
  obtain ⟨a1, a2⟩ := fill_left (ρ := ρ) hr rfl h2
  obtain ⟨u, e, hu, hl⟩ := LeftI.rule hr a1 a2 (by omega)
  exact ⟨u, by rw [h3]; exact e, hu, hl, RuleP.Left.back hr hu hl⟩

/-- A ring stepped by a good rule. -/
theorem ring_ok (w : World) (E : Nat → Addr) (hE : Errs w E) (k r : Nat) (A B : Option Addr) (n c m d : Nat) (t s : List Nat) (hr : IsRule k r t) (hT : Sl w A n ((ints t).map (Value.int .i64))) (hS : Sl w B m ((ints s).map (Value.int .i64))) (hs : ∀ x ∈ s, x < k) (h0 : 0 < m) (h4 : m ≤ 4096) :
    Calls Tryz.prog 6 #[.agg #[.int .i64 (k : Int), .int .i64 (r : Int), .slice A n c], .slice B m d] w fun e w' => ∃ g, e = .returned (.tuple #[.slice (some ⟨g, 0, none⟩) m m, .nilIface]) ∧ Sl w' (some ⟨g, 0, none⟩) m ((ints (ringI k r t s)).map (Value.int .i64)) ∧ Below w.heap.size w w' := by
  have h := ringStep_c w E hE k r A B n c m d t (ints s) hr hT hS (by omega)
  unfold ruleV at h
  refine h.mono ?_
  rintro e w' ⟨_, h1, hb⟩
  obtain ⟨g, he, ho⟩ := h1 s ⟨h0, h4, odd_ints hs⟩ rfl
  exact ⟨g, he, Sl.of_own ho, hb⟩
theorem ring_no (w : World) (E : Nat → Addr) (hE : Errs w E) (k r : Nat) (A B : Option Addr) (n c m d : Nat) (t : List Nat) (V : List Int) (hr : IsRule k r t) (hT : Sl w A n ((ints t).map (Value.int .i64))) (hS : Sl w B m (V.map (Value.int .i64))) (hm : m ≤ 9223372036854775807) (hno : ¬ RingOk k m V) :
    Calls Tryz.prog 6 #[.agg #[.int .i64 (k : Int), .int .i64 (r : Int), .slice A n c], .slice B m d] w fun e w' => ∃ b, e = .returned (.tuple #[.slice none 0 0, errV b]) ∧ Below w.heap.size w w' := by
  have h := ringStep_c w E hE k r A B n c m d t V hr hT hS hm
  unfold ruleV at h
  refine h.mono ?_
  rintro e w' ⟨h1, _, hb⟩
  obtain ⟨b, he⟩ := h1 hno
  exact ⟨b, he, hb⟩
/-- A row stepped by a good rule. -/
theorem rowStep_go (w : World) (E : Nat → Addr) (hE : Errs w E) (k r : Nat) (A : Option Addr) (n c : Nat) (t : List Nat) (hr : IsRule k r t) (hT : Sl w A n ((ints t).map (Value.int .i64))) (D : RowD) (hD : RowIs w D) (lo hi : Int) (cc : Nat) (g : RowGo k D lo hi cc) (h1 : -4093 ≤ lo) (h2 : hi ≤ 4096) (h3 : cc ≤ 1010) :
    Calls Tryz.prog 9 #[.agg #[.int .i64 (k : Int), .int .i64 (r : Int), .slice A n c], D.val] w fun e w' => ∃ D' : RowD, e = .returned (.tuple #[D'.val, .nilIface]) ∧ RowIs w' D' ∧ RowGo k D' (lo - 3) hi (cc + 6) ∧ D'.sym = stepZ k r t D.sym ∧ Below w.heap.size w w' := by
  have hr3 := hr.r3
  have h := rowStep_c w E hE k r A n c t hr hT D hD g.sy (by have := g.a1; omega) (by have := g.a2; omega) g.l0 g.l1 g.r0 g.r1 (by have := g.c1; omega)
  unfold ruleV at h
  refine h.mono ?_
  rintro e w' ⟨D', he, h4, h5, hb⟩
  exact ⟨D', he, h4, h5.go hr hD.lens g, h5.sym hD.lens g.l0 g.r0, hb⟩
theorem RowGo.rowB {k : Nat} {D : RowD} {lo hi : Int} {c : Nat} (g : RowGo k D lo hi c) (h1 : -4096 ≤ lo) (h2 : hi ≤ 4096) (h3 : c ≤ 1100) : RowB D :=
  ⟨by have := g.a1; omega, by have := g.a2; omega, g.l0, g.l1, g.r0, g.r1, by have := g.c1; omega⟩
set_option maxRecDepth 100000 in
set_option maxHeartbeats 16000000 in
theorem wholeInverse_c (w : World) (E : Nat → Addr) (hE : InvW w E) (K R : Int) (A : Option Addr) (n c : Nat) (T : List Int) (hS : Sl w A n (T.map (Value.int .i64))) (hn : n ≤ 9223372036854775807)
    (X : RowV) (hX : RowVs w X) (hx1 : X.nl ≤ 9223372036854775807) (hx2 : X.nc ≤ 9223372036854775807) (hx3 : X.nr ≤ 9223372036854775807)
    (B : Option Addr) (m d : Nat) (V : List Int) (hV : Sl w B m (V.map (Value.int .i64))) (hm : m ≤ 9223372036854775807) :
    Calls Tryz.prog 3 #[ruleV K R A n c, X.val, .slice B m d] w fun e w' => e = .returned (.bool true) ∧ Below w.heap.size w w' := by
  obtain ⟨at0, AL, nl, cl, AC, nc, cc, AR, nr, cr, XL, XC, XR⟩ := X
  have hr0 := (RuleAt.new w (.int .i64 K) (.int .i64 R) (.slice A n c)).alloc (.cells #[.int .i64 at0, .slice AL nl cl, .slice AC nc cc, .slice AR nr cr] 26)
  have hw0' := RowAt.new (w.alloc (.cells #[.int .i64 K, .int .i64 R, .slice A n c] 24)) (.int .i64 at0) (.slice AL nl cl) (.slice AC nc cc) (.slice AR nr cr)
  rw [World.size_alloc] at hw0'
  have b0 := ((Below.refl w.heap.size w).alloc (Nat.le_refl _) (.cells #[.int .i64 K, .int .i64 R, .slice A n c] 24)).alloc (by simp) (.cells #[.int .i64 at0, .slice AL nl cl, .slice AC nc cc, .slice AR nr cr] 26)
  obtain ⟨w0, hw0⟩ : ∃ w0, ((w.alloc (.cells #[.int .i64 K, .int .i64 R, .slice A n c] 24)).alloc (.cells #[.int .i64 at0, .slice AL nl cl, .slice AC nc cc, .slice AR nr cr] 26)) = w0 := ⟨_, rfl⟩
  rw [hw0] at hr0 hw0' b0
  have HX := Lib.hid (fun (wz : World) (hz : Below w0.heap.size w0 wz) => (⟨(hE.below b0).below hz, hr0.below hz hr0.lt, hw0'.below hz hw0'.lt, (hS.below b0).below hz, (hX.below b0).below hz, (hV.below b0).below hz⟩ : InvW wz E ∧ RuleAt wz w.heap.size (.int .i64 K) (.int .i64 R) (.slice A n c) ∧ RowAt wz (w.heap.size + 1) (.int .i64 at0) (.slice AL nl cl) (.slice AC nc cc) (.slice AR nr cr) ∧ Sl wz A n (T.map (Value.int .i64)) ∧ RowVs wz ⟨at0, AL, nl, cl, AC, nc, cc, AR, nr, cr, XL, XC, XR⟩ ∧ Sl wz B m (V.map (Value.int .i64))))
  have HAW := Lib.hid (inverts_c w0 E (hE.below b0))
  have HW0 := Lib.hid hw0
  have B0 := Lib.hid b0
  have hTl : T.length = n := by simpa using hS.1
  have HTL := Lib.hid hTl
  clear hE hS hX hV hw0 b0 hr0 hw0' hTl
  unfold RowV.val ruleV at *
  simp only
  go_enter Tryz.func3, Tryz.ntmps3
  go_wp2_with fail
  rw [HW0.out]
  refine (HAW.out).mono ?_
  rintro e w1 ⟨rfl, b1⟩
  have B1 := Lib.hid b1
  obtain ⟨r0, r1, r2, _⟩ := (HX.out w1 b1).2.1.facts
  clear b1 HAW
  by_cases h64 : 64 < n
  · have h64' : (64 : Int) < (n : Int) := by omega
    have HB1 := Lib.hid (B0.out.trans (B1.out.mono B0.out.size))
    go_wp2_with fail
    go_ret
    exact ⟨rfl, HB1.out⟩
  · have h64' : ¬ (64 : Int) < (n : Int) := by omega
    cases hsm : small K R T with
    | some tl =>
      have hfb := inv_bad w1 E (HX.out w1 B1.out).1.1 K R A n c T (HX.out w1 B1.out).2.2.2.1 hn tl hsm
      unfold ruleV at hfb
      have HFB := Lib.hid hfb
      clear hsm hfb
      go_wp2_with fail
      refine (HFB.out).mono ?_
      rintro e w2 ⟨u, p, rfl, b2⟩
      have B2 := Lib.hid ((B0.out.trans ((B1.out.trans (b2.mono B1.out.size)).mono B0.out.size)).alloc (B0.out.trans ((B1.out.trans (b2.mono B1.out.size)).mono B0.out.size)).size (.cells #[.int .i64 0, .int .i64 0, .slice none 0 0] 24))
      clear b2 HFB
      go_wp2_with fail
      go_ret
      exact ⟨rfl, B2.out⟩
    | none =>
      obtain ⟨k, r, t, rfl, rfl, rfl, hr, h256⟩ := small_parts hsm
      have htl : t.length ≤ 64 := by have := HTL.out; simp [ints] at this; omega
      have hff := inv_good w1 E (HX.out w1 B1.out).1.1 k r n c A t (HX.out w1 B1.out).2.2.2.1 hr htl
      unfold ruleV at hff
      have HFF := Lib.hid hff
      have HRU := Lib.hid hr
      clear hsm hff hr h256 htl
      go_wp2_with fail
      refine (HFF.out).mono ?_
      rintro e w2 hfp
      rcases hfp.ways with ⟨ρ, T2, gt, _, hf, rfl, ho, b2⟩ | ⟨en, v, _, _, _, rfl, hv, b2⟩
      · obtain ⟨u, rfl, hu, hl, hlb⟩ := find_left HRU.out hf
        obtain ⟨S, hS⟩ : ∃ S, (ints u).length = S := ⟨_, rfl⟩
        rw [hS] at ho ⊢
        unfold ruleV
        have hr3 := RuleAt.new w2 (.int .i64 (k : Int)) (.int .i64 (ρ : Int)) (.slice (some ⟨gt, 0, none⟩) S S)
        have b3 := (Below.refl w2.heap.size w2).alloc (Nat.le_refl _) (.cells #[.int .i64 (k : Int), .int .i64 (ρ : Int), .slice (some ⟨gt, 0, none⟩) S S] 24)
        obtain ⟨w3, hw3⟩ : ∃ w3, w2.alloc (.cells #[.int .i64 (k : Int), .int .i64 (ρ : Int), .slice (some ⟨gt, 0, none⟩) S S] 24) = w3 := ⟨_, rfl⟩
        rw [hw3] at hr3 b3
        have hb03 := (B1.out.trans (b2.mono B1.out.size)).trans (b3.mono (B1.out.trans (b2.mono B1.out.size)).size)
        obtain ⟨g7, hg7⟩ : ∃ g7, w2.heap.size = g7 := ⟨_, rfl⟩
        rw [hg7] at hr3
        have HW3 := Lib.hid (And.intro hw3 hg7)
        have HY := Lib.hid (fun (wz : World) (hz : Below w3.heap.size w3 wz) => (⟨HX.out wz (hb03.trans (hz.mono hb03.size)), hr3.below hz hr3.lt, ((Sl.of_own ho).below b3).below hz⟩ : (InvW wz E ∧ RuleAt wz w.heap.size (.int .i64 (k : Int)) (.int .i64 (r : Int)) (.slice A n c) ∧ RowAt wz (w.heap.size + 1) (.int .i64 at0) (.slice AL nl cl) (.slice AC nc cc) (.slice AR nr cr) ∧ Sl wz A n ((ints t).map (Value.int .i64)) ∧ RowVs wz ⟨at0, AL, nl, cl, AC, nc, cc, AR, nr, cr, XL, XC, XR⟩ ∧ Sl wz B m (V.map (Value.int .i64))) ∧ RuleAt wz g7 (.int .i64 (k : Int)) (.int .i64 (ρ : Int)) (.slice (some ⟨gt, 0, none⟩) S S) ∧ Sl wz (some ⟨gt, 0, none⟩) S ((ints u).map (Value.int .i64))))
        have B3 := Lib.hid (B0.out.trans (hb03.mono B0.out.size))
        have HL := Lib.hid (And.intro hu (And.intro hl hlb))
        clear hu hl hlb hS hf ho b2 b3 hw3 hg7 hr3 hb03 hfp HFF r0 r1 r2
        obtain ⟨r0, r1, r2, _⟩ := (HY.out w3 (Below.refl _ _)).1.2.1.facts
        obtain ⟨s0, s1, s2, _⟩ := (HY.out w3 (Below.refl _ _)).2.1.facts
        by_cases hok : RingOk k m V
        · obtain ⟨s, hsV, hss⟩ := hok.word
          have hsm : s.length = m := by
            have := (HY.out w3 (Below.refl _ _)).1.2.2.2.2.2.1
            rw [hsV] at this
            simpa [ints] using this
          have HSV := Lib.hid (And.intro hsV (And.intro hss hsm))
          have HOK := Lib.hid (And.intro hok.1 hok.2.1)
          have HC1 := Lib.hid (ring_ok w3 E (HY.out w3 (Below.refl _ _)).1.1.1 k r A B n c m d t s HRU.out (HY.out w3 (Below.refl _ _)).1.2.2.2.1 (by rw [← hsV]; exact (HY.out w3 (Below.refl _ _)).1.2.2.2.2.2) hss hok.1 hok.2.1)
          clear hok hsV hss hsm
          go_upto_region 8 with fail
          rw [HW3.out.1, HW3.out.2]
          go_wp2_with fail
          refine (HC1.out).mono ?_
          rintro e w4 ⟨ga, rfl, ha, hb4⟩
          have B4 := Lib.hid hb4
          have HA4 := Lib.hid ha
          clear ha hb4 r0 r1 r2 s0 s1 s2 HC1
          obtain ⟨r0, r1, r2, _⟩ := (HY.out w4 B4.out).1.2.1.facts
          obtain ⟨s0, s1, s2, _⟩ := (HY.out w4 B4.out).2.1.facts
          have HC2 := Lib.hid (ring_ok w4 E (HY.out w4 B4.out).1.1.1 k ρ (some ⟨gt, 0, none⟩) B S S m d u s HL.out.1 (HY.out w4 B4.out).2.2 (by rw [← HSV.out.1]; exact (HY.out w4 B4.out).1.2.2.2.2.2) HSV.out.2.1 HOK.out.1 HOK.out.2)
          go_wp2_with fail
          refine (HC2.out).mono ?_
          rintro e w5 ⟨gb, rfl, hbb, hb5⟩
          have B5 := Lib.hid (B4.out.trans (hb5.mono B4.out.size))
          have HA5 := Lib.hid (HA4.out.below hb5)
          have HB5 := Lib.hid hbb
          clear hbb hb5 r0 r1 r2 s0 s1 s2 HC2
          obtain ⟨r0, r1, r2, _⟩ := (HY.out w5 B5.out).1.2.1.facts
          obtain ⟨s0, s1, s2, _⟩ := (HY.out w5 B5.out).2.1.facts
          have HC3 := Lib.hid (ring_ok w5 E (HY.out w5 B5.out).1.1.1 k ρ (some ⟨gt, 0, none⟩) (some ⟨ga, 0, none⟩) S S m m u (ringI k r t s) HL.out.1 (HY.out w5 B5.out).2.2 HA5.out (ringI_sym HRU.out HSV.out.2.1) HOK.out.1 HOK.out.2)
          go_wp2_with fail
          refine (HC3.out).mono ?_
          rintro e w6 ⟨gc, rfl, hcc, hb6⟩
          have B6 := Lib.hid (B5.out.trans (hb6.mono B5.out.size))
          have HB6 := Lib.hid (HB5.out.below hb6)
          have hcc' := hcc
          rw [RuleP.Left.ring HL.out.2.1 (by rw [HSV.out.2.2]; exact HOK.out.1) HSV.out.2.1] at hcc'
          have HC6 := Lib.hid hcc'
          clear hcc hcc' hb6 r0 r1 r2 s0 s1 s2 HC3
          obtain ⟨r0, r1, r2, _⟩ := (HY.out w6 B6.out).1.2.1.facts
          have HC4 := Lib.hid (ring_ok w6 E (HY.out w6 B6.out).1.1.1 k r A (some ⟨gb, 0, none⟩) n c m m t (ringI k ρ u s) HRU.out (HY.out w6 B6.out).1.2.2.2.1 HB6.out (ringI_sym HL.out.1 HSV.out.2.1) HOK.out.1 HOK.out.2)
          go_wp2_with fail
          refine (HC4.out).mono ?_
          rintro e w7 ⟨gd, rfl, hdd, hb7⟩
          have B7 := Lib.hid (B6.out.trans (hb7.mono B6.out.size))
          rw [RuleP.Left.ring HL.out.2.2 (by rw [HSV.out.2.2]; exact HOK.out.1) HSV.out.2.1] at hdd
          have HI1 := Lib.hid (by
            have h := ints_b w7 (some ⟨gc, 0, none⟩) B m m m d (ints s) V (HC6.out.below hb7) (HY.out w7 B7.out).1.2.2.2.2.2 hm hm
            rw [decide_eq_true HSV.out.1.symm] at h
            exact h : Calls Tryz.prog 7 #[.slice (some ⟨gc, 0, none⟩) m m, .slice B m d] w7 fun e w' => e = .returned (.bool true) ∧ Below w7.heap.size w7 w')
          have HI2 := Lib.hid (fun (wz : World) (hz : Below w7.heap.size w7 wz) => (by
            have h := ints_b wz (some ⟨gd, 0, none⟩) B m m m d (ints s) V (hdd.below hz) (HY.out wz (B7.out.trans (hz.mono B7.out.size))).1.2.2.2.2.2 hm hm
            rw [decide_eq_true HSV.out.1.symm] at h
            exact h : Calls Tryz.prog 7 #[.slice (some ⟨gd, 0, none⟩) m m, .slice B m d] wz fun e w' => e = .returned (.bool true) ∧ Below wz.heap.size wz w'))
          clear hdd hb7 r0 r1 r2 HC4
          go_wp2_with fail
          refine (HI1.out).mono ?_
          rintro e w8 ⟨rfl, hb8⟩
          have HI3 := Lib.hid (HI2.out w8 hb8)
          have B8 := Lib.hid (B7.out.trans (hb8.mono B7.out.size))
          clear hb8 HI1 HI2
          go_wp2_with fail
          refine (HI3.out).mono ?_
          rintro e wq ⟨rfl, hb9⟩
          have BQ := Lib.hid (B8.out.trans (hb9.mono B8.out.size))
          clear hb9 HI3 HA4 HA5 HB5 HB6 HC6 HOK HSV B4 B5 B6 B7 B8
          obtain ⟨y0, _⟩ := (HY.out wq BQ.out).1.2.1.facts
          obtain ⟨x0, x1, x2, x3, _⟩ := (HY.out wq BQ.out).1.2.2.1.facts
          have HCK := Lib.hid (by
            have h := rowCheck_c wq E (HY.out wq BQ.out).1.1.1 k HRU.out.k1 HRU.out.k4 ⟨at0, AL, nl, cl, AC, nc, cc, AR, nr, cr, XL, XC, XR⟩ (HY.out wq BQ.out).1.2.2.2.2.1
            unfold RowV.val at h
            exact h : Calls Tryz.prog 8 #[.int .i64 (k : Int), .agg #[.int .i64 at0, .slice AL nl cl, .slice AC nc cc, .slice AR nr cr]] wq fun e w' => (∃ v, e = .returned v ∧ (RowFit k ⟨at0, AL, nl, cl, AC, nc, cc, AR, nr, cr, XL, XC, XR⟩ → v = .nilIface) ∧ (¬ RowFit k ⟨at0, AL, nl, cl, AC, nc, cc, AR, nr, cr, XL, XC, XR⟩ → ∃ b, v = errV b)) ∧ Below wq.heap.size wq w')
          go_wp2_with fail
          refine (HCK.out).mono ?_
          rintro e w10 ⟨⟨v, rfl, hv1, hv2⟩, hb10⟩
          have B10 := Lib.hid (BQ.out.trans (hb10.mono BQ.out.size))
          have HEND := Lib.hid (B3.out.trans (B10.out.mono B3.out.size))
          clear hb10 y0 x0 x1 x2 x3 HCK
          obtain ⟨r0, r1, r2, _⟩ := (HY.out w10 B10.out).1.2.1.facts
          obtain ⟨x0, x1, x2, x3, _⟩ := (HY.out w10 B10.out).1.2.2.1.facts
          by_cases hfit : RowFit k ⟨at0, AL, nl, cl, AC, nc, cc, AR, nr, cr, XL, XC, XR⟩
          · obtain rfl := hv1 hfit
            clear hv1 hv2
            by_cases g1 : at0 < -4000
            · clear hfit
              go_wp2_with fail
              go_ret
              exact ⟨rfl, HEND.out⟩
            · by_cases g2 : 1000 < nc
              · have g2' : (1000 : Int) < (nc : Int) := by omega
                clear hfit
                go_wp2_with fail
                go_ret
                exact ⟨rfl, HEND.out⟩
              · have g2' : ¬ (1000 : Int) < (nc : Int) := by omega
                by_cases g3 : 100 < nl
                · have g3' : (100 : Int) < (nl : Int) := by omega
                  clear hfit
                  go_wp2_with fail
                  go_ret
                  exact ⟨rfl, HEND.out⟩
                · have g3' : ¬ (100 : Int) < (nl : Int) := by omega
                  by_cases g4 : 100 < nr
                  · have g4' : (100 : Int) < (nr : Int) := by omega
                    clear hfit
                    go_wp2_with fail
                    go_ret
                    exact ⟨rfl, HEND.out⟩
                  · have g4' : ¬ (100 : Int) < (nr : Int) := by omega
                    obtain ⟨D0, hD0, hsy⟩ := hfit.row
                    obtain ⟨at0', AL', nl', cl', AC', nc', cc', AR', nr', cr', ll, lc, lr⟩ := D0
                    unfold RowD.toV at hD0
                    simp only [RowV.mk.injEq] at hD0
                    obtain ⟨rfl, rfl, rfl, rfl, rfl, rfl, rfl, rfl, rfl, rfl, rfl, rfl, rfl⟩ := hD0
                    obtain ⟨D0, hD0⟩ : ∃ D0 : RowD, (⟨at0', AL', nl', cl', AC', nc', cc', AR', nr', cr', ll, lc, lr⟩ : RowD) = D0 := ⟨_, rfl⟩
                    have hgo : RowGo k D0 (-4000) 4096 1000 := by rw [← hD0]; exact ⟨hsy, by show (-4000 : Int) ≤ at0'; omega, hfit.a2, hfit.l0, by show nl' ≤ 100; omega, hfit.r0, by show nr' ≤ 100; omega, by show nc' ≤ 1000; omega⟩
                    have HD0 := Lib.hid (fun (wz : World) (hz : Below w3.heap.size w3 wz) => (by
                      have h := (HY.out wz hz).1.2.2.2.2.1
                      rw [← hD0]
                      exact ⟨h.l, h.c, h.r⟩ : RowIs wz D0))
                    have HV0 := Lib.hid (show D0.val = .agg #[.int .i64 at0', .slice AL' nl' cl', .slice AC' nc' cc', .slice AR' nr' cr'] by rw [← hD0]; rfl)
                    have HGO := Lib.hid hgo
                    have HLT0 := Lib.hid (hgo.sy.all (HD0.out w3 (Below.refl _ _)).lens hgo.l0 hgo.r0)
                    clear hD0 hgo hsy hfit HEND
                    have HS1 := Lib.hid (by
                      have h := rowStep_go w10 E (HY.out w10 B10.out).1.1.1 k r A n c t HRU.out (HY.out w10 B10.out).1.2.2.2.1 D0 (HD0.out w10 B10.out) (-4000) 4096 1000 HGO.out (by decide) (by decide) (by decide)
                      rw [HV0.out] at h
                      exact h : Calls Tryz.prog 9 #[.agg #[.int .i64 (k : Int), .int .i64 (r : Int), .slice A n c], .agg #[.int .i64 at0', .slice AL' nl' cl', .slice AC' nc' cc', .slice AR' nr' cr']] w10 fun e w' => ∃ D' : RowD, e = .returned (.tuple #[D'.val, .nilIface]) ∧ RowIs w' D' ∧ RowGo k D' (-4000 - 3) 4096 (1000 + 6) ∧ D'.sym = stepZ k r t D0.sym ∧ Below w10.heap.size w10 w')
                    go_wp2_with fail
                    refine (HS1.out).mono ?_
                    rintro e v1 ⟨D1, rfl, hI, hG, hY, hb⟩
                    obtain ⟨a1, L1, nL1, cL1, C1, nC1, cC1, R1, nR1, cR1, hval⟩ : ∃ a L nL cL C nC cC R nR cR, D1.val = .agg #[.int .i64 a, .slice L nL cL, .slice C nC cC, .slice R nR cR] := ⟨_, _, _, _, _, _, _, _, _, _, rfl⟩
                    rw [hval]
                    have hr := RowAt.new v1 (.int .i64 a1) (.slice L1 nL1 cL1) (.slice C1 nC1 cC1) (.slice R1 nR1 cR1)
                    have bb := (Below.refl v1.heap.size v1).alloc (Nat.le_refl _) (.cells #[.int .i64 a1, .slice L1 nL1 cL1, .slice C1 nC1 cC1, .slice R1 nR1 cR1] 26)
                    obtain ⟨u1, hu1⟩ : ∃ u1, v1.alloc (.cells #[.int .i64 a1, .slice L1 nL1 cL1, .slice C1 nC1 cC1, .slice R1 nR1 cR1] 26) = u1 := ⟨_, rfl⟩
                    obtain ⟨p1, hg1⟩ : ∃ g, v1.heap.size = g := ⟨_, rfl⟩
                    rw [hu1, hg1] at hr
                    rw [hu1] at bb
                    have HU1 := Lib.hid (And.intro hu1 hg1)
                    have hbu := (B10.out.trans (hb.mono B10.out.size)).trans (bb.mono (B10.out.trans (hb.mono B10.out.size)).size)
                    have BU1 := Lib.hid hbu
                    have HZ1 := Lib.hid (fun (wz : World) (hz : Below u1.heap.size u1 wz) => (⟨hr.below hz hr.lt, (hI.below bb).below hz⟩ : RowAt wz p1 (.int .i64 a1) (.slice L1 nL1 cL1) (.slice C1 nC1 cC1) (.slice R1 nR1 cR1) ∧ RowIs wz D1))
                    have HC1 := Lib.hid (hb.trans (bb.mono hb.size))
                    have HQ1 := Lib.hid (And.intro hval (And.intro hG hY))
                    clear hI hG hY hb hval hr bb hu1 hg1 hbu HS1 r0 r1 r2 x0 x1 x2 x3
                    go_upto_region 18 with fail
                    rw [HU1.out.1, HU1.out.2]
                    obtain ⟨r0, r1, r2, _⟩ := (HY.out u1 BU1.out).2.1.facts
                    obtain ⟨x0, x1, x2, x3, _⟩ := (HZ1.out u1 (Below.refl _ _)).1.facts
                    have HS2 := Lib.hid (by
                      have h := rowStep_go u1 E (HY.out u1 BU1.out).1.1.1 k ρ (some ⟨gt, 0, none⟩) S S u HL.out.1 (HY.out u1 BU1.out).2.2 D1 (HZ1.out u1 (Below.refl _ _)).2 (-4000 - 3) 4096 (1000 + 6) HQ1.out.2.1 (by decide) (by decide) (by decide)
                      rw [HQ1.out.1] at h
                      exact h : Calls Tryz.prog 9 #[.agg #[.int .i64 (k : Int), .int .i64 (ρ : Int), .slice (some ⟨gt, 0, none⟩) S S], .agg #[.int .i64 a1, .slice L1 nL1 cL1, .slice C1 nC1 cC1, .slice R1 nR1 cR1]] u1 fun e w' => ∃ D' : RowD, e = .returned (.tuple #[D'.val, .nilIface]) ∧ RowIs w' D' ∧ RowGo k D' (-4000 - 3 - 3) 4096 ((1000 + 6) + 6) ∧ D'.sym = stepZ k ρ u D1.sym ∧ Below u1.heap.size u1 w')
                    go_wp2_with fail
                    refine (HS2.out).mono ?_
                    rintro e v2 ⟨D2, rfl, hI, hG, hY, hb⟩
                    obtain ⟨a2, L2, nL2, cL2, C2, nC2, cC2, R2, nR2, cR2, hval⟩ : ∃ a L nL cL C nC cC R nR cR, D2.val = .agg #[.int .i64 a, .slice L nL cL, .slice C nC cC, .slice R nR cR] := ⟨_, _, _, _, _, _, _, _, _, _, rfl⟩
                    rw [hval]
                    have hr := RowAt.new v2 (.int .i64 a2) (.slice L2 nL2 cL2) (.slice C2 nC2 cC2) (.slice R2 nR2 cR2)
                    have bb := (Below.refl v2.heap.size v2).alloc (Nat.le_refl _) (.cells #[.int .i64 a2, .slice L2 nL2 cL2, .slice C2 nC2 cC2, .slice R2 nR2 cR2] 26)
                    obtain ⟨u2, hu2⟩ : ∃ u2, v2.alloc (.cells #[.int .i64 a2, .slice L2 nL2 cL2, .slice C2 nC2 cC2, .slice R2 nR2 cR2] 26) = u2 := ⟨_, rfl⟩
                    obtain ⟨p2, hg2⟩ : ∃ g, v2.heap.size = g := ⟨_, rfl⟩
                    rw [hu2, hg2] at hr
                    rw [hu2] at bb
                    have HU2 := Lib.hid (And.intro hu2 hg2)
                    have hbu := (BU1.out.trans (hb.mono BU1.out.size)).trans (bb.mono (BU1.out.trans (hb.mono BU1.out.size)).size)
                    have BU2 := Lib.hid hbu
                    have HZ2 := Lib.hid (fun (wz : World) (hz : Below u2.heap.size u2 wz) => (⟨hr.below hz hr.lt, (hI.below bb).below hz⟩ : RowAt wz p2 (.int .i64 a2) (.slice L2 nL2 cL2) (.slice C2 nC2 cC2) (.slice R2 nR2 cR2) ∧ RowIs wz D2))
                    have HC2 := Lib.hid (hb.trans (bb.mono hb.size))
                    have HQ2 := Lib.hid (And.intro hval (And.intro hG hY))
                    clear hI hG hY hb hval hr bb hu2 hg2 hbu HS2 r0 r1 r2 x0 x1 x2 x3
                    go_upto_region 19 with fail
                    rw [HU2.out.1, HU2.out.2]
                    obtain ⟨r0, r1, r2, _⟩ := (HY.out u2 BU2.out).2.1.facts
                    obtain ⟨x0, x1, x2, x3, _⟩ := (HY.out u2 BU2.out).1.2.2.1.facts
                    have HS3 := Lib.hid (by
                      have h := rowStep_go u2 E (HY.out u2 BU2.out).1.1.1 k ρ (some ⟨gt, 0, none⟩) S S u HL.out.1 (HY.out u2 BU2.out).2.2 D0 (HD0.out u2 BU2.out) (-4000) 4096 1000 HGO.out (by decide) (by decide) (by decide)
                      rw [HV0.out] at h
                      exact h : Calls Tryz.prog 9 #[.agg #[.int .i64 (k : Int), .int .i64 (ρ : Int), .slice (some ⟨gt, 0, none⟩) S S], .agg #[.int .i64 at0', .slice AL' nl' cl', .slice AC' nc' cc', .slice AR' nr' cr']] u2 fun e w' => ∃ D' : RowD, e = .returned (.tuple #[D'.val, .nilIface]) ∧ RowIs w' D' ∧ RowGo k D' (-4000 - 3) 4096 (1000 + 6) ∧ D'.sym = stepZ k ρ u D0.sym ∧ Below u2.heap.size u2 w')
                    go_wp2_with fail
                    refine (HS3.out).mono ?_
                    rintro e v3 ⟨D3, rfl, hI, hG, hY, hb⟩
                    obtain ⟨a3, L3, nL3, cL3, C3, nC3, cC3, R3, nR3, cR3, hval⟩ : ∃ a L nL cL C nC cC R nR cR, D3.val = .agg #[.int .i64 a, .slice L nL cL, .slice C nC cC, .slice R nR cR] := ⟨_, _, _, _, _, _, _, _, _, _, rfl⟩
                    rw [hval]
                    have hr := RowAt.new v3 (.int .i64 a3) (.slice L3 nL3 cL3) (.slice C3 nC3 cC3) (.slice R3 nR3 cR3)
                    have bb := (Below.refl v3.heap.size v3).alloc (Nat.le_refl _) (.cells #[.int .i64 a3, .slice L3 nL3 cL3, .slice C3 nC3 cC3, .slice R3 nR3 cR3] 26)
                    obtain ⟨u3, hu3⟩ : ∃ u3, v3.alloc (.cells #[.int .i64 a3, .slice L3 nL3 cL3, .slice C3 nC3 cC3, .slice R3 nR3 cR3] 26) = u3 := ⟨_, rfl⟩
                    obtain ⟨p3, hg3⟩ : ∃ g, v3.heap.size = g := ⟨_, rfl⟩
                    rw [hu3, hg3] at hr
                    rw [hu3] at bb
                    have HU3 := Lib.hid (And.intro hu3 hg3)
                    have hbu := (BU2.out.trans (hb.mono BU2.out.size)).trans (bb.mono (BU2.out.trans (hb.mono BU2.out.size)).size)
                    have BU3 := Lib.hid hbu
                    have HZ3 := Lib.hid (fun (wz : World) (hz : Below u3.heap.size u3 wz) => (⟨hr.below hz hr.lt, (hI.below bb).below hz⟩ : RowAt wz p3 (.int .i64 a3) (.slice L3 nL3 cL3) (.slice C3 nC3 cC3) (.slice R3 nR3 cR3) ∧ RowIs wz D3))
                    have HC3 := Lib.hid (hb.trans (bb.mono hb.size))
                    have HQ3 := Lib.hid (And.intro hval (And.intro hG hY))
                    clear hI hG hY hb hval hr bb hu3 hg3 hbu HS3 r0 r1 r2 x0 x1 x2 x3
                    go_upto_region 20 with fail
                    rw [HU3.out.1, HU3.out.2]
                    obtain ⟨r0, r1, r2, _⟩ := (HY.out u3 BU3.out).1.2.1.facts
                    obtain ⟨x0, x1, x2, x3, _⟩ := (HZ3.out u3 (Below.refl _ _)).1.facts
                    have HS4 := Lib.hid (by
                      have h := rowStep_go u3 E (HY.out u3 BU3.out).1.1.1 k r A n c t HRU.out (HY.out u3 BU3.out).1.2.2.2.1 D3 (HZ3.out u3 (Below.refl _ _)).2 (-4000 - 3) 4096 (1000 + 6) HQ3.out.2.1 (by decide) (by decide) (by decide)
                      rw [HQ3.out.1] at h
                      exact h : Calls Tryz.prog 9 #[.agg #[.int .i64 (k : Int), .int .i64 (r : Int), .slice A n c], .agg #[.int .i64 a3, .slice L3 nL3 cL3, .slice C3 nC3 cC3, .slice R3 nR3 cR3]] u3 fun e w' => ∃ D' : RowD, e = .returned (.tuple #[D'.val, .nilIface]) ∧ RowIs w' D' ∧ RowGo k D' (-4000 - 3 - 3) 4096 ((1000 + 6) + 6) ∧ D'.sym = stepZ k r t D3.sym ∧ Below u3.heap.size u3 w')
                    go_wp2_with fail
                    refine (HS4.out).mono ?_
                    rintro e v4 ⟨D4, rfl, hI, hG, hY, hb⟩
                    obtain ⟨a4, L4, nL4, cL4, C4, nC4, cC4, R4, nR4, cR4, hval⟩ : ∃ a L nL cL C nC cC R nR cR, D4.val = .agg #[.int .i64 a, .slice L nL cL, .slice C nC cC, .slice R nR cR] := ⟨_, _, _, _, _, _, _, _, _, _, rfl⟩
                    rw [hval]
                    have hr := RowAt.new v4 (.int .i64 a4) (.slice L4 nL4 cL4) (.slice C4 nC4 cC4) (.slice R4 nR4 cR4)
                    have bb := (Below.refl v4.heap.size v4).alloc (Nat.le_refl _) (.cells #[.int .i64 a4, .slice L4 nL4 cL4, .slice C4 nC4 cC4, .slice R4 nR4 cR4] 26)
                    obtain ⟨u4, hu4⟩ : ∃ u4, v4.alloc (.cells #[.int .i64 a4, .slice L4 nL4 cL4, .slice C4 nC4 cC4, .slice R4 nR4 cR4] 26) = u4 := ⟨_, rfl⟩
                    obtain ⟨p4, hg4⟩ : ∃ g, v4.heap.size = g := ⟨_, rfl⟩
                    rw [hu4, hg4] at hr
                    rw [hu4] at bb
                    have HU4 := Lib.hid (And.intro hu4 hg4)
                    have hbu := (BU3.out.trans (hb.mono BU3.out.size)).trans (bb.mono (BU3.out.trans (hb.mono BU3.out.size)).size)
                    have BU4 := Lib.hid hbu
                    have HZ4 := Lib.hid (fun (wz : World) (hz : Below u4.heap.size u4 wz) => (⟨hr.below hz hr.lt, (hI.below bb).below hz⟩ : RowAt wz p4 (.int .i64 a4) (.slice L4 nL4 cL4) (.slice C4 nC4 cC4) (.slice R4 nR4 cR4) ∧ RowIs wz D4))
                    have HC4 := Lib.hid (hb.trans (bb.mono hb.size))
                    have HQ4 := Lib.hid (And.intro hval (And.intro hG hY))
                    clear hI hG hY hb hval hr bb hu4 hg4 hbu HS4 r0 r1 r2 x0 x1 x2 x3
                    go_upto_region 21 with fail
                    rw [HU4.out.1, HU4.out.2]
                    obtain ⟨r0, _⟩ := (HY.out u4 BU4.out).1.2.1.facts
                    obtain ⟨q0, q1, q2, q3, _⟩ := (HZ2.out u4 (HC3.out.trans (HC4.out.mono HC3.out.size))).1.facts
                    obtain ⟨x0, x1, x2, x3, _⟩ := (HY.out u4 BU4.out).1.2.2.1.facts
                    have HSA1 := Lib.hid (by
                      have h := rowSame_c u4 E (HY.out u4 BU4.out).1.1.1 k HRU.out.k1 HRU.out.k4 D2 D0 (HZ2.out u4 (HC3.out.trans (HC4.out.mono HC3.out.size))).2 (HD0.out u4 BU4.out) HQ2.out.2.1.sy HGO.out.sy (HQ2.out.2.1.rowB (by decide) (by decide) (by decide)) (HGO.out.rowB (by decide) (by decide) (by decide)) (fun z => by rw [HQ2.out.2.2, HQ1.out.2.2]; exact HL.out.2.1 D0.sym HLT0.out z)
                      rw [HQ2.out.1, HV0.out] at h
                      exact h : Calls Tryz.prog 10 #[.int .i64 (k : Int), .agg #[.int .i64 a2, .slice L2 nL2 cL2, .slice C2 nC2 cC2, .slice R2 nR2 cR2], .agg #[.int .i64 at0', .slice AL' nl' cl', .slice AC' nc' cc', .slice AR' nr' cr']] u4 fun e w' => e = .returned (.tuple #[.bool true, .nilIface]) ∧ Below u4.heap.size u4 w')
                    go_wp2_with fail
                    refine (HSA1.out).mono ?_
                    rintro e w21 ⟨rfl, hb21⟩
                    have B21 := Lib.hid (BU4.out.trans (hb21.mono BU4.out.size))
                    have HCX := Lib.hid hb21
                    clear hb21 r0 q0 q1 q2 q3 x0 x1 x2 x3 HSA1
                    obtain ⟨r0, _⟩ := (HY.out w21 B21.out).1.2.1.facts
                    obtain ⟨q0, q1, q2, q3, _⟩ := (HZ4.out w21 (HCX.out)).1.facts
                    obtain ⟨x0, x1, x2, x3, _⟩ := (HY.out w21 B21.out).1.2.2.1.facts
                    have HSA2 := Lib.hid (by
                      have h := rowSame_c w21 E (HY.out w21 B21.out).1.1.1 k HRU.out.k1 HRU.out.k4 D4 D0 (HZ4.out w21 (HCX.out)).2 (HD0.out w21 B21.out) HQ4.out.2.1.sy HGO.out.sy (HQ4.out.2.1.rowB (by decide) (by decide) (by decide)) (HGO.out.rowB (by decide) (by decide) (by decide)) (fun z => by rw [HQ4.out.2.2, HQ3.out.2.2]; exact HL.out.2.2 D0.sym HLT0.out z)
                      rw [HQ4.out.1, HV0.out] at h
                      exact h : Calls Tryz.prog 10 #[.int .i64 (k : Int), .agg #[.int .i64 a4, .slice L4 nL4 cL4, .slice C4 nC4 cC4, .slice R4 nR4 cR4], .agg #[.int .i64 at0', .slice AL' nl' cl', .slice AC' nc' cc', .slice AR' nr' cr']] w21 fun e w' => e = .returned (.tuple #[.bool true, .nilIface]) ∧ Below w21.heap.size w21 w')
                    go_wp2_with fail
                    refine (HSA2.out).mono ?_
                    rintro e w22 ⟨rfl, hb22⟩
                    have HEND := Lib.hid (B3.out.trans ((B21.out.trans (hb22.mono B21.out.size)).mono B3.out.size))
                    clear hb22 r0 q0 q1 q2 q3 x0 x1 x2 x3 HSA2
                    go_wp2_with fail
                    go_ret
                    exact ⟨rfl, HEND.out⟩
          · obtain ⟨b, rfl⟩ := hv2 hfit
            unfold errV
            clear hv1 hv2 hfit
            go_wp2_with fail
            go_ret
            exact ⟨rfl, HEND.out⟩
        · have HC1 := Lib.hid (ring_no w3 E (HY.out w3 (Below.refl _ _)).1.1.1 k r A B n c m d t V HRU.out (HY.out w3 (Below.refl _ _)).1.2.2.2.1 (HY.out w3 (Below.refl _ _)).1.2.2.2.2.2 hm hok)
          go_upto_region 8 with fail
          rw [HW3.out.1, HW3.out.2]
          go_wp2_with fail
          refine (HC1.out).mono ?_
          rintro e w4 ⟨eb, rfl, hb4⟩
          have B4 := Lib.hid hb4
          clear hb4 r0 r1 r2 s0 s1 s2 HC1
          obtain ⟨s0, s1, s2, _⟩ := (HY.out w4 B4.out).2.1.facts
          have HC2 := Lib.hid (ring_no w4 E (HY.out w4 B4.out).1.1.1 k ρ (some ⟨gt, 0, none⟩) B S S m d u V HL.out.1 (HY.out w4 B4.out).2.2 (HY.out w4 B4.out).1.2.2.2.2.2 hm hok)
          unfold errV at *
          go_wp2_with fail
          refine (HC2.out).mono ?_
          rintro e wq ⟨eb2, rfl, hb5⟩
          have BQ := Lib.hid (B4.out.trans (hb5.mono B4.out.size))
          clear hb5 s0 s1 s2 HC2 B4 hok
          obtain ⟨y0, _⟩ := (HY.out wq BQ.out).1.2.1.facts
          obtain ⟨x0, x1, x2, x3, _⟩ := (HY.out wq BQ.out).1.2.2.1.facts
          have HCK := Lib.hid (by
            have h := rowCheck_c wq E (HY.out wq BQ.out).1.1.1 k HRU.out.k1 HRU.out.k4 ⟨at0, AL, nl, cl, AC, nc, cc, AR, nr, cr, XL, XC, XR⟩ (HY.out wq BQ.out).1.2.2.2.2.1
            unfold RowV.val at h
            exact h : Calls Tryz.prog 8 #[.int .i64 (k : Int), .agg #[.int .i64 at0, .slice AL nl cl, .slice AC nc cc, .slice AR nr cr]] wq fun e w' => (∃ v, e = .returned v ∧ (RowFit k ⟨at0, AL, nl, cl, AC, nc, cc, AR, nr, cr, XL, XC, XR⟩ → v = .nilIface) ∧ (¬ RowFit k ⟨at0, AL, nl, cl, AC, nc, cc, AR, nr, cr, XL, XC, XR⟩ → ∃ b, v = errV b)) ∧ Below wq.heap.size wq w')
          go_wp2_with fail
          refine (HCK.out).mono ?_
          rintro e w10 ⟨⟨v, rfl, hv1, hv2⟩, hb10⟩
          have B10 := Lib.hid (BQ.out.trans (hb10.mono BQ.out.size))
          have HEND := Lib.hid (B3.out.trans (B10.out.mono B3.out.size))
          clear hb10 y0 x0 x1 x2 x3 HCK
          obtain ⟨r0, r1, r2, _⟩ := (HY.out w10 B10.out).1.2.1.facts
          obtain ⟨x0, x1, x2, x3, _⟩ := (HY.out w10 B10.out).1.2.2.1.facts
          by_cases hfit : RowFit k ⟨at0, AL, nl, cl, AC, nc, cc, AR, nr, cr, XL, XC, XR⟩
          · obtain rfl := hv1 hfit
            clear hv1 hv2
            by_cases g1 : at0 < -4000
            · clear hfit
              go_wp2_with fail
              go_ret
              exact ⟨rfl, HEND.out⟩
            · by_cases g2 : 1000 < nc
              · have g2' : (1000 : Int) < (nc : Int) := by omega
                clear hfit
                go_wp2_with fail
                go_ret
                exact ⟨rfl, HEND.out⟩
              · have g2' : ¬ (1000 : Int) < (nc : Int) := by omega
                by_cases g3 : 100 < nl
                · have g3' : (100 : Int) < (nl : Int) := by omega
                  clear hfit
                  go_wp2_with fail
                  go_ret
                  exact ⟨rfl, HEND.out⟩
                · have g3' : ¬ (100 : Int) < (nl : Int) := by omega
                  by_cases g4 : 100 < nr
                  · have g4' : (100 : Int) < (nr : Int) := by omega
                    clear hfit
                    go_wp2_with fail
                    go_ret
                    exact ⟨rfl, HEND.out⟩
                  · have g4' : ¬ (100 : Int) < (nr : Int) := by omega
                    obtain ⟨D0, hD0, hsy⟩ := hfit.row
                    obtain ⟨at0', AL', nl', cl', AC', nc', cc', AR', nr', cr', ll, lc, lr⟩ := D0
                    unfold RowD.toV at hD0
                    simp only [RowV.mk.injEq] at hD0
                    obtain ⟨rfl, rfl, rfl, rfl, rfl, rfl, rfl, rfl, rfl, rfl, rfl, rfl, rfl⟩ := hD0
                    obtain ⟨D0, hD0⟩ : ∃ D0 : RowD, (⟨at0', AL', nl', cl', AC', nc', cc', AR', nr', cr', ll, lc, lr⟩ : RowD) = D0 := ⟨_, rfl⟩
                    have hgo : RowGo k D0 (-4000) 4096 1000 := by rw [← hD0]; exact ⟨hsy, by show (-4000 : Int) ≤ at0'; omega, hfit.a2, hfit.l0, by show nl' ≤ 100; omega, hfit.r0, by show nr' ≤ 100; omega, by show nc' ≤ 1000; omega⟩
                    have HD0 := Lib.hid (fun (wz : World) (hz : Below w3.heap.size w3 wz) => (by
                      have h := (HY.out wz hz).1.2.2.2.2.1
                      rw [← hD0]
                      exact ⟨h.l, h.c, h.r⟩ : RowIs wz D0))
                    have HV0 := Lib.hid (show D0.val = .agg #[.int .i64 at0', .slice AL' nl' cl', .slice AC' nc' cc', .slice AR' nr' cr'] by rw [← hD0]; rfl)
                    have HGO := Lib.hid hgo
                    have HLT0 := Lib.hid (hgo.sy.all (HD0.out w3 (Below.refl _ _)).lens hgo.l0 hgo.r0)
                    clear hD0 hgo hsy hfit HEND
                    have HS1 := Lib.hid (by
                      have h := rowStep_go w10 E (HY.out w10 B10.out).1.1.1 k r A n c t HRU.out (HY.out w10 B10.out).1.2.2.2.1 D0 (HD0.out w10 B10.out) (-4000) 4096 1000 HGO.out (by decide) (by decide) (by decide)
                      rw [HV0.out] at h
                      exact h : Calls Tryz.prog 9 #[.agg #[.int .i64 (k : Int), .int .i64 (r : Int), .slice A n c], .agg #[.int .i64 at0', .slice AL' nl' cl', .slice AC' nc' cc', .slice AR' nr' cr']] w10 fun e w' => ∃ D' : RowD, e = .returned (.tuple #[D'.val, .nilIface]) ∧ RowIs w' D' ∧ RowGo k D' (-4000 - 3) 4096 (1000 + 6) ∧ D'.sym = stepZ k r t D0.sym ∧ Below w10.heap.size w10 w')
                    go_wp2_with fail
                    refine (HS1.out).mono ?_
                    rintro e v1 ⟨D1, rfl, hI, hG, hY, hb⟩
                    obtain ⟨a1, L1, nL1, cL1, C1, nC1, cC1, R1, nR1, cR1, hval⟩ : ∃ a L nL cL C nC cC R nR cR, D1.val = .agg #[.int .i64 a, .slice L nL cL, .slice C nC cC, .slice R nR cR] := ⟨_, _, _, _, _, _, _, _, _, _, rfl⟩
                    rw [hval]
                    have hr := RowAt.new v1 (.int .i64 a1) (.slice L1 nL1 cL1) (.slice C1 nC1 cC1) (.slice R1 nR1 cR1)
                    have bb := (Below.refl v1.heap.size v1).alloc (Nat.le_refl _) (.cells #[.int .i64 a1, .slice L1 nL1 cL1, .slice C1 nC1 cC1, .slice R1 nR1 cR1] 26)
                    obtain ⟨u1, hu1⟩ : ∃ u1, v1.alloc (.cells #[.int .i64 a1, .slice L1 nL1 cL1, .slice C1 nC1 cC1, .slice R1 nR1 cR1] 26) = u1 := ⟨_, rfl⟩
                    obtain ⟨p1, hg1⟩ : ∃ g, v1.heap.size = g := ⟨_, rfl⟩
                    rw [hu1, hg1] at hr
                    rw [hu1] at bb
                    have HU1 := Lib.hid (And.intro hu1 hg1)
                    have hbu := (B10.out.trans (hb.mono B10.out.size)).trans (bb.mono (B10.out.trans (hb.mono B10.out.size)).size)
                    have BU1 := Lib.hid hbu
                    have HZ1 := Lib.hid (fun (wz : World) (hz : Below u1.heap.size u1 wz) => (⟨hr.below hz hr.lt, (hI.below bb).below hz⟩ : RowAt wz p1 (.int .i64 a1) (.slice L1 nL1 cL1) (.slice C1 nC1 cC1) (.slice R1 nR1 cR1) ∧ RowIs wz D1))
                    have HC1 := Lib.hid (hb.trans (bb.mono hb.size))
                    have HQ1 := Lib.hid (And.intro hval (And.intro hG hY))
                    clear hI hG hY hb hval hr bb hu1 hg1 hbu HS1 r0 r1 r2 x0 x1 x2 x3
                    go_upto_region 18 with fail
                    rw [HU1.out.1, HU1.out.2]
                    obtain ⟨r0, r1, r2, _⟩ := (HY.out u1 BU1.out).2.1.facts
                    obtain ⟨x0, x1, x2, x3, _⟩ := (HZ1.out u1 (Below.refl _ _)).1.facts
                    have HS2 := Lib.hid (by
                      have h := rowStep_go u1 E (HY.out u1 BU1.out).1.1.1 k ρ (some ⟨gt, 0, none⟩) S S u HL.out.1 (HY.out u1 BU1.out).2.2 D1 (HZ1.out u1 (Below.refl _ _)).2 (-4000 - 3) 4096 (1000 + 6) HQ1.out.2.1 (by decide) (by decide) (by decide)
                      rw [HQ1.out.1] at h
                      exact h : Calls Tryz.prog 9 #[.agg #[.int .i64 (k : Int), .int .i64 (ρ : Int), .slice (some ⟨gt, 0, none⟩) S S], .agg #[.int .i64 a1, .slice L1 nL1 cL1, .slice C1 nC1 cC1, .slice R1 nR1 cR1]] u1 fun e w' => ∃ D' : RowD, e = .returned (.tuple #[D'.val, .nilIface]) ∧ RowIs w' D' ∧ RowGo k D' (-4000 - 3 - 3) 4096 ((1000 + 6) + 6) ∧ D'.sym = stepZ k ρ u D1.sym ∧ Below u1.heap.size u1 w')
                    go_wp2_with fail
                    refine (HS2.out).mono ?_
                    rintro e v2 ⟨D2, rfl, hI, hG, hY, hb⟩
                    obtain ⟨a2, L2, nL2, cL2, C2, nC2, cC2, R2, nR2, cR2, hval⟩ : ∃ a L nL cL C nC cC R nR cR, D2.val = .agg #[.int .i64 a, .slice L nL cL, .slice C nC cC, .slice R nR cR] := ⟨_, _, _, _, _, _, _, _, _, _, rfl⟩
                    rw [hval]
                    have hr := RowAt.new v2 (.int .i64 a2) (.slice L2 nL2 cL2) (.slice C2 nC2 cC2) (.slice R2 nR2 cR2)
                    have bb := (Below.refl v2.heap.size v2).alloc (Nat.le_refl _) (.cells #[.int .i64 a2, .slice L2 nL2 cL2, .slice C2 nC2 cC2, .slice R2 nR2 cR2] 26)
                    obtain ⟨u2, hu2⟩ : ∃ u2, v2.alloc (.cells #[.int .i64 a2, .slice L2 nL2 cL2, .slice C2 nC2 cC2, .slice R2 nR2 cR2] 26) = u2 := ⟨_, rfl⟩
                    obtain ⟨p2, hg2⟩ : ∃ g, v2.heap.size = g := ⟨_, rfl⟩
                    rw [hu2, hg2] at hr
                    rw [hu2] at bb
                    have HU2 := Lib.hid (And.intro hu2 hg2)
                    have hbu := (BU1.out.trans (hb.mono BU1.out.size)).trans (bb.mono (BU1.out.trans (hb.mono BU1.out.size)).size)
                    have BU2 := Lib.hid hbu
                    have HZ2 := Lib.hid (fun (wz : World) (hz : Below u2.heap.size u2 wz) => (⟨hr.below hz hr.lt, (hI.below bb).below hz⟩ : RowAt wz p2 (.int .i64 a2) (.slice L2 nL2 cL2) (.slice C2 nC2 cC2) (.slice R2 nR2 cR2) ∧ RowIs wz D2))
                    have HC2 := Lib.hid (hb.trans (bb.mono hb.size))
                    have HQ2 := Lib.hid (And.intro hval (And.intro hG hY))
                    clear hI hG hY hb hval hr bb hu2 hg2 hbu HS2 r0 r1 r2 x0 x1 x2 x3
                    go_upto_region 19 with fail
                    rw [HU2.out.1, HU2.out.2]
                    obtain ⟨r0, r1, r2, _⟩ := (HY.out u2 BU2.out).2.1.facts
                    obtain ⟨x0, x1, x2, x3, _⟩ := (HY.out u2 BU2.out).1.2.2.1.facts
                    have HS3 := Lib.hid (by
                      have h := rowStep_go u2 E (HY.out u2 BU2.out).1.1.1 k ρ (some ⟨gt, 0, none⟩) S S u HL.out.1 (HY.out u2 BU2.out).2.2 D0 (HD0.out u2 BU2.out) (-4000) 4096 1000 HGO.out (by decide) (by decide) (by decide)
                      rw [HV0.out] at h
                      exact h : Calls Tryz.prog 9 #[.agg #[.int .i64 (k : Int), .int .i64 (ρ : Int), .slice (some ⟨gt, 0, none⟩) S S], .agg #[.int .i64 at0', .slice AL' nl' cl', .slice AC' nc' cc', .slice AR' nr' cr']] u2 fun e w' => ∃ D' : RowD, e = .returned (.tuple #[D'.val, .nilIface]) ∧ RowIs w' D' ∧ RowGo k D' (-4000 - 3) 4096 (1000 + 6) ∧ D'.sym = stepZ k ρ u D0.sym ∧ Below u2.heap.size u2 w')
                    go_wp2_with fail
                    refine (HS3.out).mono ?_
                    rintro e v3 ⟨D3, rfl, hI, hG, hY, hb⟩
                    obtain ⟨a3, L3, nL3, cL3, C3, nC3, cC3, R3, nR3, cR3, hval⟩ : ∃ a L nL cL C nC cC R nR cR, D3.val = .agg #[.int .i64 a, .slice L nL cL, .slice C nC cC, .slice R nR cR] := ⟨_, _, _, _, _, _, _, _, _, _, rfl⟩
                    rw [hval]
                    have hr := RowAt.new v3 (.int .i64 a3) (.slice L3 nL3 cL3) (.slice C3 nC3 cC3) (.slice R3 nR3 cR3)
                    have bb := (Below.refl v3.heap.size v3).alloc (Nat.le_refl _) (.cells #[.int .i64 a3, .slice L3 nL3 cL3, .slice C3 nC3 cC3, .slice R3 nR3 cR3] 26)
                    obtain ⟨u3, hu3⟩ : ∃ u3, v3.alloc (.cells #[.int .i64 a3, .slice L3 nL3 cL3, .slice C3 nC3 cC3, .slice R3 nR3 cR3] 26) = u3 := ⟨_, rfl⟩
                    obtain ⟨p3, hg3⟩ : ∃ g, v3.heap.size = g := ⟨_, rfl⟩
                    rw [hu3, hg3] at hr
                    rw [hu3] at bb
                    have HU3 := Lib.hid (And.intro hu3 hg3)
                    have hbu := (BU2.out.trans (hb.mono BU2.out.size)).trans (bb.mono (BU2.out.trans (hb.mono BU2.out.size)).size)
                    have BU3 := Lib.hid hbu
                    have HZ3 := Lib.hid (fun (wz : World) (hz : Below u3.heap.size u3 wz) => (⟨hr.below hz hr.lt, (hI.below bb).below hz⟩ : RowAt wz p3 (.int .i64 a3) (.slice L3 nL3 cL3) (.slice C3 nC3 cC3) (.slice R3 nR3 cR3) ∧ RowIs wz D3))
                    have HC3 := Lib.hid (hb.trans (bb.mono hb.size))
                    have HQ3 := Lib.hid (And.intro hval (And.intro hG hY))
                    clear hI hG hY hb hval hr bb hu3 hg3 hbu HS3 r0 r1 r2 x0 x1 x2 x3
                    go_upto_region 20 with fail
                    rw [HU3.out.1, HU3.out.2]
                    obtain ⟨r0, r1, r2, _⟩ := (HY.out u3 BU3.out).1.2.1.facts
                    obtain ⟨x0, x1, x2, x3, _⟩ := (HZ3.out u3 (Below.refl _ _)).1.facts
                    have HS4 := Lib.hid (by
                      have h := rowStep_go u3 E (HY.out u3 BU3.out).1.1.1 k r A n c t HRU.out (HY.out u3 BU3.out).1.2.2.2.1 D3 (HZ3.out u3 (Below.refl _ _)).2 (-4000 - 3) 4096 (1000 + 6) HQ3.out.2.1 (by decide) (by decide) (by decide)
                      rw [HQ3.out.1] at h
                      exact h : Calls Tryz.prog 9 #[.agg #[.int .i64 (k : Int), .int .i64 (r : Int), .slice A n c], .agg #[.int .i64 a3, .slice L3 nL3 cL3, .slice C3 nC3 cC3, .slice R3 nR3 cR3]] u3 fun e w' => ∃ D' : RowD, e = .returned (.tuple #[D'.val, .nilIface]) ∧ RowIs w' D' ∧ RowGo k D' (-4000 - 3 - 3) 4096 ((1000 + 6) + 6) ∧ D'.sym = stepZ k r t D3.sym ∧ Below u3.heap.size u3 w')
                    go_wp2_with fail
                    refine (HS4.out).mono ?_
                    rintro e v4 ⟨D4, rfl, hI, hG, hY, hb⟩
                    obtain ⟨a4, L4, nL4, cL4, C4, nC4, cC4, R4, nR4, cR4, hval⟩ : ∃ a L nL cL C nC cC R nR cR, D4.val = .agg #[.int .i64 a, .slice L nL cL, .slice C nC cC, .slice R nR cR] := ⟨_, _, _, _, _, _, _, _, _, _, rfl⟩
                    rw [hval]
                    have hr := RowAt.new v4 (.int .i64 a4) (.slice L4 nL4 cL4) (.slice C4 nC4 cC4) (.slice R4 nR4 cR4)
                    have bb := (Below.refl v4.heap.size v4).alloc (Nat.le_refl _) (.cells #[.int .i64 a4, .slice L4 nL4 cL4, .slice C4 nC4 cC4, .slice R4 nR4 cR4] 26)
                    obtain ⟨u4, hu4⟩ : ∃ u4, v4.alloc (.cells #[.int .i64 a4, .slice L4 nL4 cL4, .slice C4 nC4 cC4, .slice R4 nR4 cR4] 26) = u4 := ⟨_, rfl⟩
                    obtain ⟨p4, hg4⟩ : ∃ g, v4.heap.size = g := ⟨_, rfl⟩
                    rw [hu4, hg4] at hr
                    rw [hu4] at bb
                    have HU4 := Lib.hid (And.intro hu4 hg4)
                    have hbu := (BU3.out.trans (hb.mono BU3.out.size)).trans (bb.mono (BU3.out.trans (hb.mono BU3.out.size)).size)
                    have BU4 := Lib.hid hbu
                    have HZ4 := Lib.hid (fun (wz : World) (hz : Below u4.heap.size u4 wz) => (⟨hr.below hz hr.lt, (hI.below bb).below hz⟩ : RowAt wz p4 (.int .i64 a4) (.slice L4 nL4 cL4) (.slice C4 nC4 cC4) (.slice R4 nR4 cR4) ∧ RowIs wz D4))
                    have HC4 := Lib.hid (hb.trans (bb.mono hb.size))
                    have HQ4 := Lib.hid (And.intro hval (And.intro hG hY))
                    clear hI hG hY hb hval hr bb hu4 hg4 hbu HS4 r0 r1 r2 x0 x1 x2 x3
                    go_upto_region 21 with fail
                    rw [HU4.out.1, HU4.out.2]
                    obtain ⟨r0, _⟩ := (HY.out u4 BU4.out).1.2.1.facts
                    obtain ⟨q0, q1, q2, q3, _⟩ := (HZ2.out u4 (HC3.out.trans (HC4.out.mono HC3.out.size))).1.facts
                    obtain ⟨x0, x1, x2, x3, _⟩ := (HY.out u4 BU4.out).1.2.2.1.facts
                    have HSA1 := Lib.hid (by
                      have h := rowSame_c u4 E (HY.out u4 BU4.out).1.1.1 k HRU.out.k1 HRU.out.k4 D2 D0 (HZ2.out u4 (HC3.out.trans (HC4.out.mono HC3.out.size))).2 (HD0.out u4 BU4.out) HQ2.out.2.1.sy HGO.out.sy (HQ2.out.2.1.rowB (by decide) (by decide) (by decide)) (HGO.out.rowB (by decide) (by decide) (by decide)) (fun z => by rw [HQ2.out.2.2, HQ1.out.2.2]; exact HL.out.2.1 D0.sym HLT0.out z)
                      rw [HQ2.out.1, HV0.out] at h
                      exact h : Calls Tryz.prog 10 #[.int .i64 (k : Int), .agg #[.int .i64 a2, .slice L2 nL2 cL2, .slice C2 nC2 cC2, .slice R2 nR2 cR2], .agg #[.int .i64 at0', .slice AL' nl' cl', .slice AC' nc' cc', .slice AR' nr' cr']] u4 fun e w' => e = .returned (.tuple #[.bool true, .nilIface]) ∧ Below u4.heap.size u4 w')
                    go_wp2_with fail
                    refine (HSA1.out).mono ?_
                    rintro e w21 ⟨rfl, hb21⟩
                    have B21 := Lib.hid (BU4.out.trans (hb21.mono BU4.out.size))
                    have HCX := Lib.hid hb21
                    clear hb21 r0 q0 q1 q2 q3 x0 x1 x2 x3 HSA1
                    obtain ⟨r0, _⟩ := (HY.out w21 B21.out).1.2.1.facts
                    obtain ⟨q0, q1, q2, q3, _⟩ := (HZ4.out w21 (HCX.out)).1.facts
                    obtain ⟨x0, x1, x2, x3, _⟩ := (HY.out w21 B21.out).1.2.2.1.facts
                    have HSA2 := Lib.hid (by
                      have h := rowSame_c w21 E (HY.out w21 B21.out).1.1.1 k HRU.out.k1 HRU.out.k4 D4 D0 (HZ4.out w21 (HCX.out)).2 (HD0.out w21 B21.out) HQ4.out.2.1.sy HGO.out.sy (HQ4.out.2.1.rowB (by decide) (by decide) (by decide)) (HGO.out.rowB (by decide) (by decide) (by decide)) (fun z => by rw [HQ4.out.2.2, HQ3.out.2.2]; exact HL.out.2.2 D0.sym HLT0.out z)
                      rw [HQ4.out.1, HV0.out] at h
                      exact h : Calls Tryz.prog 10 #[.int .i64 (k : Int), .agg #[.int .i64 a4, .slice L4 nL4 cL4, .slice C4 nC4 cC4, .slice R4 nR4 cR4], .agg #[.int .i64 at0', .slice AL' nl' cl', .slice AC' nc' cc', .slice AR' nr' cr']] w21 fun e w' => e = .returned (.tuple #[.bool true, .nilIface]) ∧ Below w21.heap.size w21 w')
                    go_wp2_with fail
                    refine (HSA2.out).mono ?_
                    rintro e w22 ⟨rfl, hb22⟩
                    have HEND := Lib.hid (B3.out.trans ((B21.out.trans (hb22.mono B21.out.size)).mono B3.out.size))
                    clear hb22 r0 q0 q1 q2 q3 x0 x1 x2 x3 HSA2
                    go_wp2_with fail
                    go_ret
                    exact ⟨rfl, HEND.out⟩
          · obtain ⟨b, rfl⟩ := hv2 hfit
            unfold errV
            clear hv1 hv2 hfit
            go_wp2_with fail
            go_ret
            exact ⟨rfl, HEND.out⟩
      · obtain ⟨u, p, rfl⟩ := hv.iface
        have B2 := Lib.hid ((B0.out.trans ((B1.out.trans (b2.mono B1.out.size)).mono B0.out.size)).alloc (B0.out.trans ((B1.out.trans (b2.mono B1.out.size)).mono B0.out.size)).size (.cells #[.int .i64 0, .int .i64 0, .slice none 0 0] 24))
        unfold ruleV
        clear b2 hv hfp HFF
        go_wp2_with fail
        go_ret
        exact ⟨rfl, B2.out⟩
end Go.Proofs.YtedmmmlahpmmoaaGreatDoor
