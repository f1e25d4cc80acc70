/- The call of ImageSames: it returns true. Condition: the tables read from memory; the error variables hold what E says. -/
import Derived.Test.YthilnpfpllplaaaGreatDoorS27
import Derived.Test.YthilnpfpllplaaaGreatDoorS31
import Derived.Test.YthilnpfpllplaaaGreatDoorS34
import Derived.Test.YthilnpfpllplaaaGreatDoorS38
import Derived.Test.YthilnpfpllplaaaGreatDoorS39
namespace Go.Proofs.YthilnpfpllplaaaGreatDoor
open Go.RowKit RuleP SubP NatP

set_option maxRecDepth 100000 in
set_option maxHeartbeats 4000000 in
theorem imageSames_c (w : World) (E : Nat → Addr) (hE : Errs w E) (hT : ErrT w) (hAp : Apart12 E) (hB : ErrBlk w E) (K R : Int) (A : Option Addr) (n c : Nat) (T : List Int) (hS : Sl w A n (T.map (Value.int .i64))) (hn : n ≤ c) (hz : c * 8 ≤ 140737488351232)
    (K2 R2 : Int) (B : Option Addr) (m d : Nat) (T2 : List Int) (hS2 : Sl w B m (T2.map (Value.int .i64))) (hmd : m ≤ d) (hz2 : d * 8 ≤ 140737488351232) (N : Int) :
    Calls Tryz.prog 7 #[ruleV K R A n c, ruleV K2 R2 B m d, .int .i64 N] w fun e w' => e = .returned (.bool true) ∧ Below w.heap.size w w' := by
  have HER := Lib.hid (fun (wz : World) (hz : Below w.heap.size w wz) => (⟨hE.below hz, hT.below hz, hB.below hz⟩ : _ ∧ _ ∧ _))
  have HTA := Lib.hid (fun (wz : World) (hz : Below w.heap.size w wz) => hS.below hz)
  have HTB := Lib.hid (fun (wz : World) (hz : Below w.heap.size w wz) => hS2.below hz)
  clear hE hT hB hS hS2
  have hb0 := ((Below.refl w.heap.size w).alloc (Nat.le_refl _) (.cells #[.int .i64 K, .int .i64 R, .slice A n c] 24)).alloc (by simp) (.cells #[.int .i64 K2, .int .i64 R2, .slice B m d] 24)
  have hr0 := (RuleAt.new w (.int .i64 K) (.int .i64 R) (.slice A n c)).alloc (.cells #[.int .i64 K2, .int .i64 R2, .slice B m d] 24)
  have hq0 := RuleAt.new (w.alloc (.cells #[.int .i64 K, .int .i64 R, .slice A n c] 24)) (.int .i64 K2) (.int .i64 R2) (.slice B m d)
  rw [World.size_alloc] at hq0
  obtain ⟨w0, hw0⟩ : ∃ w0, (w.alloc (.cells #[.int .i64 K, .int .i64 R, .slice A n c] 24)).alloc (.cells #[.int .i64 K2, .int .i64 R2, .slice B m d] 24) = w0 := ⟨_, rfl⟩
  rw [hw0] at hb0 hr0 hq0
  have HAW := Lib.hid (awake11_c w0 E (HER.out _ hb0).1 (HER.out _ hb0).2.1 hAp (HER.out _ hb0).2.2)
  have HW0 := Lib.hid hw0
  have HB0 := Lib.hid hb0
  obtain ⟨q, hq40, hmq, hm0, hm79⟩ := mod40 N
  have hwr : IntKind.i64.wrap (N.tmod 40 + 40) = N.tmod 40 + 40 := IntWalk.i64_in _ (by omega)
  clear hw0 hb0
  unfold ruleV
  go_enter Tryz.func7, Tryz.ntmps7
  go_wp2_with fail
  rw [HW0.out]
  refine (HAW.out).mono ?_
  rintro e w1 ⟨rfl, b1⟩
  have hr1 := hr0.below b1 hr0.lt
  have hq1 := hq0.below b1 hq0.lt
  have hb1 := HB0.out.trans (b1.mono HB0.out.size)
  obtain ⟨r0, r1, r2, _⟩ := hr1.facts
  obtain ⟨s0, s1, s2, _⟩ := hq1.facts
  have HTO := Lib.hid (sameF_okT K R T K2 R2 T2)
  obtain ⟨o, ho⟩ : ∃ o, sameF K R T K2 R2 T2 = o := ⟨_, rfl⟩
  obtain ⟨bb, tb⟩ := o
  rw [ho] at HTO
  have hsu := same_u w1 E (HER.out _ hb1).1 (HER.out _ hb1).2.1 hAp (HER.out _ hb1).2.2 K R A n c T (HTA.out _ hb1) (by omega) K2 R2 B m d T2 (HTB.out _ hb1) (by omega)
  have hrs := fun (wz : World) (hz : Below w.heap.size w wz) => refSame_u wz K R A n c T (HTA.out _ hz) (by omega) K2 R2 B m d T2 (HTB.out _ hz) (by omega)
  rw [ho] at hsu hrs
  unfold ruleV at hsu hrs
  have HSU := Lib.hid hsu
  have HRS := Lib.hid hrs
  have HSF := Lib.hid ho
  clear hsu hrs ho HAW b1 hr0 hq0
  go_wp2_with fail
  refine (HSU.out).mono ?_
  rintro e w2 ⟨v2, rfl, he2, b2⟩
  have hb2 := hb1.trans (b2.mono hb1.size)
  have hr2 := hr1.below b2 hr1.lt
  have hq2 := hq1.below b2 hq1.lt
  obtain ⟨r0, r1, r2, _⟩ := hr2.facts
  obtain ⟨s0, s1, s2, _⟩ := hq2.facts
  have r3 := hr2.lt
  have s3 := hq2.lt
  clear HSU hr1 hq1 hb1
  go_wp2_with fail
  refine (HRS.out w2 hb2).mono ?_
  rintro e w3 ⟨N3, A3, n3, k3, D3, m3, d3, rfl, hu3, b3⟩
  have hf4 := WantAt.new w3 (.int .i64 (N3 : Int)) (.slice A3 n3 k3) (.slice D3 m3 d3)
  have b4 := (Below.refl w3.heap.size w3).alloc (Nat.le_refl _) (.cells #[.int .i64 (N3 : Int), .slice A3 n3 k3, .slice D3 m3 d3] 34)
  obtain ⟨w4, hw4⟩ : ∃ w4, w3.alloc (.cells #[.int .i64 (N3 : Int), .slice A3 n3 k3, .slice D3 m3 d3] 34) = w4 := ⟨_, rfl⟩
  rw [hw4] at hf4 b4
  have HW4 := Lib.hid hw4
  have z24 := pure_trans b3 b4
  have hb4 := hb2.trans (z24.mono hb2.size)
  have HB4 := Lib.hid hb4
  have hr4 := hr2.below z24 hr2.lt
  have hq4 := hq2.below z24 hq2.lt
  have HRA := Lib.hid (fun (wz : World) (hz : Below w4.heap.size w4 wz) => (hr4.below hz hr4.lt).facts)
  have HRB := Lib.hid (fun (wz : World) (hz : Below w4.heap.size w4 wz) => (hq4.below hz hq4.lt).facts)
  have HZ4 := Lib.hid (⟨hr4.lt, hq4.lt⟩ : _ ∧ _)
  have HIS := Lib.hid (rawIs_c w4 E (HER.out _ hb4).1 (HER.out _ hb4).2.1 tb HTO.out v2 _ (he2.below z24) (hu3.want.below b4))
  obtain ⟨f0, f1, f2, _⟩ := hf4.facts
  have hbn : (bb != bb) = false := by cases bb <;> rfl
  clear hw4 r0 r1 r2 r3 s0 s1 s2 s3 hr2 hq2 b2 hb2 hu3 b3 b4 z24 hb4 hf4 HRS hr4 hq4
  go_wp2_with fail
  rw [HW4.out]
  refine (HIS.out).mono ?_
  rintro e w5 ⟨rfl, b5⟩
  cases tb with
  | some tl =>
    have hv2 : ErrIs w2 E tl.1 tl.2 v2 := he2
    obtain ⟨u, p, rfl⟩ := hv2.iface
    have HBE := Lib.hid (HB4.out.trans (b5.mono HB4.out.size))
    clear hv2 he2 b5
    go_wp2_with fail
    go_ret
    exact ⟨rfl, HBE.out⟩
  | none =>
    have hv2 : v2 = .nilIface := he2
    clear he2
    subst hv2
    obtain ⟨k, r, t, S, rfl, rfl, rfl, hr, hl, hfin⟩ := sameF_rule HSF.out
    have HFI := Lib.hid (⟨hr, hl, hfin⟩ : _ ∧ _ ∧ _)
    have HRN := Lib.hid (narrow_rule hr)
    have hSN := same_narrow hr hl hfin
    have hSS := fun (q' : Nat) (hq' : (narrow k r t).1 + 1 = q') (h3 : q' ≤ 3) (b : Bool) => same_shift hr hl hfin hq' h3 (b := b)
    have hk1 := hr.k1
    have hk4 := hr.k4
    have hb5 := HB4.out.trans (b5.mono HB4.out.size)
    have hnw := narrow_good w5 E (HER.out _ hb5).1 k r A n c t hr (HTA.out _ hb5)
    obtain ⟨ρ, hρ⟩ : ∃ ρ, (narrow k r t).1 = ρ := ⟨_, rfl⟩
    obtain ⟨u, hu⟩ : ∃ u, (narrow k r t).2 = u := ⟨_, rfl⟩
    rw [hρ, hu] at hSN hnw HRN
    rw [hρ, hu] at hSS
    unfold RuleRes ruleV at hnw
    have HNW := Lib.hid hnw
    have HSN := Lib.hid hSN
    have HSS := Lib.hid hSS
    obtain ⟨r0, r1, r2, _⟩ := HRA.out w5 b5
    have r3 := Nat.lt_of_lt_of_le HZ4.out.1 b5.size
    clear hnw hSN hSS hρ hu hr hl hfin hb5 HIS f0 f1 f2
    go_wp2_with fail
    refine (HNW.out).mono ?_
    rintro e w6 ⟨C6, N6, c6, v6, rfl, ho6, he6, b6⟩
    have he6' : v6 = .nilIface := he6
    clear he6
    subst he6'
    have hm7 := RuleAt.new w6 (.int .i64 (k : Int)) (.int .i64 (ρ : Int)) (.slice C6 N6 c6)
    have b7 := (Below.refl w6.heap.size w6).alloc (Nat.le_refl _) (.cells #[.int .i64 (k : Int), .int .i64 (ρ : Int), .slice C6 N6 c6] 24)
    obtain ⟨w7, hw7⟩ : ∃ w7, w6.alloc (.cells #[.int .i64 (k : Int), .int .i64 (ρ : Int), .slice C6 N6 c6] 24) = w7 := ⟨_, rfl⟩
    rw [hw7] at hm7 b7
    have HW7 := Lib.hid hw7
    have z6 := pure_trans b5 b6
    have z7 := pure_trans z6 b7
    have hb7 := HB4.out.trans (z7.mono HB4.out.size)
    have hN6 : N6 ≤ maxLen := Nat.le_trans (own_le ho6).1 (own_le ho6).2
    have hN6' : N6 ≤ 9223372036854775807 := by simp only [maxLen] at hN6; omega
    have HC7 := Lib.hid ((Sl.of_own ho6).below b7)
    have hs7 := same_u w7 E (HER.out _ hb7).1 (HER.out _ hb7).2.1 hAp (HER.out _ hb7).2.2 (k : Int) (r : Int) A n c (ints t) (HTA.out _ hb7) (by omega) (k : Int) (ρ : Int) C6 N6 c6 (ints u) HC7.out hN6'
    rw [HSN.out] at hs7
    unfold ruleV at hs7
    have HS7 := Lib.hid hs7
    have HM7 := Lib.hid hm7
    obtain ⟨r0, r1, r2, _⟩ := HRA.out w6 z6
    obtain ⟨t0, t1, t2, _⟩ := hm7.facts
    have r3 := Nat.lt_of_lt_of_le HZ4.out.1 z6.size
    clear hs7 hm7 hw7 HNW b5 b6 b7 z6 ho6 hN6 hb7 HSN
    go_wp2_with fail
    rw [HW7.out]
    refine (HS7.out).mono ?_
    rintro e w8 ⟨v8, rfl, he8, b8⟩
    have he8' : v8 = .nilIface := he8
    clear he8
    subst he8'
    have z8 := pure_trans z7 b8
    have hb8 := HB4.out.trans (z8.mono HB4.out.size)
    have hsh := shift_pos w8 E k 1 hk1 hk4 (by decide)
    rw [show ((1 : Nat) : Int) = 1 from rfl] at hsh
    unfold RuleRes ruleV at hsh
    have HSH := Lib.hid hsh
    obtain ⟨r0, r1, r2, _⟩ := HRA.out w8 z8
    have r3 := Nat.lt_of_lt_of_le HZ4.out.1 z8.size
    clear hsh HS7 t0 t1 t2
    go_wp2_with fail
    refine (HSH.out).mono ?_
    rintro e w9 ⟨C9, N9, c9, v9, rfl, ho9, he9, b9⟩
    have he9' : v9 = .nilIface := he9
    clear he9
    subst he9'
    have hx10 := RuleAt.new w9 (.int .i64 (k : Int)) (.int .i64 1) (.slice C9 N9 c9)
    have b10 := (Below.refl w9.heap.size w9).alloc (Nat.le_refl _) (.cells #[.int .i64 (k : Int), .int .i64 1, .slice C9 N9 c9] 24)
    obtain ⟨w10, hw10⟩ : ∃ w10, w9.alloc (.cells #[.int .i64 (k : Int), .int .i64 1, .slice C9 N9 c9] 24) = w10 := ⟨_, rfl⟩
    rw [hw10] at hx10 b10
    have HW10 := Lib.hid hw10
    have z78 := b8
    have z710 := pure_trans b8 (pure_trans b9 b10)
    have z79 := pure_trans b8 b9
    have z10 := pure_trans z7 z710
    have hb10 := HB4.out.trans (z10.mono HB4.out.size)
    have HX10 := Lib.hid ((Sl.of_own ho9).below b10)
    obtain ⟨t0, t1, t2, _⟩ := (HM7.out.below z79 HM7.out.lt).facts
    have t3 := Nat.lt_of_lt_of_le HM7.out.lt z79.size
    obtain ⟨x0, x1, x2, _⟩ := hx10.facts
    have HM10 := Lib.hid (HC7.out.below z710)
    have HB10 := Lib.hid hb10
    have HZ10 := Lib.hid z10
    clear hw10 hx10 HSH r0 r1 r2 r3 hb8 z8
    by_cases h3 : ρ + 1 ≤ 3
    · obtain ⟨q', hq'⟩ : ∃ q', ρ + 1 = q' := ⟨_, rfl⟩
      have hcp := compose_good w10 E (HER.out _ HB10.out).1 k ρ C6 C9 N6 c6 N9 c9 u HRN.out HM10.out 1 q' (shT k 1 (2 * 1)) (shT_rule hk1 hk4 (by decide) (by decide)) HX10.out hq' (by omega)
      rw [show ((1 : Nat) : Int) = 1 from rfl] at hcp
      unfold RuleRes ruleV at hcp
      have HCP := Lib.hid hcp
      have HQ' := Lib.hid (⟨hq', by omega⟩ : ρ + 1 = q' ∧ q' ≤ 3)
      clear hcp hq' h3 b8 b9 b10 z10 z710 z79 z78 z7
      go_wp2_with fail
      rw [HW10.out]
      refine (HCP.out).mono ?_
      rintro e w11 ⟨C11, N11, c11, v11, rfl, ho11, he11, b11⟩
      have he11' : v11 = .nilIface := he11
      clear he11
      subst he11'
      have hy12 := RuleAt.new w11 (.int .i64 (k : Int)) (.int .i64 (q' : Int)) (.slice C11 N11 c11)
      have b12 := (Below.refl w11.heap.size w11).alloc (Nat.le_refl _) (.cells #[.int .i64 (k : Int), .int .i64 (q' : Int), .slice C11 N11 c11] 24)
      obtain ⟨w12, hw12⟩ : ∃ w12, w11.alloc (.cells #[.int .i64 (k : Int), .int .i64 (q' : Int), .slice C11 N11 c11] 24) = w12 := ⟨_, rfl⟩
      rw [hw12] at hy12 b12
      have HW12 := Lib.hid hw12
      have z11 := pure_trans HZ10.out b11
      have z12 := pure_trans z11 b12
      have hb12 := HB4.out.trans (z12.mono HB4.out.size)
      have hN11 : N11 ≤ 9223372036854775807 := by have h := Nat.le_trans (own_le ho11).1 (own_le ho11).2; simp only [maxLen] at h; omega
      have hs12 := same_u w12 E (HER.out _ hb12).1 (HER.out _ hb12).2.1 hAp (HER.out _ hb12).2.2 (k : Int) (r : Int) A n c (ints t) (HTA.out _ hb12) (by omega) (k : Int) (q' : Int) C11 N11 c11 (ints (comp k ρ u 1 (shT k 1 (2 * 1)))) ((Sl.of_own ho11).below b12) hN11
      obtain ⟨o3, ho3⟩ : ∃ o, sameF (k : Int) (r : Int) (ints t) (k : Int) (q' : Int) (ints (comp k ρ u 1 (shT k 1 (2 * 1)))) = o := ⟨_, rfl⟩
      obtain ⟨b3', t3'⟩ := o3
      rw [ho3] at hs12
      unfold ruleV at hs12
      have HS12 := Lib.hid hs12
      have HO3 := Lib.hid ho3
      obtain ⟨r0, r1, r2, _⟩ := HRA.out w11 z11
      have r3 := Nat.lt_of_lt_of_le HZ4.out.1 z11.size
      obtain ⟨y0, y1, y2, _⟩ := hy12.facts
      clear hs12 ho3 hy12 hw12 HCP ho11 hN11 hb12 b11 b12 z11 x0 x1 x2 t0 t1 t2 t3
      go_wp2_with fail
      rw [HW12.out]
      refine (HS12.out).mono ?_
      rintro e w13 ⟨v13, rfl, he13, b13⟩
      have z13 := pure_trans z12 b13
      clear HS12 y0 y1 y2 r0 r1 r2 r3 z12 b13
      cases t3' with
      | some tl =>
        have hv13 : ErrIs w13 E tl.1 tl.2 v13 := he13
        obtain ⟨u13, p13, rfl⟩ := hv13.iface
        clear hv13 he13
        cases bb with
        | false =>
          have HBE := Lib.hid (HB4.out.trans (z13.mono HB4.out.size))
          go_wp2_with fail
          go_ret
          exact ⟨rfl, HBE.out⟩
        | true =>
          obtain ⟨X, hX1, hX2⟩ := same_words HSF.out (q := q) (by omega)
          have hbc := HB4.out.trans (z13.mono HB4.out.size)
          have hwa := words_u w13 E (HER.out _ hbc).1 (HER.out _ hbc).2.1 hAp (HER.out _ hbc).2.2 (k : Int) (r : Int) A n c (ints t) (HTA.out _ hbc) (by omega) (q : Int)
          rw [hX1] at hwa
          unfold ruleV at hwa
          dsimp only at hwa
          obtain ⟨lx, hlx⟩ : ∃ lx, (limbs X).length = lx := ⟨_, rfl⟩
          rw [hlx] at hwa
          have HLX := Lib.hid hlx
          have HWA := Lib.hid hwa
          have HX2 := Lib.hid hX2
          have HZC := Lib.hid z13
          have r3 := Nat.lt_of_lt_of_le HZ4.out.1 z13.size
          obtain ⟨r0, r1, r2, _⟩ := HRA.out w13 z13
          clear hwa hlx hX1 hX2 hbc
          go_wp2_with fail
          refine (HWA.out).mono ?_
          rintro e u1 ⟨U1, d1, y1, rfl, ou1, eu1, bu1⟩
          have eu1' : y1 = .nilIface := eu1
          clear eu1
          subst eu1'
          have zu1 := pure_trans HZC.out bu1
          have hbu := HB4.out.trans (zu1.mono HB4.out.size)
          have hwb := words_u u1 E (HER.out _ hbu).1 (HER.out _ hbu).2.1 hAp (HER.out _ hbu).2.2 K2 R2 B m d T2 (HTB.out _ hbu) (by omega) (q : Int)
          rw [HX2.out] at hwb
          unfold ruleV at hwb
          dsimp only at hwb
          rw [HLX.out] at hwb
          have HWB := Lib.hid hwb
          have s3 := Nat.lt_of_lt_of_le HZ4.out.2 zu1.size
          obtain ⟨s0, s1, s2, _⟩ := HRB.out u1 zu1
          clear hwb hbu
          go_wp2_with fail
          refine (HWB.out).mono ?_
          rintro e u2 ⟨U2, d2, y2, rfl, ou2, eu2, bu2⟩
          have eu2' : y2 = .nilIface := eu2
          clear eu2
          subst eu2'
          have hnt := nats_b u2 U1 U2 lx lx d1 d2 (limbs X) (limbs X) ((Sl.of_own ou1).below bu2) (Sl.of_own ou2) (Nat.le_trans (own_le ou1).1 (own_le ou1).2)
          rw [decide_eq_true rfl] at hnt
          have HNT := Lib.hid hnt
          have HBE := Lib.hid (HB4.out.trans ((pure_trans zu1 bu2).mono HB4.out.size))
          clear hnt ou1 ou2 bu1 bu2 zu1
          go_wp2_with fail
          refine (HNT.out).mono ?_
          rintro e u3 ⟨rfl, bu3⟩
          go_wp2_with fail
          go_ret
          exact ⟨rfl, HBE.out.trans (bu3.mono HBE.out.size)⟩
      | none =>
        have hv13 : v13 = .nilIface := he13
        clear he13
        subst hv13
        obtain rfl : b3' = true := HSS.out q' HQ'.out.1 HQ'.out.2 b3' HO3.out
        cases bb with
        | false =>
          have HBE := Lib.hid (HB4.out.trans (z13.mono HB4.out.size))
          go_wp2_with fail
          go_ret
          exact ⟨rfl, HBE.out⟩
        | true =>
          obtain ⟨X, hX1, hX2⟩ := same_words HSF.out (q := q) (by omega)
          have hbc := HB4.out.trans (z13.mono HB4.out.size)
          have hwa := words_u w13 E (HER.out _ hbc).1 (HER.out _ hbc).2.1 hAp (HER.out _ hbc).2.2 (k : Int) (r : Int) A n c (ints t) (HTA.out _ hbc) (by omega) (q : Int)
          rw [hX1] at hwa
          unfold ruleV at hwa
          dsimp only at hwa
          obtain ⟨lx, hlx⟩ : ∃ lx, (limbs X).length = lx := ⟨_, rfl⟩
          rw [hlx] at hwa
          have HLX := Lib.hid hlx
          have HWA := Lib.hid hwa
          have HX2 := Lib.hid hX2
          have HZC := Lib.hid z13
          have r3 := Nat.lt_of_lt_of_le HZ4.out.1 z13.size
          obtain ⟨r0, r1, r2, _⟩ := HRA.out w13 z13
          clear hwa hlx hX1 hX2 hbc
          go_wp2_with fail
          refine (HWA.out).mono ?_
          rintro e u1 ⟨U1, d1, y1, rfl, ou1, eu1, bu1⟩
          have eu1' : y1 = .nilIface := eu1
          clear eu1
          subst eu1'
          have zu1 := pure_trans HZC.out bu1
          have hbu := HB4.out.trans (zu1.mono HB4.out.size)
          have hwb := words_u u1 E (HER.out _ hbu).1 (HER.out _ hbu).2.1 hAp (HER.out _ hbu).2.2 K2 R2 B m d T2 (HTB.out _ hbu) (by omega) (q : Int)
          rw [HX2.out] at hwb
          unfold ruleV at hwb
          dsimp only at hwb
          rw [HLX.out] at hwb
          have HWB := Lib.hid hwb
          have s3 := Nat.lt_of_lt_of_le HZ4.out.2 zu1.size
          obtain ⟨s0, s1, s2, _⟩ := HRB.out u1 zu1
          clear hwb hbu
          go_wp2_with fail
          refine (HWB.out).mono ?_
          rintro e u2 ⟨U2, d2, y2, rfl, ou2, eu2, bu2⟩
          have eu2' : y2 = .nilIface := eu2
          clear eu2
          subst eu2'
          have hnt := nats_b u2 U1 U2 lx lx d1 d2 (limbs X) (limbs X) ((Sl.of_own ou1).below bu2) (Sl.of_own ou2) (Nat.le_trans (own_le ou1).1 (own_le ou1).2)
          rw [decide_eq_true rfl] at hnt
          have HNT := Lib.hid hnt
          have HBE := Lib.hid (HB4.out.trans ((pure_trans zu1 bu2).mono HB4.out.size))
          clear hnt ou1 ou2 bu1 bu2 zu1
          go_wp2_with fail
          refine (HNT.out).mono ?_
          rintro e u3 ⟨rfl, bu3⟩
          go_wp2_with fail
          go_ret
          exact ⟨rfl, HBE.out.trans (bu3.mono HBE.out.size)⟩
    · have hcp := compose_big w10 E (HER.out _ HB10.out).1 k ρ C6 C9 N6 c6 N9 c9 u HRN.out HM10.out 1 (shT k 1 (2 * 1)) (shT_rule hk1 hk4 (by decide) (by decide)) HX10.out (by omega)
      rw [show ((1 : Nat) : Int) = 1 from rfl] at hcp
      unfold RuleRes ruleV at hcp
      have HCP := Lib.hid hcp
      clear hcp h3 b8 b9 b10 z10 z710 z79 z78 z7
      go_wp2_with fail
      rw [HW10.out]
      refine (HCP.out).mono ?_
      rintro e w11 ⟨C11, N11, c11, v11, rfl, ho11, he11, b11⟩
      have hv11 : ErrIs w11 E 4 [(sForms, 0)] v11 := he11
      obtain ⟨u11, p11, rfl⟩ := hv11.iface
      have b12 := (Below.refl w11.heap.size w11).alloc (Nat.le_refl _) (.cells #[.int .i64 0, .int .i64 0, .slice C11 N11 c11] 24)
      obtain ⟨w12, hw12⟩ : ∃ w12, w11.alloc (.cells #[.int .i64 0, .int .i64 0, .slice C11 N11 c11] 24) = w12 := ⟨_, rfl⟩
      rw [hw12] at b12
      have HW12 := Lib.hid hw12
      have z11 := pure_trans HZ10.out b11
      have z12 := pure_trans z11 b12
      clear hv11 he11 ho11 hw12 HCP b11 b12 x0 x1 x2 t0 t1 t2 t3
      cases bb with
      | false =>
        have HBE := Lib.hid (HB4.out.trans (z12.mono HB4.out.size))
        go_wp2_with fail
        rw [HW12.out]
        go_ret
        exact ⟨rfl, HBE.out⟩
      | true =>
        obtain ⟨X, hX1, hX2⟩ := same_words HSF.out (q := q) (by omega)
        have hbc := HB4.out.trans (z12.mono HB4.out.size)
        have hwa := words_u w12 E (HER.out _ hbc).1 (HER.out _ hbc).2.1 hAp (HER.out _ hbc).2.2 (k : Int) (r : Int) A n c (ints t) (HTA.out _ hbc) (by omega) (q : Int)
        rw [hX1] at hwa
        unfold ruleV at hwa
        dsimp only at hwa
        obtain ⟨lx, hlx⟩ : ∃ lx, (limbs X).length = lx := ⟨_, rfl⟩
        rw [hlx] at hwa
        have HLX := Lib.hid hlx
        have HWA := Lib.hid hwa
        have HX2 := Lib.hid hX2
        have HZC := Lib.hid z12
        have r3 := Nat.lt_of_lt_of_le HZ4.out.1 z11.size
        obtain ⟨r0, r1, r2, _⟩ := HRA.out w11 z11
        clear hwa hlx hX1 hX2 hbc
        go_wp2_with fail
        rw [HW12.out]
        refine (HWA.out).mono ?_
        rintro e u1 ⟨U1, d1, y1, rfl, ou1, eu1, bu1⟩
        have eu1' : y1 = .nilIface := eu1
        clear eu1
        subst eu1'
        have zu1 := pure_trans HZC.out bu1
        have hbu := HB4.out.trans (zu1.mono HB4.out.size)
        have hwb := words_u u1 E (HER.out _ hbu).1 (HER.out _ hbu).2.1 hAp (HER.out _ hbu).2.2 K2 R2 B m d T2 (HTB.out _ hbu) (by omega) (q : Int)
        rw [HX2.out] at hwb
        unfold ruleV at hwb
        dsimp only at hwb
        rw [HLX.out] at hwb
        have HWB := Lib.hid hwb
        have s3 := Nat.lt_of_lt_of_le HZ4.out.2 zu1.size
        obtain ⟨s0, s1, s2, _⟩ := HRB.out u1 zu1
        clear hwb hbu
        go_wp2_with fail
        refine (HWB.out).mono ?_
        rintro e u2 ⟨U2, d2, y2, rfl, ou2, eu2, bu2⟩
        have eu2' : y2 = .nilIface := eu2
        clear eu2
        subst eu2'
        have hnt := nats_b u2 U1 U2 lx lx d1 d2 (limbs X) (limbs X) ((Sl.of_own ou1).below bu2) (Sl.of_own ou2) (Nat.le_trans (own_le ou1).1 (own_le ou1).2)
        rw [decide_eq_true rfl] at hnt
        have HNT := Lib.hid hnt
        have HBE := Lib.hid (HB4.out.trans ((pure_trans zu1 bu2).mono HB4.out.size))
        clear hnt ou1 ou2 bu1 bu2 zu1
        go_wp2_with fail
        refine (HNT.out).mono ?_
        rintro e u3 ⟨rfl, bu3⟩
        go_wp2_with fail
        go_ret
        exact ⟨rfl, HBE.out.trans (bu3.mono HBE.out.size)⟩
end Go.Proofs.YthilnpfpllplaaaGreatDoor
