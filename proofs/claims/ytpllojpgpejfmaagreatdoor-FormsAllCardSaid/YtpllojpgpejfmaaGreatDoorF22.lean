/- The document's powers: edenref05.Power of a good rule. Condition: the table reads from memory. The document's powers: edenref05.Power of a rule of the radius 0. Condition: the table reads from memory. -/
import Derived.Test.YtpllojpgpejfmaaGreatDoorF12
import Derived.Test.YtpllojpgpejfmaaGreatDoorF17
import Derived.Test.YtpllojpgpejfmaaGreatDoorF21
namespace Go.Proofs.YtpllojpgpejfmaaGreatDoor
open Go.RowKit RuleP
/-- append of one element, the literal's address as the walk has it. -/
theorem wpList_push_r {P : Program} {w : World} {ops : Array Oper} {rest : List Oper} {o : Oper} {a : Act} {Q : Exit → Act → World → Prop} (hg : o.guard = none) (s x : Operand) (t : TypeId)
    (ho : o.op = .call { callee := .builtin .append, args := #[s, x], argTypes := #[t, t] }) {e : TypeId} {z : Value} {bytes : Nat} (hT : ElemT P t e z bytes)
    {base : Nat} {v : Value} {n : Nat} {xs : List Value} (hown : w.ownsRow base e 1 v n xs) (hs : a.eval s = v) (ad : Addr) (c : Nat) (hx : a.eval x = .slice (some ad) 1 c) (u : Value) (hc : w.cell? ad = some u) (hu : u.oneCell' = true)
    (h63 : n + 1 ≤ maxLen) (hbytes : (n + 1) * bytes ≤ 140737488355328) (hbase : base ≤ w.heap.size)
    (h : ∀ g cap w', w'.ownsRow base e 1 (.slice (some ⟨g, 0, none⟩) (n + 1) cap) (n + 1) (xs ++ [u]) → ((v = .slice (some ⟨g, 0, none⟩) n cap ∧ w.grownBy w' (some g)) ∨ (w.heap.size ≤ g ∧ w.grownBy w' none)) → g < w'.heap.size →
      wpList P ops Q rest (a.put o.dst (.slice (some ⟨g, 0, none⟩) (n + 1) cap)) w') : wpList P ops Q (o :: rest) a w := by
  refine wpList_plain hg fun K' hK' => ?_
  obtain ⟨g, cap, w', hr, h2, h3, h4⟩ := run_push3 (P := P) w t o.type hT hown ad c u hc hu h63 hbytes hbase
  unfold Oper.wp execOp
  simp only [ho, resolve, invoke, builtin, Sem.run_bind, Sem.run_pure, Result.andThen_ok, List.map_toArray, List.map_cons, List.map_nil, hs, hx, hr]
  exact hK' _ _ (h g cap w' h2 h3 h4)

set_option maxRecDepth 100000 in
set_option maxHeartbeats 2000000 in
theorem power5_pos (w : World) (k r : Nat) (A : Option Addr) (n c : Nat) (t : List Nat) (hr : IsRule k r t) (hT : Sl w A n ((ints t).map (Value.int .i64))) (q Z : Nat) (hr1 : 0 < r) (hZ : q * r = Z) (hZ3 : Z ≤ 3) :
    Calls Tryz.prog 25 #[ruleV (k : Int) (r : Int) A n c, .int .i64 (q : Int)] w (Rule5E w (k : Int) (Z : Int) (pw k r t q) none) := by
  have hn : t.length = n := by simpa [ints] using hT.1
  have hn16 := hr.le
  rw [hn] at hn16
  have hk1 := hr.k1
  have hk4 := hr.k4
  have hr3 := hr.r3
  have hr0 := ((RuleAt.new w (.int .i64 (k : Int)) (.int .i64 (r : Int)) (.slice A n c)).alloc (.cells #[.int .i64 0, .int .i64 0, .slice none 0 0] 26)).alloc (.cells #[.int .i64 0, .slice none 0 0, .slice none 0 0] 45)
  have hz0 := (RuleAt.new (w.alloc (.cells #[.int .i64 (k : Int), .int .i64 (r : Int), .slice A n c] 26)) (.int .i64 0) (.int .i64 0) (.slice none 0 0)).alloc (.cells #[.int .i64 0, .slice none 0 0, .slice none 0 0] 45)
  have hw0 := WantAt.new ((w.alloc (.cells #[.int .i64 (k : Int), .int .i64 (r : Int), .slice A n c] 26)).alloc (.cells #[.int .i64 0, .int .i64 0, .slice none 0 0] 26)) (.int .i64 0) (.slice none 0 0) (.slice none 0 0)
  rw [World.size_alloc] at hz0
  rw [World.size_alloc, World.size_alloc] at hw0
  have hb0 := (((Below.refl w.heap.size w).alloc (Nat.le_refl _) (.cells #[.int .i64 (k : Int), .int .i64 (r : Int), .slice A n c] 26)).alloc (by simp) (.cells #[.int .i64 0, .int .i64 0, .slice none 0 0] 26)).alloc (by simp; omega) (.cells #[.int .i64 0, .slice none 0 0, .slice none 0 0] 45)
  obtain ⟨wx, hwx⟩ : ∃ wx, ((w.alloc (.cells #[.int .i64 (k : Int), .int .i64 (r : Int), .slice A n c] 26)).alloc (.cells #[.int .i64 0, .int .i64 0, .slice none 0 0] 26)).alloc (.cells #[.int .i64 0, .slice none 0 0, .slice none 0 0] 45) = wx := ⟨_, rfl⟩
  have hsx : wx.heap.size = w.heap.size + 3 := by rw [← hwx]; simp
  have HWX := Lib.hid hwx
  obtain ⟨q0, q1, q2, _⟩ := hr0.facts
  rw [hwx] at hr0 hz0 hw0 hb0
  have hf := fault5_c wx 0 (k : Int) (r : Int) A n c (ints t) (hT.below hb0) (by omega)
  rw [checkF_rule 0 hr] at hf
  have HF := Lib.hid hf
  have HR0 := Lib.hid hr0
  have HZ0 := Lib.hid hz0
  have HW0 := Lib.hid hw0
  have HB0 := Lib.hid hb0
  have HRU := Lib.hid hr
  have HT := Lib.hid (fun (wz : World) (hz : Below w.heap.size w wz) => hT.below hz)
  have HN := Lib.hid hn
  have HZQ := Lib.hid hZ
  have hq0 : ¬ (q : Int) < 0 := by omega
  have HRZ := Lib.hid hr1
  have hrp : (0 : Int) < (r : Int) := by omega
  have hq3 : q ≤ 3 := Nat.le_trans (Nat.le_mul_of_pos_right q hr1) (by rw [hZ]; exact hZ3)
  have hq3' : ¬ 3 < (q : Int) := by omega
  have hrq : IntKind.i64.wrap ((r : Int) * (q : Int)) = (Z : Int) := by
    rw [show (r : Int) * (q : Int) = (Z : Int) by rw [← hZ, Nat.mul_comm]; simp]
    exact IntWalk.i64_in _ (by omega)
  have hZ3' : ¬ 3 < (Z : Int) := by omega
  clear hf hwx hr0 hz0 hw0 hb0 hr hT hn hZ
  unfold ruleV at *
  go_enter Tryz.func25, Tryz.ntmps25
  go_wp2_with fail
  rw [HWX.out]
  clear q0 q1 q2
  refine (HF.out).mono ?_
  rintro e w1 ⟨N, A1, n1, c1, A2, n2, c2, rfl, hu, hb1⟩
  obtain rfl : N = 0 := hu.num
  obtain ⟨rfl, rfl, rfl, rfl, rfl, rfl⟩ : A1 = none ∧ n1 = 0 ∧ c1 = 0 ∧ A2 = none ∧ n2 = 0 ∧ c2 = 0 := by
    have e := hu.none_eq
    simp at e
    obtain ⟨⟨q1, q2, q3⟩, q4, q5, q6⟩ := e
    exact ⟨q1, q2, q3, q4, q5, q6⟩
  have hb2 : Below w1.heap.size w1 (w1.alloc (.cells #[.int .i64 0, .slice none 0 0, .slice none 0 0] 45)) := (Below.refl _ _).alloc (Nat.le_refl _) _
  have hv2 := WantAt.new w1 (.int .i64 0) (.slice none 0 0) (.slice none 0 0)
  obtain ⟨wy, hwy⟩ : ∃ wy, w1.alloc (.cells #[.int .i64 0, .slice none 0 0, .slice none 0 0] 45) = wy := ⟨_, rfl⟩
  have HWY := Lib.hid hwy
  have hlt2 : w1.heap.size < wy.heap.size := by rw [← hwy]; simp
  rw [hwy] at hb2 hv2
  have hs1 := hb1.size
  have hr2 := (HR0.out.below hb1 (by omega)).below hb2 (by omega)
  have hz2 := (HZ0.out.below hb1 (by omega)).below hb2 (by omega)
  have hw2 := (HW0.out.below hb1 (by omega)).below hb2 (by omega)
  have hbx := HB0.out.trans ((hb1.trans (hb2.mono hb1.size)).mono HB0.out.size)
  have HBAD := Lib.hid (badZero5 wy)
  obtain ⟨ge, hge'⟩ : ∃ ge, w1.heap.size = ge := ⟨_, rfl⟩
  rw [hge'] at hv2 hs1 hlt2
  have hge : w.heap.size + 3 ≤ ge := by omega
  obtain ⟨v0, v1, v2, _⟩ := hv2.facts
  have HGE := Lib.hid hge'
  have HR2 := Lib.hid hr2
  have HZ2 := Lib.hid hz2
  have HW2 := Lib.hid hw2
  have HV2 := Lib.hid hv2
  have HB2 := Lib.hid hbx
  clear hu hb1 hb2 hr2 hz2 hw2 hv2 hbx hwy hge' hs1 hsx
  rw [show ((0 : Nat) : Int) = 0 from rfl]
  go_wp2_with fail
  rw [HWY.out, HGE.out]
  refine (HBAD.out).mono ?_
  rintro e w3 ⟨rfl, hb3⟩
  have hge2 : ge < w3.heap.size := Nat.lt_of_lt_of_le hlt2 hb3.size
  have HR3 := Lib.hid (HR2.out.below hb3 (by omega))
  have HZ3 := Lib.hid (HZ2.out.below hb3 (by omega))
  have HW3 := Lib.hid (HW2.out.below hb3 (by omega))
  have HV3 := Lib.hid (HV2.out.below hb3 (by omega))
  have HB3 := Lib.hid (HB2.out.trans (hb3.mono HB2.out.size))
  obtain ⟨r0, r1, r2, _⟩ := HR3.out.facts
  clear v0 v1 v2 hb3 hlt2 HF HR0 HZ0 HW0 HB0 HWX HWY HGE HR2 HZ2 HW2 HV2 HB2 HBAD
  have hb4 := (Below.refl w3.heap.size w3).alloc (Nat.le_refl _) (.cells #[.int .i64 (k : Int), .int .i64 0, .slice none 0 0] 26)
  have hO4 := RuleAt.new w3 (.int .i64 (k : Int)) (.int .i64 0) (.slice none 0 0)
  obtain ⟨w4, hw4⟩ : ∃ w4, w3.alloc (.cells #[.int .i64 (k : Int), .int .i64 0, .slice none 0 0] 26) = w4 := ⟨_, rfl⟩
  have hs4 : w4.heap.size = w3.heap.size + 1 := by rw [← hw4]; simp
  rw [hw4] at hb4 hO4
  obtain ⟨gO, hgO⟩ : ∃ gO, w3.heap.size = gO := ⟨_, rfl⟩
  rw [hgO] at hO4 hs4
  have hgO1 : ge < gO := by omega
  have HOUT := Lib.hid (OutAt.start (B := gO + 1) hO4 (by omega) (by omega))
  have HR4 := Lib.hid (HR3.out.below hb4 HR3.out.lt)
  have HZ4 := Lib.hid (HZ3.out.below hb4 HZ3.out.lt)
  have HW4' := Lib.hid (HW3.out.below hb4 HW3.out.lt)
  have HB4 := Lib.hid (HB3.out.trans (hb4.mono HB3.out.size))
  have HQ4 := Lib.hid hw4
  have HGO := Lib.hid hgO
  clear hb4 hO4 hw4 hgO hs4 HR3 HZ3 HW3
  have hlt0 : w.heap.size < w3.heap.size := by have h1 := hge2; omega
  go_wp2_with fail
  rw [HQ4.out, HGO.out]
  clear r0 r1 r2 hlt0
  go_loopw [8] (fun iv wl => ∃ (i cc : Nat) (C : Option Addr), iv = .int .i64 (i : Int) ∧ i ≤ k ∧ Hid (OutAt wl gO (gO + 1) (.int .i64 (k : Int)) (.int .i64 0) C i cc (tabI k 1 (fun v => v.getD 0 0) i)) ∧
    Hid (RuleAt wl w.heap.size (.int .i64 (k : Int)) (.int .i64 (r : Int)) (.slice A n c)) ∧ Hid (RuleAt wl (w.heap.size + 1) (.int .i64 0) (.int .i64 0) (.slice none 0 0)) ∧ Hid (WantAt wl (w.heap.size + 1 + 1) (.int .i64 0) (.slice none 0 0) (.slice none 0 0)) ∧ Hid (Below w.heap.size w wl)) (fun iv _ => k - (intOf iv).toNat)
  case atStart => exact ⟨0, 0, none, rfl, Nat.zero_le _, HOUT, HR4, HZ4, HW4', HB4⟩
  case round =>
    clear HOUT HR4 HZ4 HW4' HB4
    obtain ⟨i, cc, C, rfl, hi, HO, HR, HZ, HW, HB⟩ := hrel
    obtain ⟨v0, rfl⟩ : ∃ v0, v0 = wr := ⟨_, rfl⟩
    obtain ⟨r0, r1, r2, _⟩ := HR.out.facts
    by_cases hiM : i < k
    · have hiM' : (i : Int) < (k : Int) := by omega
      obtain ⟨p0, p1, p2, p3, p4, p5⟩ := HO.out.at_.facts
      have hi16 : i + 1 ≤ maxLen := by simp only [maxLen]; omega
      go_wp2_with (at_builtin
                   refine wpList_push_r rfl _ _ _ rfl tInts (HO.out.own.alloc _) rfl ⟨v0.heap.size, 0, none⟩ 1 rfl (.int .i64 (i : Int)) (by simp) rfl hi16 (by omega) (by have := HO.out.size; rw [World.size_alloc]; omega) ?_
                   intro g3 cap3 w3' hown3 hor3 hlt3
                   obtain ⟨hk3, hg3⟩ := pushT (w := v0) ((Below.refl _ _).alloc (Nat.le_refl _) _) hor3
                   obtain ⟨z0, z1, z2, z3, z4, z5⟩ := (HO.out.at_.keeps hk3 (HO.out.ne HO.out.lt)).facts
                   clear hor3)
      obtain ⟨hOx, hKx⟩ := HO.out.push hk3 hown3
      have hRx := HR.out.keeps hKx (by intro h; omega)
      have hZx := HZ.out.keeps hKx (by intro h; omega)
      have hWx := HW.out.keeps hKx (by intro h; omega)
      have hBx := HB.out.trans (hKx.below HB.out.size (fun b hb => by omega))
      have htx : tabI k 1 (fun v => v.getD 0 0) (i + 1) = tabI k 1 (fun v => v.getD 0 0) i ++ [i] := by
        rw [tabI_succ]
        congr 1
        simp [digB, Nat.mod_eq_of_lt hiM]
      rw [← htx] at hOx
      have HX := Lib.hid (And.intro hOx (And.intro hRx (And.intro hZx (And.intro hWx hBx))))
      clear hOx hKx hRx hZx hWx hBx htx hown3 hlt3 hk3 hg3 r0 r1 r2 p0 p1 p2 p3 p4 p5
      go_wp2_with fail
      exact ⟨⟨i + 1, cap3, _, by go_num, by omega, Lib.hid HX.out.1, Lib.hid HX.out.2.1, Lib.hid HX.out.2.2.1, Lib.hid HX.out.2.2.2.1, Lib.hid HX.out.2.2.2.2⟩, by simp [intOf]; omega⟩
    · obtain rfl : i = k := by omega
      have hiM' : ¬ (i : Int) < (i : Int) := by omega
      have hid : tabI i 1 (fun v => v.getD 0 0) i = idT i := by have h := tabI_all i 1 (fun v => v.getD 0 0); rw [Nat.pow_one] at h; exact h
      have hO := HO.out
      rw [hid] at hO
      clear hid
      have HO3 := Lib.hid hO.at_
      have HT3 := Lib.hid (own_base hO.own (show w.heap.size + 3 ≤ gO + 1 by omega))
      clear hO HO
      go_wp2_with fail
      clear r0 r1 r2
      go_loopw [9] (fun iv wl => ∃ (j ρ N cc : Nat) (C : Option Addr), j ≤ q ∧ iv = .int .i64 (j : Int) ∧ Hid (j * r = ρ) ∧ ρ ≤ 3 ∧ Hid (RuleAt wl gO (.int .i64 (i : Int)) (.int .i64 (ρ : Int)) (.slice C N cc)) ∧ Hid (wl.ownsRow (w.heap.size + 3) 3 1 (.slice C N cc) N ((ints (pw i r t j)).map (Value.int .i64))) ∧
        Hid (RuleAt wl w.heap.size (.int .i64 (i : Int)) (.int .i64 (r : Int)) (.slice A n c)) ∧ Hid (RuleAt wl (w.heap.size + 1) (.int .i64 0) (.int .i64 0) (.slice none 0 0)) ∧ Hid (WantAt wl (w.heap.size + 1 + 1) (.int .i64 0) (.slice none 0 0) (.slice none 0 0)) ∧ Hid (Below w.heap.size w wl)) (fun iv _ => q - (intOf iv).toNat)
      case atStart => exact ⟨0, 0, i, cc, C, Nat.zero_le _, rfl, Lib.hid (by simp), by decide, HO3, HT3, HR, HZ, HW, HB⟩
      case round =>
        clear HO3 HT3 HR HZ HW HB
        obtain ⟨j, ρ, N, cc, C, hj, rfl, hρ, hρ3, hO, hT, hX, hZ, hW, hB⟩ := hrel
        obtain ⟨o0, o1, o2, _⟩ := hO.out.facts
        by_cases hlt : j < q
        · have hj' : (j : Int) < (q : Int) := by omega
          obtain ⟨x0, x1, x2, _⟩ := hX.out.facts
          have hq1 : r + ρ ≤ 3 := by
            have h1 : (j + 1) * r ≤ q * r := Nat.mul_le_mul_right r hlt
            rw [Nat.add_mul, Nat.one_mul] at h1
            have := HZQ.out
            have := hρ.out
            omega
          have hpr : IsRule i ρ (pw i r t j) := by
            have := pw_rule (n := j) HRU.out (by rw [hρ.out]; exact hρ3)
            rwa [hρ.out] at this
          have hbh := behind5_c wr i r ρ (r + ρ) rfl A C n c N cc t (pw i r t j) HRU.out hpr hq1 (HT.out wr hB.out) (Sl.of_own hT.out)
          have hcp : comp i r t ρ (pw i r t j) = pw i r t (j + 1) := by rw [pw, hρ.out]
          rw [hcp] at hbh
          obtain ⟨σ, hσ⟩ : ∃ σ, r + ρ = σ := ⟨_, rfl⟩
          rw [hσ] at hbh hq1
          have hσ2 : Hid ((j + 1) * r = σ) := Lib.hid (by rw [Nat.add_mul, Nat.one_mul, hρ.out]; omega)
          unfold ruleV at hbh
          have HBH := Lib.hid hbh
          have hgol := hO.out.lt
          clear hbh hcp hσ hpr hρ
          go_wp2_with fail
          refine (HBH.out).mono ?_
          rintro e w5 ⟨C5, N5, cc5, rfl, hT5, hb5⟩
          have ho5 := hO.out.below hb5 hO.out.lt
          obtain ⟨o0, o1, o2, p0, p1, p2⟩ := ho5.facts
          have HO6 := Lib.hid (ho5.set3 (.int .i64 (i : Int)) (.int .i64 (σ : Int)) (.slice C5 N5 cc5))
          have HT6 := Lib.hid (own_set3 (own_base hT5 (show w.heap.size + 3 ≤ wr.heap.size by omega)) ho5 (by decide) (.int .i64 (i : Int)) (.int .i64 (σ : Int)) (.slice C5 N5 cc5))
          have hk6 := keeps_set3 w5 gO (.int .i64 (i : Int)) (.int .i64 (σ : Int)) (.slice C5 N5 cc5)
          have HX6 := Lib.hid ((hX.out.below hb5 hX.out.lt).keeps hk6 (by omega))
          have HY6 := Lib.hid ((hZ.out.below hb5 hZ.out.lt).keeps hk6 (by omega))
          have HW6 := Lib.hid ((hW.out.below hb5 hW.out.lt).keeps hk6 (by omega))
          have HB6 := Lib.hid (below_set3 (hB.out.trans (hb5.mono hB.out.size)) (show w.heap.size ≤ gO by omega) (.int .i64 (i : Int)) (.int .i64 (σ : Int)) (.slice C5 N5 cc5))
          unfold ruleV at *
          clear ho5 hT5 hb5 hO hT hX hZ hW hB x0 x1 x2 hk6
          go_wp2_with fail
          exact ⟨⟨j + 1, σ, N5, cc5, C5, by omega, by go_num, hσ2, by omega, HO6, HT6, HX6, HY6, HW6, HB6⟩, by simp [intOf]; omega⟩
        · have hj' : ¬ (j : Int) < (q : Int) := by omega
          have hjq : j = q := by omega
          have hρZ : ρ = Z := by rw [← hρ.out, ← HZQ.out, hjq]
          have hT' := hT.out
          rw [hjq] at hT'
          subst hρZ
          clear hρ hX hT hjq
          have hres := put6_res (w := w) hZ.out hW.out (by omega) (by omega) hT' (by omega) (M := 0) (WantB.zero wr (w.heap.size + 3)) (by omega) hB.out (i : Int) (ρ : Int)
          have hpf := put6_facts hZ.out hW.out (by omega) (.int .i64 (i : Int)) (.int .i64 (ρ : Int)) (.slice C N cc) (.int .i64 0) (.slice none 0 0) (.slice none 0 0)
          obtain ⟨d0, d1, d2, f0, f1, f2⟩ := (hW.out).facts
          obtain ⟨z0, z1, z2, z3, z4, z5⟩ := (hZ.out).facts
          have HRS := Lib.hid hres
          have HPF := Lib.hid hpf
          have HPW := Lib.hid (show ((((((wr).setCell ⟨(w.heap.size + 1), 0, none⟩ (.int .i64 (i : Int))).setCell ⟨(w.heap.size + 1), 1, none⟩ (.int .i64 (ρ : Int))).setCell ⟨(w.heap.size + 1), 2, none⟩ (.slice C N cc)).setCell ⟨(w.heap.size + 1 + 1), 0, none⟩ (.int .i64 0)).setCell ⟨(w.heap.size + 1 + 1), 1, none⟩ (.slice none 0 0)).setCell ⟨(w.heap.size + 1 + 1), 2, none⟩ (.slice none 0 0) = put6 (wr) (w.heap.size + 1) (w.heap.size + 1 + 1) (.int .i64 (i : Int)) (.int .i64 (ρ : Int)) (.slice C N cc) (.int .i64 0) (.slice none 0 0) (.slice none 0 0) from rfl)
          clear hres hpf hT'
          go_wp2_with fail
          rw [HPW.out]
          obtain ⟨⟨s0, s1, s2, _⟩, s3, s4, s5, _⟩ := (⟨HPF.out.1.facts, HPF.out.2.facts⟩ : _ ∧ _)
          have HR := HRS.out
          exact bodyPost_ret (v := .tuple #[.agg #[.int .i64 (i : Int), .int .i64 (ρ : Int), .slice C N cc], .agg #[.int .i64 0, .slice none 0 0, .slice none 0 0]]) (by simp [results, Tryz.results25, go_sem, s0, s1, s2, s3, s4, s5]) rfl ⟨C, N, cc, 0, _, _, _, _, _, _, rfl, HR.1, HR.2.1, HR.2.2⟩

end Go.Proofs.YtpllojpgpejfmaaGreatDoor

namespace Go.Proofs.YtpllojpgpejfmaaGreatDoor
open Go.RowKit RuleP
theorem TabAt.of_ownC {w0 w : World} {B n c : Nat} {C : Option Addr} {xs : List Nat} (h : w.ownsRow B 3 1 (.slice C n c) n ((ints xs).map (Value.int .i64))) : TabAt w0 w C n xs :=
  ⟨Sl.of_own h, fun ad e => by
    subst e
    rcases h.2 with ⟨h1, _⟩ | ⟨g1, cap, cur, h1, _, hh, _⟩
    · cases h1
    · injection h1 with h1 _ _
      injection h1 with h1
      rw [h1]
      exact .inr ⟨_, hh⟩⟩

set_option maxRecDepth 100000 in
set_option maxHeartbeats 2000000 in
theorem power5_zero (w : World) (k r : Nat) (A : Option Addr) (n c : Nat) (t : List Nat) (hr : IsRule k r t) (hT : Sl w A n ((ints t).map (Value.int .i64))) (q : Nat) (hz : r = 0) (hq : q ≤ 9223372036854775807) :
    Calls Tryz.prog 25 #[ruleV (k : Int) (r : Int) A n c, .int .i64 (q : Int)] w (Rule5E w (k : Int) (r : Int) (pw k 0 t q) none) := by
  have hn : t.length = n := by simpa [ints] using hT.1
  have hn16 := hr.le
  rw [hn] at hn16
  have hk1 := hr.k1
  have hk4 := hr.k4
  have hr3 := hr.r3
  have hr0 := ((RuleAt.new w (.int .i64 (k : Int)) (.int .i64 (r : Int)) (.slice A n c)).alloc (.cells #[.int .i64 0, .int .i64 0, .slice none 0 0] 26)).alloc (.cells #[.int .i64 0, .slice none 0 0, .slice none 0 0] 45)
  have hz0 := (RuleAt.new (w.alloc (.cells #[.int .i64 (k : Int), .int .i64 (r : Int), .slice A n c] 26)) (.int .i64 0) (.int .i64 0) (.slice none 0 0)).alloc (.cells #[.int .i64 0, .slice none 0 0, .slice none 0 0] 45)
  have hw0 := WantAt.new ((w.alloc (.cells #[.int .i64 (k : Int), .int .i64 (r : Int), .slice A n c] 26)).alloc (.cells #[.int .i64 0, .int .i64 0, .slice none 0 0] 26)) (.int .i64 0) (.slice none 0 0) (.slice none 0 0)
  rw [World.size_alloc] at hz0
  rw [World.size_alloc, World.size_alloc] at hw0
  have hb0 := (((Below.refl w.heap.size w).alloc (Nat.le_refl _) (.cells #[.int .i64 (k : Int), .int .i64 (r : Int), .slice A n c] 26)).alloc (by simp) (.cells #[.int .i64 0, .int .i64 0, .slice none 0 0] 26)).alloc (by simp; omega) (.cells #[.int .i64 0, .slice none 0 0, .slice none 0 0] 45)
  obtain ⟨wx, hwx⟩ : ∃ wx, ((w.alloc (.cells #[.int .i64 (k : Int), .int .i64 (r : Int), .slice A n c] 26)).alloc (.cells #[.int .i64 0, .int .i64 0, .slice none 0 0] 26)).alloc (.cells #[.int .i64 0, .slice none 0 0, .slice none 0 0] 45) = wx := ⟨_, rfl⟩
  have hsx : wx.heap.size = w.heap.size + 3 := by rw [← hwx]; simp
  have HWX := Lib.hid hwx
  obtain ⟨q0, q1, q2, _⟩ := hr0.facts
  rw [hwx] at hr0 hz0 hw0 hb0
  have hf := fault5_c wx 0 (k : Int) (r : Int) A n c (ints t) (hT.below hb0) (by omega)
  rw [checkF_rule 0 hr] at hf
  have HF := Lib.hid hf
  have HR0 := Lib.hid hr0
  have HZ0 := Lib.hid hz0
  have HW0 := Lib.hid hw0
  have HB0 := Lib.hid hb0
  have HRU := Lib.hid hr
  have HT := Lib.hid (fun (wz : World) (hz : Below w.heap.size w wz) => hT.below hz)
  have HN := Lib.hid hn
  have hq0 : ¬ (q : Int) < 0 := by omega
  have HRZ := Lib.hid hz
  have hrp : ¬ (0 : Int) < (r : Int) := by omega
  have HR0' := Lib.hid (show IsRule k 0 t by rw [← hz]; exact hr)
  have HAL := Lib.hid (show ∀ ad, A = some ad → ad.block < w.heap.size from fun ad e => by
    obtain ⟨ad', u, e', _, hc⟩ := hT.at_ (show 0 < n by rw [← hn]; exact hr.pos)
    have h1 := World.block_lt_of_cell? _ _ hc
    rw [block_of_add] at h1
    rw [e] at e'
    cases e'
    exact h1)
  clear hf hwx hr0 hz0 hw0 hb0 hr hT hn hz
  unfold ruleV at *
  go_enter Tryz.func25, Tryz.ntmps25
  go_wp2_with fail
  rw [HWX.out]
  clear q0 q1 q2
  refine (HF.out).mono ?_
  rintro e w1 ⟨N, A1, n1, c1, A2, n2, c2, rfl, hu, hb1⟩
  obtain rfl : N = 0 := hu.num
  obtain ⟨rfl, rfl, rfl, rfl, rfl, rfl⟩ : A1 = none ∧ n1 = 0 ∧ c1 = 0 ∧ A2 = none ∧ n2 = 0 ∧ c2 = 0 := by
    have e := hu.none_eq
    simp at e
    obtain ⟨⟨q1, q2, q3⟩, q4, q5, q6⟩ := e
    exact ⟨q1, q2, q3, q4, q5, q6⟩
  have hb2 : Below w1.heap.size w1 (w1.alloc (.cells #[.int .i64 0, .slice none 0 0, .slice none 0 0] 45)) := (Below.refl _ _).alloc (Nat.le_refl _) _
  have hv2 := WantAt.new w1 (.int .i64 0) (.slice none 0 0) (.slice none 0 0)
  obtain ⟨wy, hwy⟩ : ∃ wy, w1.alloc (.cells #[.int .i64 0, .slice none 0 0, .slice none 0 0] 45) = wy := ⟨_, rfl⟩
  have HWY := Lib.hid hwy
  have hlt2 : w1.heap.size < wy.heap.size := by rw [← hwy]; simp
  rw [hwy] at hb2 hv2
  have hs1 := hb1.size
  have hr2 := (HR0.out.below hb1 (by omega)).below hb2 (by omega)
  have hz2 := (HZ0.out.below hb1 (by omega)).below hb2 (by omega)
  have hw2 := (HW0.out.below hb1 (by omega)).below hb2 (by omega)
  have hbx := HB0.out.trans ((hb1.trans (hb2.mono hb1.size)).mono HB0.out.size)
  have HBAD := Lib.hid (badZero5 wy)
  obtain ⟨ge, hge'⟩ : ∃ ge, w1.heap.size = ge := ⟨_, rfl⟩
  rw [hge'] at hv2 hs1 hlt2
  have hge : w.heap.size + 3 ≤ ge := by omega
  obtain ⟨v0, v1, v2, _⟩ := hv2.facts
  have HGE := Lib.hid hge'
  have HR2 := Lib.hid hr2
  have HZ2 := Lib.hid hz2
  have HW2 := Lib.hid hw2
  have HV2 := Lib.hid hv2
  have HB2 := Lib.hid hbx
  clear hu hb1 hb2 hr2 hz2 hw2 hv2 hbx hwy hge' hs1 hsx
  rw [show ((0 : Nat) : Int) = 0 from rfl]
  go_wp2_with fail
  rw [HWY.out, HGE.out]
  refine (HBAD.out).mono ?_
  rintro e w3 ⟨rfl, hb3⟩
  have hge2 : ge < w3.heap.size := Nat.lt_of_lt_of_le hlt2 hb3.size
  have HR3 := Lib.hid (HR2.out.below hb3 (by omega))
  have HZ3 := Lib.hid (HZ2.out.below hb3 (by omega))
  have HW3 := Lib.hid (HW2.out.below hb3 (by omega))
  have HV3 := Lib.hid (HV2.out.below hb3 (by omega))
  have HB3 := Lib.hid (HB2.out.trans (hb3.mono HB2.out.size))
  obtain ⟨r0, r1, r2, _⟩ := HR3.out.facts
  clear v0 v1 v2 hb3 hlt2 HF HR0 HZ0 HW0 HB0 HWX HWY HGE HR2 HZ2 HW2 HV2 HB2 HBAD
  have hb4 := (Below.refl w3.heap.size w3).alloc (Nat.le_refl _) (.cells #[.int .i64 (k : Int), .int .i64 0, .slice none 0 0] 26)
  have hO4 := RuleAt.new w3 (.int .i64 (k : Int)) (.int .i64 0) (.slice none 0 0)
  obtain ⟨w4, hw4⟩ : ∃ w4, w3.alloc (.cells #[.int .i64 (k : Int), .int .i64 0, .slice none 0 0] 26) = w4 := ⟨_, rfl⟩
  have hs4 : w4.heap.size = w3.heap.size + 1 := by rw [← hw4]; simp
  rw [hw4] at hb4 hO4
  obtain ⟨gO, hgO⟩ : ∃ gO, w3.heap.size = gO := ⟨_, rfl⟩
  rw [hgO] at hO4 hs4
  have hgO1 : ge < gO := by omega
  have HOUT := Lib.hid (OutAt.start (B := gO + 1) hO4 (by omega) (by omega))
  have HR4 := Lib.hid (HR3.out.below hb4 HR3.out.lt)
  have HZ4 := Lib.hid (HZ3.out.below hb4 HZ3.out.lt)
  have HW4' := Lib.hid (HW3.out.below hb4 HW3.out.lt)
  have HB4 := Lib.hid (HB3.out.trans (hb4.mono HB3.out.size))
  have HQ4 := Lib.hid hw4
  have HGO := Lib.hid hgO
  clear hb4 hO4 hw4 hgO hs4 HR3 HZ3 HW3
  have hlt0 : w.heap.size < w3.heap.size := by have h1 := hge2; omega
  go_wp2_with fail
  rw [HQ4.out, HGO.out]
  clear r0 r1 r2 hlt0
  go_loopw [8] (fun iv wl => ∃ (i cc : Nat) (C : Option Addr), iv = .int .i64 (i : Int) ∧ i ≤ k ∧ Hid (OutAt wl gO (gO + 1) (.int .i64 (k : Int)) (.int .i64 0) C i cc (tabI k 1 (fun v => v.getD 0 0) i)) ∧
    Hid (RuleAt wl w.heap.size (.int .i64 (k : Int)) (.int .i64 (r : Int)) (.slice A n c)) ∧ Hid (RuleAt wl (w.heap.size + 1) (.int .i64 0) (.int .i64 0) (.slice none 0 0)) ∧ Hid (WantAt wl (w.heap.size + 1 + 1) (.int .i64 0) (.slice none 0 0) (.slice none 0 0)) ∧ Hid (Below w.heap.size w wl)) (fun iv _ => k - (intOf iv).toNat)
  case atStart => exact ⟨0, 0, none, rfl, Nat.zero_le _, HOUT, HR4, HZ4, HW4', HB4⟩
  case round =>
    clear HOUT HR4 HZ4 HW4' HB4
    obtain ⟨i, cc, C, rfl, hi, HO, HR, HZ, HW, HB⟩ := hrel
    obtain ⟨v0, rfl⟩ : ∃ v0, v0 = wr := ⟨_, rfl⟩
    obtain ⟨r0, r1, r2, _⟩ := HR.out.facts
    by_cases hiM : i < k
    · have hiM' : (i : Int) < (k : Int) := by omega
      obtain ⟨p0, p1, p2, p3, p4, p5⟩ := HO.out.at_.facts
      have hi16 : i + 1 ≤ maxLen := by simp only [maxLen]; omega
      go_wp2_with (at_builtin
                   refine wpList_push_r rfl _ _ _ rfl tInts (HO.out.own.alloc _) rfl ⟨v0.heap.size, 0, none⟩ 1 rfl (.int .i64 (i : Int)) (by simp) rfl hi16 (by omega) (by have := HO.out.size; rw [World.size_alloc]; omega) ?_
                   intro g3 cap3 w3' hown3 hor3 hlt3
                   obtain ⟨hk3, hg3⟩ := pushT (w := v0) ((Below.refl _ _).alloc (Nat.le_refl _) _) hor3
                   obtain ⟨z0, z1, z2, z3, z4, z5⟩ := (HO.out.at_.keeps hk3 (HO.out.ne HO.out.lt)).facts
                   clear hor3)
      obtain ⟨hOx, hKx⟩ := HO.out.push hk3 hown3
      have hRx := HR.out.keeps hKx (by intro h; omega)
      have hZx := HZ.out.keeps hKx (by intro h; omega)
      have hWx := HW.out.keeps hKx (by intro h; omega)
      have hBx := HB.out.trans (hKx.below HB.out.size (fun b hb => by omega))
      have htx : tabI k 1 (fun v => v.getD 0 0) (i + 1) = tabI k 1 (fun v => v.getD 0 0) i ++ [i] := by
        rw [tabI_succ]
        congr 1
        simp [digB, Nat.mod_eq_of_lt hiM]
      rw [← htx] at hOx
      have HX := Lib.hid (And.intro hOx (And.intro hRx (And.intro hZx (And.intro hWx hBx))))
      clear hOx hKx hRx hZx hWx hBx htx hown3 hlt3 hk3 hg3 r0 r1 r2 p0 p1 p2 p3 p4 p5
      go_wp2_with fail
      exact ⟨⟨i + 1, cap3, _, by go_num, by omega, Lib.hid HX.out.1, Lib.hid HX.out.2.1, Lib.hid HX.out.2.2.1, Lib.hid HX.out.2.2.2.1, Lib.hid HX.out.2.2.2.2⟩, by simp [intOf]; omega⟩
    · obtain rfl : i = k := by omega
      have hiM' : ¬ (i : Int) < (i : Int) := by omega
      have hid : tabI i 1 (fun v => v.getD 0 0) i = idT i := by have h := tabI_all i 1 (fun v => v.getD 0 0); rw [Nat.pow_one] at h; exact h
      have hO := HO.out
      rw [hid] at hO
      clear hid
      have hb4 := (Below.refl v0.heap.size v0).alloc (Nat.le_refl _) (.cells #[.int .i64 (i : Int), .int .i64 (r : Int), .slice A n c] 26)
      have hq4 := RuleAt.new v0 (.int .i64 (i : Int)) (.int .i64 (r : Int)) (.slice A n c)
      obtain ⟨wq, hwq⟩ : ∃ wq, v0.alloc (.cells #[.int .i64 (i : Int), .int .i64 (r : Int), .slice A n c] 26) = wq := ⟨_, rfl⟩
      rw [hwq] at hb4 hq4
      obtain ⟨gq, hgq⟩ : ∃ gq, v0.heap.size = gq := ⟨_, rfl⟩
      have hgql : gO < gq := by rw [← hgq]; exact hO.at_.lt
      have HO4 := Lib.hid (hO.at_.below hb4 hO.at_.lt)
      have HT4 := Lib.hid (own_below (own_base hO.own (show w.heap.size + 3 ≤ gO + 1 by omega)) hb4)
      have HY4 := Lib.hid (HZ.out.below hb4 HZ.out.lt)
      have HV4 := Lib.hid (HW.out.below hb4 HW.out.lt)
      have HB5 := Lib.hid (HB.out.trans (hb4.mono HB.out.size))
      have HTB := Lib.hid (show TabAt w wq A n t from ⟨HT.out _ HB5.out, fun ad e => .inl (HAL.out ad e)⟩)
      rw [hgq] at hq4
      have HQ5 := Lib.hid hq4
      have HWQ := Lib.hid hwq
      have HGQ := Lib.hid hgq
      have HPR := Lib.hid (show ∀ n, IsRule i 0 (pw i 0 t n) from fun n => by have h := pw_rule (n := n) HR0'.out (by omega); rwa [Nat.mul_zero] at h)
      have HPW1 := Lib.hid (show pw i 0 t 1 = t by rw [pw, Nat.mul_zero]; exact comp_id HR0'.out)
      clear hb4 hq4 hwq hgq hO HO HZ HW HB
      go_wp2_with fail
      rw [HWQ.out, HGQ.out]
      clear r0 r1 r2
      go_loopw [1, 10] (fun tv sv wl => ∃ (τ e s ρo ρs N Ns cc cs gq : Nat) (C As : Option Addr), τ ≤ q ∧ tv = .int .i64 (τ : Int) ∧ sv = .pointer (some ⟨gq, 0, none⟩) ∧ gO < gq ∧ Hid (ρo = 0 ∧ ρs = 0 ∧ e + s * τ = q) ∧ Hid (RuleAt wl gO (.int .i64 (i : Int)) (.int .i64 (ρo : Int)) (.slice C N cc)) ∧
        Hid (wl.ownsRow (w.heap.size + 3) 3 1 (.slice C N cc) N ((ints (pw i 0 t e)).map (Value.int .i64))) ∧ Hid (RuleAt wl gq (.int .i64 (i : Int)) (.int .i64 (ρs : Int)) (.slice As Ns cs)) ∧ Hid (TabAt w wl As Ns (pw i 0 t s)) ∧
        Hid (RuleAt wl (w.heap.size + 1) (.int .i64 0) (.int .i64 0) (.slice none 0 0)) ∧ Hid (WantAt wl (w.heap.size + 1 + 1) (.int .i64 0) (.slice none 0 0) (.slice none 0 0)) ∧ Hid (Below w.heap.size w wl)) (fun tv _ _ => (intOf tv).toNat)
      case atStart => exact ⟨q, 0, 1, 0, r, i, n, cc, c, gq, C, A, Nat.le_refl _, rfl, rfl, hgql, Lib.hid ⟨rfl, HRZ.out, by omega⟩, HO4, HT4, HQ5, Lib.hid (by rw [HPW1.out]; exact HTB.out), HY4, HV4, HB5⟩
      case round =>
        clear HO4 HT4 HQ5 HY4 HV4 HB5 HTB hgql
        obtain ⟨τ, e, s, ρo, ρs, N, Ns, cc, cs, gq', C, As, hτ, rfl, rfl, hgg, hE3, hO, hT, hQ, hTS, hY, hV, hB⟩ := hrel
        by_cases hpos : 0 < τ
        · obtain ⟨m, hmm⟩ : ∃ m, τ / 2 = m := ⟨_, rfl⟩
          have hps : IsRule i ρs (pw i 0 t s) := by rw [hE3.out.2.1]; exact HPR.out s
          have hpe : IsRule i ρo (pw i 0 t e) := by rw [hE3.out.1]; exact HPR.out e
          have hp' : (0 : Int) < (τ : Int) := by omega
          have hdv : (τ : Int) / 2 = (m : Int) := by omega
          have hyl0 := hY.out.lt
          have hol0 := hO.out.lt
          have hql0 := hQ.out.lt
          by_cases hodd : τ % 2 = 1
          · have hmd : (τ : Int) % 2 = 1 := by omega
            have hτm : τ = 2 * m + 1 := by omega
            have hbh := behind5_c wr i ρs ρo (ρs + ρo) rfl As C Ns cs N cc (pw i 0 t s) (pw i 0 t e) hps hpe (by have := hE3.out.2.1; have := hE3.out.1; omega) hTS.out.1 (Sl.of_own hT.out)
            have hcp : comp i ρs (pw i 0 t s) ρo (pw i 0 t e) = pw i 0 t (s + e) := by rw [hE3.out.2.1, hE3.out.1]; exact (pw_add HR0'.out e s).symm
            rw [hcp] at hbh
            obtain ⟨σo, hσo⟩ : ∃ σ, ρs + ρo = σ := ⟨_, rfl⟩
            rw [hσo] at hbh
            have HSO := Lib.hid (show σo = 0 by have := hE3.out.2.1; have := hE3.out.1; omega)
            unfold ruleV at hbh
            have HBH := Lib.hid hbh
            obtain ⟨y0, y1, y2, _⟩ := hQ.out.facts
            obtain ⟨o0, o1, o2, p0, p1, p2⟩ := hO.out.facts
            have HTM := Lib.hid hτm
            clear hbh hcp hσo hodd hτm hmm
            go_wp2_with fail
            refine (HBH.out).mono ?_
            rintro e1 w5 ⟨C5, N5, cc5, rfl, hT5, hb5⟩
            have o5 := hO.out.below hb5 hol0
            obtain ⟨o0, o1, o2, p0, p1, p2⟩ := o5.facts
            have hk6 := keeps_set3 w5 gO (.int .i64 (i : Int)) (.int .i64 (σo : Int)) (.slice C5 N5 cc5)
            have hO6 := o5.set3 (.int .i64 (i : Int)) (.int .i64 (σo : Int)) (.slice C5 N5 cc5)
            have hT6 := own_set3 (own_base hT5 (show w.heap.size + 3 ≤ wr.heap.size by omega)) o5 (by decide) (.int .i64 (i : Int)) (.int .i64 (σo : Int)) (.slice C5 N5 cc5)
            have hQ6 := (hQ.out.below hb5 hql0).keeps hk6 (by omega)
            have hY6 := (hY.out.below hb5 hyl0).keeps hk6 (by omega)
            have hV6 := (hV.out.below hb5 hV.out.lt).keeps hk6 (by omega)
            have hb5w := hB.out.trans (hb5.mono hB.out.size)
            have hTS6 := (hTS.out.pure hb5 hB.out.size).set3 o5 (show w.heap.size ≤ gO by omega) hb5w.size (.int .i64 (i : Int)) (.int .i64 (σo : Int)) (.slice C5 N5 cc5)
            have hb6 := below_set3 hb5w (show w.heap.size ≤ gO by omega) (.int .i64 (i : Int)) (.int .i64 (σo : Int)) (.slice C5 N5 cc5)
            clear o5 hT5 hb5 hb5w hk6 y0 y1 y2
            have hτm := HTM.out
            have hbh2 := behind5_c (((w5.setCell ⟨gO, 0, none⟩ (.int .i64 (i : Int))).setCell ⟨gO, 1, none⟩ (.int .i64 (σo : Int))).setCell ⟨gO, 2, none⟩ (.slice C5 N5 cc5)) i ρs ρs (ρs + ρs) rfl As As Ns cs Ns cs (pw i 0 t s) (pw i 0 t s) hps hps (by have := hE3.out.2.1; omega) hTS6.1 hTS6.1
            have hcp2 : comp i ρs (pw i 0 t s) ρs (pw i 0 t s) = pw i 0 t (s + s) := by rw [hE3.out.2.1]; exact (pw_add HR0'.out s s).symm
            rw [hcp2] at hbh2
            obtain ⟨σs, hσs⟩ : ∃ σ, ρs + ρs = σ := ⟨_, rfl⟩
            rw [hσs] at hbh2
            have HS0 := Lib.hid (show σs = 0 by have := hE3.out.2.1; omega)
            unfold ruleV at hbh2
            have HBH2 := Lib.hid hbh2
            obtain ⟨z0, z1, z2, _⟩ := hQ6.facts
            have hgl := hO6.lt
            have hql := hQ6.lt
            have HQ7 := Lib.hid hQ6
            have HO7 := Lib.hid hO6
            have HY7 := Lib.hid hY6
            have HV7 := Lib.hid hV6
            have HT7 := Lib.hid hT6
            have HB7 := Lib.hid hb6
            have HTM2 := Lib.hid hτm
            clear hbh2 hcp2 hσs hQ6 hO6 hY6 hV6 hT6 hb6 hTS6 hτm
            go_wp2_with fail
            refine (HBH2.out).mono ?_
            rintro e' w8 ⟨C8, N8, c8, rfl, hT8, hb8⟩
            have q8 := HQ7.out.below hb8 HQ7.out.lt
            obtain ⟨k0, k1, k2, k3, k4, k5⟩ := q8.facts
            have hk9 := keeps_set3 w8 gq' (.int .i64 (i : Int)) (.int .i64 (σs : Int)) (.slice C8 N8 c8)
            have hq9 := q8.set3 (.int .i64 (i : Int)) (.int .i64 (σs : Int)) (.slice C8 N8 c8)
            have ho9 := (HO7.out.below hb8 HO7.out.lt).keeps hk9 (by omega)
            have hy9 := (HY7.out.below hb8 HY7.out.lt).keeps hk9 (by omega)
            have hv9 := (HV7.out.below hb8 HV7.out.lt).keeps hk9 (by omega)
            have ht9 := own_set3 (own_below HT7.out hb8) q8 (by decide) (.int .i64 (i : Int)) (.int .i64 (σs : Int)) (.slice C8 N8 c8)
            have hb8w := HB7.out.trans (hb8.mono HB7.out.size)
            have hb9 := below_set3 hb8w (show w.heap.size ≤ gq' by omega) (.int .i64 (i : Int)) (.int .i64 (σs : Int)) (.slice C8 N8 c8)
            have hts9 := (TabAt.of_ownC (w0 := w) hT8).set3 q8 (show w.heap.size ≤ gq' by omega) hb8w.size (.int .i64 (i : Int)) (.int .i64 (σs : Int)) (.slice C8 N8 c8)
            obtain ⟨l0, l1, l2, _⟩ := hq9.facts
            have hs9 : ((((w8.setCell ⟨gq', 0, none⟩ (.int .i64 (i : Int))).setCell ⟨gq', 1, none⟩ (.int .i64 (σs : Int))).setCell ⟨gq', 2, none⟩ (.slice C8 N8 c8))).heap.size = w8.heap.size := by simp
            have hn9 := RuleAt.new ((((w8.setCell ⟨gq', 0, none⟩ (.int .i64 (i : Int))).setCell ⟨gq', 1, none⟩ (.int .i64 (σs : Int))).setCell ⟨gq', 2, none⟩ (.slice C8 N8 c8))) (.int .i64 (i : Int)) (.int .i64 (σs : Int)) (.slice C8 N8 c8)
            rw [hs9] at hn9
            have bb := (Below.refl ((((w8.setCell ⟨gq', 0, none⟩ (.int .i64 (i : Int))).setCell ⟨gq', 1, none⟩ (.int .i64 (σs : Int))).setCell ⟨gq', 2, none⟩ (.slice C8 N8 c8))).heap.size ((((w8.setCell ⟨gq', 0, none⟩ (.int .i64 (i : Int))).setCell ⟨gq', 1, none⟩ (.int .i64 (σs : Int))).setCell ⟨gq', 2, none⟩ (.slice C8 N8 c8)))).alloc (Nat.le_refl _) (.cells #[.int .i64 (i : Int), .int .i64 (σs : Int), .slice C8 N8 c8] 26)
            have HQ9 := Lib.hid hn9
            have HO9 := Lib.hid (ho9.alloc (.cells #[.int .i64 (i : Int), .int .i64 (σs : Int), .slice C8 N8 c8] 26))
            have HY9 := Lib.hid (hy9.alloc (.cells #[.int .i64 (i : Int), .int .i64 (σs : Int), .slice C8 N8 c8] 26))
            have HV9 := Lib.hid (hv9.below bb hv9.lt)
            have HT9 := Lib.hid (ht9.alloc (.cells #[.int .i64 (i : Int), .int .i64 (σs : Int), .slice C8 N8 c8] 26))
            have HTS9 := Lib.hid (hts9.pure bb hb9.size)
            have HB9 := Lib.hid (hb9.alloc hb9.size (.cells #[.int .i64 (i : Int), .int .i64 (σs : Int), .slice C8 N8 c8] 26))
            have HAR := Lib.hid (show σo = 0 ∧ σs = 0 ∧ (s + e) + (s + s) * m = q from ⟨HSO.out, HS0.out, pow_odd hE3.out.2.2 HTM2.out⟩)
            have HGL := Lib.hid (show gO < w8.heap.size from Nat.lt_of_lt_of_le (by simpa using hgl) hb8.size)
            unfold ruleV at *
            clear q8 hT8 hb8 hb8w hE3 hO hT hQ hTS hY hV hB hk9 hq9 ho9 hy9 hv9 ht9 hb9 hts9 hn9 bb z0 z1 z2
            go_wp2_with fail
            exact ⟨⟨m, s + e, s + s, σo, σs, N5, N8, cc5, c8, w8.heap.size, C5, C8, (by have := HTM2.out; omega), rfl, rfl, HGL.out, HAR, HO9, HT9, HQ9, HTS9, HY9, HV9, HB9⟩, by have := HTM2.out; simp [intOf]; omega⟩
          · have hmd : (τ : Int) % 2 = 0 := by omega
            have hτm : τ = 2 * m := by omega
            have hO6 := hO.out
            have hT6 := hT.out
            have hQ6 := hQ.out
            have hY6 := hY.out
            have hV6 := hV.out
            have hTS6 := hTS.out
            have hb6 := hB.out
            have hbh2 := behind5_c (wr) i ρs ρs (ρs + ρs) rfl As As Ns cs Ns cs (pw i 0 t s) (pw i 0 t s) hps hps (by have := hE3.out.2.1; omega) hTS6.1 hTS6.1
            have hcp2 : comp i ρs (pw i 0 t s) ρs (pw i 0 t s) = pw i 0 t (s + s) := by rw [hE3.out.2.1]; exact (pw_add HR0'.out s s).symm
            rw [hcp2] at hbh2
            obtain ⟨σs, hσs⟩ : ∃ σ, ρs + ρs = σ := ⟨_, rfl⟩
            rw [hσs] at hbh2
            have HS0 := Lib.hid (show σs = 0 by have := hE3.out.2.1; omega)
            unfold ruleV at hbh2
            have HBH2 := Lib.hid hbh2
            obtain ⟨z0, z1, z2, _⟩ := hQ6.facts
            have hgl := hO6.lt
            have hql := hQ6.lt
            have HQ7 := Lib.hid hQ6
            have HO7 := Lib.hid hO6
            have HY7 := Lib.hid hY6
            have HV7 := Lib.hid hV6
            have HT7 := Lib.hid hT6
            have HB7 := Lib.hid hb6
            have HTM2 := Lib.hid hτm
            clear hbh2 hcp2 hσs hQ6 hO6 hY6 hV6 hT6 hb6 hTS6 hτm hodd hmm
            go_wp2_with fail
            refine (HBH2.out).mono ?_
            rintro e' w8 ⟨C8, N8, c8, rfl, hT8, hb8⟩
            have q8 := HQ7.out.below hb8 HQ7.out.lt
            obtain ⟨k0, k1, k2, k3, k4, k5⟩ := q8.facts
            have hk9 := keeps_set3 w8 gq' (.int .i64 (i : Int)) (.int .i64 (σs : Int)) (.slice C8 N8 c8)
            have hq9 := q8.set3 (.int .i64 (i : Int)) (.int .i64 (σs : Int)) (.slice C8 N8 c8)
            have ho9 := (HO7.out.below hb8 HO7.out.lt).keeps hk9 (by omega)
            have hy9 := (HY7.out.below hb8 HY7.out.lt).keeps hk9 (by omega)
            have hv9 := (HV7.out.below hb8 HV7.out.lt).keeps hk9 (by omega)
            have ht9 := own_set3 (own_below HT7.out hb8) q8 (by decide) (.int .i64 (i : Int)) (.int .i64 (σs : Int)) (.slice C8 N8 c8)
            have hb8w := HB7.out.trans (hb8.mono HB7.out.size)
            have hb9 := below_set3 hb8w (show w.heap.size ≤ gq' by omega) (.int .i64 (i : Int)) (.int .i64 (σs : Int)) (.slice C8 N8 c8)
            have hts9 := (TabAt.of_ownC (w0 := w) hT8).set3 q8 (show w.heap.size ≤ gq' by omega) hb8w.size (.int .i64 (i : Int)) (.int .i64 (σs : Int)) (.slice C8 N8 c8)
            obtain ⟨l0, l1, l2, _⟩ := hq9.facts
            have hs9 : ((((w8.setCell ⟨gq', 0, none⟩ (.int .i64 (i : Int))).setCell ⟨gq', 1, none⟩ (.int .i64 (σs : Int))).setCell ⟨gq', 2, none⟩ (.slice C8 N8 c8))).heap.size = w8.heap.size := by simp
            have hn9 := RuleAt.new ((((w8.setCell ⟨gq', 0, none⟩ (.int .i64 (i : Int))).setCell ⟨gq', 1, none⟩ (.int .i64 (σs : Int))).setCell ⟨gq', 2, none⟩ (.slice C8 N8 c8))) (.int .i64 (i : Int)) (.int .i64 (σs : Int)) (.slice C8 N8 c8)
            rw [hs9] at hn9
            have bb := (Below.refl ((((w8.setCell ⟨gq', 0, none⟩ (.int .i64 (i : Int))).setCell ⟨gq', 1, none⟩ (.int .i64 (σs : Int))).setCell ⟨gq', 2, none⟩ (.slice C8 N8 c8))).heap.size ((((w8.setCell ⟨gq', 0, none⟩ (.int .i64 (i : Int))).setCell ⟨gq', 1, none⟩ (.int .i64 (σs : Int))).setCell ⟨gq', 2, none⟩ (.slice C8 N8 c8)))).alloc (Nat.le_refl _) (.cells #[.int .i64 (i : Int), .int .i64 (σs : Int), .slice C8 N8 c8] 26)
            have HQ9 := Lib.hid hn9
            have HO9 := Lib.hid (ho9.alloc (.cells #[.int .i64 (i : Int), .int .i64 (σs : Int), .slice C8 N8 c8] 26))
            have HY9 := Lib.hid (hy9.alloc (.cells #[.int .i64 (i : Int), .int .i64 (σs : Int), .slice C8 N8 c8] 26))
            have HV9 := Lib.hid (hv9.below bb hv9.lt)
            have HT9 := Lib.hid (ht9.alloc (.cells #[.int .i64 (i : Int), .int .i64 (σs : Int), .slice C8 N8 c8] 26))
            have HTS9 := Lib.hid (hts9.pure bb hb9.size)
            have HB9 := Lib.hid (hb9.alloc hb9.size (.cells #[.int .i64 (i : Int), .int .i64 (σs : Int), .slice C8 N8 c8] 26))
            have HAR := Lib.hid (show ρo = 0 ∧ σs = 0 ∧ (e) + (s + s) * m = q from ⟨hE3.out.1, HS0.out, pow_even hE3.out.2.2 HTM2.out⟩)
            have HGL := Lib.hid (show gO < w8.heap.size from Nat.lt_of_lt_of_le (by simpa using hgl) hb8.size)
            unfold ruleV at *
            clear q8 hT8 hb8 hb8w hE3 hO hT hQ hTS hY hV hB hk9 hq9 ho9 hy9 hv9 ht9 hb9 hts9 hn9 bb z0 z1 z2
            go_wp2_with fail
            exact ⟨⟨m, e, s + s, ρo, σs, N, N8, cc, c8, w8.heap.size, C, C8, (by have := HTM2.out; omega), rfl, rfl, HGL.out, HAR, HO9, HT9, HQ9, HTS9, HY9, HV9, HB9⟩, by have := HTM2.out; simp [intOf]; omega⟩
        · have hp' : ¬ (0 : Int) < (τ : Int) := by omega
          have he : e = q := by
            have h1 := hE3.out.2.2
            have h2 : τ = 0 := by omega
            rw [h2, Nat.mul_zero, Nat.add_zero] at h1
            exact h1
          have hor : ρo = r := by rw [hE3.out.1, HRZ.out]
          have hT' := hT.out
          rw [he] at hT'
          obtain ⟨o0, o1, o2, _⟩ := hO.out.facts
          have hO' := hO.out
          rw [hor] at hO' o1
          clear hT hTS hQ hE3 he hO hor
          have hres := put6_res (w := w) hY.out hV.out (by omega) (by omega) hT' (by omega) (M := 0) (WantB.zero wr (w.heap.size + 3)) (by omega) hB.out (i : Int) (r : Int)
          have hpf := put6_facts hY.out hV.out (by omega) (.int .i64 (i : Int)) (.int .i64 (r : Int)) (.slice C N cc) (.int .i64 0) (.slice none 0 0) (.slice none 0 0)
          obtain ⟨d0, d1, d2, f0, f1, f2⟩ := (hV.out).facts
          obtain ⟨z0, z1, z2, z3, z4, z5⟩ := (hY.out).facts
          have HRS := Lib.hid hres
          have HPF := Lib.hid hpf
          have HPW := Lib.hid (show ((((((wr).setCell ⟨(w.heap.size + 1), 0, none⟩ (.int .i64 (i : Int))).setCell ⟨(w.heap.size + 1), 1, none⟩ (.int .i64 (r : Int))).setCell ⟨(w.heap.size + 1), 2, none⟩ (.slice C N cc)).setCell ⟨(w.heap.size + 1 + 1), 0, none⟩ (.int .i64 0)).setCell ⟨(w.heap.size + 1 + 1), 1, none⟩ (.slice none 0 0)).setCell ⟨(w.heap.size + 1 + 1), 2, none⟩ (.slice none 0 0) = put6 (wr) (w.heap.size + 1) (w.heap.size + 1 + 1) (.int .i64 (i : Int)) (.int .i64 (r : Int)) (.slice C N cc) (.int .i64 0) (.slice none 0 0) (.slice none 0 0) from rfl)
          clear hres hpf hT'
          go_wp2_with fail
          rw [HPW.out]
          obtain ⟨⟨s0, s1, s2, _⟩, s3, s4, s5, _⟩ := (⟨HPF.out.1.facts, HPF.out.2.facts⟩ : _ ∧ _)
          have HR := HRS.out
          exact bodyPost_ret (v := .tuple #[.agg #[.int .i64 (i : Int), .int .i64 (r : Int), .slice C N cc], .agg #[.int .i64 0, .slice none 0 0, .slice none 0 0]]) (by simp [results, Tryz.results25, go_sem, s0, s1, s2, s3, s4, s5]) rfl ⟨C, N, cc, 0, _, _, _, _, _, _, rfl, HR.1, HR.2.1, HR.2.2⟩

end Go.Proofs.YtpllojpgpejfmaaGreatDoor
