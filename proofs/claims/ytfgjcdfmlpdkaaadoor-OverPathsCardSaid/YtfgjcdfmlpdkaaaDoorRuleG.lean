/- The symbol of a window: rule.Local. Condition: table and window read from memory; the error variables hold what E says. -/
import Derived.Test.YtfgjcdfmlpdkaaaDoorRuleC
namespace Go.Proofs.YtfgjcdfmlpdkaaaDoor
open Go.RowKit RuleP

set_option maxRecDepth 100000 in
set_option maxHeartbeats 2000000 in
theorem local_bad (w : World) (E : Nat → Addr) (hE : Errs w E) (K R : Int) (A B : Option Addr) (n c m d : Nat) (T W : List Int) (hT : Sl w A n (T.map (Value.int .i64))) (hm : n ≤ 9223372036854775807) (hW : Sl w B m (W.map (Value.int .i64))) (hm2 : m ≤ 9223372036854775807)
    (t : Tale) (hbad : RuleP.local' K R T W = .error t) :
    Calls Tryd.prog 25 #[ruleV K R A n c, .slice B m d] w fun e w' => ∃ v, e = .returned (.tuple #[.int .i64 0, v]) ∧ ErrIs w' E t.1 t.2 v ∧ Below w.heap.size w w' := by
  have hl : W.length = m := by simpa using hW.1
  have HL := Lib.hid hl
  clear hl
  have hE1 : Errs (w.alloc (.cells #[.int .i64 K, .int .i64 R, .slice A n c] 24)) E := hE.below ((Below.refl _ _).alloc (Nat.le_refl _) _)
  have HE := Lib.hid hE1
  have hT1 := hT.alloc (.cells #[.int .i64 K, .int .i64 R, .slice A n c] 24)
  have HW := Lib.hid (hW.alloc (.cells #[.int .i64 K, .int .i64 R, .slice A n c] 24))
  have HCK := Lib.hid (check_c _ E hE1 K R A n c T hT1 hm)
  clear hE hE1 hT hT1 hW
  unfold ruleV at *
  unfold RuleP.local' at hbad
  cases ho : check K R T with
  | some t' =>
    rw [ho] at hbad HCK
    simp only [Except.error.injEq] at hbad
    subst hbad
    clear ho
    go_enter Tryd.func25, Tryd.ntmps25
    go_wp2_with fail
    refine (HCK.out).mono ?_
    rintro e w1 ⟨v, rfl, he, hb⟩
    obtain ⟨u, p, rfl⟩ := ErrIs.iface (show ErrIs w1 E t'.1 t'.2 v from he)
    have HP := Lib.hid (show ErrIs w1 E t'.1 t'.2 (.iface u p) from he)
    have HB := Lib.hid (below_box hb)
    clear he hb
    go_wp2_with fail
    go_ret2
    exact ⟨_, rfl, HP.out, HB.out⟩
  | none =>
    rw [ho] at hbad HCK
    simp only at hbad
    have HC0 := Lib.hid ho
    clear ho
    obtain ⟨k0, r0, t0, rfl, rfl, rfl, hr0⟩ := check_none HC0.out
    have hr3 := hr0.r3
    by_cases hbig : (m : Int) ≠ 2 * (r0 : Int) + 1
    · rw [if_pos (by rw [HL.out]; exact hbig)] at hbad
      have hne : ((m : Int) != 2 * (r0 : Int) + 1) = true := by simpa using hbig
      simp only [Except.error.injEq] at hbad
      subst hbad
      go_enter Tryd.func25, Tryd.ntmps25
      go_wp2_with fail
      refine (HCK.out).mono ?_
      rintro e w1 ⟨v, rfl, rfl, hb⟩
      obtain ⟨b0, b1, b2⟩ := box_cells hb
      have HE1 := Lib.hid (HE.out.below hb)
      have HB1 := Lib.hid (below_box hb)
      clear hb
      go_wp2_with fail
      refine (ruleWrong_c _ E HE1.out 0 3 (by decide) (by decide)).mono ?_
      rintro e w2 ⟨rfl, he, hb2⟩
      have HP := Lib.hid he
      have HB := Lib.hid (HB1.out.trans (hb2.mono HB1.out.size))
      clear he hb2
      go_wp2_with fail
      go_ret2
      exact ⟨_, rfl, HP.out, HB.out⟩
    · rw [if_neg (by rw [HL.out]; exact hbig)] at hbad
      have hne : ((m : Int) != 2 * (r0 : Int) + 1) = false := by simp; omega
      cases hod : odd (k0 : Int) W with
      | none => rw [hod] at hbad; simp at hbad
      | some i =>
        rw [hod] at hbad
        simp only [Except.error.injEq] at hbad
        subst hbad
        have HOD := Lib.hid (fun (wz : World) (hz : Sl wz B m (W.map (Value.int .i64))) => ruleOdd_c wz (k0 : Int) B m d W hz hm2)
        rw [hod] at HOD
        have hpl : place (some i) = (i : Int) := rfl
        rw [hpl] at HOD
        clear hod hpl
        go_enter Tryd.func25, Tryd.ntmps25
        go_wp2_with fail
        refine (HCK.out).mono ?_
        rintro e w1 ⟨v, rfl, rfl, hb⟩
        obtain ⟨b0, b1, b2⟩ := box_cells hb
        have HE1 := Lib.hid (HE.out.below hb)
        have HW1 := Lib.hid (HW.out.below hb)
        have HB1 := Lib.hid (below_box hb)
        clear hb
        go_wp2_with fail
        refine (HOD.out _ HW1.out).mono ?_
        rintro e w2 ⟨rfl, hb2⟩
        have HE2 := Lib.hid (HE1.out.below hb2)
        have HB2 := Lib.hid (HB1.out.trans (hb2.mono HB1.out.size))
        clear hb2 b0 b1 b2
        go_wp2_with fail
        refine (ruleWrong_c _ E HE2.out (i : Int) 2 (by decide) (by decide)).mono ?_
        rintro e w3 ⟨rfl, he, hb3⟩
        have HP := Lib.hid he
        have HB := Lib.hid (HB2.out.trans (hb3.mono HB2.out.size))
        clear he hb3
        go_wp2_with fail
        go_ret2
        exact ⟨_, rfl, HP.out, HB.out⟩


set_option maxRecDepth 100000 in
set_option maxHeartbeats 2000000 in
theorem local_good (w : World) (E : Nat → Addr) (hE : Errs w E) (k r : Nat) (A B : Option Addr) (n c m d : Nat) (t v : List Nat) (hr : IsRule k r t) (hv : ∀ x ∈ v, x < k) (hT : Sl w A n ((ints t).map (Value.int .i64))) (hW : Sl w B m ((ints v).map (Value.int .i64))) (hm : m = 2 * r + 1) :
    Calls Tryd.prog 25 #[ruleV k r A n c, .slice B m d] w fun e w' => e = .returned (.tuple #[.int .i64 ((t.getD (wval k v) 0 : Nat) : Int), .nilIface]) ∧ Below w.heap.size w w' := by
  have hl : v.length = m := by simpa [ints] using hW.1
  have hlt : t.length = n := by simpa [ints] using hT.1
  have hn := hr.le
  have hk1 := hr.k1
  have hk4 := hr.k4
  have hr3 := hr.r3
  rw [hlt] at hn
  have hE1 : Errs (w.alloc (.cells #[.int .i64 (k : Int), .int .i64 (r : Int), .slice A n c] 24)) E := hE.below ((Below.refl _ _).alloc (Nat.le_refl _) _)
  have hT1 := hT.alloc (.cells #[.int .i64 (k : Int), .int .i64 (r : Int), .slice A n c] 24)
  have hW1 := hW.alloc (.cells #[.int .i64 (k : Int), .int .i64 (r : Int), .slice A n c] 24)
  have hck := check_c _ E hE1 k r A n c (ints t) hT1 (by omega)
  rw [check_rule hr] at hck
  have HCK := Lib.hid hck
  have HOD := Lib.hid (fun (wz : World) (hz : Sl wz B m ((ints v).map (Value.int .i64))) => ruleOdd_c wz k B m d (ints v) hz (by omega))
  rw [odd_ints hv] at HOD
  have hpl : place none = -1 := rfl
  rw [hpl] at HOD
  have hne : ((m : Int) != 2 * (r : Int) + 1) = false := by simp; omega
  have hwl := wval_lt hv
  rw [hl, hm, ← hr.len, hlt] at hwl
  obtain ⟨Y, hY⟩ : ∃ Y, t.getD (wval k v) 0 = Y := ⟨_, rfl⟩
  rw [hY]
  have HY := Lib.hid hY
  clear hY
  have HL := Lib.hid hl
  have HM := Lib.hid hm
  have HLT := Lib.hid hlt
  have HR := Lib.hid hr
  have HV := Lib.hid hv
  have HW := Lib.hid hW1
  have hm7 : m ≤ 7 := by omega
  clear hE hE1 hT1 hck hpl hl hlt hr hv hW1 hm
  rw [ints_map] at hT hW
  unfold ruleV at *
  go_enter Tryd.func25, Tryd.ntmps25
  go_wp2_with fail
  refine (HCK.out).mono ?_
  rintro e w1 ⟨v', rfl, rfl, hb⟩
  obtain ⟨b0, b1, b2⟩ := box_cells hb
  have HW1 := Lib.hid (HW.out.below hb)
  go_wp2_with fail
  refine (HOD.out _ HW1.out).mono ?_
  rintro e w2 ⟨rfl, hb2⟩
  have hB2 := (below_box hb).trans (hb2.mono (below_box hb).size)
  have g0 := cell_later hb2 b0
  have g2 := cell_later hb2 b2
  clear hb hb2 b0 b1 b2 HW1 HW
  go_wp2_with fail
  go_loop [8, 34] (fun nv i => ∃ j : Nat, j ≤ m ∧ i = .int .i64 (j : Int) ∧ nv = .int .i64 ((wval k (v.take j) : Nat) : Int)) (fun _ i => m - (intOf i).toNat)
  case atStart => exact ⟨0, Nat.zero_le _, rfl, by simp [wval_nil]⟩
  case round =>
    obtain ⟨j, hj, rfl, rfl⟩ := hrel
    by_cases hlt : j < m
    · obtain ⟨adw, x, rfl, hxj, hcx⟩ := (hW.below hB2).word_ hlt
      have hxk : x < k := HV.out x (List.mem_of_getElem? hxj)
      have hs : wval k (v.take (j + 1)) = wval k (v.take j) * k + x := by
        rw [List.take_add_one, hxj]; exact wval_snoc _ _ _
      have hle : wval k (v.take (j + 1)) ≤ 16384 := by
        have h1 := wval_lt (k := k) (w := v.take (j + 1)) (fun y hy => HV.out y (List.mem_of_mem_take hy))
        have h2 : k ^ (v.take (j + 1)).length ≤ 4 ^ 7 := Nat.le_trans (Nat.pow_le_pow_left hk4 _) (Nat.pow_le_pow_right (by decide) (by rw [List.length_take]; omega))
        have h3 : 4 ^ 7 = 16384 := by decide
        omega
      obtain ⟨ρ, hρ⟩ : ∃ ρ, wval k (v.take j) = ρ := ⟨_, rfl⟩
      obtain ⟨σ, hσ⟩ : ∃ σ, wval k (v.take (j + 1)) = σ := ⟨_, rfl⟩
      rw [hρ, hσ] at hs
      rw [hσ] at hle
      rw [hρ]
      have hQ : (ρ : Int) * (k : Int) = ((ρ * k : Nat) : Int) := by simp
      obtain ⟨Q, hQQ⟩ : ∃ Q, ρ * k = Q := ⟨_, rfl⟩
      rw [hQQ] at hQ hs
      have hQl : Q ≤ 16384 := by omega
      have hsum : Hid ((Q : Int) + (x : Int) = (σ : Int)) := Lib.hid (by omega)
      have HS := Lib.hid hσ
      clear hs hρ hσ hQQ hxj
      go_wp2_with fail
      exact ⟨⟨j + 1, by omega, by go_num, by rw [HS.out, ← hsum.out]⟩, by simp [intOf]; omega⟩
    · obtain rfl : j = m := by omega
      have htk : v.take j = v := List.take_of_length_le (by rw [HL.out]; exact Nat.le_refl _)
      rw [htk]
      obtain ⟨adt, y, rfl, hyt, hcy⟩ := (hT.below hB2).word_ hwl
      have hget : Hid (Y = y) := Lib.hid (by rw [← HY.out, List.getD_eq_getElem?_getD, hyt]; rfl)
      obtain ⟨ρ, hρ⟩ : ∃ ρ, wval k v = ρ := ⟨_, rfl⟩
      rw [hρ] at hwl hcy ⊢
      clear htk hyt hρ
      go_wp2_with fail
      go_ret2
      exact ⟨by rw [hget.out]; rfl, hB2⟩
end Go.Proofs.YtfgjcdfmlpdkaaaDoor
