/- The document's answers of chapters 03 and 04: edenref03.Bad, edenref04.Power, Size, Check, Small. Condition: lists read from memory. -/
import Derived.Test.YtfgjcdfmlpdkaaaGreatDoorUnderW
namespace Go.Proofs.YtfgjcdfmlpdkaaaGreatDoor
open Go.RowKit RuleP

set_option maxRecDepth 100000 in
set_option maxHeartbeats 1000000 in
theorem power_c (w : World) (k n : Nat) (h1 : 1 ≤ k) (h2 : k ≤ 4) (h3 : n ≤ 8) :
    Calls Tryz.prog 51 #[.int .i64 (k : Int), .int .i64 (n : Int)] w fun e w' => e = .returned (.int .i64 ((k ^ n : Nat) : Int)) ∧ w = w' := by
  go_enter Tryz.func51, Tryz.ntmps51
  go_wp2_with fail
  go_loop [5, 6] (fun x i => ∃ j : Nat, j ≤ n ∧ i = .int .i64 (j : Int) ∧ x = .int .i64 ((k ^ j : Nat) : Int)) (fun _ i => n - (intOf i).toNat)
  case atStart => exact ⟨0, Nat.zero_le _, rfl, by simp⟩
  case round =>
    obtain ⟨j, hj, rfl, rfl⟩ := hrel
    by_cases hlt : j < n
    · have hp : ((k ^ j : Nat) : Int) * (k : Int) = ((k ^ (j + 1) : Nat) : Int) := by rw [Nat.pow_succ]; simp
      have hle : k ^ (j + 1) ≤ 65536 := Nat.le_trans (Nat.pow_le_pow_right h1 (show j + 1 ≤ 8 by omega)) (Nat.le_trans (Nat.pow_le_pow_left h2 8) (by decide))
      obtain ⟨P, hP⟩ : ∃ P, k ^ j = P := ⟨_, rfl⟩
      obtain ⟨Q, hQ⟩ : ∃ Q, k ^ (j + 1) = Q := ⟨_, rfl⟩
      rw [hP, hQ] at hp
      rw [hQ] at hle
      rw [hP]
      have HQ := Lib.hid hQ
      clear hQ hP
      go_wp2_with fail
      exact ⟨⟨j + 1, by omega, by go_num, by rw [HQ.out]⟩, by simp [intOf]; omega⟩
    · obtain rfl : j = n := by omega
      obtain ⟨Q, hQ⟩ : ∃ Q, k ^ j = Q := ⟨_, rfl⟩
      have HQ := Lib.hid hQ
      rw [hQ]
      clear hQ
      go_wp2_with fail
      go_ret
      exact ⟨by simp [← HQ.out], rfl⟩

set_option maxRecDepth 100000 in
set_option maxHeartbeats 1000000 in
theorem bad_c (w : World) (k : Int) (A : Option Addr) (n c : Nat) (W : List Int) (h : Sl w A n (W.map (Value.int .i64))) (hm : n ≤ 9223372036854775807) :
    Calls Tryz.prog 79 #[.int .i64 k, .slice A n c] w fun e w' => e = .returned (.int .i64 (place (odd k W))) ∧ ∃ q, w' = w.drewN q := by
  have hl : W.length = n := by simpa using h.1
  have HL := Lib.hid hl
  clear hl
  go_enter Tryz.func79, Tryz.ntmps79
  go_wp2_with fail
  go_loopw [5] (fun i wr => ∃ j q : Nat, j ≤ n ∧ i = .int .i64 (j : Int) ∧ wr = w.drewN q ∧ Hid (∀ (m : Nat) (x : Int), m < j → W[m]? = some x → 0 ≤ x ∧ x < k)) (fun i _ => n - (intOf i).toNat)
  case atStart => exact ⟨0, 0, Nat.zero_le _, rfl, rfl, Lib.hid (fun m x hm => by omega)⟩
  case round =>
    obtain ⟨j, q, hj, rfl, rfl, hs⟩ := hrel
    by_cases hlt : j < n
    · obtain ⟨ad, x, rfl, hxj, hcx⟩ := h.int_ hlt
      by_cases hx : 0 ≤ x ∧ x < k
      · obtain ⟨hx1, hx2⟩ := hx
        have d1 : decide (x < 0) = false := decide_eq_false (by omega)
        have d2 : decide (k ≤ x) = false := decide_eq_false (by omega)
        have hs2 : Hid (∀ (m : Nat) (y : Int), m < j + 1 → W[m]? = some y → 0 ≤ y ∧ y < k) := Lib.hid (fun m y hm hy => by
          rcases Nat.lt_or_ge m j with h1 | h1
          · exact hs.out m y h1 hy
          · obtain rfl : m = j := by omega
            rw [hxj] at hy; cases hy; exact ⟨hx1, hx2⟩)
        clear hxj hs
        go_wp2_with (go_quiet (fail))
        all_goals exact ⟨⟨j + 1, _, by omega, by go_num, by first | rfl | exact World.drewN_drewN _ _ _, hs2⟩, by simp [intOf]; omega⟩
      · have hp : Hid (place (odd k W) = (j : Int)) := Lib.hid (by
          unfold odd
          rw [List.findIdx?_eq_some_iff_getElem.2 ⟨by rw [HL.out]; exact hlt, by rw [(List.getElem?_eq_some_iff.1 hxj).2]; simp; omega, fun m hm => by
            have := hs.out m _ hm (List.getElem?_eq_getElem (by have := HL.out; omega))
            simp; omega⟩]
          rfl)
        have hx' : x < 0 ∨ (0 ≤ x ∧ k ≤ x) := by omega
        clear hx hs hxj
        rcases hx' with hx | ⟨hx, hx2⟩
        all_goals
          go_wp2_with (go_quiet (fail))
          all_goals go_ret
          all_goals exact ⟨by rw [hp.out]; rfl, _, by first | rfl | exact World.drewN_drewN _ _ _⟩
    · obtain rfl : j = n := by omega
      have hp : Hid (place (odd k W) = -1) := Lib.hid (by
        unfold odd
        rw [List.findIdx?_eq_none_iff.2 fun x hx => by
          obtain ⟨m, hm⟩ := List.getElem?_of_mem hx
          have := hs.out m x (by rw [← HL.out]; exact (List.getElem?_eq_some_iff.1 hm).1) hm
          simp; omega]
        rfl)
      clear hs
      go_wp2_with fail
      go_ret
      exact ⟨by rw [hp.out]; rfl, _, rfl⟩

/-- What is asked, of an answer's side. -/
def wantOf {α : Type} : Except Tale α → Option Tale
  | .ok _ => none
  | .error t => some t
def sizeN (K R : Int) : Int := match size K R with
  | .ok v => v
  | .error _ => 0

set_option maxRecDepth 100000 in
set_option maxHeartbeats 1000000 in
theorem refSize_c (w : World) (K R : Int) :
    Calls Tryz.prog 26 #[.int .i64 K, .int .i64 R] w fun e w' => ∃ (N : Nat) (A1 : Option Addr) (n1 c1 : Nat) (A2 : Option Addr) (n2 c2 : Nat), e = .returned (.tuple #[.int .i64 (sizeN K R), .agg #[.int .i64 (N : Int), .slice A1 n1 c1, .slice A2 n2 c2]]) ∧
      WantB w' w.heap.size (wantOf (size K R)) (.agg #[.int .i64 (N : Int), .slice A1 n1 c1, .slice A2 n2 c2]) ∧ Below w.heap.size w w' := by
  have hw0 := WantAt.new w (.int .i64 0) (.slice none 0 0) (.slice none 0 0)
  have hb0 := (Below.refl w.heap.size w).alloc (Nat.le_refl _) (.cells #[.int .i64 0, .slice none 0 0, .slice none 0 0] 32)
  by_cases hc : K < 1 ∨ 4 < K ∨ R < 0 ∨ 3 < R
  · have hs : Hid (sizeN K R = 0 ∧ wantOf (size K R) = some (3, [(sRule, 0)])) := Lib.hid (by unfold sizeN size; rw [if_pos hc]; exact ⟨rfl, rfl⟩)
    have hc' : K < 1 ∨ (1 ≤ K ∧ 4 < K) ∨ (1 ≤ K ∧ K ≤ 4 ∧ R < 0) ∨ (1 ≤ K ∧ K ≤ 4 ∧ 0 ≤ R ∧ 3 < R) := by omega
    have HN := Lib.hid (newB_c (w.alloc (.cells #[.int .i64 0, .slice none 0 0, .slice none 0 0] 32)) sRule 0 3)
    clear hc
    rcases hc' with h | ⟨h, h1⟩ | ⟨h, h1, h2⟩ | ⟨h, h1, h2, h3⟩
    all_goals
      go_enter Tryz.func26, Tryz.ntmps26
      go_wp2_with fail
      refine (HN.out).mono ?_
      rintro e w1 ⟨A1, n1, c1, A2, n2, c2, rfl, hu, hb1⟩
      have hw1 := hw0.below hb1 (by simp)
      have hu2 := hu.set3 (g := w.heap.size) (by simp) (.int .i64 3) (.slice A1 n1 c1) (.slice A2 n2 c2)
      have hb2 := below_set3 (hb0.trans (hb1.mono (by simp))) (Nat.le_refl _) (.int .i64 3) (.slice A1 n1 c1) (.slice A2 n2 c2)
      obtain ⟨d0, d1, d2, f0, f1, f2⟩ := hw1.facts
      have HU := Lib.hid (hu2.base (base' := w.heap.size) (by simp))
      have HB := Lib.hid hb2
      clear hu hu2 hb1 hb2 hw1 hw0 hb0
      go_wp2_with fail
      exact bodyPost_ret (v := .tuple #[.int .i64 0, .agg #[.int .i64 3, .slice A1 n1 c1, .slice A2 n2 c2]]) (by simp [results, Tryz.results26, go_sem, d0, d1, d2]) rfl ⟨3, A1, n1, c1, A2, n2, c2, by rw [hs.out.1]; rfl, by rw [hs.out.2]; exact HU.out, HB.out⟩
  · obtain ⟨k, rfl⟩ : ∃ k : Nat, K = (k : Int) := ⟨K.toNat, by omega⟩
    obtain ⟨r, rfl⟩ : ∃ r : Nat, R = (r : Int) := ⟨R.toNat, by omega⟩
    have hs : Hid (sizeN k r = ((k ^ (2 * r + 1) : Nat) : Int) ∧ wantOf (size (k : Int) (r : Int)) = none) := Lib.hid (by unfold sizeN size; rw [if_neg hc]; exact ⟨rfl, rfl⟩)
    have hk1 : 1 ≤ k := by omega
    have hk4 : k ≤ 4 := by omega
    have hr3 : r ≤ 3 := by omega
    have hp := power_c (w.alloc (.cells #[.int .i64 0, .slice none 0 0, .slice none 0 0] 32)) k (2 * r + 1) hk1 hk4 (by omega)
    rw [show ((2 * r + 1 : Nat) : Int) = 2 * (r : Int) + 1 from by omega] at hp
    obtain ⟨L, hL⟩ : ∃ L, k ^ (2 * r + 1) = L := ⟨_, rfl⟩
    rw [hL] at hp hs
    have HP := Lib.hid hp
    obtain ⟨d0, d1, d2, f0, f1, f2⟩ := hw0.facts
    have HB := Lib.hid hb0
    clear hc hp hL hw0 hb0
    go_enter Tryz.func26, Tryz.ntmps26
    go_wp2_with fail
    refine (HP.out).mono ?_
    rintro e w1 ⟨rfl, rfl⟩
    go_wp2_with fail
    exact bodyPost_ret (v := .tuple #[.int .i64 (L : Int), .agg #[.int .i64 0, .slice none 0 0, .slice none 0 0]]) (by simp [results, Tryz.results26, go_sem, d0, d1, d2]) rfl ⟨0, none, 0, 0, none, 0, 0, by rw [hs.out.1]; rfl, by rw [hs.out.2]; exact WantB.zero _ _, HB.out⟩

set_option maxRecDepth 100000 in
set_option maxHeartbeats 2000000 in
theorem refCheck_c (w : World) (K R : Int) (A : Option Addr) (n c : Nat) (T : List Int) (hT : Sl w A n (T.map (Value.int .i64))) (hm : n ≤ 9223372036854775807) :
    Calls Tryz.prog 69 #[ruleV K R A n c] w fun e w' => ∃ (N : Nat) (A1 : Option Addr) (n1 c1 : Nat) (A2 : Option Addr) (n2 c2 : Nat), e = .returned (.agg #[.int .i64 (N : Int), .slice A1 n1 c1, .slice A2 n2 c2]) ∧
      WantB w' w.heap.size (check K R T) (.agg #[.int .i64 (N : Int), .slice A1 n1 c1, .slice A2 n2 c2]) ∧ Below w.heap.size w w' := by
  have hl : T.length = n := by simpa using hT.1
  have HL := Lib.hid hl
  clear hl
  have hr0 := (RuleAt.new w (.int .i64 K) (.int .i64 R) (.slice A n c)).alloc (.cells #[.int .i64 0, .slice none 0 0, .slice none 0 0] 32)
  have hw0 := WantAt.new (w.alloc (.cells #[.int .i64 K, .int .i64 R, .slice A n c] 24)) (.int .i64 0) (.slice none 0 0) (.slice none 0 0)
  rw [World.size_alloc] at hw0
  have hb0 := ((Below.refl w.heap.size w).alloc (Nat.le_refl _) (.cells #[.int .i64 K, .int .i64 R, .slice A n c] 24)).alloc (by simp) (.cells #[.int .i64 0, .slice none 0 0, .slice none 0 0] 32)
  have hT0 := (hT.alloc (.cells #[.int .i64 K, .int .i64 R, .slice A n c] 24)).alloc (.cells #[.int .i64 0, .slice none 0 0, .slice none 0 0] 32)
  obtain ⟨r0, r1, r2, _⟩ := hr0.facts
  obtain ⟨wx, hwx⟩ : ∃ wx, (w.alloc (.cells #[.int .i64 K, .int .i64 R, .slice A n c] 24)).alloc (.cells #[.int .i64 0, .slice none 0 0, .slice none 0 0] 32) = wx := ⟨_, rfl⟩
  have hsx : wx.heap.size = w.heap.size + 2 := by rw [← hwx]; simp
  have HWX := Lib.hid hwx
  rw [hwx] at hr0 hw0 hb0 hT0
  have fin : ∀ (wz : World) (i : Int) (w1 : World) (A1 : Option Addr) (n1 c1 : Nat) (A2 : Option Addr) (n2 c2 : Nat), Below wx.heap.size wx wz →
      WantB w1 wz.heap.size (some (1, [(sRule, i)])) (.agg #[.int .i64 1, .slice A1 n1 c1, .slice A2 n2 c2]) → Below wz.heap.size wz w1 → check K R T = some (1, [(sRule, i)]) →
      WantAt w1 (w.heap.size + 1) (.int .i64 0) (.slice none 0 0) (.slice none 0 0) ∧ Hid (WantB (((w1.setCell ⟨w.heap.size + 1, 0, none⟩ (.int .i64 1)).setCell ⟨w.heap.size + 1, 1, none⟩ (.slice A1 n1 c1)).setCell ⟨w.heap.size + 1, 2, none⟩ (.slice A2 n2 c2)) w.heap.size (check K R T) (.agg #[.int .i64 1, .slice A1 n1 c1, .slice A2 n2 c2])) ∧
      Hid (Below w.heap.size w (((w1.setCell ⟨w.heap.size + 1, 0, none⟩ (.int .i64 1)).setCell ⟨w.heap.size + 1, 1, none⟩ (.slice A1 n1 c1)).setCell ⟨w.heap.size + 1, 2, none⟩ (.slice A2 n2 c2))) := fun wz i w1 A1 n1 c1 A2 n2 c2 hz hu hb hc => by
    have hs := hz.size
    have hzz : Below w.heap.size w wz := hb0.trans (hz.mono (by omega))
    refine ⟨(hw0.below hz (by omega)).below hb (by omega), Lib.hid ?_, Lib.hid (below_set3 (hzz.trans (hb.mono hzz.size)) (Nat.le_succ _) _ _ _)⟩
    rw [hc]
    exact (hu.set3 (g := w.heap.size + 1) (by omega) _ _ _).base (by omega)
  have FIN := Lib.hid fin
  have HW0 := Lib.hid hw0
  have HB0 := Lib.hid hb0
  have HT0 := Lib.hid hT0
  clear fin hw0 hb0 hT hT0 hr0 hwx
  unfold ruleV
  by_cases hk : K < 1 ∨ 4 < K
  · have hc : Hid (check K R T = some (1, [(sRule, 0)])) := Lib.hid (by unfold check; rw [if_pos hk])
    have hk' : K < 1 ∨ (1 ≤ K ∧ 4 < K) := by omega
    clear hk
    rcases hk' with hk | ⟨hk, hk'⟩
    all_goals
      go_enter Tryz.func69, Tryz.ntmps69
      go_wp2_with fail
      rw [HWX.out]
      refine (newB_c wx sRule 0 1).mono ?_
      rintro e w1 ⟨A1, n1, c1, A2, n2, c2, rfl, hu, hb1⟩
      obtain ⟨hw1, HU, HB⟩ := FIN.out _ 0 w1 A1 n1 c1 A2 n2 c2 (Below.refl _ _) hu hb1 hc.out
      obtain ⟨d0, d1, d2, f0, f1, f2⟩ := hw1.facts
      clear hu hb1 hw1
      go_wp2_with fail
      exact bodyPost_ret (v := .agg #[.int .i64 1, .slice A1 n1 c1, .slice A2 n2 c2]) (by simp [results, Tryz.results69, go_sem, d0, d1, d2]) rfl ⟨1, A1, n1, c1, A2, n2, c2, rfl, HU.out, HB.out⟩
  by_cases hr : R < 0 ∨ 3 < R
  · have hc : Hid (check K R T = some (1, [(sRule, 1)])) := Lib.hid (by unfold check; rw [if_neg hk, if_pos hr])
    have hr' : R < 0 ∨ (0 ≤ R ∧ 3 < R) := by omega
    have hk1 : 1 ≤ K := by omega
    have hk4 : K ≤ 4 := by omega
    clear hk hr
    rcases hr' with hr | ⟨hr, hr'⟩
    all_goals
      go_enter Tryz.func69, Tryz.ntmps69
      go_wp2_with fail
      rw [HWX.out]
      refine (newB_c wx sRule 1 1).mono ?_
      rintro e w1 ⟨A1, n1, c1, A2, n2, c2, rfl, hu, hb1⟩
      obtain ⟨hw1, HU, HB⟩ := FIN.out _ 1 w1 A1 n1 c1 A2 n2 c2 (Below.refl _ _) hu hb1 hc.out
      obtain ⟨d0, d1, d2, f0, f1, f2⟩ := hw1.facts
      clear hu hb1 hw1
      go_wp2_with fail
      exact bodyPost_ret (v := .agg #[.int .i64 1, .slice A1 n1 c1, .slice A2 n2 c2]) (by simp [results, Tryz.results69, go_sem, d0, d1, d2]) rfl ⟨1, A1, n1, c1, A2, n2, c2, rfl, HU.out, HB.out⟩
  obtain ⟨k, rfl⟩ : ∃ k : Nat, K = (k : Int) := ⟨K.toNat, by omega⟩
  obtain ⟨r, rfl⟩ : ∃ r : Nat, R = (r : Int) := ⟨R.toNat, by omega⟩
  have hk1 : 1 ≤ k := by omega
  have hk4 : k ≤ 4 := by omega
  have hr3 : r ≤ 3 := by omega
  have hpw := fun wz => power_c wz k (2 * r + 1) hk1 hk4 (by omega)
  rw [show ((2 * r + 1 : Nat) : Int) = 2 * (r : Int) + 1 from by omega] at hpw
  obtain ⟨L, hL⟩ : ∃ L, k ^ (2 * r + 1) = L := ⟨_, rfl⟩
  rw [hL] at hpw
  have HPW := Lib.hid hpw
  by_cases hn : T.length ≠ k ^ (2 * r + 1)
  · have hc : Hid (check (k : Int) (r : Int) T = some (1, [(sRule, 2)])) := Lib.hid (by unfold check; rw [if_neg hk, if_neg hr, if_pos (by simpa using hn)])
    rw [hL] at hn
    have hne : ((n : Int) != (L : Int)) = true := by have := HL.out; simp; omega
    clear hk hr hL hpw hn
    go_enter Tryz.func69, Tryz.ntmps69
    go_wp2_with (go_quiet ((go_at_call 51; exact Calls.quiet_of_same ((HPW.out _).mono fun _ _ h => ⟨h.1, h.2.symm⟩))))
    rw [HWX.out]
    refine (newB_c (wx.drewN nq) sRule 2 1).mono ?_
    rintro e w1 ⟨A1, n1, c1, A2, n2, c2, rfl, hu, hb1⟩
    obtain ⟨hw1, HU, HB⟩ := FIN.out _ 2 w1 A1 n1 c1 A2 n2 c2 (pure_drewN _ _) hu hb1 hc.out
    obtain ⟨d0, d1, d2, f0, f1, f2⟩ := hw1.facts
    clear hu hb1 hw1
    go_wp2_with fail
    exact bodyPost_ret (v := .agg #[.int .i64 1, .slice A1 n1 c1, .slice A2 n2 c2]) (by simp [results, Tryz.results69, go_sem, d0, d1, d2]) rfl ⟨1, A1, n1, c1, A2, n2, c2, rfl, HU.out, HB.out⟩
  have hn' : T.length = k ^ (2 * r + 1) := Decidable.not_not.1 hn
  have hc : check (k : Int) (r : Int) T = match odd (k : Int) T with
      | some i => some (1, [(sRule, 3 + (i : Int))])
      | none => none := by unfold check; rw [if_neg hk, if_neg hr, if_neg (by simpa using hn)]; cases odd (k : Int) T <;> rfl
  rw [hL] at hn'
  have hne : ((n : Int) != (L : Int)) = false := by have := HL.out; simp; omega
  have hle : n ≤ 16384 := by
    have := pow_le (k := k) (r := r) hk4 hr3
    have := HL.out
    omega
  have HOD := Lib.hid (fun q => bad_c (wx.drewN q) (k : Int) A n c T (HT0.out.drewN q) hm)
  clear hk hr hn hn' hL hpw
  cases ho : odd (k : Int) T with
  | some i =>
    rw [ho] at hc HOD
    have HC := Lib.hid hc
    have hi : i < n := by have := odd_some ho; have := HL.out; omega
    have hpl : place (some i) = (i : Int) := rfl
    rw [hpl] at HOD
    clear hc ho hpl
    go_enter Tryz.func69, Tryz.ntmps69
    go_wp2_with (go_quiet ((go_at_call 51; exact Calls.quiet_of_same ((HPW.out _).mono fun _ _ h => ⟨h.1, h.2.symm⟩))))
    rw [HWX.out]
    refine (HOD.out nq).mono ?_
    rintro e w3 ⟨rfl, q3, rfl⟩
    go_wp2_with fail
    refine (newB_c (wx.drewN (nq + q3)) sRule (3 + (i : Int)) 1).mono ?_
    rintro e w1 ⟨A1, n1, c1, A2, n2, c2, rfl, hu, hb1⟩
    obtain ⟨hw1, HU, HB⟩ := FIN.out _ (3 + (i : Int)) w1 A1 n1 c1 A2 n2 c2 (pure_drewN _ _) hu hb1 HC.out
    obtain ⟨d0, d1, d2, f0, f1, f2⟩ := hw1.facts
    clear hu hb1 hw1
    go_wp2_with fail
    exact bodyPost_ret (v := .agg #[.int .i64 1, .slice A1 n1 c1, .slice A2 n2 c2]) (by simp [results, Tryz.results69, go_sem, d0, d1, d2]) rfl ⟨1, A1, n1, c1, A2, n2, c2, rfl, HU.out, HB.out⟩
  | none =>
    rw [ho] at hc HOD
    have HC := Lib.hid hc
    have hpl : place none = -1 := rfl
    rw [hpl] at HOD
    obtain ⟨d0, d1, d2, f0, f1, f2⟩ := HW0.out.facts
    clear hc ho hpl
    go_enter Tryz.func69, Tryz.ntmps69
    go_wp2_with (go_quiet ((go_at_call 51; exact Calls.quiet_of_same ((HPW.out _).mono fun _ _ h => ⟨h.1, h.2.symm⟩))))
    rw [HWX.out]
    refine (HOD.out nq).mono ?_
    rintro e w3 ⟨rfl, q3, rfl⟩
    go_wp2_with fail
    exact bodyPost_ret (v := .agg #[.int .i64 0, .slice none 0 0, .slice none 0 0]) (by simp [results, Tryz.results69, go_sem, d0, d1, d2]) rfl ⟨0, none, 0, 0, none, 0, 0, rfl, by rw [HC.out]; exact WantB.zero _ _, below_set3 (below_drewN HB0.out _) (Nat.le_succ _) _ _ _⟩

set_option maxRecDepth 100000 in
set_option maxHeartbeats 2000000 in
theorem refSmall_c (w : World) (K R : Int) (A : Option Addr) (n c : Nat) (T : List Int) (hT : Sl w A n (T.map (Value.int .i64))) (hm : n ≤ 9223372036854775807) :
    Calls Tryz.prog 42 #[ruleV K R A n c] w fun e w' => ∃ (N : Nat) (A1 : Option Addr) (n1 c1 : Nat) (A2 : Option Addr) (n2 c2 : Nat), e = .returned (.agg #[.int .i64 (N : Int), .slice A1 n1 c1, .slice A2 n2 c2]) ∧
      WantB w' w.heap.size (small K R T) (.agg #[.int .i64 (N : Int), .slice A1 n1 c1, .slice A2 n2 c2]) ∧ Below w.heap.size w w' := by
  have hl : T.length = n := by simpa using hT.1
  have HL := Lib.hid hl
  clear hl
  have hr0 := (RuleAt.new w (.int .i64 K) (.int .i64 R) (.slice A n c)).alloc (.cells #[.int .i64 0, .slice none 0 0, .slice none 0 0] 32)
  have hw0 := WantAt.new (w.alloc (.cells #[.int .i64 K, .int .i64 R, .slice A n c] 24)) (.int .i64 0) (.slice none 0 0) (.slice none 0 0)
  rw [World.size_alloc] at hw0
  have hb0 := ((Below.refl w.heap.size w).alloc (Nat.le_refl _) (.cells #[.int .i64 K, .int .i64 R, .slice A n c] 24)).alloc (by simp) (.cells #[.int .i64 0, .slice none 0 0, .slice none 0 0] 32)
  have hT0 := (hT.alloc (.cells #[.int .i64 K, .int .i64 R, .slice A n c] 24)).alloc (.cells #[.int .i64 0, .slice none 0 0, .slice none 0 0] 32)
  obtain ⟨wx, hwx⟩ : ∃ wx, (w.alloc (.cells #[.int .i64 K, .int .i64 R, .slice A n c] 24)).alloc (.cells #[.int .i64 0, .slice none 0 0, .slice none 0 0] 32) = wx := ⟨_, rfl⟩
  have hsx : wx.heap.size = w.heap.size + 2 := by rw [← hwx]; simp
  have HWX := Lib.hid hwx
  rw [hwx] at hr0 hw0 hb0 hT0
  have HC := Lib.hid (refCheck_c wx K R A n c T hT0 hm)
  have HW0 := Lib.hid hw0
  have HB0 := Lib.hid hb0
  have HR0 := Lib.hid hr0
  obtain ⟨r0, r1, r2, _⟩ := hr0.facts
  clear hw0 hb0 hT hT0 hr0 hwx
  unfold ruleV at *
  go_enter Tryz.func42, Tryz.ntmps42
  go_wp2_with fail
  rw [HWX.out]
  refine (HC.out).mono ?_
  rintro e w1 ⟨N, A1, n1, c1, A2, n2, c2, rfl, hu, hb1⟩
  have hw1 := HW0.out.below hb1 (by omega)
  have hr1 := HR0.out.below hb1 (by omega)
  have hw2 := hw1.alloc (.cells #[.int .i64 (N : Int), .slice A1 n1 c1, .slice A2 n2 c2] 32)
  have hr2 := hr1.alloc (.cells #[.int .i64 (N : Int), .slice A1 n1 c1, .slice A2 n2 c2] 32)
  have hv2 := WantAt.new w1 (.int .i64 (N : Int)) (.slice A1 n1 c1) (.slice A2 n2 c2)
  have hb2 := (HB0.out.trans (hb1.mono HB0.out.size)).alloc (by have := HB0.out.size; have := hb1.size; omega) (.cells #[.int .i64 (N : Int), .slice A1 n1 c1, .slice A2 n2 c2] 32)
  have hu2 := hu.below ((Below.refl w1.heap.size w1).alloc (Nat.le_refl _) (.cells #[.int .i64 (N : Int), .slice A1 n1 c1, .slice A2 n2 c2] 32))
  obtain ⟨wy, hwy⟩ : ∃ wy, w1.alloc (.cells #[.int .i64 (N : Int), .slice A1 n1 c1, .slice A2 n2 c2] 32) = wy := ⟨_, rfl⟩
  have HWY := Lib.hid hwy
  have hsy : w1.heap.size < wy.heap.size := by rw [← hwy]; simp
  have hs1 := hb1.size
  rw [hwy] at hw2 hr2 hv2 hb2 hu2
  have HBAD := Lib.hid (errBad_c wy N A1 n1 c1 A2 n2 c2)
  have HW2 := Lib.hid hw2
  have HR2 := Lib.hid hr2
  have HV2 := Lib.hid hv2
  have HB2 := Lib.hid hb2
  have HU2 := Lib.hid hu2
  obtain ⟨v0, v1, v2, _⟩ := hv2.facts
  clear hw1 hr1 hw2 hr2 hv2 hb2 hu2 hu hb1 hwy r0 r1 r2
  have hN := HU2.out.num
  cases ho : check K R T with
  | some t =>
    have hs : Hid (small K R T = check K R T) := Lib.hid (by unfold small; rw [ho])
    rw [ho] at hN
    have ht := (check_ok K R T t ho).1
    have hNz : decide (N ≠ 0) = true := decide_eq_true (by simp only [tnum] at hN; omega)
    rw [hNz] at HBAD
    clear ho hN ht hNz
    go_wp2_with fail
    rw [HWY.out]
    refine (HBAD.out).mono ?_
    rintro e w3 ⟨rfl, hb3⟩
    have g0 := cell_later hb3 v0
    have g1 := cell_later hb3 v1
    have g2 := cell_later hb3 v2
    obtain ⟨d0, d1, d2, f0, f1, f2⟩ := (HW2.out.below hb3 (by omega)).facts
    have HU := Lib.hid (((HU2.out.below hb3).set3 (g := w.heap.size + 1) (by omega) (.int .i64 (N : Int)) (.slice A1 n1 c1) (.slice A2 n2 c2)).base (base' := w.heap.size) (by omega))
    have HB := Lib.hid (below_set3 (HB2.out.trans (hb3.mono HB2.out.size)) (Nat.le_succ _) (.int .i64 (N : Int)) (.slice A1 n1 c1) (.slice A2 n2 c2))
    clear v0 v1 v2 hb3
    go_wp2_with fail
    exact bodyPost_ret (v := .agg #[.int .i64 (N : Int), .slice A1 n1 c1, .slice A2 n2 c2]) (by simp [results, Tryz.results42, go_sem, d0, d1, d2]) rfl ⟨N, A1, n1, c1, A2, n2, c2, rfl, by rw [hs.out]; exact HU.out, HB.out⟩
  | none =>
    rw [ho] at hN
    obtain rfl : N = 0 := hN
    obtain ⟨rfl, rfl, rfl, rfl, rfl, rfl⟩ : A1 = none ∧ n1 = 0 ∧ c1 = 0 ∧ A2 = none ∧ n2 = 0 ∧ c2 = 0 := by
      have := HU2.out
      rw [ho] at this
      have e := this.none_eq
      simp at e
      obtain ⟨⟨q1, q2, q3⟩, q4, q5, q6⟩ := e
      exact ⟨q1, q2, q3, q4, q5, q6⟩
    rw [show decide ((0 : Nat) ≠ 0) = false from rfl, show ((0 : Nat) : Int) = 0 from rfl] at HBAD
    rw [show ((0 : Nat) : Int) = 0 from rfl] at HWY v0
    by_cases h256 : 256 < n
    · have hs : Hid (small K R T = some (4, [(sRule, 0)])) := Lib.hid (by unfold small; rw [ho]; simp only; rw [if_pos (by rw [HL.out]; exact h256)])
      clear ho
      go_wp2_with fail
      rw [HWY.out]
      refine (HBAD.out).mono ?_
      rintro e w3 ⟨rfl, hb3⟩
      have g0 := cell_later hb3 v0
      have g1 := cell_later hb3 v1
      have g2 := cell_later hb3 v2
      obtain ⟨r0, r1, r2, _⟩ := (HR2.out.below hb3 (by omega)).facts
      have HW3 := Lib.hid (HW2.out.below hb3 (by omega))
      have HB3 := Lib.hid (HB2.out.trans (hb3.mono HB2.out.size))
      clear v0 v1 v2
      go_wp2_with fail
      refine (newB_c w3 sRule 0 4).mono ?_
      rintro e w4 ⟨A1, n1, c1, A2, n2, c2, rfl, hu, hb4⟩
      obtain ⟨d0, d1, d2, f0, f1, f2⟩ := (HW3.out.below hb4 (by have := hb3.size; omega)).facts
      have HU := Lib.hid ((hu.set3 (g := w.heap.size + 1) (by have := hb3.size; omega) (.int .i64 4) (.slice A1 n1 c1) (.slice A2 n2 c2)).base (base' := w.heap.size) (by have := hb3.size; omega))
      have HB := Lib.hid (below_set3 (HB3.out.trans (hb4.mono HB3.out.size)) (Nat.le_succ _) (.int .i64 4) (.slice A1 n1 c1) (.slice A2 n2 c2))
      clear hu hb3 hb4
      go_wp2_with fail
      exact bodyPost_ret (v := .agg #[.int .i64 4, .slice A1 n1 c1, .slice A2 n2 c2]) (by simp [results, Tryz.results42, go_sem, d0, d1, d2]) rfl ⟨4, A1, n1, c1, A2, n2, c2, rfl, by rw [hs.out]; exact HU.out, HB.out⟩
    · have hs : Hid (small K R T = none) := Lib.hid (by unfold small; rw [ho]; simp only; rw [if_neg (by rw [HL.out]; exact h256)])
      clear ho
      go_wp2_with fail
      rw [HWY.out]
      refine (HBAD.out).mono ?_
      rintro e w3 ⟨rfl, hb3⟩
      have g0 := cell_later hb3 v0
      have g1 := cell_later hb3 v1
      have g2 := cell_later hb3 v2
      obtain ⟨r0, r1, r2, _⟩ := (HR2.out.below hb3 (by omega)).facts
      obtain ⟨d0, d1, d2, f0, f1, f2⟩ := (HW2.out.below hb3 (by omega)).facts
      have HB := Lib.hid (below_set3 (HB2.out.trans (hb3.mono HB2.out.size)) (Nat.le_succ _) (.int .i64 0) (.slice none 0 0) (.slice none 0 0))
      clear v0 v1 v2 hb3
      go_wp2_with fail
      exact bodyPost_ret (v := .agg #[.int .i64 0, .slice none 0 0, .slice none 0 0]) (by simp [results, Tryz.results42, go_sem, d0, d1, d2]) rfl ⟨0, none, 0, 0, none, 0, 0, rfl, by rw [hs.out]; exact WantB.zero _ _, HB.out⟩
end Go.Proofs.YtfgjcdfmlpdkaaaGreatDoor
