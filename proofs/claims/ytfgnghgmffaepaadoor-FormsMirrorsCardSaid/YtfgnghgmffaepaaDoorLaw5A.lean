/- The laws' helper awake of chapter 05: it returns true. Condition: the error variables hold what E says. -/
import Derived.Test.YtfgnghgmffaepaaDoorFormE
import Derived.Test.YtfgnghgmffaepaaDoorTextR
import Derived.Test.YtfgnghgmffaepaaDoorLaw4A
namespace Go.Proofs.YtfgnghgmffaepaaDoor
open Go.RowKit RuleP NatP

theorem rule124 : IsRule 2 1 [0, 0, 1, 1, 1, 1, 1, 0] := ⟨by decide, by decide, by decide, by decide, by decide⟩
theorem mir110 : mir 2 1 [0, 1, 1, 1, 0, 1, 1, 0] = [0, 0, 1, 1, 1, 1, 1, 0] := by decide
theorem text124 : textR 2 1 [0, 0, 1, 1, 1, 1, 1, 0] = [50, 46, 49, 46, 49, 50, 52] := by
  unfold textR headT
  rw [show valB 2 [0, 0, 1, 1, 1, 1, 1, 0] = 124 by decide]
  decide

set_option maxRecDepth 100000 in
set_option maxHeartbeats 2000000 in
theorem awake5_c (w : World) (E : Nat → Addr) (hE : Errs w E) :
    Calls Tryd.prog 6 #[] w fun e w' => e = .returned (.bool true) ∧ Below w.heap.size w w' := by
  have HE := Lib.hid (fun (wz : World) (hz : Below w.heap.size w wz) => hE.below hz)
  have hp := parse_ok w E hE l110 2 1 110 (by decide) (by decide) ⟨50, rfl, rfl⟩ ⟨49, rfl, rfl⟩ (by decide) (by decide) (by decide) (by decide) parse110 (by decide)
  rw [show (2 : Nat) ^ (2 * 1 + 1) = 8 from rfl, dig110] at hp
  have HP := Lib.hid hp
  clear hE hp
  go_enter Tryd.func6, Tryd.ntmps6
  go_wp2_with fail
  refine (HP.out).mono ?_
  rintro e w1 ⟨A, c, rfl, ho1, hb1⟩
  have hb2 := hb1.alloc hb1.size (.cells #[.int .i64 2, .int .i64 1, .slice A 8 c] 24)
  have ho2 := ho1.alloc (.cells #[.int .i64 2, .int .i64 1, .slice A 8 c] 24)
  obtain ⟨w2, hw2⟩ : ∃ w2, w1.alloc (.cells #[.int .i64 2, .int .i64 1, .slice A 8 c] 24) = w2 := ⟨_, rfl⟩
  rw [hw2] at hb2 ho2
  have hmi := mirror_good w2 E (HE.out _ hb2) 2 1 A 8 c [0, 1, 1, 1, 0, 1, 1, 0] rule110 (Sl.of_own ho2)
  rw [mir110] at hmi
  unfold ruleV at hmi
  have HMI := Lib.hid hmi
  have HW2 := Lib.hid hw2
  have HB2 := Lib.hid hb2
  clear hmi hw2 hb2 ho1 ho2 hb1
  unfold ruleV
  go_wp2_with fail
  rw [HW2.out]
  refine (HMI.out).mono ?_
  rintro e w3 ⟨C, N, cc, v3, rfl, ho3, he3, hb3'⟩
  have he3' : v3 = .nilIface := he3
  have hN : N = 8 := (Sl.of_own ho3).1.symm
  clear he3
  subst he3' hN
  have hb3 := HB2.out.trans (hb3'.mono HB2.out.size)
  have hb4 := hb3.alloc hb3.size (.cells #[.int .i64 2, .int .i64 1, .slice C 8 cc] 24)
  have ho4 := ho3.alloc (.cells #[.int .i64 2, .int .i64 1, .slice C 8 cc] 24)
  obtain ⟨w4, hw4⟩ : ∃ w4, w3.alloc (.cells #[.int .i64 2, .int .i64 1, .slice C 8 cc] 24) = w4 := ⟨_, rfl⟩
  rw [hw4] at hb4 ho4
  have htx := ruleText_good w4 E (HE.out _ hb4) 2 1 C 8 cc [0, 0, 1, 1, 1, 1, 1, 0] rule124 (by decide) (Sl.of_own ho4)
  rw [text124] at htx
  unfold ruleV at htx
  have HTX := Lib.hid htx
  have HW4 := Lib.hid hw4
  have HB4 := Lib.hid hb4
  clear htx hw4 hb4 ho3 ho4 hb3 hb3'
  unfold ruleV
  go_wp2_with fail
  rw [HW4.out]
  refine (HTX.out).mono ?_
  rintro e w5 ⟨rfl, hb5'⟩
  have hb5 := HB4.out.trans (hb5'.mono HB4.out.size)
  have hsh := shift_big w5 E (HE.out _ hb5) 2 4 (by decide) (by decide)
  rw [show ((4 : Nat) : Int) = 4 from rfl] at hsh
  have HSH := Lib.hid hsh
  have HB5 := Lib.hid hb5
  clear hsh hb5 hb5'
  go_wp2_with fail
  refine (HSH.out).mono ?_
  rintro e w6 ⟨C6, N6, cc6, v6, rfl, ho6, he6, hb6'⟩
  have he6' : ErrIs w6 E 3 [(sForms, 0)] v6 := he6
  obtain ⟨u, p, rfl⟩ := he6'.iface
  have HB6 := Lib.hid ((HB5.out.trans (hb6'.mono HB5.out.size)).alloc (Nat.le_trans HB5.out.size hb6'.size) (.cells #[.int .i64 0, .int .i64 0, .slice C6 N6 cc6] 24))
  clear he6 he6' ho6 hb6'
  unfold ruleV
  go_wp2_with fail
  go_ret
  exact ⟨rfl, HB6.out⟩

open RuleP
/-- Rules held against each other, any. -/
theorem rules_b (w : World) (K R K2 R2 : Int) (A B : Option Addr) (n m c d : Nat) (T T2 : List Int) (h1 : Sl w A n (T.map (Value.int .i64))) (h2 : Sl w B m (T2.map (Value.int .i64))) (hm : n ≤ 9223372036854775807) (hm2 : m ≤ 9223372036854775807) :
    Calls Tryd.prog 11 #[ruleV K R A n c, ruleV K2 R2 B m d] w fun e w' => e = .returned (.bool (decide (K = K2 ∧ R = R2 ∧ T = T2))) ∧ Below w.heap.size w w' := by
  have hb : Below w.heap.size w ((w.alloc (.cells #[.int .i64 K, .int .i64 R, .slice A n c] 24)).alloc (.cells #[.int .i64 K2, .int .i64 R2, .slice B m d] 24)) := ((Below.refl _ _).alloc (Nat.le_refl _) _).alloc (by simp) _
  have hi := ints_b ((w.alloc (.cells #[.int .i64 K, .int .i64 R, .slice A n c] 24)).alloc (.cells #[.int .i64 K2, .int .i64 R2, .slice B m d] 24)) A B n m c d T T2 (h1.below hb) (h2.below hb) hm hm2
  have HI := Lib.hid hi
  have HB := Lib.hid hb
  obtain ⟨X, hX⟩ : ∃ X, decide (K = K2 ∧ R = R2 ∧ T = T2) = X := ⟨_, rfl⟩
  rw [hX]
  have HX := Lib.hid hX
  clear hi hb hX h1 h2
  unfold ruleV
  by_cases hk : K = K2
  · have k1 : (K == K2) = true := by simp [hk]
    by_cases hr : R = R2
    · have k2 : (R == R2) = true := by simp [hr]
      have HD := Lib.hid (show X = decide (T = T2) by rw [← HX.out, decide_eq_decide]; exact ⟨fun h => h.2.2, fun h => ⟨hk, hr, h⟩⟩)
      clear hk hr
      go_enter Tryd.func11, Tryd.ntmps11
      go_wp2_with fail
      refine (HI.out).mono ?_
      rintro e w1 ⟨rfl, hb1⟩
      have HB1 := Lib.hid (HB.out.trans (hb1.mono HB.out.size))
      clear hb1
      go_wp2_with fail
      go_ret
      exact ⟨by rw [HD.out]; rfl, HB1.out⟩
    · have k2 : (R == R2) = false := by simp [hr]
      have HD := Lib.hid (show X = false by rw [← HX.out]; exact decide_eq_false (fun h => hr h.2.1))
      clear hk hr
      go_enter Tryd.func11, Tryd.ntmps11
      go_wp2_with fail
      go_ret
      exact ⟨by rw [HD.out]; rfl, HB.out⟩
  · have k1 : (K == K2) = false := by simp [hk]
    have HD := Lib.hid (show X = false by rw [← HX.out]; exact decide_eq_false (fun h => hk h.1))
    clear hk
    go_enter Tryd.func11, Tryd.ntmps11
    go_wp2_with fail
    go_ret
    exact ⟨by rw [HD.out]; rfl, HB.out⟩
end Go.Proofs.YtfgnghgmffaepaaDoor
