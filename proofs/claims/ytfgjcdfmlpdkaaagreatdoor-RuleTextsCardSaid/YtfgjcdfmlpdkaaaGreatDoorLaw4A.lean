/- Rules held against each other: edenraw.Rules. Condition: the tables read from memory. The laws' helper awake of chapter 04: it returns true. Condition: the error variables hold what E says. -/
import Derived.Test.YtfgjcdfmlpdkaaaGreatDoorRuleB
import Derived.Test.YtfgjcdfmlpdkaaaGreatDoorRaw
import Derived.Test.YtfgjcdfmlpdkaaaGreatDoorRuleEF
import Derived.Test.YtfgjcdfmlpdkaaaGreatDoorCopyM
namespace Go.Proofs.YtfgjcdfmlpdkaaaGreatDoor
open Go.RowKit RuleP

set_option maxRecDepth 100000 in
set_option maxHeartbeats 1000000 in
theorem rules_same (w : World) (K R : Int) (A B : Option Addr) (n c d : Nat) (T : List Int) (h1 : Sl w A n (T.map (Value.int .i64))) (h2 : Sl w B n (T.map (Value.int .i64))) (hm : n ≤ 9223372036854775807) :
    Calls Tryz.prog 10 #[ruleV K R A n c, ruleV K R B n d] w fun e w' => e = .returned (.bool true) ∧ Below w.heap.size w w' := by
  have hb : Below w.heap.size w ((w.alloc (.cells #[.int .i64 K, .int .i64 R, .slice A n c] 24)).alloc (.cells #[.int .i64 K, .int .i64 R, .slice B n d] 24)) := ((Below.refl _ _).alloc (Nat.le_refl _) _).alloc (by simp) _
  have hi := ints_b ((w.alloc (.cells #[.int .i64 K, .int .i64 R, .slice A n c] 24)).alloc (.cells #[.int .i64 K, .int .i64 R, .slice B n d] 24)) A B n n c d T T (h1.below hb) (h2.below hb) hm hm
  rw [decide_eq_true rfl] at hi
  have HI := Lib.hid hi
  have HB := Lib.hid hb
  have k1 : (K == K) = true := by simp
  have k2 : (R == R) = true := by simp
  clear hi hb
  unfold ruleV
  go_enter Tryz.func10, Tryz.ntmps10
  go_wp2_with fail
  refine (HI.out).mono ?_
  rintro e w1 ⟨rfl, hb1⟩
  go_wp2_with fail
  go_ret
  exact ⟨rfl, HB.out.trans (hb1.mono HB.out.size)⟩
end Go.Proofs.YtfgjcdfmlpdkaaaGreatDoor

namespace Go.Proofs.YtfgjcdfmlpdkaaaGreatDoor
open Go.RowKit RuleP NatP

def l110 : List UInt8 := [50, 46, 49, 46, 49, 49, 48]
theorem parse110 : parseN (l110.drop 4) = .ok 110 := by
  show parseN [49, 49, 48] = .ok 110
  rw [parse_good (by decide) (by decide) (by decide), if_neg (by decide)]
  rfl
theorem dig110 : digN 2 8 110 = [0, 1, 1, 1, 0, 1, 1, 0] := by decide
theorem rule110 : IsRule 2 1 [0, 1, 1, 1, 0, 1, 1, 0] := ⟨by decide, by decide, by decide, by decide, by decide⟩
theorem image110 : image 2 1 [0, 1, 1, 1, 0, 1, 1, 0] [0, 0, 1, 1, 1] = [1, 1, 0] := by decide
set_option maxRecDepth 100000 in
set_option maxHeartbeats 4000000 in
theorem awake4_c (w : World) (E : Nat → Addr) (hE : Errs w E) :
    Calls Tryz.prog 4 #[] w fun e w' => e = .returned (.bool true) ∧ Below w.heap.size w w' := by
  have HE := Lib.hid hE
  have hp := fun (wz : World) (hz : Errs wz E) => parse_ok wz E hz l110 2 1 110 (by decide) (by decide) ⟨50, rfl, rfl⟩ ⟨49, rfl, rfl⟩ (by decide) (by decide) (by decide) (by decide) parse110 (by decide)
  rw [show (2 : Nat) ^ (2 * 1 + 1) = 8 from rfl, dig110] at hp
  have HP := Lib.hid hp
  clear hE hp
  go_enter Tryz.func4, Tryz.ntmps4
  go_wp2_with fail
  refine (HP.out _ HE.out).mono ?_
  rintro e w1 ⟨A, c, rfl, ho1, hb1⟩
  have hr1 : RuleAt (w1.alloc (.cells #[.int .i64 2, .int .i64 1, .slice A 8 c] 24)) w1.heap.size (.int .i64 2) (.int .i64 1) (.slice A 8 c) := RuleAt.new _ _ _ _
  have hb2 := hb1.alloc hb1.size (.cells #[.int .i64 2, .int .i64 1, .slice A 8 c] 24)
  have hs1 : Sl (w1.alloc (.cells #[.int .i64 2, .int .i64 1, .slice A 8 c] 24)) A 8 ((ints [0, 1, 1, 1, 0, 1, 1, 0]).map (Value.int .i64)) := (Sl.of_own ho1).alloc _
  have hz : (w1.alloc (.cells #[.int .i64 2, .int .i64 1, .slice A 8 c] 24)).heap.size = w1.heap.size + 1 := by simp
  obtain ⟨w2, hw2⟩ : ∃ w2, w1.alloc (.cells #[.int .i64 2, .int .i64 1, .slice A 8 c] 24) = w2 := ⟨_, rfl⟩
  have hL := lit_ints w2 [0, 1, 1, 1, 0, 1, 1, 0] 8 rfl (by decide) 3
  have hru := fun (wz : World) (h : w2.alloc (.cells #[.int .i64 0, .int .i64 1, .int .i64 1, .int .i64 1, .int .i64 0, .int .i64 1, .int .i64 1, .int .i64 0] 3) = wz) => rules_same wz 2 1 A (some ⟨w1.heap.size + 1, 0, none⟩) 8 c 8 [0, 1, 1, 1, 0, 1, 1, 0] (by subst h; exact (by rw [hw2] at hs1; exact hs1.alloc _)) (by subst h; rw [hw2] at hz; rw [← hz]; exact hL) (by decide)
  have HRU := Lib.hid (hru _ rfl)
  rw [hw2] at hr1 hb2 hs1
  have hb3 := hb2.alloc hb2.size (.cells #[.int .i64 0, .int .i64 1, .int .i64 1, .int .i64 1, .int .i64 0, .int .i64 1, .int .i64 1, .int .i64 0] 3)
  have hr3 := hr1.alloc (.cells #[.int .i64 0, .int .i64 1, .int .i64 1, .int .i64 1, .int .i64 0, .int .i64 1, .int .i64 1, .int .i64 0] 3)
  have hs3 := hs1.alloc (.cells #[.int .i64 0, .int .i64 1, .int .i64 1, .int .i64 1, .int .i64 0, .int .i64 1, .int .i64 1, .int .i64 0] 3)
  have HW2 := Lib.hid hw2
  clear hru hz hL hr1 hb2 hs1 ho1 hb1 hw2
  unfold ruleV
  go_wp2_with fail
  rw [HW2.out]
  refine (HRU.out).mono ?_
  rintro e w4 ⟨rfl, hb4⟩
  have hr4 := hr3.below hb4 hr3.lt
  have hs4 := hs3.below hb4
  have hbw := hb3.trans (hb4.mono hb3.size)
  obtain ⟨c0, c1, c2, _⟩ := hr4.facts
  clear hb3 hb4 hr3 hs3 hr4
  have hst := step_good (w4.alloc (.cells #[.int .i64 0, .int .i64 0, .int .i64 1, .int .i64 1, .int .i64 1] 3)) E (HE.out.below (hbw.alloc hbw.size _)) 2 1 A (some ⟨w4.heap.size, 0, none⟩) 8 c 5 5 _ [0, 0, 1, 1, 1] rule110 (by decide) (hs4.alloc _) (lit_ints w4 (ints [0, 0, 1, 1, 1]) 5 rfl (by decide) 3) (by decide)
  rw [image110] at hst
  have HST := Lib.hid hst
  clear hst
  unfold ruleV at HST
  go_wp2_with fail
  refine (HST.out).mono ?_
  rintro e w5 ⟨A5, c5, rfl, ho5, hb5⟩
  have hbw5 := (hbw.alloc hbw.size (.cells #[.int .i64 0, .int .i64 0, .int .i64 1, .int .i64 1, .int .i64 1] 3)).trans (hb5.mono (by simp; exact Nat.le_succ_of_le hbw.size))
  have hi := ints_b (w5.alloc (.cells #[.int .i64 1, .int .i64 1, .int .i64 0] 3)) A5 (some ⟨w5.heap.size, 0, none⟩) 3 3 c5 3 [1, 1, 0] [1, 1, 0] ((Sl.of_own ho5).alloc _) (lit_ints w5 [1, 1, 0] 3 rfl (by decide) 3) (by decide) (by decide)
  rw [decide_eq_true rfl] at hi
  have HI := Lib.hid hi
  clear hi hb5 ho5 hbw hs4 c0 c1 c2
  go_wp2_with fail
  refine (HI.out).mono ?_
  rintro e w6 ⟨rfl, hb6⟩
  have hbw6 := (hbw5.alloc hbw5.size (.cells #[.int .i64 1, .int .i64 1, .int .i64 0] 3)).trans (hb6.mono (by simp; exact Nat.le_succ_of_le hbw5.size))
  have hck := check_c w6 E (HE.out.below hbw6) 5 0 none 0 0 [] (Sl.nil _ _) (by decide)
  rw [show check 5 0 [] = some (1, [(sRule, 0)]) from by decide] at hck
  have HCK := Lib.hid hck
  clear hck hb6 hbw5
  unfold ruleV at HCK
  go_wp2_with fail
  refine (HCK.out).mono ?_
  rintro e w7 ⟨v, rfl, he, hb7⟩
  obtain ⟨u, p, rfl⟩ := ErrIs.iface (show ErrIs w7 E 1 [(sRule, 0)] v from he)
  have hbw7 := hbw6.trans (hb7.mono hbw6.size)
  clear he hb7 hbw6
  go_wp2_with fail
  go_ret
  exact ⟨rfl, hbw7⟩
end Go.Proofs.YtfgjcdfmlpdkaaaGreatDoor
