/- The document's bag: Has. No condition. The document's bag: Union, where a set is not there. No condition. The document's bag: Union of two sets that are there. No condition but their lengths. The document's bag: Union of any two numbers, by any bag or none. No condition. A script of bag calls, as it lies in memory. No condition. Both bags side by side in memory, and what each call leaves of them. Condition: the error variables hold what E says. What is a rule: rule.wrong, Size, Check, Small. Condition: the table reads from memory; the error variables hold what E says. What is a rule: rule.Check, rule.Small. Condition: the table reads from memory; the error variables hold what E says. A struct of three cells in a block of the call's own: read, written, and the errors beside it. No condition. -/
import Derived.Lib.Hide
import Derived.Test.YtiobnnhjnkcafaaDoorP1
import Derived.Test.YtiobnnhjnkcafaaDoorP3
import Derived.Test.YtiobnnhjnkcafaaDoorP4
import Derived.Test.YtiobnnhjnkcafaaDoorP7
import Derived.Test.YtiobnnhjnkcafaaDoorP8
import Derived.Test.YtiobnnhjnkcafaaDoorP9
namespace Go.Proofs.YtiobnnhjnkcafaaDoor
open Go.RowKit Go.WideMaps Go.Maps BagP RuleP

theorem has_get (o : BagD) (i x : Int) : hasO o i x = (decide (x ∈ (getO o i).1), (getO o i).2) := by
  cases o with
  | none => simp [hasO, getO]
  | some y =>
    obtain ⟨n, S⟩ := y
    simp only [hasO, getO]
    unfold BagR.hasF BagR.getF
    split <;> simp
set_option maxRecDepth 100000 in
set_option maxHeartbeats 2000000 in
theorem rhasO_c (w : World) (p : Value) (o : BagD) (O : Nat → Prop) (hB : RBagO w p o O) (i x : Int) :
    Calls Tryd.prog 24 #[p, .int .i64 i, .int .i64 x] w (Ans2 w (hasO o i x).2 fun v _ => v = .bool (hasO o i x).1) := by
  rw [has_get]
  obtain ⟨q, hq⟩ : ∃ q, getO o i = q := ⟨_, rfl⟩
  have hw0 := WantAt.new w (.int .i64 0) (.slice none 0 0) (.slice none 0 0)
  have hb0 := (Below.refl w.heap.size w).alloc (Nat.le_refl _) (.cells #[.int .i64 0, .slice none 0 0, .slice none 0 0] 33)
  have hg := rgetO_c (w.alloc (.cells #[.int .i64 0, .slice none 0 0, .slice none 0 0] 33)) p o O (hB.below hb0) i
  rw [hq] at hg
  rw [hq]
  obtain ⟨xs, t⟩ := q
  dsimp only at hg
  dsimp only
  have HG := Lib.hid hg
  clear hg hq hB
  go_enter Tryd.func24, Tryd.ntmps24
  go_wp2_with fail
  refine (HG.out).mono ?_
  rintro e w1 ⟨v, N, A1, n1, c1, A2, n2, c2, rfl, hu, ho, hb1⟩
  clear HG
  obtain ⟨m, hm⟩ : ∃ m, xs.length = m := ⟨_, rfl⟩
  rw [hm] at ho
  obtain ⟨A, c, rfl, hmc, hcm⟩ := own_slice ho
  have hmx : m ≤ 9223372036854775807 := by unfold maxLen at hcm; omega
  clear hmc hcm
  have hw1 := hw0.below hb1 (by simp)
  have hE := WantAt.new w1 (.int .i64 (N : Int)) (.slice A1 n1 c1) (.slice A2 n2 c2)
  have hb12 := (Below.refl w1.heap.size w1).alloc (Nat.le_refl _) (.cells #[.int .i64 (N : Int), .slice A1 n1 c1, .slice A2 n2 c2] 33)
  have hs := (Sl.of_own ho).below hb12
  have hw2 := hw1.below hb12 hw1.lt
  have hu2 := hu.below hb12
  have hBB := hb0.trans ((hb1.mono (by simp)).trans (hb12.mono (by have := hb1.size; simp at this; omega)))
  have hz1 : w.heap.size < w1.heap.size := hw1.lt
  obtain ⟨g, hg⟩ : ∃ g, w1.heap.size = g := ⟨_, rfl⟩
  obtain ⟨w2, hw2e⟩ : ∃ w2, w1.alloc (.cells #[.int .i64 (N : Int), .slice A1 n1 c1, .slice A2 n2 c2] 33) = w2 := ⟨_, rfl⟩
  rw [hw2e] at hE hs hw2 hu2 hBB
  rw [hg] at hE hz1
  have HU := Lib.hid (((hu2.below (Below.refl w2.heap.size w2).drew).set3 (g := w.heap.size) (by simp) (.int .i64 (N : Int)) (.slice A1 n1 c1) (.slice A2 n2 c2)).base (base' := w.heap.size) (by simp))
  have HBB := Lib.hid (below_set3 (hBB.trans ((Below.refl w2.heap.size w2).drew.mono hBB.size)) (Nat.le_refl _) (.int .i64 (N : Int)) (.slice A1 n1 c1) (.slice A2 n2 c2))
  have HWE := Lib.hid hw2e
  have HGE := Lib.hid hg
  have HM := Lib.hid hm
  obtain ⟨k0, k1, k2, _⟩ := hE.facts
  obtain ⟨d0, d1, d2, f0, f1, f2⟩ := hw2.facts
  clear hw0 hb0 hu ho hb1 hw1 hE hb12 hw2 hu2 hBB hw2e hg hm
  go_wp2_with fail
  rw [HWE.out, HGE.out]
  go_loopw [10] (fun iv wr => ∃ k : Nat, k ≤ m ∧ iv = .int .i64 (k : Int) ∧ wr = w2 ∧ Hid (∀ (j : Nat) (y : Int), j < k → xs[j]? = some y → y ≠ x)) (fun iv _ => m - (intOf iv).toNat)
  case atStart => exact ⟨0, Nat.zero_le _, rfl, rfl, Lib.hid (fun j y hj => by omega)⟩
  case round =>
    obtain ⟨k, hk, rfl, rfl, hall⟩ := hrel
    by_cases hlt : k < m
    · obtain ⟨ad, y, rfl, hy, hcy⟩ := hs.int_ hlt
      have HY := Lib.hid hy
      clear hy
      by_cases e : y = x
      · have hyx : (y == x) = true := by simp [e]
        have HD : Hid (decide (x ∈ xs) = true) := Lib.hid (decide_eq_true (by rw [← e]; exact List.mem_of_getElem? HY.out))
        clear e
        go_wp2_with fail
        go_region
        go_wp2_with fail
        rw [HD.out]
        exact bodyPost_ret (v := .tuple #[.bool true, .agg #[.int .i64 (N : Int), .slice A1 n1 c1, .slice A2 n2 c2]]) (by simp [results, Tryd.results24, go_sem, d0, d1, d2]) rfl ⟨.bool true, N, A1, n1, c1, A2, n2, c2, rfl, HU.out, rfl, HBB.out⟩
      · have hyx : (y == x) = false := by simp [e]
        have HALL : Hid (∀ (j : Nat) (y : Int), j < k + 1 → xs[j]? = some y → y ≠ x) := Lib.hid (fun j y' hj hy' => by
          rcases Nat.lt_or_ge j k with h1 | h1
          · exact hall.out j y' h1 hy'
          · obtain rfl : j = k := by omega
            obtain rfl : y = y' := Option.some.inj (HY.out.symm.trans hy')
            exact e)
        clear e
        go_wp2_with fail
        exact ⟨⟨k + 1, by omega, by go_num, trivial, HALL⟩, by simp [intOf]; omega⟩
    · have HD : Hid (decide (x ∈ xs) = false) := Lib.hid (decide_eq_false fun hx => by
        obtain ⟨j, hj⟩ := List.getElem?_of_mem hx
        have h1 := (List.getElem?_eq_some_iff.1 hj).1
        have h2 := HM.out
        exact hall.out j x (by omega) hj rfl)
      go_wp2_with fail
      go_region
      go_wp2_with fail
      rw [HD.out]
      exact bodyPost_ret (v := .tuple #[.bool false, .agg #[.int .i64 (N : Int), .slice A1 n1 c1, .slice A2 n2 c2]]) (by simp [results, Tryd.results24, go_sem, d0, d1, d2]) rfl ⟨.bool false, N, A1, n1, c1, A2, n2, c2, rfl, HU.out, rfl, HBB.out⟩
end Go.Proofs.YtiobnnhjnkcafaaDoor

namespace Go.Proofs.YtiobnnhjnkcafaaDoor
open Go.RowKit Go.WideMaps Go.Maps BagP RuleP

set_option maxRecDepth 100000 in
set_option maxHeartbeats 2000000 in
theorem runion_1 (w : World) (p : Value) (o : BagD) (O : Nat → Prop) (hB : RBagO w p o O) (i j : Int) (tl : Tale) (ht : (getO o i).2 = some tl) (h1 : 1 ≤ tl.1) :
    Calls Tryd.prog 26 #[p, .int .i64 i, .int .i64 j] w (Ans3 w (some tl) 0 false fun w' => Below w.heap.size w w') := by
  have hw0 := WantAt.new w (.int .i64 0) (.slice none 0 0) (.slice none 0 0)
  have hb0 := (Below.refl w.heap.size w).alloc (Nat.le_refl _) (.cells #[.int .i64 0, .slice none 0 0, .slice none 0 0] 33)
  have hg := rgetO_c (w.alloc (.cells #[.int .i64 0, .slice none 0 0, .slice none 0 0] 33)) p o O (hB.below hb0) i
  rw [ht] at hg
  have HG := Lib.hid hg
  have HT1 := Lib.hid h1
  clear hg ht hB h1
  go_enter Tryd.func26, Tryd.ntmps26
  go_wp2_with fail
  refine (HG.out).mono ?_
  rintro e w1 ⟨v, N, A1, n1, c1, A2, n2, c2, rfl, hu, ho, hb1⟩
  clear HG
  have hN := hu.num
  obtain ⟨A, c, rfl, _, _⟩ := own_slice ho
  have hw1 := hw0.below hb1 (by simp)
  have hE := WantAt.new w1 (.int .i64 (N : Int)) (.slice A1 n1 c1) (.slice A2 n2 c2)
  have hb12 := (Below.refl w1.heap.size w1).alloc (Nat.le_refl _) (.cells #[.int .i64 (N : Int), .slice A1 n1 c1, .slice A2 n2 c2] 33)
  have hw2 := hw1.below hb12 hw1.lt
  have hu2 := hu.below hb12
  have hBB := hb0.trans ((hb1.mono (by simp)).trans (hb12.mono (by have := hb1.size; simp at this; omega)))
  have hz1 : w.heap.size < w1.heap.size := hw1.lt
  obtain ⟨g, hg⟩ : ∃ g, w1.heap.size = g := ⟨_, rfl⟩
  obtain ⟨w2, hw2e⟩ : ∃ w2, w1.alloc (.cells #[.int .i64 (N : Int), .slice A1 n1 c1, .slice A2 n2 c2] 33) = w2 := ⟨_, rfl⟩
  rw [hw2e] at hE hw2 hu2 hBB
  rw [hg] at hE hz1
  have hbad := errBad2_c w2 N A1 n1 c1 A2 n2 c2
  rw [decide_eq_true (show N ≠ 0 by have := HT1.out; simp only [tnum] at hN; omega)] at hbad
  have HBAD := Lib.hid hbad
  have HWE := Lib.hid hw2e
  have HGE := Lib.hid hg
  have HE := Lib.hid hE
  have HW2 := Lib.hid hw2
  have HU2 := Lib.hid hu2
  have HB2 := Lib.hid hBB
  obtain ⟨k0, k1, k2, _⟩ := hE.facts
  clear hw0 hb0 hu ho hb1 hw1 hE hb12 hw2 hu2 hBB hw2e hg hN hbad
  go_wp2_with fail
  rw [HWE.out, HGE.out]
  refine (HBAD.out).mono ?_
  rintro e w3 ⟨rfl, hb3⟩
  have hlt := HE.out.lt
  obtain ⟨y0, y1, y2, _⟩ := (HE.out.below hb3 hlt).facts
  obtain ⟨d0, d1, d2, f0, f1, f2⟩ := (HW2.out.below hb3 HW2.out.lt).facts
  have hu3 := (HU2.out.below hb3).below (Below.refl w3.heap.size w3).drew
  have HU := Lib.hid ((hu3.set3 (g := w.heap.size) (by simp) (.int .i64 (N : Int)) (.slice A1 n1 c1) (.slice A2 n2 c2)).base (base' := w.heap.size) (by simp))
  have HB := Lib.hid (below_set3 ((HB2.out.trans (hb3.mono HB2.out.size)).trans ((Below.refl w3.heap.size w3).drew.mono (Nat.le_trans HB2.out.size hb3.size))) (Nat.le_refl _) (.int .i64 (N : Int)) (.slice A1 n1 c1) (.slice A2 n2 c2))
  clear hu3 hb3 k0 k1 k2
  go_wp2_with fail
  go_region
  go_wp2_with fail
  exact bodyPost_ret (v := .tuple #[.int .i64 0, .bool false, .agg #[.int .i64 (N : Int), .slice A1 n1 c1, .slice A2 n2 c2]]) (by simp [results, Tryd.results26, go_sem, d0, d1, d2]) rfl ⟨N, A1, n1, c1, A2, n2, c2, rfl, HU.out, HB.out⟩

set_option maxRecDepth 100000 in
set_option maxHeartbeats 4000000 in
theorem runion_2 (w : World) (p : Value) (o : BagD) (O : Nat → Prop) (hB : RBagO w p o O) (i j : Int) (tl : Tale) (hi : (getO o i).2 = none) (ht : (getO o j).2 = some tl) (h1 : 1 ≤ tl.1) :
    Calls Tryd.prog 26 #[p, .int .i64 i, .int .i64 j] w (Ans3 w (some (3, [(BagR.bagS, 1)])) 0 false fun w' => Below w.heap.size w w') := by
  have hw0 := WantAt.new w (.int .i64 0) (.slice none 0 0) (.slice none 0 0)
  have hb0 := (Below.refl w.heap.size w).alloc (Nat.le_refl _) (.cells #[.int .i64 0, .slice none 0 0, .slice none 0 0] 33)
  have hg := rgetO_c (w.alloc (.cells #[.int .i64 0, .slice none 0 0, .slice none 0 0] 33)) p o O (hB.below hb0) i
  rw [hi] at hg
  have HG := Lib.hid hg
  have HT1 := Lib.hid h1
  have HG2 := Lib.hid (fun (wz : World) (hz : Below w.heap.size w wz) => (by
    have := rgetO_c wz p o O (hB.below hz) j
    rwa [ht] at this : Calls Tryd.prog 22 #[p, .int .i64 j] wz (Ans2 wz (some tl) fun v w' => w'.ownsRow wz.heap.size 3 1 v (getO o j).1.length ((getO o j).1.map (Value.int .i64)))))
  clear hg hi ht hB h1
  go_enter Tryd.func26, Tryd.ntmps26
  go_wp2_with fail
  refine (HG.out).mono ?_
  rintro e w1 ⟨v, N, A1, n1, c1, A2, n2, c2, rfl, hu, ho, hb1⟩
  clear HG
  have hne := hu.none_eq
  obtain ⟨rfl, rfl, rfl, rfl, rfl, rfl, rfl⟩ : N = 0 ∧ A1 = none ∧ n1 = 0 ∧ c1 = 0 ∧ A2 = none ∧ n2 = 0 ∧ c2 = 0 := by
    simp at hne
    obtain ⟨q0, ⟨q1, q2, q3⟩, q4, q5, q6⟩ := hne
    exact ⟨q0, q1, q2, q3, q4, q5, q6⟩
  obtain ⟨A, c, rfl, _, _⟩ := own_slice ho
  have hw1 := hw0.below hb1 (by simp)
  have hE := WantAt.new w1 (.int .i64 0) (.slice none 0 0) (.slice none 0 0)
  have hb12 := (Below.refl w1.heap.size w1).alloc (Nat.le_refl _) (.cells #[.int .i64 0, .slice none 0 0, .slice none 0 0] 33)
  have hw2 := hw1.below hb12 hw1.lt
  have hBB := hb0.trans ((hb1.mono (by simp)).trans (hb12.mono (by have := hb1.size; simp at this; omega)))
  have hz1 : w.heap.size < w1.heap.size := hw1.lt
  obtain ⟨g, hg⟩ : ∃ g, w1.heap.size = g := ⟨_, rfl⟩
  obtain ⟨w2, hw2e⟩ : ∃ w2, w1.alloc (.cells #[.int .i64 0, .slice none 0 0, .slice none 0 0] 33) = w2 := ⟨_, rfl⟩
  rw [hw2e] at hE hw2 hBB
  rw [hg] at hE hz1
  have hbad := errBad2_c w2 0 none 0 0 none 0 0
  rw [show decide ((0 : Nat) ≠ 0) = false from rfl, show ((0 : Nat) : Int) = 0 from rfl] at hbad
  have HBAD := Lib.hid hbad
  have HWE := Lib.hid hw2e
  have HGE := Lib.hid hg
  have HE := Lib.hid hE
  have HW2 := Lib.hid hw2
  have HB2 := Lib.hid hBB
  obtain ⟨k0, k1, k2, _⟩ := hE.facts
  clear hw0 hb0 hu ho hb1 hw1 hE hb12 hw2 hBB hw2e hg hbad hne
  go_wp2_with fail
  try rw [show ((0 : Nat) : Int) = 0 from rfl]
  rw [HWE.out, HGE.out]
  refine (HBAD.out).mono ?_
  rintro e w3 ⟨rfl, hb3⟩
  have HB3 := Lib.hid (HB2.out.trans (hb3.mono HB2.out.size))
  have HE3 := Lib.hid (HE.out.below hb3 HE.out.lt)
  have HW3 := Lib.hid (HW2.out.below hb3 HW2.out.lt)
  have HGJ := Lib.hid (HG2.out w3 HB3.out)
  clear hb3 k0 k1 k2 HG2
  go_wp2_with fail
  refine (HGJ.out).mono ?_
  rintro e w4 ⟨v', N, A1, n1, c1, A2, n2, c2, rfl, hu, ho, hb4⟩
  have hN := hu.num
  obtain ⟨A', c', rfl, _, _⟩ := own_slice ho
  have hE4 := HE3.out.below hb4 HE3.out.lt
  have hW4 := HW3.out.below hb4 HW3.out.lt
  obtain ⟨k0, k1, k2, l0, l1, l2⟩ := hE4.facts
  have hE5 := hE4.set3 (.int .i64 (N : Int)) (.slice A1 n1 c1) (.slice A2 n2 c2)
  have hW5 := hW4.keeps (keeps_set3 w4 g (.int .i64 (N : Int)) (.slice A1 n1 c1) (.slice A2 n2 c2)) (fun e => by omega)
  have hB5 := below_set3 (HB3.out.trans (hb4.mono HB3.out.size)) (Nat.le_of_lt hz1) (.int .i64 (N : Int)) (.slice A1 n1 c1) (.slice A2 n2 c2)
  obtain ⟨w5, hw5⟩ : ∃ w5, ((w4.setCell ⟨g, 0, none⟩ (.int .i64 (N : Int))).setCell ⟨g, 1, none⟩ (.slice A1 n1 c1)).setCell ⟨g, 2, none⟩ (.slice A2 n2 c2) = w5 := ⟨_, rfl⟩
  rw [hw5] at hE5 hW5 hB5
  have hbad := errBad2_c w5 N A1 n1 c1 A2 n2 c2
  rw [decide_eq_true (show N ≠ 0 by have := HT1.out; simp only [tnum] at hN; omega)] at hbad
  have HBAD2 := Lib.hid hbad
  have HW5E := Lib.hid hw5
  have HE5 := Lib.hid hE5
  have HW5 := Lib.hid hW5
  have HB5 := Lib.hid hB5
  obtain ⟨y0, y1, y2, _⟩ := hE5.facts
  clear hu ho hb4 hE4 hW4 hE5 hW5 hB5 hw5 hN hbad HGJ HE3 HW3
  go_wp2_with fail
  rw [HW5E.out]
  refine (HBAD2.out).mono ?_
  rintro e w6 ⟨rfl, hb6⟩
  have HW6 := Lib.hid (HW5.out.below hb6 HW5.out.lt)
  have HB6 := Lib.hid (HB5.out.trans (hb6.mono HB5.out.size))
  have HN6 := Lib.hid (newB_c w6 sBag 1 3)
  clear hb6 y0 y1 y2
  go_wp2_with fail
  refine (HN6.out).mono ?_
  rintro e w7 ⟨B1, m1, d1, B2, m2, d2, rfl, hu, hb7⟩
  have hW7 := HW6.out.below hb7 HW6.out.lt
  obtain ⟨x0, x1, x2, f0, f1, f2⟩ := hW7.facts
  have HU := Lib.hid ((hu.set3 (g := w.heap.size) HW6.out.lt (.int .i64 3) (.slice B1 m1 d1) (.slice B2 m2 d2)).base (base' := w.heap.size) (Nat.le_of_lt HW6.out.lt))
  have HB := Lib.hid (below_set3 (HB6.out.trans (hb7.mono HB6.out.size)) (Nat.le_refl _) (.int .i64 3) (.slice B1 m1 d1) (.slice B2 m2 d2))
  clear hu hb7 hW7
  go_wp2_with fail
  exact bodyPost_ret (v := .tuple #[.int .i64 0, .bool false, .agg #[.int .i64 3, .slice B1 m1 d1, .slice B2 m2 d2]]) (by simp [results, Tryd.results26, go_sem, x0, x1, x2]) rfl ⟨3, B1, m1, d1, B2, m2, d2, rfl, HU.out, HB.out⟩
end Go.Proofs.YtiobnnhjnkcafaaDoor

namespace Go.Proofs.YtiobnnhjnkcafaaDoor
open Go.RowKit Go.WideMaps Go.Maps BagP RuleP

set_option maxRecDepth 100000 in
set_option maxHeartbeats 4000000 in
theorem runion_3 (w : World) (p : Value) (o : BagD) (O : Nat → Prop) (hB : RBagO w p o O) (hO : ∀ k, O k → k < w.heap.size) (i j : Int) (xs ys : List Int) (hi : getO o i = (xs, none)) (ht : getO o j = (ys, none)) (hx : xs.length ≤ 8192) (hy : ys.length ≤ 8192) :
    Calls Tryd.prog 26 #[p, .int .i64 i, .int .i64 j] w (Ans3 w (putO o (xs ++ ys)).1.2.2 (putO o (xs ++ ys)).1.1 (putO o (xs ++ ys)).1.2.1 fun w' => RBagO w' p (putO o (xs ++ ys)).2 (fun k => O k ∨ w.heap.size ≤ k) ∧ Keeps O w w' ∧ ((putO o (xs ++ ys)).1.2.2 ≠ none → Below w.heap.size w w')) := by
  have hw0 := WantAt.new w (.int .i64 0) (.slice none 0 0) (.slice none 0 0)
  have hb0 := (Below.refl w.heap.size w).alloc (Nat.le_refl _) (.cells #[.int .i64 0, .slice none 0 0, .slice none 0 0] 33)
  have hg := rgetO_c (w.alloc (.cells #[.int .i64 0, .slice none 0 0, .slice none 0 0] 33)) p o O (hB.below hb0) i
  rw [hi] at hg
  have HG := Lib.hid hg
  have HBO := Lib.hid hB
  have HOO := Lib.hid hO
  have HG2 := Lib.hid (fun (wz : World) (hz : Below w.heap.size w wz) => (by
    have := rgetO_c wz p o O (hB.below hz) j
    rwa [ht] at this : Calls Tryd.prog 22 #[p, .int .i64 j] wz (Ans2 wz none fun v w' => w'.ownsRow wz.heap.size 3 1 v ys.length (ys.map (Value.int .i64)))))
  clear hg hi ht hB hO
  go_enter Tryd.func26, Tryd.ntmps26
  go_wp2_with fail
  refine (HG.out).mono ?_
  rintro e w1 ⟨v, N, A1, n1, c1, A2, n2, c2, rfl, hu, ho, hb1⟩
  clear HG
  have hne := hu.none_eq
  obtain ⟨rfl, rfl, rfl, rfl, rfl, rfl, rfl⟩ : N = 0 ∧ A1 = none ∧ n1 = 0 ∧ c1 = 0 ∧ A2 = none ∧ n2 = 0 ∧ c2 = 0 := by
    simp at hne
    obtain ⟨q0, ⟨q1, q2, q3⟩, q4, q5, q6⟩ := hne
    exact ⟨q0, q1, q2, q3, q4, q5, q6⟩
  obtain ⟨A, c, rfl, _, _⟩ := own_slice ho
  have hw1 := hw0.below hb1 (by simp)
  have hE := WantAt.new w1 (.int .i64 0) (.slice none 0 0) (.slice none 0 0)
  have hb12 := (Below.refl w1.heap.size w1).alloc (Nat.le_refl _) (.cells #[.int .i64 0, .slice none 0 0, .slice none 0 0] 33)
  have hw2 := hw1.below hb12 hw1.lt
  have hr2 := own_below ho hb12
  have hBB := hb0.trans ((hb1.mono (by simp)).trans (hb12.mono (by have := hb1.size; simp at this; omega)))
  have hz1 : w.heap.size < w1.heap.size := hw1.lt
  obtain ⟨g, hg⟩ : ∃ g, w1.heap.size = g := ⟨_, rfl⟩
  obtain ⟨w2, hw2e⟩ : ∃ w2, w1.alloc (.cells #[.int .i64 0, .slice none 0 0, .slice none 0 0] 33) = w2 := ⟨_, rfl⟩
  rw [hw2e] at hE hw2 hBB hr2
  rw [hg] at hE hz1
  have hbad := errBad2_c w2 0 none 0 0 none 0 0
  rw [show decide ((0 : Nat) ≠ 0) = false from rfl, show ((0 : Nat) : Int) = 0 from rfl] at hbad
  have HBAD := Lib.hid hbad
  have HWE := Lib.hid hw2e
  have HGE := Lib.hid hg
  have HE := Lib.hid hE
  have HW2 := Lib.hid hw2
  have HB2 := Lib.hid hBB
  have HR2 := Lib.hid (own_base hr2 (show w.heap.size ≤ _ by simp))
  obtain ⟨k0, k1, k2, _⟩ := hE.facts
  clear hw0 hb0 hu ho hb1 hw1 hE hb12 hw2 hBB hr2 hw2e hg hbad hne
  go_wp2_with fail
  try rw [show ((0 : Nat) : Int) = 0 from rfl]
  rw [HWE.out, HGE.out]
  refine (HBAD.out).mono ?_
  rintro e w3 ⟨rfl, hb3⟩
  have HR3 := Lib.hid (own_below HR2.out hb3)
  have HB3 := Lib.hid (HB2.out.trans (hb3.mono HB2.out.size))
  have HE3 := Lib.hid (HE.out.below hb3 HE.out.lt)
  have HW3 := Lib.hid (HW2.out.below hb3 HW2.out.lt)
  have HGJ := Lib.hid (HG2.out w3 HB3.out)
  clear hb3 k0 k1 k2 HG2
  go_wp2_with fail
  refine (HGJ.out).mono ?_
  rintro e w4 ⟨v', N, A1, n1, c1, A2, n2, c2, rfl, hu, ho, hb4⟩
  have hne := hu.none_eq
  obtain ⟨rfl, rfl, rfl, rfl, rfl, rfl, rfl⟩ : N = 0 ∧ A1 = none ∧ n1 = 0 ∧ c1 = 0 ∧ A2 = none ∧ n2 = 0 ∧ c2 = 0 := by
    simp at hne
    obtain ⟨q0, ⟨q1, q2, q3⟩, q4, q5, q6⟩ := hne
    exact ⟨q0, q1, q2, q3, q4, q5, q6⟩
  obtain ⟨A', c', rfl, _, _⟩ := own_slice ho
  have hE4 := HE3.out.below hb4 HE3.out.lt
  have hW4 := HW3.out.below hb4 HW3.out.lt
  obtain ⟨k0, k1, k2, l0, l1, l2⟩ := hE4.facts
  have hE5 := hE4.set3 (.int .i64 0) (.slice none 0 0) (.slice none 0 0)
  have hW5 := hW4.keeps (keeps_set3 w4 g (.int .i64 0) (.slice none 0 0) (.slice none 0 0)) (fun e => by omega)
  have hX5 := own_setW (own_below HR3.out hb4) hE4 (by decide) (.int .i64 0) (.slice none 0 0) (.slice none 0 0)
  have hY5 := own_setW ho hE4 (by decide) (.int .i64 0) (.slice none 0 0) (.slice none 0 0)
  have hB5 := below_set3 (HB3.out.trans (hb4.mono HB3.out.size)) (Nat.le_of_lt hz1) (.int .i64 0) (.slice none 0 0) (.slice none 0 0)
  obtain ⟨w5, hw5⟩ : ∃ w5, ((w4.setCell ⟨g, 0, none⟩ (.int .i64 0)).setCell ⟨g, 1, none⟩ (.slice none 0 0)).setCell ⟨g, 2, none⟩ (.slice none 0 0) = w5 := ⟨_, rfl⟩
  rw [hw5] at hE5 hW5 hB5 hX5 hY5
  have hbad := errBad2_c w5 0 none 0 0 none 0 0
  rw [show decide ((0 : Nat) ≠ 0) = false from rfl, show ((0 : Nat) : Int) = 0 from rfl] at hbad
  have HBAD2 := Lib.hid hbad
  have HW5E := Lib.hid hw5
  have HW5 := Lib.hid hW5
  have HB5 := Lib.hid hB5
  have HX5 := Lib.hid hX5
  have HY5 := Lib.hid hY5
  obtain ⟨y0, y1, y2, _⟩ := hE5.facts
  clear hu ho hb4 hE4 hW4 hE5 hW5 hB5 hw5 hbad HGJ HE3 HW3 hne hX5 hY5
  go_wp2_with fail
  try rw [show ((0 : Nat) : Int) = 0 from rfl]
  rw [HW5E.out]
  refine (HBAD2.out).mono ?_
  rintro e w6 ⟨rfl, hb6⟩
  have HW6 := Lib.hid (HW5.out.below hb6 HW5.out.lt)
  have HB6 := Lib.hid (HB5.out.trans (hb6.mono HB5.out.size))
  have hx6 := own_below HX5.out hb6
  have hy6 := (Sl.of_own HY5.out).below hb6
  clear hb6 y0 y1 y2
  go_wp2_with (at_builtin; refine wpList_cat rfl _ _ _ rfl tInts hx6 rfl hy6 rfl (ints_one ys) (by simp only [maxLen]; omega) (by omega) HB6.out.size ?_; intro v7 w7 hown7 hg7 hat7 hn7; obtain ⟨C7, c7, rfl, _, _⟩ := own_slice hown7)
  have hB7 := HB6.out.grown hg7 HB6.out.size (fun k hk => (hx6.lt k hk).1)
  have hs7 := Sl.of_own hown7
  rw [← List.map_append] at hs7
  refine (rputO_c w7 p o O (HBO.out.below hB7) (fun k hk => Nat.lt_of_lt_of_le (HOO.out k hk) hB7.size) C7 (xs.length + ys.length) c7 (xs ++ ys) (by omega) hs7).mono ?_
  rintro e w8 ⟨N, A1, n1, c1, A2, n2, c2, rfl, hu, hR, hk8, hp8⟩
  have hW7 := (HW6.out.keeps (Keeps.of_grown hg7) (fun e => by
    have h1 := (hx6.lt _ e).1
    have h2 := own_ne_blk hx6 HW6.out (by decide)
    exact h2 e))
  have hW8 := hW7.keeps hk8 (fun e => by have := HOO.out _ e; omega)
  obtain ⟨x0, x1, x2, f0, f1, f2⟩ := hW8.facts
  have HU := Lib.hid ((hu.set3 (g := w.heap.size) (Nat.lt_of_lt_of_le HW6.out.lt hg7.size) (.int .i64 (N : Int)) (.slice A1 n1 c1) (.slice A2 n2 c2)).base (base' := w.heap.size) hB7.size)
  have HR := Lib.hid ((hR.keeps (keeps_set3 w8 w.heap.size (.int .i64 (N : Int)) (.slice A1 n1 c1) (.slice A2 n2 c2)) (fun k h1 h2 => by
    have hlt7 := Nat.lt_of_lt_of_le HW6.out.lt hg7.size
    rcases h1 with h1 | h1
    · have := HOO.out k h1; omega
    · omega)).mono (O' := fun k => O k ∨ w.heap.size ≤ k) (fun k h1 => by
    have := hB7.size
    rcases h1 with h1 | h1
    · exact .inl h1
    · exact .inr (by omega)))
  have HK := Lib.hid (((Keeps.of_pure hB7 O).trans hk8 (fun _ _ h => h)).trans (keeps_set3 w8 w.heap.size (.int .i64 (N : Int)) (.slice A1 n1 c1) (.slice A2 n2 c2)) (fun k h1 h2 => by omega))
  have HP := Lib.hid (fun (h : (putO o (xs ++ ys)).1.2.2 ≠ none) => below_set3 (hB7.trans ((hp8 h).mono hB7.size)) (Nat.le_refl _) (.int .i64 (N : Int)) (.slice A1 n1 c1) (.slice A2 n2 c2))
  clear hu hR hk8 hW7 hW8 hp8
  go_wp2_with fail
  exact bodyPost_ret (v := .tuple #[.int .i64 ((putO o (xs ++ ys)).1.1 : Int), .bool (putO o (xs ++ ys)).1.2.1, .agg #[.int .i64 (N : Int), .slice A1 n1 c1, .slice A2 n2 c2]]) (by simp [results, Tryd.results26, go_sem, x0, x1, x2]) rfl ⟨N, A1, n1, c1, A2, n2, c2, rfl, HU.out, HR.out, HK.out, HP.out⟩
end Go.Proofs.YtiobnnhjnkcafaaDoor

namespace Go.Proofs.YtiobnnhjnkcafaaDoor
open Go.RowKit Go.WideMaps Go.Maps BagP RuleP

theorem out_all {n : Nat} {xs : List Int} (h : ∀ x ∈ xs, 0 ≤ x ∧ x < (n : Int)) : BagR.outB n xs = none := by
  unfold BagR.outB
  rw [List.findIdx?_eq_none_iff]
  intro x hx
  have := h x hx
  simp
  omega
theorem getL_len (n : Nat) (l : List Nat) : (getL n l).length ≤ n := by
  rw [BagR.getL_getN, ints_len]
  exact getN_len n l
theorem runionO_c (w : World) (p : Value) (o : BagD) (O : Nat → Prop) (hB : RBagO w p o O) (hO : ∀ k, O k → k < w.heap.size) (i j : Int) :
    Calls Tryd.prog 26 #[p, .int .i64 i, .int .i64 j] w (Ans3 w (unionO o i j).1.2.2 (unionO o i j).1.1 (unionO o i j).1.2.1 fun w' => RBagO w' p (unionO o i j).2 (fun k => O k ∨ w.heap.size ≤ k) ∧ Keeps O w w' ∧ ((unionO o i j).1.2.2 ≠ none → Below w.heap.size w w')) := by
  have key : ∀ {t : Option Tale}, Calls Tryd.prog 26 #[p, .int .i64 i, .int .i64 j] w (Ans3 w t 0 false fun w' => Below w.heap.size w w') → unionO o i j = ((0, false, t), o) →
      Calls Tryd.prog 26 #[p, .int .i64 i, .int .i64 j] w (Ans3 w (unionO o i j).1.2.2 (unionO o i j).1.1 (unionO o i j).1.2.1 fun w' => RBagO w' p (unionO o i j).2 (fun k => O k ∨ w.heap.size ≤ k) ∧ Keeps O w w' ∧ ((unionO o i j).1.2.2 ≠ none → Below w.heap.size w w')) := by
    intro t hc e
    rw [e]
    refine hc.mono ?_
    rintro e' w' ⟨N, A1, n1, c1, A2, n2, c2, h1, h2, h3⟩
    exact ⟨N, A1, n1, c1, A2, n2, c2, h1, h2, (hB.below h3).mono (fun k h => .inl h), Keeps.of_pure h3 O, fun _ => h3⟩
  cases o with
  | none => exact key (runion_1 w p none O hB i j (11, [(BagR.bagS, 0)]) rfl (by decide)) rfl
  | some x =>
    obtain ⟨n, S⟩ := x
    by_cases hi : BagR.inS S i
    · by_cases hj : BagR.inS S j
      · have e1 : getO (some (n, S)) i = (getL n (S.getD i.toNat []), none) := by simp only [getO]; unfold BagR.getF; rw [if_pos hi]
        have e2 : getO (some (n, S)) j = (getL n (S.getD j.toNat []), none) := by simp only [getO]; unfold BagR.getF; rw [if_pos hj]
        have hg := hB.2
        have gi := (hg.at_ hi).2
        have gj := (hg.at_ hj).2
        have hnn : n ≤ 8192 := by obtain ⟨⟨_, _, _, _, _, _, hb⟩, _⟩ := hB; exact hb.nn
        have e3 : unionO (some (n, S)) i j = putO (some (n, S)) (getL n (S.getD i.toNat []) ++ getL n (S.getD j.toNat [])) := by
          simp only [unionO, putO]
          unfold BagR.unionF BagR.putF
          rw [if_pos hi, if_pos hj, out_all (fun x hx => (List.mem_append.1 hx).elim (BagR.getL_range n _ x) (BagR.getL_range n _ x)), BagR.bits_union gi gj]
        rw [e3]
        exact runion_3 w p _ O hB hO i j _ _ e1 e2 (Nat.le_trans (getL_len _ _) hnn) (Nat.le_trans (getL_len _ _) hnn)
      · refine key (runion_2 w p _ O hB i j (3, [(BagR.bagS, 0)]) ?_ ?_ (by decide)) ?_
        · simp only [getO]; unfold BagR.getF; rw [if_pos hi]
        · simp only [getO]; unfold BagR.getF; rw [if_neg hj]
        · simp only [unionO]; unfold BagR.unionF; rw [if_pos hi, if_neg hj]
    · refine key (runion_1 w p _ O hB i j (3, [(BagR.bagS, 0)]) ?_ (by decide)) ?_
      · simp only [getO]; unfold BagR.getF; rw [if_neg hi]
      · simp only [unionO]; unfold BagR.unionF; rw [if_neg hi]
end Go.Proofs.YtiobnnhjnkcafaaDoor

namespace Go.Proofs.YtiobnnhjnkcafaaDoor
open Go.RowKit

/-- A call: its fields, and what they stand for. -/
structure BOp where
  K : Int
  I : Int
  J : Int
  A : Option Addr
  n : Nat
  c : Nat
  xs : List Int
structure BOpOk (w : World) (o : BOp) : Prop where
  hL : Sl w o.A o.n (o.xs.map (Value.int .i64))
  hl : o.n ≤ o.c
  hm : o.c ≤ maxLen
theorem BOpOk.below {w w' : World} {o : BOp} (h : BOpOk w o) (hb : Below w.heap.size w w') : BOpOk w' o := ⟨h.hL.below hb, h.hl, h.hm⟩
/-- The script lies in memory: four cells a call. -/
def BScript (w : World) (SA : Option Addr) (m : Nat) : Prop := ∀ i, i < m → ∃ (ad : Addr) (o : BOp), SA = some ad ∧ BOpOk w o ∧
  w.cell? (ad.add (i * 4)) = some (.int .i64 o.K) ∧ w.cell? (ad.add (i * 4 + 1)) = some (.int .i64 o.I) ∧ w.cell? (ad.add (i * 4 + 2)) = some (.int .i64 o.J) ∧ w.cell? (ad.add (i * 4 + 3)) = some (.slice o.A o.n o.c)
theorem BScript.below {w w' : World} {SA : Option Addr} {m : Nat} (h : BScript w SA m) (hb : Below w.heap.size w w') : BScript w' SA m := fun i hi => by
  obtain ⟨ad, o, e, ho, c0, c1, c2, c3⟩ := h i hi
  exact ⟨ad, o, e, ho.below hb, cell_later hb c0, cell_later hb c1, cell_later hb c2, cell_later hb c3⟩
theorem addr_add4 (ad : Addr) (k j : Nat) (hj : 0 < j) : ad.add (k + j) = ⟨(ad.add k).block, (ad.add k).off + j, none⟩ := by
  unfold Addr.add
  rw [if_neg (by omega)]
  split
  · rename_i h; rw [h, Nat.zero_add]
  · rw [Nat.add_assoc]
/-- The block holds a call's four fields. -/
def BOpAt (w : World) (g : Nat) (c0 c1 c2 c3 : Value) : Prop := w.heap[g]? = some (.cells #[c0, c1, c2, c3] 38 (0, 0))
namespace BOpAt
variable {w w' : World} {g : Nat} {c0 c1 c2 c3 : Value}
theorem facts (h : BOpAt w g c0 c1 c2 c3) : w.cell? ⟨g, 0, none⟩ = some c0 ∧ w.cell? ⟨g, 1, none⟩ = some c1 ∧ w.cell? ⟨g, 2, none⟩ = some c2 ∧ w.cell? ⟨g, 3, none⟩ = some c3 := by
  refine ⟨?_, ?_, ?_, ?_⟩ <;> rw [cell_of_row w g _ _ _ _ h] <;> rfl
theorem below {B : Nat} (h : BOpAt w g c0 c1 c2 c3) (hb : Below B w w') (hg : g < B) : BOpAt w' g c0 c1 c2 c3 := (hb.block g hg).trans h
theorem new (w : World) (c0 c1 c2 c3 : Value) : BOpAt (w.alloc (.cells #[c0, c1, c2, c3] 38)) w.heap.size c0 c1 c2 c3 := heap_new _ _
theorem lt (h : BOpAt w g c0 c1 c2 c3) : g < w.heap.size := (Array.getElem?_eq_some_iff.1 h).1
theorem keeps {O : Nat → Prop} (h : BOpAt w g c0 c1 c2 c3) (hk : Keeps O w w') (ho : ¬ O g) : BOpAt w' g c0 c1 c2 c3 := (hk.block g h.lt ho).trans h
end BOpAt
/-- A call's value. -/
def bopV (K I J : Int) (A : Option Addr) (n c : Nat) : Value := .agg #[.int .i64 K, .int .i64 I, .int .i64 J, .slice A n c]
end Go.Proofs.YtiobnnhjnkcafaaDoor

namespace Go.Proofs.YtiobnnhjnkcafaaDoor
open Go.RowKit Go.WideMaps Go.Maps BagP RuleP

/-- The program's bag holds o, the document's r; neither lies in blocks of X, nor below base. -/
structure BothB (base : Nat) (X : Nat → Prop) (w : World) (p : Value) (o : BagD) (q : Value) (r : BagD) : Prop where
  ex : ∃ O1 O2 : Nat → Prop, BagO w p o O1 ∧ RBagO w q r O2 ∧ (∀ k, O1 k → base ≤ k ∧ k < w.heap.size ∧ ¬ X k ∧ ¬ O2 k) ∧ (∀ k, O2 k → base ≤ k ∧ k < w.heap.size ∧ ¬ X k)
  lt : ∀ k, X k → k < w.heap.size
  hb : base ≤ w.heap.size
namespace BothB
variable {base : Nat} {X : Nat → Prop} {w w' : World} {p q : Value} {o r : BagD}
theorem other (h : BothB base X w p o q r) (hk : Keeps X w w') : BothB base X w' p o q r := by
  obtain ⟨⟨O1, O2, h1, h2, a1, a2⟩, hl, hb⟩ := h
  have hs := hk.size
  exact ⟨⟨O1, O2, h1.keeps hk fun k hk => (a1 k hk).2.2.1, h2.keeps hk fun k hk => (a2 k hk).2.2, fun k hk => have h := a1 k hk; ⟨h.1, Nat.lt_of_lt_of_le h.2.1 hs, h.2.2⟩, fun k hk => have h := a2 k hk; ⟨h.1, Nat.lt_of_lt_of_le h.2.1 hs, h.2.2⟩⟩,
    fun k hk => Nat.lt_of_lt_of_le (hl k hk) hs, Nat.le_trans hb hs⟩
theorem below (h : BothB base X w p o q r) (hb : Below w.heap.size w w') : BothB base X w' p o q r := h.other (Keeps.of_pure hb _)
theorem fresh (h : BothB base X w p o q r) {X' : Nat → Prop} {w' : World} (hb : Below w.heap.size w w') (hX : ∀ k, X' k → k < w'.heap.size ∧ (X k ∨ w.heap.size ≤ k)) : BothB base X' w' p o q r := by
  obtain ⟨⟨O1, O2, h1, h2, a1, a2⟩, hl, hbs⟩ := h
  have hs := hb.size
  refine ⟨⟨O1, O2, h1.below hb, h2.below hb, fun k hk => ?_, fun k hk => ?_⟩, fun k hk => (hX k hk).1, Nat.le_trans hbs hs⟩
  · obtain ⟨b1, b2, b3, b4⟩ := a1 k hk
    exact ⟨b1, Nat.lt_of_lt_of_le b2 hs, fun x => by rcases (hX k x).2 with h | h; exact b3 h; omega, b4⟩
  · obtain ⟨b1, b2, b3⟩ := a2 k hk
    exact ⟨b1, Nat.lt_of_lt_of_le b2 hs, fun x => by rcases (hX k x).2 with h | h; exact b3 h; omega⟩
/-- The program's bag has changed. -/
theorem left {O1 O2 : Nat → Prop} (h2 : RBagO w q r O2) (a1 : ∀ k, O1 k → base ≤ k ∧ k < w.heap.size ∧ ¬ X k ∧ ¬ O2 k) (a2 : ∀ k, O2 k → base ≤ k ∧ k < w.heap.size ∧ ¬ X k) (hl : ∀ k, X k → k < w.heap.size) (hb : base ≤ w.heap.size)
    {o' : BagD} (h1' : BagO w' p o' (fun k => O1 k ∨ w.heap.size ≤ k)) (hk : Keeps O1 w w') : BothB base X w' p o' q r ∧ Keeps (fun k => base ≤ k ∧ ¬ X k) w w' := by
  have hs := hk.size
  refine ⟨⟨⟨_, O2, h1'.restrict, h2.keeps hk fun k x y => (a1 k y).2.2.2 x, ?_, fun k hk => have h := a2 k hk; ⟨h.1, Nat.lt_of_lt_of_le h.2.1 hs, h.2.2⟩⟩, fun k hk => Nat.lt_of_lt_of_le (hl k hk) hs, Nat.le_trans hb hs⟩, hk.mono fun k _ h => ⟨(a1 k h).1, (a1 k h).2.2.1⟩⟩
  rintro k ⟨hk | hk, hlt⟩
  · obtain ⟨b1, b2, b3, b4⟩ := a1 k hk
    exact ⟨b1, hlt, b3, b4⟩
  · exact ⟨Nat.le_trans hb hk, hlt, fun x => by have := hl k x; omega, fun x => by have := (a2 k x).2.1; omega⟩
/-- The document's bag has changed. -/
theorem right {O1 O2 : Nat → Prop} (h1 : BagO w p o O1) (a1 : ∀ k, O1 k → base ≤ k ∧ k < w.heap.size ∧ ¬ X k ∧ ¬ O2 k) (a2 : ∀ k, O2 k → base ≤ k ∧ k < w.heap.size ∧ ¬ X k) (hl : ∀ k, X k → k < w.heap.size) (hb : base ≤ w.heap.size)
    {r' : BagD} (h2' : RBagO w' q r' (fun k => O2 k ∨ w.heap.size ≤ k)) (hk : Keeps O2 w w') : BothB base X w' p o q r' ∧ Keeps (fun k => base ≤ k ∧ ¬ X k) w w' := by
  have hs := hk.size
  refine ⟨⟨⟨O1, _, h1.keeps hk fun k x y => (a1 k x).2.2.2 y, h2'.restrict, fun k hk => ?_, ?_⟩, fun k hk => Nat.lt_of_lt_of_le (hl k hk) hs, Nat.le_trans hb hs⟩, hk.mono fun k _ h => ⟨(a2 k h).1, (a2 k h).2.2⟩⟩
  · obtain ⟨b1, b2, b3, b4⟩ := a1 k hk
    exact ⟨b1, Nat.lt_of_lt_of_le b2 hs, b3, fun x => by rcases x.1 with x | x; exact b4 x; omega⟩
  · rintro k ⟨hk | hk, hlt⟩
    · obtain ⟨b1, b2, b3⟩ := a2 k hk
      exact ⟨b1, hlt, b3⟩
    · exact ⟨Nat.le_trans hb hk, hlt, fun x => by have := hl k x; omega⟩
end BothB

theorem both_put {base : Nat} {X : Nat → Prop} {w : World} {p q : Value} {o r : BagD} (h : BothB base X w p o q r) (E : Nat → Addr) (hE : Errs w E) (A : Option Addr) (m c : Nat) (xs : List Int) (hm : m ≤ 1048576) (hs : Sl w A m (xs.map (Value.int .i64))) :
    Calls Tryd.prog 12 #[p, .slice A m c] w fun e w' => ∃ ev, e = .returned (.tuple #[.int .i64 ((putO o xs).1.1 : Int), .bool (putO o xs).1.2.1, ev]) ∧ ErrV w' E (putO o xs).1.2.2 ev ∧
      BothB base X w' p (putO o xs).2 q r ∧ Keeps (fun k => base ≤ k ∧ ¬ X k) w w' := by
  obtain ⟨⟨O1, O2, h1, h2, a1, a2⟩, hl, hb⟩ := h
  refine (putO_c w E hE p o O1 h1 A m c xs (by omega) hs).mono ?_
  rintro e w' ⟨ev, rfl, he, hB, hk⟩
  exact ⟨ev, rfl, he, BothB.left h2 a1 a2 hl hb hB hk⟩
theorem both_union {base : Nat} {X : Nat → Prop} {w : World} {p q : Value} {o r : BagD} (h : BothB base X w p o q r) (E : Nat → Addr) (hE : Errs w E) (i j : Int) :
    Calls Tryd.prog 25 #[p, .int .i64 i, .int .i64 j] w fun e w' => ∃ ev, e = .returned (.tuple #[.int .i64 ((unionO o i j).1.1 : Int), .bool (unionO o i j).1.2.1, ev]) ∧ ErrV w' E (unionO o i j).1.2.2 ev ∧
      BothB base X w' p (unionO o i j).2 q r ∧ Keeps (fun k => base ≤ k ∧ ¬ X k) w w' := by
  obtain ⟨⟨O1, O2, h1, h2, a1, a2⟩, hl, hb⟩ := h
  refine (unionO_c w E hE p o O1 h1 i j).mono ?_
  rintro e w' ⟨ev, rfl, he, hB, hk⟩
  exact ⟨ev, rfl, he, BothB.left h2 a1 a2 hl hb hB hk⟩
theorem both_find {base : Nat} {X : Nat → Prop} {w : World} {p q : Value} {o r : BagD} (h : BothB base X w p o q r) (E : Nat → Addr) (hE : Errs w E) (A : Option Addr) (m c : Nat) (xs : List Int) (hm : m ≤ 1048576) (hs : Sl w A m (xs.map (Value.int .i64))) :
    Calls Tryd.prog 20 #[p, .slice A m c] w fun e w' => ∃ ev, e = .returned (.tuple #[.int .i64 (findO o xs).1, ev]) ∧ ErrV w' E (findO o xs).2 ev ∧ Below w.heap.size w w' := by
  obtain ⟨⟨O1, O2, h1, h2, a1, a2⟩, hl, hb⟩ := h
  exact findO_c w E hE p o O1 h1 A m c xs (by omega) hs
theorem both_get {base : Nat} {X : Nat → Prop} {w : World} {p q : Value} {o r : BagD} (h : BothB base X w p o q r) (E : Nat → Addr) (hE : Errs w E) (i : Int) :
    Calls Tryd.prog 10 #[p, .int .i64 i] w fun e w' => ∃ v ev, e = .returned (.tuple #[v, ev]) ∧ ErrV w' E (getO o i).2 ev ∧ w'.ownsRow w.heap.size 3 1 v (getO o i).1.length ((getO o i).1.map (Value.int .i64)) ∧ Below w.heap.size w w' := by
  obtain ⟨⟨O1, O2, h1, h2, a1, a2⟩, hl, hb⟩ := h
  exact getO_c w E hE p o O1 h1 i
theorem both_has {base : Nat} {X : Nat → Prop} {w : World} {p q : Value} {o r : BagD} (h : BothB base X w p o q r) (E : Nat → Addr) (hE : Errs w E) (i x : Int) :
    Calls Tryd.prog 23 #[p, .int .i64 i, .int .i64 x] w fun e w' => ∃ ev, e = .returned (.tuple #[.bool (hasO o i x).1, ev]) ∧ ErrV w' E (hasO o i x).2 ev ∧ Below w.heap.size w w' := by
  obtain ⟨⟨O1, O2, h1, h2, a1, a2⟩, hl, hb⟩ := h
  exact hasO_c w E hE p o O1 h1 i x
theorem both_len {base : Nat} {X : Nat → Prop} {w : World} {p q : Value} {o r : BagD} (h : BothB base X w p o q r) :
    Calls Tryd.prog 28 #[p] w fun e w' => e = .returned (.int .i64 (lenO o : Int)) ∧ w = w' := by
  obtain ⟨⟨O1, O2, h1, h2, a1, a2⟩, hl, hb⟩ := h
  exact lenO_c w p o O1 h1
theorem rboth_put {base : Nat} {X : Nat → Prop} {w : World} {p q : Value} {o r : BagD} (h : BothB base X w p o q r) (A : Option Addr) (m c : Nat) (xs : List Int) (hm : m ≤ 1048576) (hs : Sl w A m (xs.map (Value.int .i64))) :
    Calls Tryd.prog 19 #[q, .slice A m c] w (Ans3 w (putO r xs).1.2.2 (putO r xs).1.1 (putO r xs).1.2.1 fun w' => (BothB base X w' p o q (putO r xs).2 ∧ Keeps (fun k => base ≤ k ∧ ¬ X k) w w') ∧ ((putO r xs).1.2.2 ≠ none → Below w.heap.size w w')) := by
  obtain ⟨⟨O1, O2, h1, h2, a1, a2⟩, hl, hb⟩ := h
  refine (rputO_c w q r O2 h2 (fun k hk => (a2 k hk).2.1) A m c xs hm hs).mono ?_
  rintro e w' ⟨N, A1, n1, c1, A2, n2, c2, rfl, hW, hB, hk, hp⟩
  exact ⟨N, A1, n1, c1, A2, n2, c2, rfl, hW, BothB.right h1 a1 a2 hl hb hB hk, hp⟩
theorem rboth_union {base : Nat} {X : Nat → Prop} {w : World} {p q : Value} {o r : BagD} (h : BothB base X w p o q r) (i j : Int) :
    Calls Tryd.prog 26 #[q, .int .i64 i, .int .i64 j] w (Ans3 w (unionO r i j).1.2.2 (unionO r i j).1.1 (unionO r i j).1.2.1 fun w' => (BothB base X w' p o q (unionO r i j).2 ∧ Keeps (fun k => base ≤ k ∧ ¬ X k) w w') ∧ ((unionO r i j).1.2.2 ≠ none → Below w.heap.size w w')) := by
  obtain ⟨⟨O1, O2, h1, h2, a1, a2⟩, hl, hb⟩ := h
  refine (runionO_c w q r O2 h2 (fun k hk => (a2 k hk).2.1) i j).mono ?_
  rintro e w' ⟨N, A1, n1, c1, A2, n2, c2, rfl, hW, hB, hk, hp⟩
  exact ⟨N, A1, n1, c1, A2, n2, c2, rfl, hW, BothB.right h1 a1 a2 hl hb hB hk, hp⟩
theorem rboth_find {base : Nat} {X : Nat → Prop} {w : World} {p q : Value} {o r : BagD} (h : BothB base X w p o q r) (A : Option Addr) (m c : Nat) (xs : List Int) (hm : m ≤ 1048576) (hs : Sl w A m (xs.map (Value.int .i64))) :
    Calls Tryd.prog 21 #[q, .slice A m c] w (Ans2 w (findO r xs).2 fun v _ => v = .int .i64 (findO r xs).1) := by
  obtain ⟨⟨O1, O2, h1, h2, a1, a2⟩, hl, hb⟩ := h
  exact rfindO_c w q r O2 h2 A m c xs hm hs
theorem rboth_get {base : Nat} {X : Nat → Prop} {w : World} {p q : Value} {o r : BagD} (h : BothB base X w p o q r) (i : Int) :
    Calls Tryd.prog 22 #[q, .int .i64 i] w (Ans2 w (getO r i).2 fun v w' => w'.ownsRow w.heap.size 3 1 v (getO r i).1.length ((getO r i).1.map (Value.int .i64))) := by
  obtain ⟨⟨O1, O2, h1, h2, a1, a2⟩, hl, hb⟩ := h
  exact rgetO_c w q r O2 h2 i
theorem rboth_has {base : Nat} {X : Nat → Prop} {w : World} {p q : Value} {o r : BagD} (h : BothB base X w p o q r) (i x : Int) :
    Calls Tryd.prog 24 #[q, .int .i64 i, .int .i64 x] w (Ans2 w (hasO r i x).2 fun v _ => v = .bool (hasO r i x).1) := by
  obtain ⟨⟨O1, O2, h1, h2, a1, a2⟩, hl, hb⟩ := h
  exact rhasO_c w q r O2 h2 i x
theorem rboth_len {base : Nat} {X : Nat → Prop} {w : World} {p q : Value} {o r : BagD} (h : BothB base X w p o q r) :
    Calls Tryd.prog 9 #[q] w fun e w' => e = .returned (.int .i64 (lenO r : Int)) ∧ w = w' := by
  obtain ⟨⟨O1, O2, h1, h2, a1, a2⟩, hl, hb⟩ := h
  exact rlen_c w q r O2 h2
/-- The tales' numbers are an error's. -/
theorem BothB.made {base : Nat} {w0 w : World} {p q : Value} {o r : BagD} {O1 O2 : Nat → Prop} (h1 : BagO w p o O1) (h2 : RBagO w q r O2) (hd : ∀ k, O1 k → base ≤ k ∧ ¬ O2 k) (hd2 : ∀ k, O2 k → base ≤ k) (hb : base ≤ w.heap.size) : BothB base (fun _ => False) w p o q r :=
  ⟨⟨_, _, h1.restrict, h2.restrict, fun k hk => ⟨(hd k hk.1).1, hk.2, fun h => h, fun h => (hd k hk.1).2 h.1⟩, fun k hk => ⟨hd2 k hk.1, hk.2, fun h => h⟩⟩, fun _ h => h.elim, hb⟩
end Go.Proofs.YtiobnnhjnkcafaaDoor

namespace Go.Proofs.YtiobnnhjnkcafaaDoor
open Go.RowKit RuleP

def size (k r : Int) : Except Tale Int := if k < 1 ∨ 4 < k ∨ r < 0 ∨ 3 < r then .error (3, [(sRule, 0)]) else .ok ((k.toNat ^ (2 * r.toNat + 1) : Nat) : Int)

end Go.Proofs.YtiobnnhjnkcafaaDoor

namespace Go.Proofs.YtiobnnhjnkcafaaDoor
open Go.RowKit RuleP

theorem ErrV.some {w : World} {E : Nat → Addr} {n : Nat} {l : List (ByteArray × Int)} {v : Value} (h : ErrIs w E n l v) : ErrV w E (some (n, l)) v := h
end Go.Proofs.YtiobnnhjnkcafaaDoor

namespace Go.Proofs.YtiobnnhjnkcafaaDoor
open Go.RowKit

theorem ErrIs.keeps {w w' : World} {E : Nat → Addr} {n : Nat} {O : Nat → Prop} (hk : Keeps O w w') (ho : ∀ k cs, O k → w.heap[k]? ≠ some (.cells cs 63 (0, 0))) : ∀ {l : List (ByteArray × Int)} {v : Value}, ErrIs w E n l v → ErrIs w' E n l v
  | [], _, h => h
  | (_, _) :: _, _, ⟨b, v', h1, h2, h3⟩ => ⟨b, v', h1, (hk.block b (Array.getElem?_eq_some_iff.1 h2).1 (fun hO => ho b _ hO h2)).trans h2, ErrIs.keeps hk ho h3⟩
end Go.Proofs.YtiobnnhjnkcafaaDoor
