/- What is a rule: rule.Check, rule.Small. Condition: the table reads from memory; the error variables hold what E says. A struct of three cells in a block of the call's own: read, written, and the errors beside it. No condition. Lists held against each other: edenraw.Ints returns whether the two lists are one. Condition: both lists read from memory. copy(d, s) into a row of the call's own. Plain laws, no program. No condition. Numbers lent: edenraw.Lent, Kept. Condition: the numbers read from memory. A rule lent: edenraw.LentRule, KeptRule. Condition: the table reads from memory. Lists of lists held against each other: edenraw.Lists. Condition: the lists read from memory. Errors told further: fault.Under, edenraw.Under, Err.Bad. Condition: the error reads from memory. What is asked of an error, kept beside other writes: edenraw.New, Err.Bad. Condition: the value reads from memory. What is told of a small rule, how many nodes there are: overlap.wrong, small, nodes, Nodes, Edge. Condition: the table reads from memory; the error variables hold what E says. What is told of a rule and a word: overlap.check. Condition: the lists read from memory; the error variables hold what E says. What memory holds of a search among preimages: overlap's dead. Plain lemmas, no program. No condition. append(s, x) of one element in a region that draws its order: what is told of the row, the old one kept. Plain laws, no program. No condition. overlap.Before where it refuses, overlap.Has, Nodes, Edge. Condition: the lists read from memory; the error variables hold what E says. Where an edge leads: overlap.Edge. Condition: the list reads from memory; the error variables hold what E says. -/
import Derived.Laws.CopyOwn
import Derived.Deep.RegionHeld3
import Derived.Deep.RegionLaw
import Derived.StillTailTactics
import Derived.Test.YtedmmmlahpmmoaaGreatDoorV5
import Derived.Test.YtedmmmlahpmmoaaGreatDoorV6
import Derived.Test.YtedmmmlahpmmoaaGreatDoorV7
namespace Go.Proofs.YtedmmmlahpmmoaaGreatDoor
open Go.RowKit RuleP

/-- A rule as a value. -/
def ruleV (K R : Int) (A : Option Addr) (n c : Nat) : Value := .agg #[.int .i64 K, .int .i64 R, .slice A n c]
theorem below_box {w w1 : World} {o : Obj} (h : Below (w.alloc o).heap.size (w.alloc o) w1) : Below w.heap.size w w1 := ((Below.refl _ _).alloc (Nat.le_refl _) o).trans (h.mono (by simp))
theorem box_cells {w w1 : World} {x0 x1 x2 : Value} {t : TypeId} (h : Below (w.alloc (.cells #[x0, x1, x2] t)).heap.size (w.alloc (.cells #[x0, x1, x2] t)) w1) :
    w1.cell? ⟨w.heap.size, 0, none⟩ = some x0 ∧ w1.cell? ⟨w.heap.size, 1, none⟩ = some x1 ∧ w1.cell? ⟨w.heap.size, 2, none⟩ = some x2 := by
  obtain ⟨a, b, c, _⟩ := blk_cells (heap_new w (.cells #[x0, x1, x2] t))
  exact ⟨cell_later h a, cell_later h b, cell_later h c⟩

theorem ErrV.some {w : World} {E : Nat → Addr} {n : Nat} {l : List (ByteArray × Int)} {v : Value} (h : ErrIs w E n l v) : ErrV w E (some (n, l)) v := h
set_option maxRecDepth 100000 in
set_option maxHeartbeats 2000000 in
theorem check_c (w : World) (E : Nat → Addr) (hE : Errs w E) (K R : Int) (A : Option Addr) (n c : Nat) (T : List Int) (hT : Sl w A n (T.map (Value.int .i64))) (hm : n ≤ 9223372036854775807) :
    Calls Tryz.prog 19 #[ruleV K R A n c] w fun e w' => ∃ v, e = .returned v ∧ ErrV w' E (check K R T) v ∧ Below w.heap.size w w' := by
  have hl : T.length = n := by simpa using hT.1
  have HL := Lib.hid hl
  clear hl
  have hE1 : Errs (w.alloc (.cells #[.int .i64 K, .int .i64 R, .slice A n c] 24)) E := hE.below ((Below.refl _ _).alloc (Nat.le_refl _) _)
  have HE := Lib.hid hE1
  have hT1 := hT.alloc (.cells #[.int .i64 K, .int .i64 R, .slice A n c] 24)
  have HT := Lib.hid hT1
  clear hE hE1 hT hT1
  unfold ruleV
  by_cases hk : K < 1 ∨ 4 < K
  · have hc : Hid (check K R T = some (1, [(sRule, 0)])) := Lib.hid (by unfold check; rw [if_pos hk])
    have hk' : K < 1 ∨ (1 ≤ K ∧ 4 < K) := by omega
    clear hk
    rcases hk' with hk | ⟨hk, hk'⟩
    all_goals
      go_enter Tryz.func19, Tryz.ntmps19
      go_wp2_with fail
      refine (ruleWrong_c _ E HE.out 0 1 (by decide) (by decide)).mono ?_
      rintro e w1 ⟨rfl, he, hb⟩
      have hP := ErrV.some he; rw [← hc.out] at hP; rw [World.size_alloc] at hP
      have HP := Lib.hid hP
      have HB := Lib.hid (below_box hb)
      clear he hb hP
      go_wp2_with fail
      go_ret
      exact ⟨_, rfl, HP.out, HB.out⟩
  by_cases hr : R < 0 ∨ 3 < R
  · have hc : Hid (check K R T = some (1, [(sRule, 1)])) := Lib.hid (by unfold check; rw [if_neg hk, if_pos hr])
    have hs : K < 1 ∨ 4 < K ∨ R < 0 ∨ 3 < R := by omega
    have hk1 : 1 ≤ K := by omega
    have hk4 : K ≤ 4 := by omega
    clear hk hr
    go_enter Tryz.func19, Tryz.ntmps19
    go_wp2_with fail
    refine (size_err _ E HE.out K R hs).mono ?_
    rintro e w1 ⟨b, rfl, _, hb⟩
    have HE1 := Lib.hid (HE.out.below hb)
    unfold errV
    go_wp2_with fail
    refine (ruleWrong_c _ E HE1.out 1 1 (by decide) (by decide)).mono ?_
    rintro e w2 ⟨rfl, he, hb2⟩
    have hP := ErrV.some he; rw [← hc.out] at hP
    have HP := Lib.hid hP
    have HB := Lib.hid ((below_box hb).trans (hb2.mono (below_box hb).size))
    clear he hb hb2 hP
    go_wp2_with fail
    go_ret
    exact ⟨_, rfl, HP.out, HB.out⟩
  obtain ⟨k, rfl⟩ : ∃ k : Nat, K = (k : Int) := ⟨K.toNat, by omega⟩
  obtain ⟨r, rfl⟩ : ∃ r : Nat, R = (r : Int) := ⟨R.toNat, by omega⟩
  have hk1 : 1 ≤ k := by omega
  have hk4 : k ≤ 4 := by omega
  have hr3 : r ≤ 3 := by omega
  have hsz := size_ok (w.alloc (.cells #[.int .i64 (k : Int), .int .i64 (r : Int), .slice A n c] 24)) k r hk1 hk4 hr3
  have HSZ := Lib.hid hsz
  by_cases hn : T.length ≠ k ^ (2 * r + 1)
  · have hc : Hid (check (k : Int) (r : Int) T = some (1, [(sRule, 2)])) := Lib.hid (by unfold check; rw [if_neg hk, if_neg hr, if_pos (by simpa using hn)])
    obtain ⟨L, hL⟩ : ∃ L, k ^ (2 * r + 1) = L := ⟨_, rfl⟩
    rw [hL] at hn HSZ
    have hne : ((n : Int) != (L : Int)) = true := by have := HL.out; simp; omega
    clear hk hr hL hsz hn
    go_enter Tryz.func19, Tryz.ntmps19
    go_wp2_with fail
    refine (HSZ.out).mono ?_
    rintro e w1 ⟨rfl, rfl⟩
    go_wp2_with fail
    refine (ruleWrong_c _ E HE.out 2 1 (by decide) (by decide)).mono ?_
    rintro e w1 ⟨rfl, he, hb⟩
    have hP := ErrV.some he; rw [← hc.out] at hP; rw [World.size_alloc] at hP
    have HP := Lib.hid hP
    have HB := Lib.hid (below_box hb)
    clear he hb hP
    go_wp2_with fail
    go_ret
    exact ⟨_, rfl, HP.out, HB.out⟩
  have hn' : T.length = k ^ (2 * r + 1) := Decidable.not_not.1 hn
  have hc : check (k : Int) (r : Int) T = match odd (k : Int) T with
      | some i => some (1, [(sRule, 3 + (i : Int))])
      | none => none := by unfold check; rw [if_neg hk, if_neg hr, if_neg (by simpa using hn)]; cases odd (k : Int) T <;> rfl
  rw [← hn', HL.out] at HSZ
  have hnn : ((n : Int) != (n : Int)) = false := by simp
  have hle : n ≤ 16384 := by
    have := pow_le (k := k) (r := r) hk4 hr3
    rw [← hn', HL.out] at this
    exact this
  have hod := ruleOdd_c (w.alloc (.cells #[.int .i64 (k : Int), .int .i64 (r : Int), .slice A n c] 24)) (k : Int) A n c T HT.out hm
  have HOD := Lib.hid hod
  clear hk hr hsz hn hn' hod
  cases ho : odd (k : Int) T with
  | some i =>
    rw [ho] at hc HOD
    have HC := Lib.hid hc
    have hi : i < n := by have := odd_some ho; have := HL.out; omega
    have hpl : place (some i) = (i : Int) := rfl
    rw [hpl] at HOD
    clear hc ho hpl
    go_enter Tryz.func19, Tryz.ntmps19
    go_wp2_with fail
    refine (HSZ.out).mono ?_
    rintro e w1 ⟨rfl, rfl⟩
    go_wp2_with fail
    refine (HOD.out).mono ?_
    rintro e w1 ⟨rfl, hb1⟩
    have HE1 := Lib.hid (HE.out.below hb1)
    go_wp2_with fail
    refine (ruleWrong_c _ E HE1.out (3 + (i : Int)) 1 (by decide) (by decide)).mono ?_
    rintro e w2 ⟨rfl, he, hb2⟩
    have hP := ErrV.some he; rw [← HC.out] at hP
    have HP := Lib.hid hP
    have HB := Lib.hid ((below_box hb1).trans (hb2.mono (below_box hb1).size))
    clear he hb1 hb2 hP
    go_wp2_with fail
    go_ret
    exact ⟨_, rfl, HP.out, HB.out⟩
  | none =>
    rw [ho] at hc HOD
    have HC := Lib.hid hc
    have hpl : place none = -1 := rfl
    rw [hpl] at HOD
    clear hc ho hpl
    go_enter Tryz.func19, Tryz.ntmps19
    go_wp2_with fail
    refine (HSZ.out).mono ?_
    rintro e w1 ⟨rfl, rfl⟩
    go_wp2_with fail
    refine (HOD.out).mono ?_
    rintro e w1 ⟨rfl, hb1⟩
    have HB := Lib.hid (below_box hb1)
    clear hb1
    go_wp2_with fail
    go_ret
    exact ⟨_, rfl, by rw [HC.out]; rfl, HB.out⟩

set_option maxRecDepth 100000 in
set_option maxHeartbeats 1000000 in
theorem small_c (w : World) (E : Nat → Addr) (hE : Errs w E) (K R : Int) (A : Option Addr) (n c : Nat) (T : List Int) (hT : Sl w A n (T.map (Value.int .i64))) (hm : n ≤ 9223372036854775807) :
    Calls Tryz.prog 57 #[ruleV K R A n c] w fun e w' => ∃ v, e = .returned v ∧ ErrV w' E (small K R T) v ∧ Below w.heap.size w w' := by
  have hl : T.length = n := by simpa using hT.1
  have HL := Lib.hid hl
  clear hl
  have hE1 : Errs (w.alloc (.cells #[.int .i64 K, .int .i64 R, .slice A n c] 24)) E := hE.below ((Below.refl _ _).alloc (Nat.le_refl _) _)
  have HE := Lib.hid hE1
  have hT1 := hT.alloc (.cells #[.int .i64 K, .int .i64 R, .slice A n c] 24)
  have HCK := Lib.hid (check_c _ E hE1 K R A n c T hT1 hm)
  clear hE hE1 hT hT1
  unfold ruleV at *
  cases ho : check K R T with
  | some t =>
    have hs : Hid (small K R T = some t) := Lib.hid (by unfold small; rw [ho])
    rw [ho] at HCK
    clear ho
    go_enter Tryz.func57, Tryz.ntmps57
    go_wp2_with fail
    refine (HCK.out).mono ?_
    rintro e w1 ⟨v, rfl, he, hb⟩
    obtain ⟨u, p, rfl⟩ := ErrIs.iface (show ErrIs w1 E t.1 t.2 v from he)
    have hP : ErrV w1 E (some t) (.iface u p) := he
    rw [← hs.out] at hP
    have HP := Lib.hid hP
    have HB := Lib.hid (below_box hb)
    clear he hb hP
    go_wp2_with fail
    go_ret
    exact ⟨_, rfl, HP.out, HB.out⟩
  | none =>
    rw [ho] at HCK
    by_cases h256 : 256 < n
    · have hs : Hid (small K R T = some (4, [(sRule, 0)])) := Lib.hid (by unfold small; rw [ho]; simp only; rw [if_pos (by rw [HL.out]; exact h256)])
      clear ho
      go_enter Tryz.func57, Tryz.ntmps57
      go_wp2_with fail
      refine (HCK.out).mono ?_
      rintro e w1 ⟨v, rfl, rfl, hb⟩
      obtain ⟨b0, b1, b2⟩ := box_cells hb
      have HE1 := Lib.hid (HE.out.below hb)
      have HB1 := Lib.hid (below_box hb)
      clear hb
      go_wp2_with fail
      refine (ruleWrong_c _ E HE1.out 0 4 (by decide) (by decide)).mono ?_
      rintro e w2 ⟨rfl, he, hb2⟩
      have hP := ErrV.some he; rw [← hs.out] at hP
      have HP := Lib.hid hP
      have HB := Lib.hid (HB1.out.trans (hb2.mono HB1.out.size))
      clear he hb2 hP
      go_wp2_with fail
      go_ret
      exact ⟨_, rfl, HP.out, HB.out⟩
    · have hs : Hid (small K R T = none) := Lib.hid (by unfold small; rw [ho]; simp only; rw [if_neg (by rw [HL.out]; exact h256)])
      clear ho
      go_enter Tryz.func57, Tryz.ntmps57
      go_wp2_with fail
      refine (HCK.out).mono ?_
      rintro e w1 ⟨v, rfl, rfl, hb⟩
      obtain ⟨b0, b1, b2⟩ := box_cells hb
      have HB := Lib.hid (below_box hb)
      clear hb
      go_wp2_with fail
      go_ret
      exact ⟨_, rfl, by rw [hs.out]; rfl, HB.out⟩
end Go.Proofs.YtedmmmlahpmmoaaGreatDoor

namespace Go.Proofs.YtedmmmlahpmmoaaGreatDoor
open Go.RowKit

/-- The block holds a rule. -/
def RuleAt (w : World) (g : Nat) (x0 x1 x2 : Value) : Prop := w.heap[g]? = some (.cells #[x0, x1, x2] 24 (0, 0))
theorem RuleAt.facts {w : World} {g : Nat} {x0 x1 x2 : Value} (h : RuleAt w g x0 x1 x2) :
    w.cell? ⟨g, 0, none⟩ = some x0 ∧ w.cell? ⟨g, 1, none⟩ = some x1 ∧ w.cell? ⟨g, 2, none⟩ = some x2 ∧ w.frozen? ⟨g, 0, none⟩ = false ∧ w.frozen? ⟨g, 1, none⟩ = false ∧ w.frozen? ⟨g, 2, none⟩ = false := by
  obtain ⟨a, b, c, _⟩ := blk_cells h
  exact ⟨a, b, c, frozen_of_row _ _ 0 _ _ h, frozen_of_row _ _ 1 _ _ h, frozen_of_row _ _ 2 _ _ h⟩
theorem RuleAt.below {w w' : World} {g B : Nat} {x0 x1 x2 : Value} (h : RuleAt w g x0 x1 x2) (hb : Below B w w') (hg : g < B) : RuleAt w' g x0 x1 x2 := (hb.block g hg).trans h
theorem RuleAt.keeps {w w' : World} {g : Nat} {O : Nat → Prop} {x0 x1 x2 : Value} (h : RuleAt w g x0 x1 x2) (hk : Keeps O w w') (ho : ¬ O g) : RuleAt w' g x0 x1 x2 := (hk.block g (Array.getElem?_eq_some_iff.1 h).1 ho).trans h
theorem RuleAt.new (w : World) (x0 x1 x2 : Value) : RuleAt (w.alloc (.cells #[x0, x1, x2] 24)) w.heap.size x0 x1 x2 := heap_new _ _
theorem RuleAt.alloc {w : World} {g : Nat} {x0 x1 x2 : Value} (h : RuleAt w g x0 x1 x2) (o : Obj) : RuleAt (w.alloc o) g x0 x1 x2 := (Below.heap_alloc w o g (Array.getElem?_eq_some_iff.1 h).1).trans h
theorem RuleAt.lt {w : World} {g : Nat} {x0 x1 x2 : Value} (h : RuleAt w g x0 x1 x2) : g < w.heap.size := (Array.getElem?_eq_some_iff.1 h).1

theorem ErrIs.keeps {w w' : World} {E : Nat → Addr} {n : Nat} {O : Nat → Prop} (hk : Keeps O w w') (ho : ∀ k cs, O k → w.heap[k]? ≠ some (.cells cs 73 (0, 0))) : ∀ {l : List (ByteArray × Int)} {v : Value}, ErrIs w E n l v → ErrIs w' E n l v
  | [], _, h => h
  | (_, _) :: _, _, ⟨b, v', h1, h2, h3⟩ => ⟨b, v', h1, (hk.block b (Array.getElem?_eq_some_iff.1 h2).1 (fun hO => ho b _ hO h2)).trans h2, ErrIs.keeps hk ho h3⟩
theorem ErrIs.set3 {w : World} {E : Nat → Addr} {n g : Nat} {x0 x1 x2 : Value} {l : List (ByteArray × Int)} {v : Value} (h : ErrIs w E n l v) (hr : RuleAt w g x0 x1 x2) (u0 u1 u2 : Value) :
    ErrIs (((w.setCell ⟨g, 0, none⟩ u0).setCell ⟨g, 1, none⟩ u1).setCell ⟨g, 2, none⟩ u2) E n l v :=
  ErrIs.keeps (keeps_set3 w g u0 u1 u2) (fun k cs hk e => by subst hk; rw [show w.heap[k]? = _ from hr] at e; injection e with e; injection e with _ e; exact absurd e (by decide)) h
theorem own_set3 {w : World} {base e n g : Nat} {v : Value} {xs : List Value} {x0 x1 x2 : Value} (h : w.ownsRow base e 1 v n xs) (hr : RuleAt w g x0 x1 x2) (hne : e ≠ 24) (u0 u1 u2 : Value) :
    (((w.setCell ⟨g, 0, none⟩ u0).setCell ⟨g, 1, none⟩ u1).setCell ⟨g, 2, none⟩ u2).ownsRow base e 1 v n xs :=
  own_keeps h (keeps_set3 w g u0 u1 u2) (fun g' hg' e' => by subst e'; exact own_ne_blk h hr hne hg')
theorem RuleAt.set3 {w : World} {g : Nat} {x0 x1 x2 : Value} (h : RuleAt w g x0 x1 x2) (u0 u1 u2 : Value) : RuleAt (((w.setCell ⟨g, 0, none⟩ u0).setCell ⟨g, 1, none⟩ u1).setCell ⟨g, 2, none⟩ u2) g u0 u1 u2 := by
  unfold RuleAt at *
  have h0 := (Array.getElem?_eq_some_iff.1 h).1
  simp only [World.setCell]
  simp [Array.getElem?_modify, h]
end Go.Proofs.YtedmmmlahpmmoaaGreatDoor

namespace Go.Proofs.YtedmmmlahpmmoaaGreatDoor
open Go.RowKit

theorem ints_c (w : World) (A1 A2 : Option Addr) (n1 n2 c1 c2 : Nat) (xs ys : List Int) (h1 : Sl w A1 n1 (xs.map (Value.int .i64))) (h2 : Sl w A2 n2 (ys.map (Value.int .i64)))
    (m1 : n1 ≤ 9223372036854775807) (m2 : n2 ≤ 9223372036854775807) :
    Calls Tryz.prog 7 #[.slice A1 n1 c1, .slice A2 n2 c2] w fun e w' => e = .returned (.bool (decide (xs = ys))) ∧ ∃ k, w' = w.drewN k := by
  have l1 : xs.length = n1 := by simpa using h1.1
  have l2 : ys.length = n2 := by simpa using h2.1
  by_cases hn : n1 = n2
  · subst hn
    have hne : ((n1 : Int) != (n1 : Int)) = false := by simp
    have H1 := Lib.hid l1
    have H2 := Lib.hid l2
    clear l1 l2
    go_enter Tryz.func7, Tryz.ntmps7
    go_wp2
    go_loopw [5] (fun i wr => ∃ k q : Nat, k ≤ n1 ∧ i = .int .i64 k ∧ wr = w.drewN q ∧ xs.take k = ys.take k) (fun i _ => n1 - (intOf i).toNat)
    case atStart => exact ⟨0, 0, Nat.zero_le _, rfl, rfl, rfl⟩
    case round =>
      obtain ⟨k, q, hk, rfl, rfl, ht⟩ := hrel
      have HT := Lib.hid ht
      clear ht
      by_cases hlt : k < n1
      · obtain ⟨a1, x1, rfl, hx1, hc1⟩ := h1.int_ hlt
        obtain ⟨a2, x2, rfl, hx2, hc2⟩ := h2.int_ hlt
        have HX1 := Lib.hid hx1
        have HX2 := Lib.hid hx2
        clear hx1 hx2
        by_cases e : x1 = x2
        · have t1 : (x1 != x2) = false := by simp [e]
          have E := Lib.hid e
          clear e
          go_wp2
          go_quiet (fail)
          go_wp2
          go_roundw
          case rel => exact ⟨k + 1, _, by omega, by go_num, rfl, by rw [List.take_add_one, List.take_add_one, HT.out, HX1.out, HX2.out, E.out]⟩
          case measure => simp [intOf]; omega
        · have t1 : (x1 != x2) = true := by simp [e]
          have hne2 : xs ≠ ys := by
            intro he; subst he
            have := HX1.out.symm.trans HX2.out
            simp at this; exact e this
          have E := Lib.hid hne2
          clear e hne2
          go_wp2
          go_quiet (fail)
          go_wp2
          go_ret
          exact ⟨by simp [E.out], _, World.drewN_drewN _ _ _⟩
      · have he : xs = ys := by
          have := HT.out
          rwa [List.take_of_length_le (by have := H1.out; omega), List.take_of_length_le (by have := H2.out; omega)] at this
        have E := Lib.hid he
        clear he
        go_wp2
        go_ret
        exact ⟨by simp [E.out], _, rfl⟩
  · have hne : ((n1 : Int) != (n2 : Int)) = true := by simp; omega
    have hne2 : xs ≠ ys := by rintro rfl; omega
    clear l1 l2 hn
    have E := Lib.hid hne2
    clear hne2
    go_enter Tryz.func7, Tryz.ntmps7
    go_wp2
    go_ret
    exact ⟨by simp [E.out], 0, rfl⟩

theorem ints_b (w : World) (A1 A2 : Option Addr) (n1 n2 c1 c2 : Nat) (xs ys : List Int) (h1 : Sl w A1 n1 (xs.map (Value.int .i64))) (h2 : Sl w A2 n2 (ys.map (Value.int .i64)))
    (m1 : n1 ≤ 9223372036854775807) (m2 : n2 ≤ 9223372036854775807) :
    Calls Tryz.prog 7 #[.slice A1 n1 c1, .slice A2 n2 c2] w fun e w' => e = .returned (.bool (decide (xs = ys))) ∧ Below w.heap.size w w' :=
  (ints_c w A1 A2 n1 n2 c1 c2 xs ys h1 h2 m1 m2).mono fun _ _ ⟨he, k, hk⟩ => ⟨he, by rw [hk]; exact pure_drewN w k⟩

end Go.Proofs.YtedmmmlahpmmoaaGreatDoor

namespace Go.Proofs.YtedmmmlahpmmoaaGreatDoor
open Go.RowKit

end Go.Proofs.YtedmmmlahpmmoaaGreatDoor

namespace Go.Proofs.YtedmmmlahpmmoaaGreatDoor
open Go.RowKit

end Go.Proofs.YtedmmmlahpmmoaaGreatDoor

namespace Go.Proofs.YtedmmmlahpmmoaaGreatDoor
open Go.RowKit RuleP

end Go.Proofs.YtedmmmlahpmmoaaGreatDoor

namespace Go.Proofs.YtedmmmlahpmmoaaGreatDoor
open Go.RowKit

/-- The slice reads as a list of lists. -/
def ListAt (w : World) (A : Option Addr) (n : Nat) (L : List (List Int)) : Prop :=
  ∃ vs : List Value, Sl w A n vs ∧ n = L.length ∧ ∀ (j : Nat) l, L[j]? = some l → ∃ P c, vs[j]? = some (.slice P l.length c) ∧ l.length ≤ 9223372036854775807 ∧ Sl w P l.length (l.map (Value.int .i64))
theorem ListAt.keep {w w' : World} {A : Option Addr} {n : Nat} {L : List (List Int)} (h : ListAt w A n L) (hb : Below w.heap.size w w') : ListAt w' A n L := by
  obtain ⟨vs, h1, h2, h3⟩ := h
  exact ⟨vs, h1.below hb, h2, fun j l hj => by obtain ⟨P, c, a, b, d⟩ := h3 j l hj; exact ⟨P, c, a, b, d.below hb⟩⟩
theorem ListAt.at_ {w : World} {A : Option Addr} {n j : Nat} {L : List (List Int)} (h : ListAt w A n L) (hj : j < n) : ∃ ad l P c, A = some ad ∧ L[j]? = some l ∧ w.cell? (ad.add j) = some (.slice P l.length c) ∧ l.length ≤ 9223372036854775807 ∧ Sl w P l.length (l.map (Value.int .i64)) := by
  obtain ⟨vs, h1, h2, h3⟩ := h
  obtain ⟨ad, v, e, hv, hc⟩ := h1.at_ hj
  obtain ⟨P, c, a, b, d⟩ := h3 j _ (List.getElem?_eq_getElem (by omega))
  rw [hv] at a
  cases a
  exact ⟨ad, _, P, c, e, List.getElem?_eq_getElem (by omega), hc, b, d⟩

end Go.Proofs.YtedmmmlahpmmoaaGreatDoor

namespace Go.Proofs.YtedmmmlahpmmoaaGreatDoor
open Go.RowKit

/-- An error told further by another package. -/
def under (op : ByteArray) (i : Int) : Option Tale → Option Tale
  | none => none
  | some t => some (t.1, (op, i) :: t.2)
theorem under_c (w : World) (E : Nat → Addr) (op : ByteArray) (i : Int) (t : Option Tale) (v : Value) (h : ErrV w E t v) :
    Calls Tryz.prog 20 #[.string op, .int .i64 i, v] w fun e w' => ∃ v', e = .returned v' ∧ ErrV w' E (under op i t) v' ∧ Below w.heap.size w w' := by
  cases t with
  | none =>
    obtain rfl : v = .nilIface := h
    go_enter Tryz.func20, Tryz.ntmps20
    go_wp2_with fail
    go_ret
    exact ⟨_, rfl, rfl, Below.refl _ _⟩
  | some t =>
    have h' : ErrIs w E t.1 t.2 v := h
    obtain ⟨u, p, rfl⟩ := h'.iface
    have HP := Lib.hid h'
    clear h h'
    go_enter Tryz.func20, Tryz.ntmps20
    go_wp2_with fail
    go_ret
    have hb := (Below.refl w.heap.size w).alloc (Nat.le_refl _) (.cells #[.string op, .int .i64 i, .iface u p] 73)
    exact ⟨_, rfl, ⟨w.heap.size, _, rfl, heap_new _ _, ErrIs.below hb HP.out⟩, hb⟩
end Go.Proofs.YtedmmmlahpmmoaaGreatDoor

namespace Go.Proofs.YtedmmmlahpmmoaaGreatDoor
open Go.RowKit

/-- The number of an error; nought for none. -/
def tnum : Option Tale → Nat
  | none => 0
  | some t => t.1
/-- The value asks for no error, or for the error of the tale; its lists lie from block base on. -/
def WantB (w : World) (base : Nat) (t : Option Tale) (u : Value) : Prop :=
  ∃ (N : Nat) (A1 : Option Addr) (n1 c1 : Nat) (A2 : Option Addr) (n2 c2 : Nat), u = .agg #[.int .i64 (N : Int), .slice A1 n1 c1, .slice A2 n2 c2] ∧ WantV w t u ∧ (∀ ad, A1 = some ad → base ≤ ad.block) ∧ (∀ ad, A2 = some ad → base ≤ ad.block) ∧
    N = tnum t
theorem WantB.keeps {w w' : World} {O : Nat → Prop} {base : Nat} {t : Option Tale} {u : Value} (h : WantB w base t u) (hk : Keeps O w w') (ho : ∀ b, O b → b < base) : WantB w' base t u := by
  obtain ⟨N, A1, n1, c1, A2, n2, c2, rfl, hw, b1, b2, hN⟩ := h
  refine ⟨N, A1, n1, c1, A2, n2, c2, rfl, ?_, b1, b2, hN⟩
  cases t with
  | none => exact hw
  | some t =>
    obtain ⟨A1', c1', A2', c2', e, p1, p2, p3, p4, s1, s2⟩ := hw
    injection e with e
    injection e with e
    injection e with e0 e
    injection e with e1 e
    injection e with e2 e
    injection e1 with f1 f2 f3
    injection e2 with g1 g2 g3
    subst f1 f3 g1 g3
    refine ⟨A1, c1, A2, c2, by rw [e0, f2, g2], p1, p2, p3, p4, s1.keeps hk (fun ad e' hO => ?_), s2.keeps hk (fun ad e' hO => ?_)⟩
    · have := b1 ad e'; have := ho _ hO; omega
    · have := b2 ad e'; have := ho _ hO; omega
theorem WantB.below {w w' : World} {base : Nat} {t : Option Tale} {u : Value} (h : WantB w base t u) (hb : Below w.heap.size w w') : WantB w' base t u := by
  obtain ⟨N, A1, n1, c1, A2, n2, c2, rfl, hw, b1, b2, hN⟩ := h
  exact ⟨N, A1, n1, c1, A2, n2, c2, rfl, hw.below hb, b1, b2, hN⟩
theorem WantB.base {w : World} {base base' : Nat} {t : Option Tale} {u : Value} (h : WantB w base t u) (hb : base' ≤ base) : WantB w base' t u := by
  obtain ⟨N, A1, n1, c1, A2, n2, c2, rfl, hw, b1, b2, hN⟩ := h
  exact ⟨N, A1, n1, c1, A2, n2, c2, rfl, hw, fun ad e => Nat.le_trans hb (b1 ad e), fun ad e => Nat.le_trans hb (b2 ad e), hN⟩
/-- No error asked for. -/
theorem WantB.zero (w : World) (base : Nat) : WantB w base none (.agg #[.int .i64 0, .slice none 0 0, .slice none 0 0]) :=
  ⟨0, none, 0, 0, none, 0, 0, rfl, rfl, fun _ e => (by cases e), fun _ e => (by cases e), rfl⟩
theorem WantB.set3 {w : World} {base g : Nat} {t : Option Tale} {u : Value} (h : WantB w base t u) (hg : g < base) (u0 u1 u2 : Value) : WantB (((w.setCell ⟨g, 0, none⟩ u0).setCell ⟨g, 1, none⟩ u1).setCell ⟨g, 2, none⟩ u2) base t u :=
  h.keeps (keeps_set3 w g u0 u1 u2) (fun b e => by omega)

namespace WantAt
variable {w w' : World} {g : Nat} {x0 x1 x2 : Value}
end WantAt

end Go.Proofs.YtedmmmlahpmmoaaGreatDoor

namespace Go.Proofs.YtedmmmlahpmmoaaGreatDoor
open Go.RowKit RuleP

def sOver : ByteArray := ⟨#[111, 118, 101, 114, 108, 97, 112]⟩

/-- What overlap tells of a rule that is no small one. -/
def smallO (K R : Int) (T : List Int) : Option Tale := under sOver 0 (small K R T)
theorem smallO_none {K R : Int} {T : List Int} (h : smallO K R T = none) : ∃ (k r : Nat) (t : List Nat), K = (k : Int) ∧ R = (r : Int) ∧ T = ints t ∧ IsRule k r t ∧ t.length ≤ 256 := by
  have hs : small K R T = none := by
    unfold smallO under at h
    split at h
    · assumption
    · cases h
  unfold small at hs
  split at hs
  · cases hs
  · rename_i hc
    obtain ⟨k, r, t, rfl, rfl, rfl, hr⟩ := check_none hc
    refine ⟨k, r, t, rfl, rfl, rfl, hr, ?_⟩
    split at hs
    · cases hs
    · rw [ints_len] at *
      omega
theorem small_rule {k r : Nat} {t : List Nat} (h : IsRule k r t) (hl : t.length ≤ 256) : small k r (ints t) = none := by
  unfold small
  rw [check_rule h]
  simp only
  rw [if_neg (by rw [ints_len]; omega)]
theorem smallO_rule {k r : Nat} {t : List Nat} (h : IsRule k r t) (hl : t.length ≤ 256) : smallO k r (ints t) = none := by
  unfold smallO
  rw [small_rule h hl]
  rfl

set_option maxRecDepth 100000 in
theorem overSmall_c (w : World) (E : Nat → Addr) (hE : Errs w E) (K R : Int) (A : Option Addr) (n c : Nat) (T : List Int) (hT : Sl w A n (T.map (Value.int .i64))) (hm : n ≤ 9223372036854775807) :
    Calls Tryz.prog 65 #[ruleV K R A n c] w fun e w' => ∃ v, e = .returned v ∧ ErrV w' E (smallO K R T) v ∧ Below w.heap.size w w' := by
  have hb0 := (Below.refl w.heap.size w).alloc (Nat.le_refl _) (.cells #[.int .i64 K, .int .i64 R, .slice A n c] 24)
  have hr0 := RuleAt.new w (.int .i64 K) (.int .i64 R) (.slice A n c)
  obtain ⟨r0, r1, r2, _⟩ := hr0.facts
  have HS := Lib.hid (small_c _ E (hE.below hb0) K R A n c T (hT.below hb0) hm)
  have HS' := Lib.hid (small_c w E hE K R A n c T hT hm)
  have HB := Lib.hid hb0
  clear hb0 hr0 hT hE
  unfold ruleV at *
  go_enter Tryz.func65, Tryz.ntmps65
  go_wp2_with fail
  refine (HS.out).mono ?_
  rintro e w1 ⟨v, rfl, he, hb⟩
  have HU := Lib.hid (under_c w1 E sOver 0 _ v he)
  have HB1 := Lib.hid (below_box hb)
  clear he hb
  go_wp2_with fail
  refine (HU.out).mono ?_
  rintro e w2 ⟨v', rfl, he, hb⟩
  have HE := Lib.hid he
  have HB2 := Lib.hid (HB1.out.trans (hb.mono HB1.out.size))
  clear he hb
  go_wp2_with fail
  go_ret
  exact ⟨_, rfl, HE.out, HB2.out⟩

theorem nodes_div {k r : Nat} {t : List Nat} (h : IsRule k r t) : t.length / k = k ^ (2 * r) ∧ t.length = k ^ (2 * r) * k := by
  have h1 := h.k1
  have e : t.length = k ^ (2 * r) * k := by rw [h.len, Nat.pow_succ]
  exact ⟨by rw [e]; exact Nat.mul_div_cancel _ (by omega), e⟩

theorem nodes_c (w : World) {k r n c : Nat} {A : Option Addr} (hk : 1 ≤ k) (hn : n ≤ 16384) :
    Calls Tryz.prog 66 #[ruleV (k : Int) (r : Int) A n c] w fun e w' => e = .returned (.int .i64 ((n / k : Nat) : Int)) ∧ Below w.heap.size w w' := by
  have hk0 : ((k : Int) == 0) = false := by simp; omega
  have hk0' : ¬ ((k : Int) = 0) := by omega
  have hle : n / k ≤ n := Nat.div_le_self _ _
  have hd : wrap64 ((n : Int) / (k : Int)) = ((n / k : Nat) : Int) := by
    rw [show (n : Int) / (k : Int) = ((n / k : Nat) : Int) from rfl]
    generalize n / k = q at hle
    exact IntWalk.wrap64_in _ (by omega)
  unfold ruleV
  go_enter Tryz.func66, Tryz.ntmps66
  go_wp2_with fail
  go_ret
  exact ⟨by rw [← hd]; rfl, (Below.refl _ _).alloc (Nat.le_refl _) _⟩
end Go.Proofs.YtedmmmlahpmmoaaGreatDoor

namespace Go.Proofs.YtedmmmlahpmmoaaGreatDoor
open Go.RowKit RuleP

end Go.Proofs.YtedmmmlahpmmoaaGreatDoor

namespace Go.Proofs.YtedmmmlahpmmoaaGreatDoor
open Go.RowKit RuleP

/-- What stays: the rule, the word, where they lie, where the search lies, the world ahead of it. -/
structure DeadP where
  w0 : World
  k : Nat
  r : Nat
  most : Nat
  t : List Nat
  W : List Nat
  TA : Option Addr
  tc : Nat
  WA : Option Addr
  wc : Nat
  db : Nat
  atv : Value
  G : List Value
def DeadP.N (D : DeadP) : Nat := D.k ^ (2 * D.r)
def DeadP.B (D : DeadP) : Nat := D.w0.heap.size
def DeadP.cells (D : DeadP) (lv : Value) (more : Bool) : Array Value :=
  #[.int .i64 (D.k : Int), .int .i64 (D.r : Int), .slice D.TA D.t.length D.tc, .slice D.WA D.W.length D.wc, D.atv, .int .i64 (D.most : Int), lv, .bool more]
/-- Row i of the marks: where a mark stands, nothing goes on. -/
def DeadRow (w : World) (D : DeadP) (i : Nat) : Prop :=
  ∃ (g : Nat) (fl : List Bool), D.G[i]? = some (.slice (some ⟨g, 0, none⟩) D.N D.N) ∧ w.ownsRow D.B 4 1 (.slice (some ⟨g, 0, none⟩) D.N D.N) D.N (fl.map Value.bool) ∧
    ∀ u, fl[u]? = some true → sols D.k D.N D.t u (D.W.drop i) = []
def FarV (l : List Value) : Prop := ∀ (i j : Nat) (v v' : Value) (g : Nat), i ≠ j → l[i]? = some v → l[j]? = some v' → v.ownBlock = some g → v'.ownBlock ≠ some g

variable {w w' w1 w2 : World} {D : DeadP} {lv lv' : Value} {rows rows' : List Value} {L : List (List Nat)} {more : Bool} {X X' : Nat → Prop}

theorem DeadRow.keeps {Q : Nat → Prop} {i : Nat} (h : DeadRow w D i) (hk : Keeps Q w w') (hq : ∀ b, Q b → ∀ v n xs, w.ownsRow D.B 4 1 v n xs → v.ownBlock ≠ some b) : DeadRow w' D i := by
  obtain ⟨g, fl, h1, h2, h4⟩ := h
  exact ⟨g, fl, h1, own_keeps h2 hk (fun g' hg' hQ => hq g' hQ _ _ _ h2 hg'), h4⟩

end Go.Proofs.YtedmmmlahpmmoaaGreatDoor

namespace Go.Proofs.YtedmmmlahpmmoaaGreatDoor
open Go.RowKit

theorem run_push3 {P : Program} (w : World) (t ty : TypeId) {e : TypeId} {z : Value} {bytes : Nat} (hT : ElemT P t e z bytes) {base : Nat} {v : Value} {n : Nat} {xs : List Value} (hown : w.ownsRow base e 1 v n xs)
    (ad : Addr) (c : Nat) (u : Value) (hc : w.cell? ad = some u) (hu : u.oneCell' = true) (h63 : n + 1 ≤ maxLen) (hbytes : (n + 1) * bytes ≤ 140737488355328) (hbase : base ≤ w.heap.size) :
    ∃ g cap w', (Builtin.append_ #[t, t] ty #[v, .slice (some ad) 1 c]).run P w = .ok (.slice (some ⟨g, 0, none⟩) (n + 1) cap) w' ∧ w'.ownsRow base e 1 (.slice (some ⟨g, 0, none⟩) (n + 1) cap) (n + 1) (xs ++ [u]) ∧
      ((v = .slice (some ⟨g, 0, none⟩) n cap ∧ w.grownBy w' (some g)) ∨ (w.heap.size ≤ g ∧ w.grownBy w' none)) ∧ g < w'.heap.size := by
  obtain ⟨i, hi, hz, hz1, hz2⟩ := info_parts hT.info
  have hcell : ∀ j u', [u][j]? = some u' → w.cell? (ad.add j) = some u' := by
    intro j u' hj
    match j, hj with
    | 0, hj => simp at hj; subst hj; simpa [Addr.add] using hc
  have hone : ∀ u' ∈ [u], u'.oneCell' = true := by intro u' hu'; simp at hu'; subst hu'; exact hu
  have h1z : z.cells.size = 1 := by rw [hT.one]; rfl
  rcases hown.2 with ⟨rfl, rfl⟩ | ⟨g, cap, cur, rfl, hbg, hg, hnc, hcm, hsz, htake⟩
  · obtain rfl : xs = [] := List.eq_nil_of_length_eq_zero (by simpa using hown.1)
    obtain ⟨v', w', hrun, r1, r2, _⟩ := run_append_own (P := P) w w.heap.size t ty e i z 1 bytes hT.und hi hz hz1 hz2 h1z (by decide) (.slice none 0 0) 0 [] (World.ownsRow_nil w _ e 1) ad 1 c [u] rfl hcell hone h63 hbytes (Nat.le_refl _)
    obtain ⟨g, cap, rfl, hb, hlt⟩ := r1.form (by omega)
    exact ⟨g, cap, w', hrun, own_base r1 hbase, .inr ⟨hb, r2⟩, hlt⟩
  · by_cases hroom : n + 1 ≤ cap
    · obtain ⟨w', hrun, r1, r2⟩ := run_append_fits (P := P) w base t ty e i 1 hT.und hi hz1 g n cap xs hown ad 1 c [u] rfl hcell hone hroom
      exact ⟨g, cap, w', hrun, r1, .inl ⟨rfl, r2⟩, (r1.lt g rfl).2⟩
    · obtain ⟨v', w', hrun, r1, r2⟩ := run_append_arg_grows (P := P) w t ty e i z 1 bytes hT.und hi hz hz1 hz2 h1z (by decide) ⟨g, 0, none⟩ n cap xs (by simpa using hown.1) (fun j u' hj => hown.cells (g := g) rfl j u' hj) ad 1 c [u] rfl hcell (by omega) h63 hbytes
      obtain ⟨g', cap', rfl, hb, hlt⟩ := r1.form (by omega)
      exact ⟨g', cap', w', hrun, own_base r1 hbase, .inr ⟨hb, r2⟩, hlt⟩

/-- At a step of a region that draws its order. -/
theorem step_push3 {P : Program} {w : World} {ops : Array Oper} {o : Oper} {a : Act} {K : Act → World → Prop} {Q : Exit → Act → World → Prop} {F : Prop} (hw : Region.wanted o (yielded ops a.tmps) = true) (s x : Operand) (t : TypeId)
    (ho : o.op = .call { callee := .builtin .append, args := #[s, x], argTypes := #[t, t] }) {e : TypeId} {z : Value} {bytes : Nat} (hT : ElemT P t e z bytes)
    {base : Nat} {v : Value} {n : Nat} {xs : List Value} (hown : w.ownsRow base e 1 v n xs) (hs : a.eval s = v) (ad : Addr) (c : Nat) (hx : a.eval x = .slice (some ad) 1 c) (u : Value) (hc : w.cell? ad = some u) (hu : u.oneCell' = true)
    (h63 : n + 1 ≤ maxLen) (hbytes : (n + 1) * bytes ≤ 140737488355328) (hbase : base ≤ w.heap.size)
    (h : ∀ g cap w', w'.ownsRow base e 1 (.slice (some ⟨g, 0, none⟩) (n + 1) cap) (n + 1) (xs ++ [u]) → ((v = .slice (some ⟨g, 0, none⟩) n cap ∧ w.grownBy w' (some g)) ∨ (w.heap.size ≤ g ∧ w.grownBy w' none)) → g < w'.heap.size →
      K (a.put o.dst (.slice (some ⟨g, 0, none⟩) (n + 1) cap)) w') :
    if Region.wanted o (yielded ops a.tmps) = true then Oper.wp P o a w K Q else F := by
  rw [if_pos hw]
  obtain ⟨g, cap, w', hr, h2, h3, h4⟩ := run_push3 (P := P) w t o.type hT hown ad c u hc hu h63 hbytes hbase
  unfold Oper.wp execOp
  simp only [ho, resolve, invoke, builtin, Sem.run_bind, Sem.run_pure, Result.andThen_ok, List.map_toArray, List.map_cons, List.map_nil, hs, hx, hr]
  exact h g cap w' h2 h3 h4

end Go.Proofs.YtedmmmlahpmmoaaGreatDoor

namespace Go.Proofs.YtedmmmlahpmmoaaGreatDoor
open Go.RowKit RuleP

/-- Has the word a preimage. -/
def hasB (k r : Nat) (t W : List Nat) : Bool := decide (before k r t W ≠ [])

/-- How many nodes. -/
def nodesN (K R : Int) : Nat := K.toNat ^ (2 * R.toNat)

set_option maxRecDepth 100000 in
theorem overNodes_c (w : World) (E : Nat → Addr) (hE : Errs w E) (K R : Int) (A : Option Addr) (n c : Nat) (T : List Int) (hT : Sl w A n (T.map (Value.int .i64))) (hm : n ≤ 9223372036854775807) :
    Calls Tryz.prog 48 #[ruleV K R A n c] w fun e w' => ∃ v, e = .returned (.tuple #[.int .i64 (if smallO K R T = none then (nodesN K R : Int) else 0), v]) ∧ ErrV w' E (smallO K R T) v ∧ Below w.heap.size w w' := by
  have hr0 := RuleAt.new w (.int .i64 K) (.int .i64 R) (.slice A n c)
  have hb0 := (Below.refl w.heap.size w).alloc (Nat.le_refl _) (.cells #[.int .i64 K, .int .i64 R, .slice A n c] 24)
  obtain ⟨r0, r1, r2, _⟩ := hr0.facts
  have HS := Lib.hid (overSmall_c _ E (hE.below hb0) K R A n c T (hT.below hb0) hm)
  have HR := Lib.hid hr0
  have hl : T.length = n := by simpa using hT.1
  clear hr0 hb0 hT hE
  cases ho : smallO K R T with
  | some t =>
    rw [ho] at HS
    rw [if_neg (by simp)]
    unfold ruleV at *
    clear ho
    go_enter Tryz.func48, Tryz.ntmps48
    go_wp2_with fail
    refine (HS.out).mono ?_
    rintro e w1 ⟨v, rfl, he, hb⟩
    obtain ⟨u, p, rfl⟩ := ErrIs.iface (show ErrIs w1 E t.1 t.2 v from he)
    have HP := Lib.hid he
    have HB1 := Lib.hid (below_box hb)
    clear he hb
    go_wp2_with fail
    go_ret2
    exact ⟨_, rfl, HP.out, HB1.out⟩
  | none =>
    rw [if_pos rfl]
    obtain ⟨k, r, t, rfl, rfl, rfl, hr, h256⟩ := smallO_none ho
    rw [ho] at HS
    have hk1 := hr.k1
    have hnd := (nodes_div hr).1
    rw [ints_len] at hl
    subst hl
    have HND := Lib.hid (fun wz => nodes_c wz (k := k) (r := r) (A := A) (n := t.length) (c := c) hk1 (by omega))
    rw [hnd] at HND
    unfold ruleV at *
    clear ho hr hnd
    go_enter Tryz.func48, Tryz.ntmps48
    go_wp2_with fail
    refine (HS.out).mono ?_
    rintro e w1 ⟨v, rfl, rfl, hb⟩
    obtain ⟨q0, q1, q2, _⟩ := (HR.out.below hb (by simp)).facts
    have HB1 := Lib.hid (below_box hb)
    clear hb
    go_wp2_with fail
    refine (HND.out _).mono ?_
    rintro e w2 ⟨rfl, hb2⟩
    have HB2 := Lib.hid (HB1.out.trans (hb2.mono HB1.out.size))
    clear hb2
    go_wp2_with fail
    go_ret2
    exact ⟨_, rfl, rfl, HB2.out⟩
end Go.Proofs.YtedmmmlahpmmoaaGreatDoor

namespace Go.Proofs.YtedmmmlahpmmoaaGreatDoor
open Go.RowKit RuleP

set_option maxRecDepth 100000 in
set_option maxHeartbeats 2000000 in
theorem edge_good (w : World) (E : Nat → Addr) (hE : Errs w E) (k r u s : Nat) (A : Option Addr) (n c : Nat) (t : List Nat) (hT : Sl w A n ((ints t).map (Value.int .i64))) (hr : IsRule k r t) (h256 : t.length ≤ 256) (hu : u < k ^ (2 * r)) (hs : s < k) :
    Calls Tryz.prog 59 #[ruleV k r A n c, .int .i64 (u : Int), .int .i64 (s : Int)] w fun e w' => e = .returned (.tuple #[.int .i64 (((u * k + s) % k ^ (2 * r) : Nat) : Int), .int .i64 ((t.getD (u * k + s) 0 : Nat) : Int), .nilIface]) ∧ Below w.heap.size w w' := by
  have hr0 := RuleAt.new w (.int .i64 k) (.int .i64 r) (.slice A n c)
  have hb0 := (Below.refl w.heap.size w).alloc (Nat.le_refl _) (.cells #[.int .i64 (k : Int), .int .i64 (r : Int), .slice A n c] 24)
  obtain ⟨r0, r1, r2, _⟩ := hr0.facts
  have hl : t.length = n := by simpa [ints] using hT.1
  subst hl
  have hsm := overSmall_c _ E (hE.below hb0) k r A t.length c (ints t) (hT.below hb0) (by omega)
  rw [smallO_rule hr h256] at hsm
  have HS := Lib.hid hsm
  have HT := Lib.hid hT
  have HR := Lib.hid hr0
  have hk1 := hr.k1
  have hk4 := hr.k4
  obtain ⟨hnd, hNk⟩ := nodes_div hr
  have HND := Lib.hid (fun wz => nodes_c wz (k := k) (r := r) (A := A) (n := t.length) (c := c) hk1 (by omega))
  rw [hnd] at HND
  obtain ⟨N, hNN⟩ : ∃ N, k ^ (2 * r) = N := ⟨_, rfl⟩
  rw [hNN] at HND hu hNk ⊢
  have hN0 : 0 < N := by omega
  have hq1 : u * k + s < t.length := by
    rw [hNk]
    have : (u + 1) * k ≤ N * k := Nat.mul_le_mul_right _ hu
    rw [Nat.add_mul, Nat.one_mul] at this
    omega
  obtain ⟨q, hq⟩ : ∃ q, u * k = q := ⟨_, rfl⟩
  have hqi : IntKind.i64.wrap ((u : Int) * (k : Int)) = (q : Int) := by
    rw [show (u : Int) * (k : Int) = (q : Int) by rw [← hq]; simp]
    exact IntWalk.i64_in _ (by rw [hq] at hq1; omega)
  rw [hq] at hq1 ⊢
  obtain ⟨e0, hee⟩ : ∃ e0, q + s = e0 := ⟨_, rfl⟩
  have hei : IntKind.i64.wrap ((q : Int) + (s : Int)) = (e0 : Int) := by
    rw [show (q : Int) + (s : Int) = (e0 : Int) by omega]
    exact IntWalk.i64_in _ (by omega)
  rw [hee] at hq1 ⊢
  have n0 : ¬ N = 0 := by omega
  have n1 : ¬ ((N : Int) = 0) := by omega
  have n2 : ((N : Int) == 0) = false := by simp; omega
  have n3 : IntKind.i64.wrap ((e0 : Int).tmod (N : Int)) = ((e0 % N : Nat) : Int) := by
    rw [show (e0 : Int).tmod (N : Int) = ((e0 % N : Nat) : Int) from rfl]
    have hml : e0 % N ≤ e0 := Nat.mod_le _ _
    generalize e0 % N = z at hml
    exact IntWalk.i64_in _ (by omega)
  have a1 : decide ((u : Int) < 0) = false := decide_eq_false (by omega)
  have a2 : decide ((N : Int) ≤ (u : Int)) = false := decide_eq_false (by omega)
  have a3 : decide ((s : Int) < 0) = false := decide_eq_false (by omega)
  have a4 : decide ((k : Int) ≤ (s : Int)) = false := decide_eq_false (by omega)
  have a5 : ¬ N ≤ u := by omega
  have a6 : ¬ k ≤ s := by omega
  obtain ⟨y, hy⟩ : ∃ y, t.getD e0 0 = y := ⟨_, rfl⟩
  rw [hy]
  have HY := Lib.hid hy
  have HN3 := Lib.hid n3
  unfold ruleV at *
  clear hb0 hr0 hT hE hr hnd hNk hNN hq hee hsm hy
  go_enter Tryz.func59, Tryz.ntmps59
  go_wp2_with fail
  refine (HS.out).mono ?_
  rintro e w1 ⟨v, rfl, rfl, hb⟩
  have hr1 := HR.out.below hb (by simp)
  obtain ⟨q0, q1, q2, _⟩ := hr1.facts
  have HB1 := Lib.hid (below_box hb)
  have HR1 := Lib.hid hr1
  clear hb hr1
  go_wp2_with fail
  refine (HND.out _).mono ?_
  rintro e w2 ⟨rfl, hb2⟩
  have hr2 := HR1.out.below hb2 HR1.out.lt
  obtain ⟨p0, p1, p2, _⟩ := hr2.facts
  have HR2 := Lib.hid hr2
  have HB2 := Lib.hid (HB1.out.trans (hb2.mono HB1.out.size))
  clear hb2 hr2
  have hT2 := HT.out.below HB2.out
  rw [ints_map] at hT2
  obtain ⟨ta, y', rfl, hye, htc⟩ := hT2.word_ hq1
  obtain rfl : y' = y := by
    have := HY.out
    rw [List.getD_eq_getElem?_getD, hye] at this
    exact this
  have HT2 := Lib.hid hT2
  clear hT2 hye
  go_wp2_with fail
  go_region_held3 (fun w' => w'.cell? ⟨w.heap.size, 0, none⟩ = some (.int .i64 (k : Int)) ∧ w'.cell? ⟨w.heap.size, 1, none⟩ = some (.int .i64 (r : Int)) ∧ w'.cell? ⟨w.heap.size, 2, none⟩ = some (.slice (some ta) t.length c) ∧ w'.cell? (ta.add e0) = some (.int .i64 (y' : Int)))
    (first | (refine ⟨?_, ?_, ?_, ?_⟩ <;> assumption) | go_keep)
    (first
      | (go_at_call 66
         refine (HND.out _).mono ?_
         rintro e3 w3 ⟨rfl, hb3⟩
         have x0 := cell_later hb3 p0
         have x1 := cell_later hb3 p1
         have x2 := cell_later hb3 p2
         have x3 := cell_later hb3 htc))
  have HB3 := Lib.hid (HB2.out.trans ((Below.refl w2.heap.size w2).drew.trans hb3 |>.mono HB2.out.size))
  clear hb3 x0 x1 x2 x3 p0 p1 p2 htc
  go_wp2_with fail
  go_ret3
  exact ⟨rfl, HB3.out⟩
end Go.Proofs.YtedmmmlahpmmoaaGreatDoor
