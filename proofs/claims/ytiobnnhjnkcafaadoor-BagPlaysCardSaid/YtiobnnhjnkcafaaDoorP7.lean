/- What each method of a bag answers to any call, by any bag or none. Condition: the error variables hold what E says; lists read from memory. Union of any two numbers, by any bag or none, at the limit too. Condition: the error variables hold what E says. The document's bag in memory: sets as rising lists, each with its number under its text. No condition. slices.Sort of ints, laid off the shelf: the numbers sorted in their own block, at whatever length. Condition: the cells hold the numbers. slices.Sorted(slices.Values(p)) of ints: new memory that holds the numbers of p, sorted. Condition: the slice reads from memory. Rows of numbers that the call makes. Plain lemmas, no program. No condition. A list of numbers copied: slices.Clone. Condition: the list reads from memory. A list copied: edenraw.Copy. Condition: the list reads from memory. sort.Ints of a list of the call's own: it is sorted in its place. Condition: the length. -/
import Derived.Shelf.SortM.Plain
import Derived.Shelf.SortM.SortNone
import Derived.RangeFuncNested
import Derived.RangeFuncBound
import Derived.RangeFuncCalls
import Derived.RangeFuncLeaves
import Derived.RangeFuncBox
import Derived.RangeFuncWrites
import Derived.Shelf.Abstract
import Derived.WalkKit
import Derived.OwnWalkIn
import Derived.TacticsInMore
import Derived.LoopNIn
import Derived.LoopIn
import Derived.Maps.AppendAt
import Derived.Sort.OwnSortedInts
import Derived.Test.YtiobnnhjnkcafaaDoorP1
import Derived.Test.YtiobnnhjnkcafaaDoorP2
import Derived.Test.YtiobnnhjnkcafaaDoorP4
import Derived.Test.YtiobnnhjnkcafaaDoorP6
namespace Go.Proofs.YtiobnnhjnkcafaaDoor
open Go.RowKit Go.WideMaps Go.Maps BagP

abbrev BagD := Option (Nat × List (List Nat))
/-- A bag, or none. -/
def BagO (w : World) (p : Value) (o : BagD) (O : Nat → Prop) : Prop :=
  match o with
  | none => p = .pointer none
  | some (n, S) => BagIs w p n S O ∧ BagR.GoodS n S
theorem BagO.keeps {w w' : World} {p : Value} {o : BagD} {O O2 : Nat → Prop} (h : BagO w p o O) (hk : Keeps O2 w w') (ho : ∀ k, O k → ¬ O2 k) : BagO w' p o O := by
  cases o with
  | none => exact h
  | some x => exact ⟨BagIs.keeps h.1 hk ho, h.2⟩
theorem BagO.below {w w' : World} {p : Value} {o : BagD} {O : Nat → Prop} (h : BagO w p o O) (hb : Below w.heap.size w w') : BagO w' p o O := h.keeps (Keeps.of_pure hb (fun _ => False)) (fun _ _ h => h)
theorem BagIs.restrict2 {w : World} {p : Value} {n : Nat} {S : List (List Nat)} {O : Nat → Prop} (h : BagIs w p n S O) : BagIs w p n S (fun k => O k ∧ k < w.heap.size) := by
  obtain ⟨bb, mb, sv, rows, D, hp, hb⟩ := h
  refine ⟨bb, mb, sv, rows, D, hp, { hb with row := fun i l hl => ?_, fb := ⟨hb.fb, hb.ltb⟩, fm := ⟨hb.fm, ?_⟩, fs := fun g hg => ⟨hb.fs g hg, (hb.own.lt g hg).2⟩ }⟩
  · obtain ⟨v, h1, h2, h3⟩ := hb.row i l hl
    exact ⟨v, h1, h2, fun g hg => ⟨h3 g hg, (h2.lt g hg).2⟩⟩
  · obtain ⟨es, ck, hm, _⟩ := hb.map
    exact (Array.getElem?_eq_some_iff.1 hm).1
theorem BagO.restrict {w : World} {p : Value} {o : BagD} {O : Nat → Prop} (h : BagO w p o O) : BagO w p o (fun k => O k ∧ k < w.heap.size) := by
  cases o with
  | none => exact h
  | some x => exact ⟨BagIs.restrict2 h.1, h.2⟩
theorem BagO.mono {w : World} {p : Value} {o : BagD} {O O' : Nat → Prop} (h : BagO w p o O) (ho : ∀ k, O k → O' k) : BagO w p o O' := by
  cases o with
  | none => exact h
  | some x => exact ⟨BagIs.mono h.1 ho, h.2⟩

def noneT : BagR.Tl := some (11, [(BagR.bagS, 0)])
def putO (o : BagD) (xs : List Int) : (Nat × Bool × BagR.Tl) × BagD :=
  match o with
  | none => ((0, false, noneT), none)
  | some (n, S) => ((BagR.putF n S xs).1, some (n, (BagR.putF n S xs).2))
def findO (o : BagD) (xs : List Int) : Int × BagR.Tl :=
  match o with
  | none => (0, noneT)
  | some (n, S) => BagR.findF n S xs
def getO (o : BagD) (i : Int) : List Int × BagR.Tl :=
  match o with
  | none => ([], noneT)
  | some (n, S) => BagR.getF n S i
def hasO (o : BagD) (i x : Int) : Bool × BagR.Tl :=
  match o with
  | none => (false, noneT)
  | some (n, S) => BagR.hasF n S i x
def unionO (o : BagD) (i j : Int) : (Nat × Bool × BagR.Tl) × BagD :=
  match o with
  | none => ((0, false, noneT), none)
  | some (n, S) => ((BagR.unionF S i j).1, some (n, (BagR.unionF S i j).2))
def lenO (o : BagD) : Nat := match o with | none => 0 | some (_, S) => S.length

theorem addS_idx {S : List (List Nat)} {l : List Nat} (h : l ∉ S) : (addS S l).idxOf l = S.length := by
  rw [addS_new h, List.idxOf_append, if_neg h]
  simp
theorem inS_at {S : List (List Nat)} {i : Int} (h : BagR.inS S i) : ∃ j : Nat, i = (j : Int) ∧ j < S.length ∧ S[j]? = some (S.getD j []) := by
  obtain ⟨h1, h2⟩ := h
  refine ⟨i.toNat, by omega, by omega, ?_⟩
  rw [List.getD_eq_getElem?_getD, List.getElem?_eq_getElem (by omega)]
  rfl

theorem putO_c (w : World) (E : Nat → Addr) (hE : Errs w E) (p : Value) (o : BagD) (O : Nat → Prop) (hB : BagO w p o O) (A : Option Addr) (m c : Nat) (xs : List Int) (hm : m ≤ 140737488355328) (h : Sl w A m (xs.map (Value.int .i64))) :
    Calls Tryd.prog 12 #[p, .slice A m c] w fun e w' => ∃ ev, e = .returned (.tuple #[.int .i64 ((putO o xs).1.1 : Int), .bool (putO o xs).1.2.1, ev]) ∧ ErrV w' E (putO o xs).1.2.2 ev ∧
      BagO w' p (putO o xs).2 (fun k => O k ∨ w.heap.size ≤ k) ∧ Keeps O w w' := by
  cases o with
  | none =>
    obtain rfl : p = .pointer none := hB
    exact (Put_err w E _ A m c 11 0 (bits_nil w E hE A m c)).mono fun e w' ⟨b, h1, h2, h3⟩ => ⟨errV b, h1, h2, rfl, Keeps.of_pure h3 O⟩
  | some x =>
    obtain ⟨n, S⟩ := x
    obtain ⟨hb, hg⟩ := hB
    have hg' := hg.putF xs
    simp only [putO]
    cases ho : BagR.outB n xs with
    | some i =>
      have e1 : BagR.putF n S xs = ((0, false, some (3, [(BagR.bagS, (i : Int))])), S) := by unfold BagR.putF; rw [ho]
      rw [e1]
      obtain ⟨bb, mb, sv, rows, D, rfl, hb'⟩ := hb
      obtain ⟨c0, _, _, _⟩ := blk_cells hb'.blk
      refine (Put_err w E _ A m c 3 (i : Int) (bits_bad w E hE bb n hb'.nn c0 A m c xs hm h i ho)).mono ?_
      rintro e w' ⟨b, rfl, he, hbw⟩
      exact ⟨errV b, rfl, he, ⟨BagIs.mono (BagIs.below ⟨bb, mb, sv, rows, D, rfl, hb'⟩ hbw) (fun k h => .inl h), hg⟩, Keeps.of_pure hbw O⟩
    | none =>
      have hx := BagR.out_none ho
      have e1 : BagR.putF n S xs = BagR.putL S (bitsOf n xs) := by unfold BagR.putF; rw [ho]
      rw [e1] at hg' ⊢
      by_cases hin : bitsOf n xs ∈ S
      · have e2 : BagR.putL S (bitsOf n xs) = ((S.idxOf (bitsOf n xs), false, none), S) := by unfold BagR.putL; rw [if_pos hin]
        rw [e2]
        refine (Put_c hb A m c xs hm h hx (.inl hin)).mono ?_
        rintro e w' ⟨rfl, h2, h3⟩
        rw [addS_in hin] at h2 ⊢
        rw [decide_eq_true hin]
        exact ⟨.nilIface, rfl, rfl, ⟨h2, hg⟩, h3⟩
      · by_cases hf : 4096 ≤ S.length
        · have e2 : BagR.putL S (bitsOf n xs) = ((0, false, some (4, [(BagR.bagS, 0)])), S) := by unfold BagR.putL; rw [if_neg hin, if_pos hf]
          rw [e2]
          refine (Put_full hb E hE A m c xs hm h hx hin (Nat.le_antisymm hg.big hf)).mono ?_
          rintro e w' ⟨b, rfl, he, hbw⟩
          exact ⟨errV b, rfl, he, ⟨BagIs.mono (BagIs.below hb hbw) (fun k h => .inl h), hg⟩, Keeps.of_pure hbw O⟩
        · have e2 : BagR.putL S (bitsOf n xs) = ((S.length, true, none), S ++ [bitsOf n xs]) := by unfold BagR.putL; rw [if_neg hin, if_neg hf]
          rw [e2] at hg' ⊢
          refine (Put_c hb A m c xs hm h hx (.inr (by omega))).mono ?_
          rintro e w' ⟨rfl, h2, h3⟩
          rw [addS_idx hin, decide_eq_false hin]
          rw [addS_new hin] at h2
          exact ⟨.nilIface, rfl, rfl, ⟨h2, hg'⟩, h3⟩

theorem findO_c (w : World) (E : Nat → Addr) (hE : Errs w E) (p : Value) (o : BagD) (O : Nat → Prop) (hB : BagO w p o O) (A : Option Addr) (m c : Nat) (xs : List Int) (hm : m ≤ 140737488355328) (h : Sl w A m (xs.map (Value.int .i64))) :
    Calls Tryd.prog 20 #[p, .slice A m c] w fun e w' => ∃ ev, e = .returned (.tuple #[.int .i64 (findO o xs).1, ev]) ∧ ErrV w' E (findO o xs).2 ev ∧ Below w.heap.size w w' := by
  cases o with
  | none =>
    obtain rfl : p = .pointer none := hB
    exact (Find_err w E _ A m c 11 0 (bits_nil w E hE A m c)).mono fun e w' ⟨b, h1, h2, h3⟩ => ⟨errV b, h1, h2, h3⟩
  | some x =>
    obtain ⟨n, S⟩ := x
    obtain ⟨hb, hg⟩ := hB
    simp only [findO]
    cases ho : BagR.outB n xs with
    | some i =>
      have e1 : BagR.findF n S xs = (0, some (3, [(BagR.bagS, (i : Int))])) := by unfold BagR.findF; rw [ho]
      rw [e1]
      obtain ⟨bb, mb, sv, rows, D, rfl, hb'⟩ := hb
      obtain ⟨c0, _, _, _⟩ := blk_cells hb'.blk
      exact (Find_err w E _ A m c 3 (i : Int) (bits_bad w E hE bb n hb'.nn c0 A m c xs hm h i ho)).mono fun e w' ⟨b, h1, h2, h3⟩ => ⟨errV b, h1, h2, h3⟩
    | none =>
      have hx := BagR.out_none ho
      have e1 : BagR.findF n S xs = (findI S (bitsOf n xs), none) := by unfold BagR.findF findI; rw [ho]
      rw [e1]
      exact (Find_c hb A m c xs hm h hx).mono fun e w' ⟨h1, h2⟩ => ⟨.nilIface, h1, rfl, h2⟩

theorem getO_c (w : World) (E : Nat → Addr) (hE : Errs w E) (p : Value) (o : BagD) (O : Nat → Prop) (hB : BagO w p o O) (i : Int) :
    Calls Tryd.prog 10 #[p, .int .i64 i] w fun e w' => ∃ v ev, e = .returned (.tuple #[v, ev]) ∧ ErrV w' E (getO o i).2 ev ∧ w'.ownsRow w.heap.size 3 1 v (getO o i).1.length ((getO o i).1.map (Value.int .i64)) ∧ Below w.heap.size w w' := by
  cases o with
  | none =>
    obtain rfl : p = .pointer none := hB
    exact (Get_err w E _ i 11 0 (set_nil w E hE i 0)).mono fun e w' ⟨b, h1, h2, h3⟩ => ⟨.slice none 0 0, errV b, h1, h2, World.ownsRow_nil _ _ _ _, h3⟩
  | some x =>
    obtain ⟨n, S⟩ := x
    obtain ⟨hb, hg⟩ := hB
    simp only [getO]
    by_cases hi : BagR.inS S i
    · obtain ⟨j, rfl, hj, hat⟩ := inS_at hi
      have e1 : BagR.getF n S (j : Int) = (getL n (S.getD j []), none) := by unfold BagR.getF; rw [if_pos hi, Int.toNat_natCast]
      rw [e1]
      refine (Get_c hb j _ hat).mono ?_
      rintro e w' ⟨v, rfl, h2, h3⟩
      rw [List.length_map] at h2
      exact ⟨v, .nilIface, rfl, rfl, h2, h3⟩
    · have e1 : BagR.getF n S i = ([], some (3, [(BagR.bagS, 0)])) := by unfold BagR.getF; rw [if_neg hi]
      rw [e1]
      obtain ⟨bb, mb, sv, rows, D, rfl, hb'⟩ := hb
      exact (Get_err w E _ i 3 0 (set_out hb' E hE i 0 hi)).mono fun e w' ⟨b, h1, h2, h3⟩ => ⟨.slice none 0 0, errV b, h1, h2, World.ownsRow_nil _ _ _ _, h3⟩

theorem hasO_c (w : World) (E : Nat → Addr) (hE : Errs w E) (p : Value) (o : BagD) (O : Nat → Prop) (hB : BagO w p o O) (i x : Int) :
    Calls Tryd.prog 23 #[p, .int .i64 i, .int .i64 x] w fun e w' => ∃ ev, e = .returned (.tuple #[.bool (hasO o i x).1, ev]) ∧ ErrV w' E (hasO o i x).2 ev ∧ Below w.heap.size w w' := by
  cases o with
  | none =>
    obtain rfl : p = .pointer none := hB
    exact (Has_err w E _ i x 11 0 (set_nil w E hE i 0)).mono fun e w' ⟨b, h1, h2, h3⟩ => ⟨errV b, h1, h2, h3⟩
  | some y =>
    obtain ⟨n, S⟩ := y
    obtain ⟨hb, hg⟩ := hB
    simp only [hasO]
    by_cases hi : BagR.inS S i
    · have e1 : BagR.hasF n S i x = (decide (x ∈ getL n (S.getD i.toNat [])), none) := by unfold BagR.hasF; rw [if_pos hi]
      rw [e1, BagR.mem_has]
      obtain ⟨j, rfl, hj, hat⟩ := inS_at hi
      rw [Int.toNat_natCast]
      by_cases hx : 0 ≤ x ∧ x < (n : Int)
      · obtain ⟨y, rfl⟩ : ∃ y : Nat, x = (y : Int) := ⟨x.toNat, by omega⟩
        rw [decide_eq_true hx, Bool.true_and, Int.toNat_natCast]
        refine (Has_c hb j _ hat y (by omega)).mono ?_
        rintro e w' ⟨rfl, rfl⟩
        exact ⟨.nilIface, rfl, rfl, Below.refl _ _⟩
      · rw [decide_eq_false hx, Bool.false_and]
        refine (Has_out hb j hj x hx).mono ?_
        rintro e w' ⟨rfl, rfl⟩
        exact ⟨.nilIface, rfl, rfl, Below.refl _ _⟩
    · have e1 : BagR.hasF n S i x = (false, some (3, [(BagR.bagS, 0)])) := by unfold BagR.hasF; rw [if_neg hi]
      rw [e1]
      obtain ⟨bb, mb, sv, rows, D, rfl, hb'⟩ := hb
      exact (Has_err w E _ i x 3 0 (set_out hb' E hE i 0 hi)).mono fun e w' ⟨b, h1, h2, h3⟩ => ⟨errV b, h1, h2, h3⟩

theorem lenO_c (w : World) (p : Value) (o : BagD) (O : Nat → Prop) (hB : BagO w p o O) :
    Calls Tryd.prog 28 #[p] w fun e w' => e = .returned (.int .i64 (lenO o : Int)) ∧ w = w' := by
  cases o with
  | none =>
    obtain rfl : p = .pointer none := hB
    exact Len_nil w
  | some x => exact Len_c hB.1
end Go.Proofs.YtiobnnhjnkcafaaDoor

namespace Go.Proofs.YtiobnnhjnkcafaaDoor
open Go.RowKit BagP

theorem put_any {w : World} {bb mb : Nat} {sv : Value} {rows : List Value} {D : DataW Unit} {n : Nat} {S : List (List Nat)} {O : Nat → Prop} (hB : BagAt w bb mb sv rows D n S O) (E : Nat → Addr) (hE : Errs w E) (hg : BagR.GoodS n S)
    (A : Option Addr) (c : Nat) (l : List Nat) (ho : Ok64 l) (hl : l.length = wlen n) (hr : w.ownsRow 0 82 1 (.slice A (wlen n) c) (wlen n) (l.map uv)) (H : Nat) (hA : ∀ ad, A = some ad → H ≤ ad.block) (hH : H ≤ w.heap.size) :
    Calls Tryd.prog 31 #[.pointer (some ⟨bb, 0, none⟩), .slice A (wlen n) c] w fun e w' => ∃ ev, e = .returned (.tuple #[.int .i64 ((BagR.putL S l).1.1 : Int), .bool (BagR.putL S l).1.2.1, ev]) ∧ ErrV w' E (BagR.putL S l).1.2.2 ev ∧
      BagIs w' (.pointer (some ⟨bb, 0, none⟩)) n (BagR.putL S l).2 (fun k => O k ∨ H ≤ k) ∧ Keeps O w w' := by
  by_cases hin : l ∈ S
  · have e2 : BagR.putL S l = ((S.idxOf l, false, none), S) := by unfold BagR.putL; rw [if_pos hin]
    rw [e2]
    refine (put_c hB A c l ho hl hr H hA hH (.inl hin)).mono ?_
    rintro e w' ⟨rfl, h2, h3⟩
    rw [addS_in hin] at h2 ⊢
    rw [decide_eq_true hin]
    exact ⟨.nilIface, rfl, rfl, h2, h3⟩
  · by_cases hf : 4096 ≤ S.length
    · have e2 : BagR.putL S l = ((0, false, some (4, [(BagR.bagS, 0)])), S) := by unfold BagR.putL; rw [if_neg hin, if_pos hf]
      rw [e2]
      refine (put_full hB E hE A c l ho hl (Sl.of_own hr) hin (Nat.le_antisymm hg.big hf)).mono ?_
      rintro e w' ⟨b, rfl, he, hbw⟩
      exact ⟨errV b, rfl, he, BagIs.mono (BagIs.below ⟨bb, mb, sv, rows, D, rfl, hB⟩ hbw) (fun k h => .inl h), Keeps.of_pure hbw O⟩
    · have e2 : BagR.putL S l = ((S.length, true, none), S ++ [l]) := by unfold BagR.putL; rw [if_neg hin, if_neg hf]
      rw [e2]
      refine (put_c hB A c l ho hl hr H hA hH (.inr (by omega))).mono ?_
      rintro e w' ⟨rfl, h2, h3⟩
      rw [addS_idx hin, decide_eq_false hin]
      rw [addS_new hin] at h2
      exact ⟨.nilIface, rfl, rfl, h2, h3⟩

set_option maxRecDepth 100000 in
set_option maxHeartbeats 1000000 in
theorem Union_any {w : World} {p : Value} {n : Nat} {S : List (List Nat)} {O : Nat → Prop} (hB : BagIs w p n S O) (i j : Nat) (x y : List Nat) (hi : S[i]? = some x) (hj : S[j]? = some y) (E : Nat → Addr) (hE : Errs w E) (hg : BagR.GoodS n S) :
    Calls Tryd.prog 25 #[p, .int .i64 (i : Int), .int .i64 (j : Int)] w fun e w' => ∃ ev, e = .returned (.tuple #[.int .i64 ((BagR.putL S (orL x y)).1.1 : Int), .bool (BagR.putL S (orL x y)).1.2.1, ev]) ∧ ErrV w' E (BagR.putL S (orL x y)).1.2.2 ev ∧
      BagIs w' p n (BagR.putL S (orL x y)).2 (fun k => O k ∨ w.heap.size ≤ k) ∧ Keeps O w w' := by
  obtain ⟨bb, mb, sv, rows, D, rfl, hb⟩ := hB
  obtain ⟨vx, hvx, hrx, _⟩ := hb.row i x hi
  obtain ⟨vy, hvy, hry, _⟩ := hb.row j y hj
  obtain ⟨hokx, hlx⟩ := hb.okw x (List.mem_of_getElem? hi)
  obtain ⟨hoky, hly⟩ := hb.okw y (List.mem_of_getElem? hj)
  have hil : i < S.length := (List.getElem?_eq_some_iff.1 hi).1
  have hjl : j < S.length := (List.getElem?_eq_some_iff.1 hj).1
  have hwl := wlen_le hb.nn
  obtain ⟨Ax, cx, rfl, _, _⟩ := own_slice hrx
  obtain ⟨Ay, cy, rfl, _, _⟩ := own_slice hry
  have hsx := Sl.of_own hrx
  have hsy := Sl.of_own hry
  have HLX := Lib.hid hlx
  have HLY := Lib.hid hly
  have HE := Lib.hid hE
  clear hlx hly hi hj hE
  go_enter Tryd.func25, Tryd.ntmps25
  go_wp2_with fail
  refine (set_c hb i hil _ _ hvx).mono ?_
  rintro e w0 ⟨rfl, rfl⟩
  go_wp2_with fail
  refine (set_c hb j hjl _ _ hvy).mono ?_
  rintro e w0 ⟨rfl, rfl⟩
  go_wp2_with fail
  refine (clone64_c w Ax _ cx x (by omega) hsx).mono ?_
  rintro e w1 ⟨v, rfl, hv, hb1⟩
  rw [show (x.map uv).length = wlen n from by rw [List.length_map]; exact HLX.out] at hv
  obtain ⟨Av, cv, rfl, _, _⟩ := own_slice hv
  go_wp2_with fail
  go_loopw [37] (fun s wr => ∃ k : Nat, k ≤ wlen n ∧ s = .int .i64 k ∧ wr.ownsRow w.heap.size 82 1 (.slice Av (wlen n) cv) (wlen n) ((orTo x y k).map uv) ∧ Below w.heap.size w wr) (fun s _ => wlen n - (intOf s).toNat)
  case atStart => exact ⟨0, Nat.zero_le _, rfl, by rw [orTo_zero]; exact hv, hb1⟩
  case round =>
    obtain ⟨k, hk, rfl, hown, hb2⟩ := hrel
    clear hv hb1
    by_cases hlt : k < wlen n
    · obtain ⟨ady, b, rfl, hyk, hcy⟩ := (hsy.below hb2).word_ hlt
      obtain ⟨a, hxk⟩ : ∃ a, x[k]? = some a := ⟨_, List.getElem?_eq_getElem (by rw [HLX.out]; exact hlt)⟩
      obtain ⟨g, cap, hv, hg1, hg2⟩ := hown.form (by omega)
      injection hv with hA _ hc
      subst hA
      obtain ⟨o1, o2⟩ := orTo_at hxk hyk
      have hcell := hown.cellAt k (by omega)
      have hfr := hown.frozenAt k
      rw [List.getElem?_map, o1] at hcell
      simp only [Option.map_some, uv] at hcell
      have hor := or_words a b (hokx a (List.mem_of_getElem? hxk)) (hoky b (List.mem_of_getElem? hyk))
      have hst := hown.stored k (.int .u64 ((a ||| b : Nat) : Int))
      rw [show ((orTo x y k).map uv).set k (.int .u64 ((a ||| b : Nat) : Int)) = (orTo x y (k + 1)).map uv from by rw [← o2, List.map_set]; rfl] at hst
      have R1 := hst.1
      have R2 := hb2.grown hst.2 hb2.size (fun q hq => by cases hq; exact hg1)
      clear hst o1 o2 hxk hyk hown hb2
      go_wp2
      exact ⟨⟨k + 1, by omega, by go_num, R1, R2⟩, by simp [intOf]; omega⟩
    · have hkm : k = wlen n := by omega
      rw [hkm, orTo_all HLX.out HLY.out] at hown
      clear hkm
      go_wp2_with fail
      have hA : ∀ ad, Av = some ad → w.heap.size ≤ ad.block := fun ad e => (hown.lt ad.block (by rw [e]; rfl)).1
      refine (put_any (hb.keeps (Keeps.of_pure hb2 (fun _ => False)) (fun _ _ h => h)) E (HE.out.below hb2) hg Av cv (orL x y) (ok_orL hokx hoky) ?_ (own_base hown (Nat.zero_le _)) w.heap.size hA hb2.size).mono ?_
      · simp only [orL, List.length_zipWith]
        rw [HLX.out, HLY.out, Nat.min_self]
      · rintro e w3 ⟨ev, rfl, he, hB3, hk3⟩
        go_wp2_with fail
        go_ret3
        exact ⟨ev, rfl, he, hB3, (Keeps.of_pure hb2 O).trans hk3 (fun _ _ h => h)⟩

theorem unionO_c (w : World) (E : Nat → Addr) (hE : Errs w E) (p : Value) (o : BagD) (O : Nat → Prop) (hB : BagO w p o O) (i j : Int) :
    Calls Tryd.prog 25 #[p, .int .i64 i, .int .i64 j] w fun e w' => ∃ ev, e = .returned (.tuple #[.int .i64 ((unionO o i j).1.1 : Int), .bool (unionO o i j).1.2.1, ev]) ∧ ErrV w' E (unionO o i j).1.2.2 ev ∧
      BagO w' p (unionO o i j).2 (fun k => O k ∨ w.heap.size ≤ k) ∧ Keeps O w w' := by
  cases o with
  | none =>
    obtain rfl : p = .pointer none := hB
    exact (Union_err1 w E _ i j 11 0 (set_nil w E hE i 0)).mono fun e w' ⟨b, h1, h2, h3⟩ => ⟨errV b, h1, h2, rfl, Keeps.of_pure h3 O⟩
  | some x =>
    obtain ⟨n, S⟩ := x
    obtain ⟨hb, hg⟩ := hB
    have hg' := hg.unionF i j
    simp only [unionO]
    by_cases hi : BagR.inS S i
    · by_cases hj : BagR.inS S j
      · obtain ⟨i', rfl, hi', hati⟩ := inS_at hi
        obtain ⟨j', rfl, hj', hatj⟩ := inS_at hj
        have e1 : BagR.unionF S (i' : Int) (j' : Int) = BagR.putL S (orL (S.getD i' []) (S.getD j' [])) := by unfold BagR.unionF; rw [if_pos hi, if_pos hj, Int.toNat_natCast, Int.toNat_natCast]
        rw [e1] at hg' ⊢
        exact (Union_any hb i' j' _ _ hati hatj E hE hg).mono fun e w' ⟨ev, h1, h2, h3, h4⟩ => ⟨ev, h1, h2, ⟨h3, hg'⟩, h4⟩
      · have e1 : BagR.unionF S i j = ((0, false, some (3, [(BagR.bagS, 1)])), S) := by unfold BagR.unionF; rw [if_pos hi, if_neg hj]
        rw [e1]
        obtain ⟨i', rfl, hi', hati⟩ := inS_at hi
        obtain ⟨bb, mb, sv, rows, D, rfl, hb'⟩ := hb
        exact (Union_err2 hb' E i' hi' j 3 1 (set_out hb' E hE j 1 hj)).mono fun e w' ⟨b, h1, h2, h3⟩ => ⟨errV b, h1, h2, ⟨BagIs.mono (BagIs.below ⟨bb, mb, sv, rows, D, rfl, hb'⟩ h3) (fun k h => .inl h), hg⟩, Keeps.of_pure h3 O⟩
    · have e1 : BagR.unionF S i j = ((0, false, some (3, [(BagR.bagS, 0)])), S) := by unfold BagR.unionF; rw [if_neg hi]
      rw [e1]
      obtain ⟨bb, mb, sv, rows, D, rfl, hb'⟩ := hb
      exact (Union_err1 w E _ i j 3 0 (set_out hb' E hE i 0 hi)).mono fun e w' ⟨b, h1, h2, h3⟩ => ⟨errV b, h1, h2, ⟨BagIs.mono (BagIs.below ⟨bb, mb, sv, rows, D, rfl, hb'⟩ h3) (fun k h => .inl h), hg⟩, Keeps.of_pure h3 O⟩
end Go.Proofs.YtiobnnhjnkcafaaDoor

namespace Go.Proofs.YtiobnnhjnkcafaaDoor
open Go.RowKit Go.WideMaps Go.Maps BagP RuleP

def okB2 (l : List Nat) : Prop := ∀ x ∈ l, x < 65536
/-- A list of numbers as cells. -/
def iR (l : List Nat) : List Value := (ints l).map (Value.int .i64)
theorem iR_len (l : List Nat) : (iR l).length = l.length := by simp [iR, ints]
theorem relB_in {α : Type} [DecidableEq α] {key : α → List UInt8} {ok : α → Prop} {D : DataW Unit} {S : List α} (h : SubP.RelK key ok D S) {l : α} (hl : ok l) (hm : l ∈ S) : Maps.has D (.string (key l)) = true := by
  rw [(h.2 l hl).1]; exact decide_eq_true hm
theorem relB_out {α : Type} [DecidableEq α] {key : α → List UInt8} {ok : α → Prop} {D : DataW Unit} {S : List α} (h : SubP.RelK key ok D S) {l : α} (hl : ok l) (hm : l ∉ S) : Maps.has D (.string (key l)) = false := by
  rw [(h.2 l hl).1]; exact decide_eq_false hm
theorem keyB2_of (l : List Nat) (h : l.length ≤ 8192) : keyOf Tryd.prog 9 (.string ⟨(bytesN l).toArray⟩) = some (.string (bytesN l)) := by
  have := keyOf_string_mk Tryd.underlying9 (s := ⟨(bytesN l).toArray⟩) (by simp only [ByteArray.size, List.size_toArray, bytesN_len, maxLen]; omega)
  simpa using this

/-- The document's bag for numbers below n that keeps the sets L lies in blocks of O. -/
structure RBagAt (w : World) (bb mb : Nat) (sv : Value) (rows : List Value) (D : DataW Unit) (n : Nat) (L : List (List Nat)) (O : Nat → Prop) : Prop where
  blk : w.heap[bb]? = some (.cells #[.int .i64 (n : Int), sv, .map (some mb)] 47 (0, 0))
  map : w.ownsMap Tryd.prog 9 (plainElem (H := Unit) Tryd.prog 3) mb L.length D
  rel : SubP.RelK bytesN okB2 D L
  own : w.ownsRow 0 31 1 sv L.length rows
  row : ∀ (i : Nat) (l : List Nat), L[i]? = some l → ∃ v, rows[i]? = some v ∧ w.ownsRow 0 3 1 v l.length (iR l) ∧ ∀ g, v.ownBlock = some g → O g
  fb : O bb
  fm : O mb
  fs : ∀ g, sv.ownBlock = some g → O g
  okw : ∀ l ∈ L, okB2 l ∧ l.length ≤ 8192
  nd : L.Nodup
  big : L.length ≤ 4096
  nn : n ≤ 8192
def RBagIs (w : World) (p : Value) (n : Nat) (L : List (List Nat)) (O : Nat → Prop) : Prop :=
  ∃ bb mb sv rows D, p = .pointer (some ⟨bb, 0, none⟩) ∧ RBagAt w bb mb sv rows D n L O
theorem RBagAt.ltb {w : World} {bb mb : Nat} {sv : Value} {rows : List Value} {D : DataW Unit} {n : Nat} {L : List (List Nat)} {O : Nat → Prop} (h : RBagAt w bb mb sv rows D n L O) : bb < w.heap.size :=
  (Array.getElem?_eq_some_iff.1 h.blk).1
theorem RBagAt.keeps {w w' : World} {bb mb : Nat} {sv : Value} {rows : List Value} {D : DataW Unit} {n : Nat} {L : List (List Nat)} {O O2 : Nat → Prop} (h : RBagAt w bb mb sv rows D n L O) (hk : Keeps O2 w w') (ho : ∀ k, O k → ¬ O2 k) :
    RBagAt w' bb mb sv rows D n L O where
  blk := (hk.block bb h.ltb (ho _ h.fb)).trans h.blk
  map := by
    obtain ⟨es, clock, hb, rest⟩ := h.map
    exact ⟨es, clock, (hk.block mb (Array.getElem?_eq_some_iff.1 hb).1 (ho _ h.fm)).trans hb, rest⟩
  rel := h.rel
  own := own_keeps h.own hk (fun g hg => ho _ (h.fs g hg))
  row := fun i l hl => by
    obtain ⟨v, h1, h2, h3⟩ := h.row i l hl
    exact ⟨v, h1, own_keeps h2 hk (fun g hg => ho _ (h3 g hg)), h3⟩
  fb := h.fb
  fm := h.fm
  fs := h.fs
  okw := h.okw
  nd := h.nd
  big := h.big
  nn := h.nn
theorem RBagIs.keeps {w w' : World} {p : Value} {n : Nat} {L : List (List Nat)} {O O2 : Nat → Prop} (h : RBagIs w p n L O) (hk : Keeps O2 w w') (ho : ∀ k, O k → ¬ O2 k) : RBagIs w' p n L O := by
  obtain ⟨bb, mb, sv, rows, D, hp, hb⟩ := h
  exact ⟨bb, mb, sv, rows, D, hp, hb.keeps hk ho⟩
theorem RBagIs.below {w w' : World} {p : Value} {n : Nat} {L : List (List Nat)} {O : Nat → Prop} (h : RBagIs w p n L O) (hk : Below w.heap.size w w') : RBagIs w' p n L O :=
  h.keeps (Keeps.of_pure hk (fun _ => False)) (fun _ _ h => h)
theorem RBagIs.mono {w : World} {p : Value} {n : Nat} {L : List (List Nat)} {O O' : Nat → Prop} (h : RBagIs w p n L O) (ho : ∀ k, O k → O' k) : RBagIs w p n L O' := by
  obtain ⟨bb, mb, sv, rows, D, hp, hb⟩ := h
  exact ⟨bb, mb, sv, rows, D, hp, { hb with row := fun i l hl => (let ⟨v, h1, h2, h3⟩ := hb.row i l hl; ⟨v, h1, h2, fun g hg => ho _ (h3 g hg)⟩), fb := ho _ hb.fb, fm := ho _ hb.fm, fs := fun g hg => ho _ (hb.fs g hg) }⟩
theorem own_lt2 {w : World} {base e n g : Nat} {v : Value} {xs : List Value} (h : w.ownsRow base e 1 v n xs) (hg : v.ownBlock = some g) : g < w.heap.size := (h.lt g hg).2
theorem RBagIs.restrict {w : World} {p : Value} {n : Nat} {L : List (List Nat)} {O : Nat → Prop} (h : RBagIs w p n L O) : RBagIs w p n L (fun k => O k ∧ k < w.heap.size) := by
  obtain ⟨bb, mb, sv, rows, D, hp, hb⟩ := h
  refine ⟨bb, mb, sv, rows, D, hp, { hb with row := fun i l hl => ?_, fb := ⟨hb.fb, hb.ltb⟩, fm := ⟨hb.fm, ?_⟩, fs := fun g hg => ⟨hb.fs g hg, own_lt2 hb.own hg⟩ }⟩
  · obtain ⟨v, h1, h2, h3⟩ := hb.row i l hl
    exact ⟨v, h1, h2, fun g hg => ⟨h3 g hg, own_lt2 h2 hg⟩⟩
  · obtain ⟨es, ck, hm, _⟩ := hb.map
    exact (Array.getElem?_eq_some_iff.1 hm).1

/-- A new set is kept behind the others: the map first, then the list, then the bag's own cell. -/
theorem rput_end {w w2 w3 : World} {bb mb : Nat} {SA : Option Addr} {sc : Nat} {rows : List Value} {D : DataW Unit} {n : Nat} {L : List (List Nat)} {O : Nat → Prop} (hB : RBagAt w bb mb (.slice SA L.length sc) rows D n L O)
    {v : Value} {l : List Nat} (ho : okB2 l) (hl : l.length ≤ 8192) {H : Nat} (hH : H ≤ w.heap.size) (hr : w.ownsRow H 3 1 v l.length (iR l)) (hn : l ∉ L) (hroom : L.length < 4096)
    (hk2 : Keeps (fun k => k = mb) w w2) (hmap2 : w2.ownsMap Tryd.prog 9 (plainElem (H := Unit) Tryd.prog 3) mb (L.length + 1) (D.put (.string (bytesN l)) (.lit (.int .i64 (L.length : Int)))))
    {g cap : Nat} (hown3 : w3.ownsRow 0 31 1 (.slice (some ⟨g, 0, none⟩) (L.length + 1) cap) (L.length + 1) (rows ++ [v])) (hk3 : Keeps (fun k => (Value.slice SA L.length sc).ownBlock = some k) w2 w3)
    (hat3 : (Value.slice SA L.length sc).ownBlock = some g ∨ w2.heap.size ≤ g) :
    RBagIs (w3.setCell ⟨bb, 1, none⟩ (.slice (some ⟨g, 0, none⟩) (L.length + 1) cap)) (.pointer (some ⟨bb, 0, none⟩)) n (L ++ [l]) (fun k => O k ∨ H ≤ k) ∧
      Keeps O w (w3.setCell ⟨bb, 1, none⟩ (.slice (some ⟨g, 0, none⟩) (L.length + 1) cap)) := by
  have k4 := Keeps.of_setCell w3 ⟨bb, 1, none⟩ (.slice (some ⟨g, 0, none⟩) (L.length + 1) cap)
  obtain ⟨es1, ck1, hm1, _⟩ := hB.map
  obtain ⟨es2, ck2, hm2, hm2'⟩ := hmap2
  have hne : bb ≠ mb := by
    intro e
    have := hB.blk
    rw [e, hm1] at this
    cases this
  have hs2 := own_keeps hB.own hk2 (fun g' hg' e => by subst e; exact own_ne_map hB.own hm1 hg')
  have blk2 := (hk2.block bb hB.ltb hne).trans hB.blk
  have blk3 := (hk3.block bb (Nat.lt_of_lt_of_le hB.ltb hk2.size) (fun e => own_ne_blk hs2 blk2 (by decide) e)).trans blk2
  have keepRow : ∀ {B' : Nat} {v' : Value} {m : Nat} {xs : List Value}, w.ownsRow B' 3 1 v' m xs → (w3.setCell ⟨bb, 1, none⟩ (.slice (some ⟨g, 0, none⟩) (L.length + 1) cap)).ownsRow B' 3 1 v' m xs := by
    intro B' v' m xs hv
    have h2 := own_keeps hv hk2 (fun g' hg' e => by subst e; exact own_ne_map hv hm1 hg')
    have h3 := own_keeps h2 hk3 (fun g' hg' e => own_ne_own h2 hs2 (by decide) hg' e)
    exact own_keeps h3 k4 (fun g' hg' e => by subst e; exact own_ne_blk h3 blk3 (by decide) hg')
  have hrl : rows.length = L.length := by simpa using hB.own.1
  refine ⟨⟨bb, mb, .slice (some ⟨g, 0, none⟩) (L.length + 1) cap, rows ++ [v], D.put (.string (bytesN l)) (.lit (.int .i64 (L.length : Int))), rfl, ?_⟩, ?_⟩
  · exact {
      blk := heap_setCell_same w3 bb 1 _ _ _ blk3
      map := by
        rw [List.length_append]
        refine ⟨es2, ck2, ?_, hm2'⟩
        rw [k4.block mb (Nat.lt_of_lt_of_le (Array.getElem?_eq_some_iff.1 hm2).1 hk3.size) (fun e => hne e.symm), hk3.block mb (Array.getElem?_eq_some_iff.1 hm2).1 (fun e => own_ne_map hs2 hm2 e)]
        exact hm2
      rel := SubP.relK_snoc (fun a b ha hb h => bytesN_inj a b ha hb h) hB.rel ho hn
      own := by
        rw [List.length_append]
        exact own_keeps hown3 k4 (fun g' hg' e => by subst e; exact own_ne_blk hown3 blk3 (by decide) hg')
      row := fun i l' hl' => by
        rcases Nat.lt_or_ge i L.length with hlt | hge
        · rw [List.getElem?_append_left hlt] at hl'
          obtain ⟨v', h1, h2, h3⟩ := hB.row i l' hl'
          exact ⟨v', by rw [List.getElem?_append_left (by omega)]; exact h1, keepRow h2, fun g' hg' => .inl (h3 g' hg')⟩
        · rw [List.getElem?_append_right hge] at hl'
          rcases Nat.eq_zero_or_pos (i - L.length) with h0 | h0
          · rw [h0] at hl'
            simp at hl'
            subst hl'
            exact ⟨v, by rw [List.getElem?_append_right (by omega), hrl, h0]; rfl, own_base (keepRow hr) (Nat.zero_le _), fun g' hg' => .inr (hr.lt g' hg').1⟩
          · rw [List.getElem?_eq_none (by simp; omega)] at hl'; cases hl'
      fb := .inl hB.fb
      fm := .inl hB.fm
      fs := fun g' hg' => by
        have e : g = g' := by simpa [Value.ownBlock] using hg'
        subst e
        rcases hat3 with h | h
        · exact .inl (hB.fs g h)
        · exact .inr (by have := hk2.size; omega)
      okw := fun l' hl' => by
        rcases List.mem_append.1 hl' with h | h
        · exact hB.okw l' h
        · simp at h; subst h; exact ⟨ho, hl⟩
      nd := by
        rw [List.nodup_append]
        exact ⟨hB.nd, by simp, fun a ha b hb e => by simp at hb; subst hb; subst e; exact hn ha⟩
      big := by rw [List.length_append]; simp; omega
      nn := hB.nn }
  · have j2 : Keeps O w w2 := hk2.mono (fun k _ e => by subst e; exact hB.fm)
    have j3 : Keeps O w2 w3 := hk3.mono (fun k _ e => hB.fs k e)
    have j4 : Keeps O w3 (w3.setCell ⟨bb, 1, none⟩ (.slice (some ⟨g, 0, none⟩) (L.length + 1) cap)) := k4.mono (fun k _ e => by subst e; exact hB.fb)
    exact (j2.trans j3 (fun _ _ h => h)).trans j4 (fun _ _ h => h)
end Go.Proofs.YtiobnnhjnkcafaaDoor

namespace Go.Proofs.YtiobnnhjnkcafaaDoor
open Go.RowKit Go.Shelf Go.Sort
def sortL_ren : Go.Shelf.Ren := ⟨fun | 5 => 50 | 8 => 52 | 7 => 51 | 19 => 62 | 20 => 63 | 10 => 53 | 11 => 54 | 12 => 55 | 13 => 56 | 14 => 57 | 15 => 58 | 16 => 59 | 17 => 60 | 18 => 61 | 30 => 64 | 31 => 65 | 32 => 66 | 33 => 67 | 34 => 68 | 35 => 69 | 40 => 70 | n => n, fun | 23 => 31 | 25 => 3 | 3 => 3 | 32 => 124 | 22 => 31 | 0 => 0 | 44 => 136 | 46 => 82 | 4 => 4 | 36 => 129 | 35 => 128 | 41 => 101 | 5 => 5 | 9 => 9 | 53 => 138 | 57 => 142 | 63 => 145 | 64 => 146 | n => n, fun | n => n⟩
theorem sortL : Go.Proofs.SlLaysM.n5 Tryd.prog sortL_ren := {
  mixed := by kernel_rfl
  f5 := ⟨Tryd.f50.name, by decide, Tryd.func50.trans (congrArg some (by kernel_rfl))⟩
  f7 := ⟨Tryd.f51.name, by decide, Tryd.func51.trans (congrArg some (by kernel_rfl))⟩
  f8 := Tryd.func52.trans (congrArg some (by kernel_rfl))
  f10 := ⟨Tryd.f53.name, by decide, Tryd.func53.trans (congrArg some (by kernel_rfl))⟩
  f11 := ⟨Tryd.f54.name, by decide, Tryd.func54.trans (congrArg some (by kernel_rfl))⟩
  f12 := ⟨Tryd.f55.name, by decide, Tryd.func55.trans (congrArg some (by kernel_rfl))⟩
  f13 := ⟨Tryd.f56.name, by decide, Tryd.func56.trans (congrArg some (by kernel_rfl))⟩
  f14 := ⟨Tryd.f57.name, by decide, Tryd.func57.trans (congrArg some (by kernel_rfl))⟩
  f15 := ⟨Tryd.f58.name, by decide, Tryd.func58.trans (congrArg some (by kernel_rfl))⟩
  f16 := ⟨Tryd.f59.name, by decide, Tryd.func59.trans (congrArg some (by kernel_rfl))⟩
  f17 := ⟨Tryd.f60.name, by decide, Tryd.func60.trans (congrArg some (by kernel_rfl))⟩
  f18 := ⟨Tryd.f61.name, by decide, Tryd.func61.trans (congrArg some (by kernel_rfl))⟩
  f19 := Tryd.func62.trans (congrArg some (by kernel_rfl))
  f20 := Tryd.func63.trans (congrArg some (by kernel_rfl))
  f30 := ⟨Tryd.f64.name, by decide, Tryd.func64.trans (congrArg some (by kernel_rfl))⟩
  f31 := Tryd.func65.trans (congrArg some (by kernel_rfl))
  f32 := Tryd.func66.trans (congrArg some (by kernel_rfl))
  f33 := ⟨Tryd.f67.name, by decide, Tryd.func67.trans (congrArg some (by kernel_rfl))⟩
  f34 := ⟨Tryd.f68.name, by decide, Tryd.func68.trans (congrArg some (by kernel_rfl))⟩
  f35 := ⟨Tryd.f69.name, by decide, Tryd.func69.trans (congrArg some (by kernel_rfl))⟩
  f40 := ⟨Tryd.f70.name, by decide, Tryd.func70.trans (congrArg some (by kernel_rfl))⟩
  t0 := Tryd.underlying0
  a0 := Tryd.isAgg0
  z0 := Tryd.sizeOf0
  v0 := Tryd.zeroValue0
  t3 := Tryd.underlying3
  a3 := Tryd.isAgg3
  z3 := Tryd.sizeOf3
  v3 := Tryd.zeroValue3
  t4 := Tryd.underlying4
  a4 := Tryd.isAgg4
  z4 := Tryd.sizeOf4
  v4 := Tryd.zeroValue4
  t5 := Tryd.underlying5
  a5 := Tryd.isAgg5
  z5 := Tryd.sizeOf5
  v5 := Tryd.zeroValue5
  t9 := Tryd.underlying9
  a9 := Tryd.isAgg9
  z9 := Tryd.sizeOf9
  v9 := Tryd.zeroValue9
  t22 := Tryd.underlying31
  a22 := Tryd.isAgg31
  z22 := Tryd.sizeOf31
  v22 := Tryd.zeroValue31
  t23 := Tryd.underlying31
  a23 := Tryd.isAgg31
  z23 := Tryd.sizeOf31
  v23 := Tryd.zeroValue31
  t25 := Tryd.underlying3
  a25 := Tryd.isAgg3
  z25 := Tryd.sizeOf3
  v25 := Tryd.zeroValue3
  t32 := Tryd.underlying124
  a32 := Tryd.isAgg124
  z32 := Tryd.sizeOf124
  v32 := Tryd.zeroValue124
  t35 := Tryd.underlying128
  a35 := Tryd.isAgg128
  z35 := Tryd.sizeOf128
  v35 := Tryd.zeroValue128
  t36 := Tryd.underlying129
  a36 := Tryd.isAgg129
  z36 := Tryd.sizeOf129
  v36 := Tryd.zeroValue129
  t41 := Tryd.underlying101
  a41 := Tryd.isAgg101
  z41 := Tryd.sizeOf101
  v41 := Tryd.zeroValue101
  t44 := Tryd.underlying136
  a44 := Tryd.isAgg136
  z44 := Tryd.sizeOf136
  v44 := Tryd.zeroValue136
  t46 := Tryd.underlying82
  a46 := Tryd.isAgg82
  z46 := Tryd.sizeOf82
  v46 := Tryd.zeroValue82
  t53 := Tryd.underlying138
  a53 := Tryd.isAgg138
  z53 := Tryd.sizeOf138
  v53 := Tryd.zeroValue138
  t57 := Tryd.underlying142
  a57 := Tryd.isAgg142
  z57 := Tryd.sizeOf142
  v57 := Tryd.zeroValue142
  t63 := Tryd.underlying145
  a63 := Tryd.isAgg145
  z63 := Tryd.sizeOf145
  v63 := Tryd.zeroValue145
  t64 := Tryd.underlying146
  a64 := Tryd.isAgg146
  z64 := Tryd.sizeOf146
  v64 := Tryd.zeroValue146 }
theorem sort_c (w : World) (blk off cap : Nat) (zs : List Int) (hH : Holds (Value.int .i64) w blk off zs.toArray) (hblk : blk < w.heap.size) (hsz : zs.length < 4611686018427387904) :
    Calls Tryd.prog 50 #[.slice (some ⟨blk, off, none⟩) zs.length cap] w fun e w' =>
      e = .returned (.tuple #[]) ∧ ∃ n os, w' = grow (putRow (Value.int .i64) (Sort.ahead w n) blk off (zs.mergeSort fun x y => decide (x ≤ y)).toArray) os := AnyM.slices_Sort_int sortL blk off cap zs w hH hblk hsz
theorem sortNil_c (w : World) (p : Option Addr) (cap : Nat) :
    Calls Tryd.prog 50 #[.slice p 0 cap] w fun e w' => e = .returned (.tuple #[]) ∧ w' = w := AnyM.slices_Sort_int_none sortL p cap w
end Go.Proofs.YtiobnnhjnkcafaaDoor

namespace Go.Proofs.YtiobnnhjnkcafaaDoor
open Go.RowKit Go.Shelf Go.Sort Go.Maps

attribute [local go_sem] Oper.semAt_some

end Go.Proofs.YtiobnnhjnkcafaaDoor

namespace Go.Proofs.YtiobnnhjnkcafaaDoor
open Go.RowKit RuleP

end Go.Proofs.YtiobnnhjnkcafaaDoor

namespace Go.Proofs.YtiobnnhjnkcafaaDoor
open Go.RowKit

end Go.Proofs.YtiobnnhjnkcafaaDoor

namespace Go.Proofs.YtiobnnhjnkcafaaDoor
open Go.RowKit

theorem own_empty (w : World) (e : TypeId) : (w.alloc (.cells #[] e)).ownsRow w.heap.size e 1 (.slice (some ⟨w.heap.size, 0, none⟩) 0 0) 0 [] := by
  simpa using World.ownsRow_lit (base := w.heap.size) (e := e) (size := 1) w #[] 0 (Nat.le_refl _) (Nat.zero_le _) rfl

set_option maxRecDepth 100000 in
set_option maxHeartbeats 1000000 in
theorem copy_c (w : World) (A : Option Addr) (n c : Nat) (xs : List Value) (h : Sl w A n xs) (h1 : ∀ u ∈ xs, u.oneCell' = true) (hm : n * 8 ≤ 140737488355328) :
    Calls Tryd.prog 43 #[.slice A n c] w fun e w' => ∃ C cc, e = .returned (.slice C n cc) ∧ w'.ownsRow w.heap.size 3 1 (.slice C n cc) n xs ∧ Below w.heap.size w w' := by
  have H1 := Lib.hid h1
  have hl := h.alloc (.cells #[] 3)
  have ho := own_empty w 3
  clear h1 h
  go_enter Tryd.func43, Tryd.ntmps43
  go_wp2_with (at_builtin; refine wpList_cat rfl _ _ _ rfl tInts ho rfl hl rfl H1.out (by simp only [maxLen]; omega) (by omega) (by simp) ?_; intro v' w' hown hg hv hn)
  rw [Nat.zero_add, List.nil_append] at hown
  obtain ⟨C, cc, rfl, _, _⟩ := own_slice hown
  have hb : Below w.heap.size w w' := ((Below.refl w.heap.size w).alloc (Nat.le_refl _) _).trans ((Keeps.of_grown hg).below (by simp) (fun k hk => by simp [Value.ownBlock] at hk; omega))
  go_ret
  exact ⟨C, cc, rfl, hown, hb⟩
end Go.Proofs.YtiobnnhjnkcafaaDoor

namespace Go.Proofs.YtiobnnhjnkcafaaDoor
open Go.RowKit Go.Shelf Go.Sort Go.Maps

theorem sortOwn_c (w : World) (H n cap : Nat) (C : Option Addr) (xs : List Int) (hr : w.ownsRow H 3 1 (.slice C n cap) n (xs.map (Value.int .i64))) (hn : n < 4611686018427387904) :
    Calls Tryd.prog 50 #[.slice C n cap] w fun e w' => e = .returned (.tuple #[]) ∧ w'.ownsRow H 3 1 (.slice C n cap) n ((xs.mergeSort fun x y => decide (x ≤ y)).map (Value.int .i64)) ∧ w.grownBy w' (Value.slice C n cap).ownBlock := by
  have hl : xs.length = n := by simpa using hr.1
  rcases hr.2 with ⟨hv, hz0⟩ | ⟨gb, cap2, cur, hv, hbase, hgb, r1, r2, r3, r4⟩
  · cases hv
    have hss : xs = [] := List.eq_nil_of_length_eq_zero hl
    subst hss
    refine (sortNil_c w none 0).mono ?_
    rintro e w' ⟨rfl, rfl⟩
    exact ⟨rfl, by rw [List.mergeSort_nil]; exact hr, World.grownBy.refl _ _⟩
  · cases hv
    subst hl
    have hH : Holds (Value.int .i64) w gb 0 xs.toArray := holds_of_blockI hgb (by simpa using r4)
    have hgl : gb < w.heap.size := (Array.getElem?_eq_some_iff.1 hgb).1
    refine (sort_c w gb 0 cap xs hH hgl hn).mono ?_
    rintro e w' ⟨rfl, nn, os, rfl⟩
    exact ⟨rfl, ownsRow_sortedI (ts := xs.mergeSort fun x y => decide (x ≤ y)) (n := nn) (os := os) (List.length_mergeSort _) hbase hgb r1 r2 r3, grownBy_sortedI _⟩
theorem sortInts_c (w : World) (H n cap : Nat) (C : Option Addr) (xs : List Int) (hr : w.ownsRow H 3 1 (.slice C n cap) n (xs.map (Value.int .i64))) (hn : n < 4611686018427387904) :
    Calls Tryd.prog 49 #[.slice C n cap] w fun e w' => e = .returned (.tuple #[]) ∧ w'.ownsRow H 3 1 (.slice C n cap) n ((xs.mergeSort fun x y => decide (x ≤ y)).map (Value.int .i64)) ∧ w.grownBy w' (Value.slice C n cap).ownBlock := by
  have H1 := Lib.hid (sortOwn_c w H n cap C xs hr hn)
  clear hr
  go_enter Tryd.func49, Tryd.ntmps49
  go_wp2_with fail
  refine H1.out.mono ?_
  rintro e w' ⟨rfl, h2, h3⟩
  go_wp2_with fail
  go_end0
  exact ⟨rfl, h2, h3⟩
end Go.Proofs.YtiobnnhjnkcafaaDoor
