/- What the bag's methods answer: Has and Union. Condition: the numbers are in range and there is room. -/
import Derived.Test.YtlajiblhnkognaaDoorBagGet
namespace Go.Proofs.YtlajiblhnkognaaDoor
open Go.RowKit BagP

theorem put_c {w : World} {bb mb : Nat} {sv : Value} {rows : List Value} {D : DataW Unit} {n : Nat} {S : List (List Nat)} {O : Nat → Prop} (hB : BagAt w bb mb sv rows D n S O)
    (A : Option Addr) (c : Nat) (l : List Nat) (ho : Ok64 l) (hl : l.length = wlen n) (hr : w.ownsRow 0 130 1 (.slice A (wlen n) c) (wlen n) (l.map uv)) (H : Nat) (hA : ∀ ad, A = some ad → H ≤ ad.block) (hH : H ≤ w.heap.size) (hroom : l ∈ S ∨ S.length < 4096) :
    Calls Tryd.prog 73 #[.pointer (some ⟨bb, 0, none⟩), .slice A (wlen n) c] w fun e w' => e = .returned (.tuple #[.int .i64 (((addS S l).idxOf l : Nat) : Int), .bool (!decide (l ∈ S)), .nilIface]) ∧
      BagIs w' (.pointer (some ⟨bb, 0, none⟩)) n (addS S l) (fun k => O k ∨ H ≤ k) ∧ Keeps O w w' := by
  by_cases hin : l ∈ S
  · obtain ⟨i, hi⟩ := List.getElem?_of_mem hin
    refine (put_old hB A c l ho hl (Sl.of_own hr) i hi).mono ?_
    rintro e w2 ⟨rfl, hb2⟩
    rw [addS_in hin, idx_nodup hB.nd hi, decide_eq_true hin]
    exact ⟨rfl, BagIs.mono ⟨bb, mb, sv, rows, D, rfl, hB.keeps (Keeps.of_pure hb2 (fun _ => False)) (fun _ _ h => h)⟩ (fun k h => .inl h), Keeps.of_pure hb2 O⟩
  · refine (put_new hB A c l ho hl hr hin (hroom.resolve_left hin)).mono ?_
    rintro e w2 ⟨rfl, hB2, hk2⟩
    have e1 : (addS S l).idxOf l = S.length := by
      rw [addS_new hin, List.idxOf_append, if_neg hin]
      simp
    rw [e1, addS_new hin, decide_eq_false hin]
    refine ⟨rfl, hB2.mono (fun k h => ?_), hk2⟩
    rcases h with h | h | ⟨ad, e, h⟩
    · exact .inl h
    · right; omega
    · right; rw [h]; exact hA ad e

theorem or_words (a b : Nat) (ha : a < 2 ^ 64) (hb : b < 2 ^ 64) : bits .or .u64 (a : Int) (b : Int) = ((a ||| b : Nat) : Int) := u64_or_nat a b ha hb

def orTo (x y : List Nat) (k : Nat) : List Nat := orL (x.take k) (y.take k) ++ x.drop k
theorem orTo_zero (x y : List Nat) : orTo x y 0 = x := by simp [orTo, orL]
theorem orTo_all {x y : List Nat} {m : Nat} (hx : x.length = m) (hy : y.length = m) : orTo x y m = orL x y := by
  unfold orTo
  rw [List.take_of_length_le (by omega), List.take_of_length_le (by omega), List.drop_eq_nil_of_le (by omega), List.append_nil]
theorem orTo_at {x y : List Nat} {k a b : Nat} (hx : x[k]? = some a) (hy : y[k]? = some b) : (orTo x y k)[k]? = some a ∧ (orTo x y k).set k (a ||| b) = orTo x y (k + 1) := by
  have h1 : k < x.length := (List.getElem?_eq_some_iff.1 hx).1
  have h2 : k < y.length := (List.getElem?_eq_some_iff.1 hy).1
  have hl : (orL (x.take k) (y.take k)).length = k := by simp [orL]; omega
  have hd : x.drop k = a :: x.drop (k + 1) := by
    rw [List.drop_eq_getElem_cons h1]
    congr 1
    rw [List.getElem?_eq_getElem h1] at hx
    exact Option.some.inj hx
  constructor
  · unfold orTo
    rw [List.getElem?_append_right (by omega), hl, hd]
    simp
  · unfold orTo
    rw [List.set_append_right _ _ (by omega), hl, hd, Nat.sub_self, List.set_cons_zero, List.take_add_one, List.take_add_one, hx, hy]
    unfold orL
    rw [List.zipWith_append (by simp; omega)]
    simp
theorem ok_orL {x y : List Nat} (hx : Ok64 x) (hy : Ok64 y) : Ok64 (orL x y) := by
  intro z hz
  obtain ⟨i, hi⟩ := List.getElem?_of_mem hz
  unfold orL at hi
  rw [List.getElem?_zipWith] at hi
  cases h1 : x[i]? with
  | none => rw [h1] at hi; simp at hi
  | some a => cases h2 : y[i]? with
    | none => rw [h1, h2] at hi; simp at hi
    | some b =>
      rw [h1, h2] at hi
      simp at hi
      subst hi
      exact Nat.or_lt_two_pow (hx a (List.mem_of_getElem? h1)) (hy b (List.mem_of_getElem? h2))
theorem has_orL {x y : List Nat} (hl : x.length = y.length) (z : Nat) : hasB (orL x y) z = (hasB x z || hasB y z) := by
  unfold hasB orL
  rw [List.getD_eq_getElem?_getD, List.getD_eq_getElem?_getD, List.getD_eq_getElem?_getD, List.getElem?_zipWith]
  rcases Nat.lt_or_ge (z / 64) x.length with h | h
  · rw [List.getElem?_eq_getElem h, List.getElem?_eq_getElem (by omega)]
    simp [Nat.testBit_or]
  · rw [List.getElem?_eq_none h, List.getElem?_eq_none (by omega)]
    simp

end Go.Proofs.YtlajiblhnkognaaDoor
