/- Lists held against each other: edenraw.Ints returns whether the two lists are one. Condition: both lists read from memory. copy(d, s) into a row of the call's own. Plain laws, no program. No condition. Numbers lent: edenraw.Lent, Kept. Condition: the numbers read from memory. A rule lent: edenraw.LentRule, KeptRule. Condition: the table reads from memory. -/
import Derived.Laws.CopyOwn
import Derived.Deep.RegionHeld3
import Derived.Test.YtiobnnhjnkcafaaDoorP1
import Derived.Test.YtiobnnhjnkcafaaDoorP10
namespace Go.Proofs.YtiobnnhjnkcafaaDoor
open Go.RowKit

theorem ints_c (w : World) (A1 A2 : Option Addr) (n1 n2 c1 c2 : Nat) (xs ys : List Int) (h1 : Sl w A1 n1 (xs.map (Value.int .i64))) (h2 : Sl w A2 n2 (ys.map (Value.int .i64)))
    (m1 : n1 ≤ 9223372036854775807) (m2 : n2 ≤ 9223372036854775807) :
    Calls Tryd.prog 11 #[.slice A1 n1 c1, .slice A2 n2 c2] w fun e w' => e = .returned (.bool (decide (xs = ys))) ∧ ∃ k, w' = w.drewN k := by
  have l1 : xs.length = n1 := by simpa using h1.1
  have l2 : ys.length = n2 := by simpa using h2.1
  by_cases hn : n1 = n2
  · subst hn
    have hne : ((n1 : Int) != (n1 : Int)) = false := by simp
    have H1 := Lib.hid l1
    have H2 := Lib.hid l2
    clear l1 l2
    go_enter Tryd.func11, Tryd.ntmps11
    go_wp2
    go_loopw [5] (fun i wr => ∃ k q : Nat, k ≤ n1 ∧ i = .int .i64 k ∧ wr = w.drewN q ∧ xs.take k = ys.take k) (fun i _ => n1 - (intOf i).toNat)
    case atStart => exact ⟨0, 0, Nat.zero_le _, rfl, rfl, rfl⟩
    case round =>
      obtain ⟨k, q, hk, rfl, rfl, ht⟩ := hrel
      have HT := Lib.hid ht
      clear ht
      by_cases hlt : k < n1
      · obtain ⟨a1, x1, rfl, hx1, hc1⟩ := h1.int_ hlt
        obtain ⟨a2, x2, rfl, hx2, hc2⟩ := h2.int_ hlt
        have HX1 := Lib.hid hx1
        have HX2 := Lib.hid hx2
        clear hx1 hx2
        by_cases e : x1 = x2
        · have t1 : (x1 != x2) = false := by simp [e]
          have E := Lib.hid e
          clear e
          go_wp2
          go_quiet (fail)
          go_wp2
          go_roundw
          case rel => exact ⟨k + 1, _, by omega, by go_num, rfl, by rw [List.take_add_one, List.take_add_one, HT.out, HX1.out, HX2.out, E.out]⟩
          case measure => simp [intOf]; omega
        · have t1 : (x1 != x2) = true := by simp [e]
          have hne2 : xs ≠ ys := by
            intro he; subst he
            have := HX1.out.symm.trans HX2.out
            simp at this; exact e this
          have E := Lib.hid hne2
          clear e hne2
          go_wp2
          go_quiet (fail)
          go_wp2
          go_ret
          exact ⟨by simp [E.out], _, World.drewN_drewN _ _ _⟩
      · have he : xs = ys := by
          have := HT.out
          rwa [List.take_of_length_le (by have := H1.out; omega), List.take_of_length_le (by have := H2.out; omega)] at this
        have E := Lib.hid he
        clear he
        go_wp2
        go_ret
        exact ⟨by simp [E.out], _, rfl⟩
  · have hne : ((n1 : Int) != (n2 : Int)) = true := by simp; omega
    have hne2 : xs ≠ ys := by rintro rfl; omega
    clear l1 l2 hn
    have E := Lib.hid hne2
    clear hne2
    go_enter Tryd.func11, Tryd.ntmps11
    go_wp2
    go_ret
    exact ⟨by simp [E.out], 0, rfl⟩

theorem ints_b (w : World) (A1 A2 : Option Addr) (n1 n2 c1 c2 : Nat) (xs ys : List Int) (h1 : Sl w A1 n1 (xs.map (Value.int .i64))) (h2 : Sl w A2 n2 (ys.map (Value.int .i64)))
    (m1 : n1 ≤ 9223372036854775807) (m2 : n2 ≤ 9223372036854775807) :
    Calls Tryd.prog 11 #[.slice A1 n1 c1, .slice A2 n2 c2] w fun e w' => e = .returned (.bool (decide (xs = ys))) ∧ Below w.heap.size w w' :=
  (ints_c w A1 A2 n1 n2 c1 c2 xs ys h1 h2 m1 m2).mono fun _ _ ⟨he, k, hk⟩ => ⟨he, by rw [hk]; exact pure_drewN w k⟩

end Go.Proofs.YtiobnnhjnkcafaaDoor

namespace Go.Proofs.YtiobnnhjnkcafaaDoor
open Go.RowKit

theorem keeps_setRow (w : World) (g : Nat) (cs : Array Value) : Keeps (fun k => k = g) w (w.setRow g cs) :=
  ⟨rfl, rfl, rfl, by simp, fun k _ hn => setRow_other w g k cs hn⟩

theorem wpList_copy_front {P : Program} {w : World} {ops : Array Oper} {rest : List Oper} {o : Oper} {a : Act} {Q : Exit → Act → World → Prop} (hgd : o.guard = none) (d s : Operand) (dT sT : TypeId)
    (ho : o.op = .call { callee := .builtin .copy, args := #[d, s], argTypes := #[dT, sT] }) {e : TypeId} {z : Value} {bytes : Nat} (hT : ElemT P dT e z bytes)
    {base g N C : Nat} {xs : List Value} (hown : w.ownsRow base e 1 (.slice (some ⟨g, 0, none⟩) N C) N xs) (hd : a.eval d = .slice (some ⟨g, 0, none⟩) N C)
    {A : Option Addr} {n c : Nat} {ys : List Value} (hsl : Sl w A n ys) (hs : a.eval s = .slice A n c) (hn : n ≤ N) (h1 : ∀ v ∈ ys, v.oneCell' = true)
    (h : ∀ w', w'.ownsRow base e 1 (.slice (some ⟨g, 0, none⟩) N C) N (ys ++ xs.drop n) → Keeps (fun k => k = g) w w' → wpList P ops Q rest (a.put o.dst (goInt n)) w') :
    wpList P ops Q (o :: rest) a w := by
  have hsz : (P.info? e).map (·.size) = some 1 := by
    obtain ⟨i, hi, _, hz1, _⟩ := info_parts hT.info
    rw [hi]; simp [hz1]
  have hl : ys.length = n := hsl.1
  have hxl : xs.length = N := by simpa using hown.1
  rcases Nat.eq_zero_or_pos n with h0 | h0
  · subst h0
    obtain rfl : ys = [] := List.eq_nil_of_length_eq_zero hl
    refine wpList_copy_nothing hgd d s dT sT ho e hT.und hsz _ _ _ _ _ _ hd hs (by simp) ?_
    exact h w (by simpa using hown) (Keeps.refl _ _)
  · obtain ⟨ad, u, rfl, _, _⟩ := hsl.at_ h0
    rcases hown.2 with ⟨hv, _⟩ | ⟨g', cap, cur, hv, hb, hg, hnc, hcm, hsize, htake⟩
    · cases hv
    · injection hv with hA _ hcap
      injection hA with hA
      injection hA with hgg
      subst hgg hcap
      have hcl : N ≤ cur.size := by simp at hsize; omega
      refine wpList_copy_own hgd d s dT sT ho e hT.und hsz g 0 N C ad n c hd hs cur e hg ys (by rw [hl]; exact (Nat.min_eq_left hn).symm) (fun j v hj => by
        obtain ⟨ad', e', hc⟩ := hsl.2 j v hj
        cases e'; exact hc) (by omega) h1 ?_
      rw [hl]
      refine h _ ⟨by simp; omega, .inr ⟨g, C, _, rfl, hb, setRow_heap w g cur _ e _ hg, hnc, hcm, by simp; omega, ?_⟩⟩ (keeps_setRow _ _ _)
      rw [← htake]
      simp only [List.take_zero, List.nil_append, Nat.zero_add, List.size_toArray]
      rw [List.take_append, hl, List.take_of_length_le (by omega), List.drop_take]
end Go.Proofs.YtiobnnhjnkcafaaDoor

namespace Go.Proofs.YtiobnnhjnkcafaaDoor
open Go.RowKit

theorem make_row_ints (w : World) (n : Nat) (h : n ≤ maxLen) : (w.alloc (.cells (madeCells #[.int .i64 0] n) 3)).ownsRow w.heap.size 3 1 (.slice (some ⟨w.heap.size, 0, none⟩) n n) n (List.replicate n (.int .i64 0)) := by
  have := World.ownsRow_lit (base := w.heap.size) (e := 3) (size := 1) w (madeCells #[.int .i64 0] n) n (Nat.le_refl _) h (by rw [size_madeCells]; simp)
  rwa [toList_madeCells_one] at this

/-- Behind the copy: the two marks. -/
theorem lent_marks {w w2 : World} {n : Nat} {ys : List Value} (hl : ys.length = n) (h : w2.ownsRow w.heap.size 3 1 (.slice (some ⟨w.heap.size, 0, none⟩) (n + 2) (n + 2)) (n + 2) (ys ++ (List.replicate (n + 2) (Value.int .i64 0)).drop n)) (hk : Keeps (fun k => k = w.heap.size) (w.alloc (.cells (madeCells #[.int .i64 0] (n + 2)) 3)) w2) :
    w2.cell? ⟨w.heap.size, n, none⟩ = some (.int .i64 0) ∧ w2.frozen? ⟨w.heap.size, n, none⟩ = false ∧ (w2.setCell ⟨w.heap.size, n, none⟩ (.int .i64 7001)).cell? ⟨w.heap.size, n + 1, none⟩ = some (.int .i64 0) ∧ (w2.setCell ⟨w.heap.size, n, none⟩ (.int .i64 7001)).frozen? ⟨w.heap.size, n + 1, none⟩ = false ∧
      Hid (((w2.setCell ⟨w.heap.size, n, none⟩ (.int .i64 7001)).setCell ⟨w.heap.size, n + 1, none⟩ (.int .i64 7002)).ownsRow w.heap.size 3 1 (.slice (some ⟨w.heap.size, 0, none⟩) (n + 2) (n + 2)) (n + 2) (ys ++ [.int .i64 7001, .int .i64 7002])) ∧
      Hid (Below w.heap.size w ((w2.setCell ⟨w.heap.size, n, none⟩ (.int .i64 7001)).setCell ⟨w.heap.size, n + 1, none⟩ (.int .i64 7002))) := by
  have e : (List.replicate (n + 2) (Value.int .i64 0)).drop n = [.int .i64 0, .int .i64 0] := by simp
  rw [e] at h
  have s1 := (h.stored n (.int .i64 7001)).1
  have e1 : (ys ++ [Value.int .i64 0, .int .i64 0]).set n (.int .i64 7001) = ys ++ [.int .i64 7001, .int .i64 0] := by
    rw [List.set_append_right _ _ (by omega), hl, Nat.sub_self]; rfl
  rw [e1] at s1
  have s2 := (s1.stored (n + 1) (.int .i64 7002)).1
  have e2 : (ys ++ [Value.int .i64 7001, .int .i64 0]).set (n + 1) (.int .i64 7002) = ys ++ [.int .i64 7001, .int .i64 7002] := by
    rw [List.set_append_right _ _ (by omega), hl, Nat.add_sub_cancel_left]; rfl
  rw [e2] at s2
  have b0 : Below w.heap.size w w2 := ((Below.refl _ _).alloc (Nat.le_refl _) _).trans (hk.below (by simp) (fun k hk => by omega))
  refine ⟨?_, h.frozenAt n, ?_, s1.frozenAt (n + 1), Lib.hid s2, Lib.hid ((b0.setCell (p := ⟨w.heap.size, n, none⟩) (Nat.le_refl _) _).setCell (p := ⟨w.heap.size, n + 1, none⟩) (Nat.le_refl _) _)⟩
  · rw [h.cellAt n (by omega), List.getElem?_append_right (by omega), hl, Nat.sub_self]; rfl
  · rw [s1.cellAt (n + 1) (by omega), List.getElem?_append_right (by omega), hl, Nat.add_sub_cancel_left]; rfl

set_option maxRecDepth 100000 in
set_option maxHeartbeats 1000000 in
theorem lent_c (w : World) (A : Option Addr) (n c : Nat) (ys : List Value) (h : Sl w A n ys) (h1 : ∀ v ∈ ys, v.oneCell' = true) (hm : n * 8 ≤ 140737488351232) :
    Calls Tryd.prog 18 #[.slice A n c] w fun e w' => e = .returned (.slice (some ⟨w.heap.size, 0, none⟩) n (n + 2)) ∧
      w'.ownsRow w.heap.size 3 1 (.slice (some ⟨w.heap.size, 0, none⟩) (n + 2) (n + 2)) (n + 2) (ys ++ [.int .i64 7001, .int .i64 7002]) ∧ Below w.heap.size w w' := by
  have hl : ys.length = n := h.1
  have HL := Lib.hid hl
  clear hl
  have hmk := run_make_row' (P := Tryd.prog) 31 3 (.int .i64 0) 8 tInts.und tInts.info rfl .i64 .i64 (n + 2) (by omega) (by omega)
  have hmk' : ∀ wz : World, (Instr.makeSlice 31 (.int .i64 ((n : Int) + 2)) (.int .i64 ((n : Int) + 2))).run Tryd.prog wz = .ok (.slice (some ⟨wz.heap.size, 0, none⟩) (n + 2) (n + 2)) (wz.alloc (.cells (madeCells #[.int .i64 0] (n + 2)) 3)) := hmk
  clear hmk
  have hown0 := make_row_ints w (n + 2) (by simp only [maxLen]; omega)
  have hs0 := h.alloc (.cells (madeCells #[.int .i64 0] (n + 2)) 3)
  have H1 := Lib.hid h1
  clear h1 h
  go_enter Tryd.func18, Tryd.ntmps18
  go_wp2_with (refine wpList_copy_front rfl _ _ _ _ rfl tInts hown0 rfl hs0 rfl (by omega) H1.out ?_; intro w2 hown2 hk2; obtain ⟨q1, q2, q3, q4, q5, q6⟩ := lent_marks HL.out hown2 hk2; clear hown2 hk2)
  go_ret
  exact ⟨rfl, q5.out, q6.out⟩

/-- Kept: the numbers are as they were, the marks too. -/
theorem kept_c (w : World) (A B : Option Addr) (n c d : Nat) (xs : List Int) (hB : Sl w B n (xs.map (Value.int .i64))) (hA : Sl w A (n + 2) (xs.map (Value.int .i64) ++ [.int .i64 7001, .int .i64 7002])) (hc : n + 2 ≤ c) (hm : c ≤ maxLen) :
    Calls Tryd.prog 27 #[.slice A n c, .slice B n d] w fun e w' => e = .returned (.bool true) ∧ Below w.heap.size w w' := by
  unfold maxLen at hm
  have hl : xs.length = n := by simpa using hB.1
  have hA0 : Sl w A n (xs.map (Value.int .i64)) := ⟨by simpa using hl, fun k v hv => hA.2 k v (by rw [List.getElem?_append_left (List.getElem?_eq_some_iff.1 hv).1]; exact hv)⟩
  obtain ⟨ad, _, rfl, hj1, hj2⟩ := hA.at_ (show n < n + 2 by omega)
  clear hj1 hj2
  have m1 : w.cell? (ad.add n) = some (.int .i64 7001) := by
    obtain ⟨_, e, h⟩ := hA.2 n (.int .i64 7001) (by rw [List.getElem?_append_right (by simp; omega)]; simp [hl])
    cases e; exact h
  have m2 : w.cell? (ad.add (n + 1)) = some (.int .i64 7002) := by
    obtain ⟨_, e, h⟩ := hA.2 (n + 1) (.int .i64 7002) (by rw [List.getElem?_append_right (by simp; omega)]; simp [hl])
    cases e; exact h
  have HI := Lib.hid (ints_b w (some ad) B n n c d xs xs hA0 hB (by omega) (by omega))
  rw [decide_eq_true rfl] at HI
  clear hl hA0 hA hB
  go_enter Tryd.func27, Tryd.ntmps27
  go_wp2_with fail
  refine (HI.out).mono ?_
  rintro e w1 ⟨rfl, hb⟩
  have m1' := cell_later hb m1
  have m2' := cell_later hb m2
  have m3' : w1.cell? ⟨ad.block, ad.off + (n + 1), none⟩ = some (.int .i64 7002) := by simpa [Addr.add] using m2'
  clear m1 m2 m2'
  go_wp2_with fail
  go_ret
  exact ⟨rfl, hb⟩
end Go.Proofs.YtiobnnhjnkcafaaDoor

namespace Go.Proofs.YtiobnnhjnkcafaaDoor
open Go.RowKit RuleP

end Go.Proofs.YtiobnnhjnkcafaaDoor
