/- Limbs lent: edenraw.LentNat, KeptNat. Condition: the limbs read from memory. -/
import Derived.Test.YtkghilmdoabodaaDoorNum
import Derived.Test.YtkghilmdoabodaaDoorLentB
namespace Go.Proofs.YtkghilmdoabodaaDoor
open Go.RowKit NatP

theorem make_row_u32 (w : World) (n : Nat) (h : n ≤ maxLen) : (w.alloc (.cells (madeCells #[.int .u32 0] n) 27)).ownsRow w.heap.size 27 1 (.slice (some ⟨w.heap.size, 0, none⟩) n n) n (List.replicate n (.int .u32 0)) := by
  have := World.ownsRow_lit (base := w.heap.size) (e := 27) (size := 1) w (madeCells #[.int .u32 0] n) n (Nat.le_refl _) h (by rw [size_madeCells]; simp)
  rwa [toList_madeCells_one] at this

/-- Behind the copy: the two marks. -/
theorem lentN_marks {w w2 : World} {n : Nat} {ys : List Value} (hl : ys.length = n) (h : w2.ownsRow w.heap.size 27 1 (.slice (some ⟨w.heap.size, 0, none⟩) (n + 2) (n + 2)) (n + 2) (ys ++ (List.replicate (n + 2) (Value.int .u32 0)).drop n)) (hk : Keeps (fun k => k = w.heap.size) (w.alloc (.cells (madeCells #[.int .u32 0] (n + 2)) 27)) w2) :
    w2.cell? ⟨w.heap.size, n, none⟩ = some (.int .u32 0) ∧ w2.frozen? ⟨w.heap.size, n, none⟩ = false ∧ (w2.setCell ⟨w.heap.size, n, none⟩ (.int .u32 7001)).cell? ⟨w.heap.size, n + 1, none⟩ = some (.int .u32 0) ∧ (w2.setCell ⟨w.heap.size, n, none⟩ (.int .u32 7001)).frozen? ⟨w.heap.size, n + 1, none⟩ = false ∧
      Hid (((w2.setCell ⟨w.heap.size, n, none⟩ (.int .u32 7001)).setCell ⟨w.heap.size, n + 1, none⟩ (.int .u32 7002)).ownsRow w.heap.size 27 1 (.slice (some ⟨w.heap.size, 0, none⟩) (n + 2) (n + 2)) (n + 2) (ys ++ [.int .u32 7001, .int .u32 7002])) ∧
      Hid (Below w.heap.size w ((w2.setCell ⟨w.heap.size, n, none⟩ (.int .u32 7001)).setCell ⟨w.heap.size, n + 1, none⟩ (.int .u32 7002))) := by
  have e : (List.replicate (n + 2) (Value.int .u32 0)).drop n = [.int .u32 0, .int .u32 0] := by simp
  rw [e] at h
  have s1 := (h.stored n (.int .u32 7001)).1
  have e1 : (ys ++ [Value.int .u32 0, .int .u32 0]).set n (.int .u32 7001) = ys ++ [.int .u32 7001, .int .u32 0] := by
    rw [List.set_append_right _ _ (by omega), hl, Nat.sub_self]; rfl
  rw [e1] at s1
  have s2 := (s1.stored (n + 1) (.int .u32 7002)).1
  have e2 : (ys ++ [Value.int .u32 7001, .int .u32 0]).set (n + 1) (.int .u32 7002) = ys ++ [.int .u32 7001, .int .u32 7002] := by
    rw [List.set_append_right _ _ (by omega), hl, Nat.add_sub_cancel_left]; rfl
  rw [e2] at s2
  have b0 : Below w.heap.size w w2 := ((Below.refl _ _).alloc (Nat.le_refl _) _).trans (hk.below (by simp) (fun k hk => by omega))
  refine ⟨?_, h.frozenAt n, ?_, s1.frozenAt (n + 1), Lib.hid s2, Lib.hid ((b0.setCell (p := ⟨w.heap.size, n, none⟩) (Nat.le_refl _) _).setCell (p := ⟨w.heap.size, n + 1, none⟩) (Nat.le_refl _) _)⟩
  · rw [h.cellAt n (by omega), List.getElem?_append_right (by omega), hl, Nat.sub_self]; rfl
  · rw [s1.cellAt (n + 1) (by omega), List.getElem?_append_right (by omega), hl, Nat.add_sub_cancel_left]; rfl

set_option maxRecDepth 100000 in
set_option maxHeartbeats 1000000 in
theorem lentN_c (w : World) (A : Option Addr) (n c : Nat) (ys : List Value) (h : Sl w A n ys) (h1 : ∀ v ∈ ys, v.oneCell' = true) (hm : n * 8 ≤ 140737488351232) :
    Calls Tryd.prog 7 #[.slice A n c] w fun e w' => e = .returned (.slice (some ⟨w.heap.size, 0, none⟩) n (n + 2)) ∧
      w'.ownsRow w.heap.size 27 1 (.slice (some ⟨w.heap.size, 0, none⟩) (n + 2) (n + 2)) (n + 2) (ys ++ [.int .u32 7001, .int .u32 7002]) ∧ Below w.heap.size w w' := by
  have hl : ys.length = n := h.1
  have HL := Lib.hid hl
  clear hl
  have hmk := run_make_row' (P := Tryd.prog) 25 27 (.int .u32 0) 4 tNat.und tNat.info rfl .i64 .i64 (n + 2) (by omega) (by omega)
  have hmk' : ∀ wz : World, (Instr.makeSlice 25 (.int .i64 ((n : Int) + 2)) (.int .i64 ((n : Int) + 2))).run Tryd.prog wz = .ok (.slice (some ⟨wz.heap.size, 0, none⟩) (n + 2) (n + 2)) (wz.alloc (.cells (madeCells #[.int .u32 0] (n + 2)) 27)) := hmk
  clear hmk
  have hown0 := make_row_u32 w (n + 2) (by simp only [maxLen]; omega)
  have hs0 := h.alloc (.cells (madeCells #[.int .u32 0] (n + 2)) 27)
  have H1 := Lib.hid h1
  clear h1 h
  go_enter Tryd.func7, Tryd.ntmps7
  go_wp2_with (refine wpList_copy_front rfl _ _ _ _ rfl tNat hown0 rfl hs0 rfl (by omega) H1.out ?_; intro w2 hown2 hk2; obtain ⟨q1, q2, q3, q4, q5, q6⟩ := lentN_marks HL.out hown2 hk2; clear hown2 hk2)
  go_ret
  exact ⟨rfl, q5.out, q6.out⟩

/-- Kept: the numbers are as they were, the marks too. -/
theorem keptN_c (w : World) (A B : Option Addr) (n c d : Nat) (xs : List Nat) (hB : Sl w B n (xs.map wv)) (hA : Sl w A (n + 2) (xs.map wv ++ [.int .u32 7001, .int .u32 7002])) (hc : n + 2 ≤ c) (hm : c ≤ maxLen) :
    Calls Tryd.prog 9 #[.slice A n c, .slice B n d] w fun e w' => e = .returned (.bool true) ∧ Below w.heap.size w w' := by
  unfold maxLen at hm
  have hl : xs.length = n := by simpa using hB.1
  have hA0 : Sl w A n (xs.map wv) := ⟨by simpa using hl, fun k v hv => hA.2 k v (by rw [List.getElem?_append_left (List.getElem?_eq_some_iff.1 hv).1]; exact hv)⟩
  obtain ⟨ad, _, rfl, hj1, hj2⟩ := hA.at_ (show n < n + 2 by omega)
  clear hj1 hj2
  have m1 : w.cell? (ad.add n) = some (.int .u32 7001) := by
    obtain ⟨_, e, h⟩ := hA.2 n (.int .u32 7001) (by rw [List.getElem?_append_right (by simp; omega)]; simp [hl])
    cases e; exact h
  have m2 : w.cell? (ad.add (n + 1)) = some (.int .u32 7002) := by
    obtain ⟨_, e, h⟩ := hA.2 (n + 1) (.int .u32 7002) (by rw [List.getElem?_append_right (by simp; omega)]; simp [hl])
    cases e; exact h
  have HI := Lib.hid (nats_b w (some ad) B n n c d xs xs hA0 hB (by unfold maxLen; omega))
  clear hl hA0 hA hB
  go_enter Tryd.func9, Tryd.ntmps9
  go_wp2_with fail
  refine (HI.out).mono ?_
  rintro e w1 ⟨rfl, hb⟩
  have m1' := cell_later hb m1
  have m2' := cell_later hb m2
  have m3' : w1.cell? ⟨ad.block, ad.off + (n + 1), none⟩ = some (.int .u32 7002) := by simpa [Addr.add] using m2'
  clear m1 m2 m2'
  go_wp2_with fail
  go_ret
  exact ⟨rfl, hb⟩
end Go.Proofs.YtkghilmdoabodaaDoor
