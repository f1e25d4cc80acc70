/- The laws' helper awake of chapter 08: it returns true. Condition: the error variables hold what E says. -/
import Derived.Test.YtfgjcdfmlpdkaaaDoorOverFG
import Derived.Test.YtfgjcdfmlpdkaaaDoorLists
import Derived.Test.YtfgjcdfmlpdkaaaDoorCopyM
namespace Go.Proofs.YtfgjcdfmlpdkaaaDoor
open Go.RowKit RuleP

theorem rule90 : IsRule 2 1 [0, 1, 0, 1, 1, 0, 1, 0] := ⟨by decide, by decide, by decide, by decide, by decide⟩
theorem before90 : before 2 1 [0, 1, 0, 1, 1, 0, 1, 0] [1] = [[0, 0, 1], [0, 1, 1], [1, 0, 0], [1, 1, 0]] := by decide

/-- What Before answers, as a list of lists. -/
theorem bef_list {w : World} {base M lc : Nat} {LA : Option Addr} {rows : List Value} {L : List (List Nat)} (hown : w.ownsRow base 22 1 (.slice LA L.length lc) L.length rows) (hM : M = L.length)
    (hel : ∀ (j : Nat) l, L[j]? = some l → ∃ v, rows[j]? = some v ∧ w.ownsRow base 3 1 v l.length ((ints l).map (Value.int .i64))) : ListAt w LA M (L.map ints) := by
  subst hM
  refine ⟨rows, Sl.of_own hown, by simp, fun j l hj => ?_⟩
  rw [List.getElem?_map] at hj
  cases hl : L[j]? with
  | none => rw [hl] at hj; cases hj
  | some l' =>
    rw [hl] at hj
    cases hj
    obtain ⟨v, h1, h2⟩ := hel j l' hl
    obtain ⟨P, c, rfl, h3, h4⟩ := own_slice h2
    rw [ints_len]
    exact ⟨P, c, h1, by unfold maxLen at h4; omega, Sl.of_own h2⟩

set_option maxRecDepth 100000 in
set_option maxHeartbeats 4000000 in
theorem awake8_c (w : World) (E : Nat → Addr) (hE : Errs w E) :
    Calls Tryd.prog 14 #[] w fun e w' => e = .returned (.bool true) ∧ Below w.heap.size w w' := by
  have HE := Lib.hid hE
  clear hE
  go_enter Tryd.func14, Tryd.ntmps14
  have hA := lit_ints w (ints [0, 1, 0, 1, 1, 0, 1, 0]) 8 rfl (by decide) 3
  have hb1 := (Below.refl w.heap.size w).alloc (Nat.le_refl _) (.cells #[.int .i64 0, .int .i64 1, .int .i64 0, .int .i64 1, .int .i64 1, .int .i64 0, .int .i64 1, .int .i64 0] 3)
  obtain ⟨w1, hw1⟩ : ∃ w1, w.alloc (.cells #[.int .i64 0, .int .i64 1, .int .i64 0, .int .i64 1, .int .i64 1, .int .i64 0, .int .i64 1, .int .i64 0] 3) = w1 := ⟨_, rfl⟩
  have hs1 : w1.heap.size = w.heap.size + 1 := by rw [← hw1]; simp
  change Sl (w.alloc (.cells #[.int .i64 0, .int .i64 1, .int .i64 0, .int .i64 1, .int .i64 1, .int .i64 0, .int .i64 1, .int .i64 0] 3)) _ _ _ at hA
  rw [hw1] at hA hb1
  have hr2 := RuleAt.new w1 (.int .i64 2) (.int .i64 1) (.slice (some ⟨w.heap.size, 0, none⟩) 8 8)
  have hb2 := hb1.alloc hb1.size (.cells #[.int .i64 2, .int .i64 1, .slice (some ⟨w.heap.size, 0, none⟩) 8 8] 24)
  have hA2 := hA.alloc (.cells #[.int .i64 2, .int .i64 1, .slice (some ⟨w.heap.size, 0, none⟩) 8 8] 24)
  obtain ⟨w2, hw2⟩ : ∃ w2, w1.alloc (.cells #[.int .i64 2, .int .i64 1, .slice (some ⟨w.heap.size, 0, none⟩) 8 8] 24) = w2 := ⟨_, rfl⟩
  have hs2 : w2.heap.size = w.heap.size + 1 + 1 := by rw [← hw2]; simp [hs1]
  rw [hw2] at hr2 hb2 hA2
  rw [hs1] at hr2
  have hB := lit_ints w2 (ints [1]) 1 rfl (by decide) 3
  have hb3 := hb2.alloc hb2.size (.cells #[.int .i64 1] 3)
  have hA3 := hA2.alloc (.cells #[.int .i64 1] 3)
  have hr3 := hr2.alloc (.cells #[.int .i64 1] 3)
  change Sl (w2.alloc (.cells #[.int .i64 1] 3)) _ _ _ at hB
  obtain ⟨w3, hw3⟩ : ∃ w3, w2.alloc (.cells #[.int .i64 1] 3) = w3 := ⟨_, rfl⟩
  rw [hw3] at hB hb3 hA3 hr3
  have hbf := before_good w3 E (HE.out.below hb3) 2 1 2 (some ⟨w.heap.size, 0, none⟩) (some ⟨w2.heap.size, 0, none⟩) 8 8 1 1 [0, 1, 0, 1, 1, 0, 1, 0] [1] rule90 (by decide) (by decide) hA3 hB (by decide) (by decide)
  rw [before90, hs2] at hbf
  have HBF := Lib.hid hbf
  have HW1 := Lib.hid hw1
  have HW2 := Lib.hid hw2
  have HW3 := Lib.hid hw3
  clear hbf hw1 hw2 hw3 hs1 hs2 hB hA hA2 hr2 hb1 hb2
  unfold ruleV at HBF
  go_wp2_with fail
  rw [HW1.out, HW2.out, HW3.out]
  refine (HBF.out).mono ?_
  rintro e w4 ⟨LA, lc, rows, L, more, rfl, hown, hel, _, hb4, hF⟩
  obtain rfl : L = [[0, 0, 1], [0, 1, 1]] := hF.list
  obtain rfl : more = true := hF.more
  have hL4 := bef_list hown rfl hel
  have hr4 := hr3.below hb4 hr3.lt
  have hA4 := hA3.below hb4
  have hbw := hb3.trans (hb4.mono hb3.size)
  obtain ⟨c0, c1, c2, _⟩ := hr4.facts
  have hed := edge_good w4 E (HE.out.below hbw) 2 1 1 0 (some ⟨w.heap.size, 0, none⟩) 8 8 _ hA4 rule90 (by decide) (by decide) (by decide)
  rw [show (1 * 2 + 0) % 2 ^ (2 * 1) = 2 from rfl, show [0, 1, 0, 1, 1, 0, 1, 0].getD (1 * 2 + 0) 0 = 0 from rfl] at hed
  have HED := Lib.hid hed
  unfold ruleV at HED
  clear hown hel hb4 hF hed hA3 hr3 hb3
  go_wp2_with fail
  refine (HED.out).mono ?_
  rintro e w5 ⟨rfl, hb5⟩
  have hb5w := hbw.trans (hb5.mono hbw.size)
  have hL5 := hL4.keep hb5
  have h1 := lit_ints w5 [0, 0, 1] 3 rfl (by decide) 3
  change Sl (w5.alloc (.cells #[.int .i64 0, .int .i64 0, .int .i64 1] 3)) _ _ _ at h1
  have hb6 := (Below.refl w5.heap.size w5).alloc (Nat.le_refl _) (.cells #[.int .i64 0, .int .i64 0, .int .i64 1] 3)
  obtain ⟨w6, hw6⟩ : ∃ w6, w5.alloc (.cells #[.int .i64 0, .int .i64 0, .int .i64 1] 3) = w6 := ⟨_, rfl⟩
  rw [hw6] at h1 hb6
  have h2 := lit_ints w6 [0, 1, 1] 3 rfl (by decide) 3
  change Sl (w6.alloc (.cells #[.int .i64 0, .int .i64 1, .int .i64 1] 3)) _ _ _ at h2
  have hb7 := hb6.alloc hb6.size (.cells #[.int .i64 0, .int .i64 1, .int .i64 1] 3)
  have h17 := h1.alloc (.cells #[.int .i64 0, .int .i64 1, .int .i64 1] 3)
  obtain ⟨w7, hw7⟩ : ∃ w7, w6.alloc (.cells #[.int .i64 0, .int .i64 1, .int .i64 1] 3) = w7 := ⟨_, rfl⟩
  rw [hw7] at h2 hb7 h17
  have hlit := World.ownsRow_lit (base := 0) (e := 22) (size := 1) w7 #[.slice (some ⟨w5.heap.size, 0, none⟩) 3 3, .slice (some ⟨w6.heap.size, 0, none⟩) 3 3] 2 (Nat.zero_le _) (by decide) rfl
  have hb8 := hb7.alloc hb7.size (.cells #[.slice (some ⟨w5.heap.size, 0, none⟩) 3 3, .slice (some ⟨w6.heap.size, 0, none⟩) 3 3] 22)
  have h18 := h17.alloc (.cells #[.slice (some ⟨w5.heap.size, 0, none⟩) 3 3, .slice (some ⟨w6.heap.size, 0, none⟩) 3 3] 22)
  have h28 := h2.alloc (.cells #[.slice (some ⟨w5.heap.size, 0, none⟩) 3 3, .slice (some ⟨w6.heap.size, 0, none⟩) 3 3] 22)
  have hLL : ListAt (w7.alloc (.cells #[.slice (some ⟨w5.heap.size, 0, none⟩) 3 3, .slice (some ⟨w6.heap.size, 0, none⟩) 3 3] 22)) (some ⟨w7.heap.size, 0, none⟩) 2 [[0, 0, 1], [0, 1, 1]] := by
    refine ⟨_, Sl.of_own hlit, rfl, fun j l hj => ?_⟩
    match j, hj with
    | 0, hj => cases hj; exact ⟨_, 3, rfl, by decide, h18⟩
    | 1, hj => cases hj; exact ⟨_, 3, rfl, by decide, h28⟩
    | j + 2, hj => simp at hj
  have HLS := Lib.hid (lists_same _ LA (some ⟨w7.heap.size, 0, none⟩) 2 lc 2 [[0, 0, 1], [0, 1, 1]] (hL5.keep hb8) hLL (by decide))
  have HB8 := Lib.hid (hb5w.trans (hb8.mono hb5w.size))
  have hs6 : w6.heap.size = w5.heap.size + 1 := by rw [← hw6]; simp
  have hs7 : w7.heap.size = w5.heap.size + 1 + 1 := by rw [← hw7]; simp [hs6]
  rw [hs6, hs7, ← hw7, ← hw6] at HLS
  rw [hs6, ← hw7, ← hw6] at HB8
  clear hlit hb8 h18 h28 hLL h17 hb7 h2 h1 hb6 hw6 hw7 hs6 hs7 hL5 hL4 hb5 hb5w hbw c0 c1 c2 hr4 hA4
  go_wp2_with fail
  refine (HLS.out).mono ?_
  rintro e w9 ⟨rfl, hb9⟩
  have HB9 := Lib.hid (HB8.out.trans (hb9.mono HB8.out.size))
  clear hb9
  go_wp2_with fail
  go_ret
  exact ⟨rfl, HB9.out⟩
end Go.Proofs.YtfgjcdfmlpdkaaaDoor
