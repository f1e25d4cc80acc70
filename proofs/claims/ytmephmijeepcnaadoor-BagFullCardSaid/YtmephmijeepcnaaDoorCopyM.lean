/- Rows of numbers that the call makes. Plain lemmas, no program. No condition. A list of numbers copied: slices.Clone. Condition: the list reads from memory. A list copied: edenraw.Copy. Condition: the list reads from memory. -/
import Derived.Test.YtmephmijeepcnaaDoorTypes
import Derived.Test.YtmephmijeepcnaaDoorRuleP
import Derived.Test.YtmephmijeepcnaaDoorCut
namespace Go.Proofs.YtmephmijeepcnaaDoor
open Go.RowKit RuleP

theorem make_ints (w : World) (n : Nat) (h : n ≤ maxLen) : (w.alloc (.cells (madeCells #[.int .i64 0] n) 3)).ownsRow w.heap.size 3 1 (.slice (some ⟨w.heap.size, 0, none⟩) n n) n ((ints (List.replicate n 0)).map (Value.int .i64)) := by
  have := World.ownsRow_lit (base := w.heap.size) (e := 3) (size := 1) w (madeCells #[.int .i64 0] n) n (Nat.le_refl _) h (by rw [size_madeCells]; simp)
  rw [toList_madeCells_one] at this
  rw [ints_map, List.map_replicate]
  exact this
theorem ints_set (l : List Nat) (j x : Nat) : (ints l).set j (x : Int) = ints (l.set j x) := by simp [ints, List.map_set]
theorem lit_ints (w : World) (xs : List Int) (n : Nat) (h : xs.length = n) (hn : n ≤ maxLen) (e : TypeId) : Sl (w.alloc (.cells (xs.map (Value.int .i64)).toArray e)) (some ⟨w.heap.size, 0, none⟩) n (xs.map (Value.int .i64)) :=
  Sl.of_own (World.ownsRow_lit (base := 0) (e := e) (size := 1) w (xs.map (Value.int .i64)).toArray n (Nat.zero_le _) hn (by simp [h]))
end Go.Proofs.YtmephmijeepcnaaDoor

namespace Go.Proofs.YtmephmijeepcnaaDoor
open Go.RowKit

end Go.Proofs.YtmephmijeepcnaaDoor

namespace Go.Proofs.YtmephmijeepcnaaDoor
open Go.RowKit

theorem own_empty (w : World) (e : TypeId) : (w.alloc (.cells #[] e)).ownsRow w.heap.size e 1 (.slice (some ⟨w.heap.size, 0, none⟩) 0 0) 0 [] := by
  simpa using World.ownsRow_lit (base := w.heap.size) (e := e) (size := 1) w #[] 0 (Nat.le_refl _) (Nat.zero_le _) rfl

set_option maxRecDepth 100000 in
set_option maxHeartbeats 1000000 in
theorem copy_c (w : World) (A : Option Addr) (n c : Nat) (xs : List Value) (h : Sl w A n xs) (h1 : ∀ u ∈ xs, u.oneCell' = true) (hm : n * 8 ≤ 140737488355328) :
    Calls Tryd.prog 16 #[.slice A n c] w fun e w' => ∃ C cc, e = .returned (.slice C n cc) ∧ w'.ownsRow w.heap.size 3 1 (.slice C n cc) n xs ∧ Below w.heap.size w w' := by
  have H1 := Lib.hid h1
  have hl := h.alloc (.cells #[] 3)
  have ho := own_empty w 3
  clear h1 h
  go_enter Tryd.func16, Tryd.ntmps16
  go_wp2_with (at_builtin; refine wpList_cat rfl _ _ _ rfl tInts ho rfl hl rfl H1.out (by simp only [maxLen]; omega) (by omega) (by simp) ?_; intro v' w' hown hg hv hn)
  rw [Nat.zero_add, List.nil_append] at hown
  obtain ⟨C, cc, rfl, _, _⟩ := own_slice hown
  have hb : Below w.heap.size w w' := ((Below.refl w.heap.size w).alloc (Nat.le_refl _) _).trans ((Keeps.of_grown hg).below (by simp) (fun k hk => by simp [Value.ownBlock] at hk; omega))
  go_ret
  exact ⟨C, cc, rfl, hown, hb⟩
end Go.Proofs.YtmephmijeepcnaaDoor
