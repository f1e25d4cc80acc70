/- Rows of numbers that the call makes. Plain lemmas, no program. No condition. A list of numbers copied: slices.Clone. Condition: the list reads from memory. A list copied: edenraw.Copy. Condition: the list reads from memory. -/
import Derived.Test.YtfgjcdfmlpdkaaaGreatDoorTypes
import Derived.Test.YtfgjcdfmlpdkaaaGreatDoorRuleP
import Derived.Test.YtfgjcdfmlpdkaaaGreatDoorCut
namespace Go.Proofs.YtfgjcdfmlpdkaaaGreatDoor
open Go.RowKit RuleP

theorem make_ints (w : World) (n : Nat) (h : n ≤ maxLen) : (w.alloc (.cells (madeCells #[.int .i64 0] n) 3)).ownsRow w.heap.size 3 1 (.slice (some ⟨w.heap.size, 0, none⟩) n n) n ((ints (List.replicate n 0)).map (Value.int .i64)) := by
  have := World.ownsRow_lit (base := w.heap.size) (e := 3) (size := 1) w (madeCells #[.int .i64 0] n) n (Nat.le_refl _) h (by rw [size_madeCells]; simp)
  rw [toList_madeCells_one] at this
  rw [ints_map, List.map_replicate]
  exact this
theorem ints_set (l : List Nat) (j x : Nat) : (ints l).set j (x : Int) = ints (l.set j x) := by simp [ints, List.map_set]
theorem lit_ints (w : World) (xs : List Int) (n : Nat) (h : xs.length = n) (hn : n ≤ maxLen) (e : TypeId) : Sl (w.alloc (.cells (xs.map (Value.int .i64)).toArray e)) (some ⟨w.heap.size, 0, none⟩) n (xs.map (Value.int .i64)) :=
  Sl.of_own (World.ownsRow_lit (base := 0) (e := e) (size := 1) w (xs.map (Value.int .i64)).toArray n (Nat.zero_le _) hn (by simp [h]))
end Go.Proofs.YtfgjcdfmlpdkaaaGreatDoor

namespace Go.Proofs.YtfgjcdfmlpdkaaaGreatDoor
open Go.RowKit

end Go.Proofs.YtfgjcdfmlpdkaaaGreatDoor

namespace Go.Proofs.YtfgjcdfmlpdkaaaGreatDoor
open Go.RowKit

theorem own_empty (w : World) (e : TypeId) : (w.alloc (.cells #[] e)).ownsRow w.heap.size e 1 (.slice (some ⟨w.heap.size, 0, none⟩) 0 0) 0 [] := by
  simpa using World.ownsRow_lit (base := w.heap.size) (e := e) (size := 1) w #[] 0 (Nat.le_refl _) (Nat.zero_le _) rfl

end Go.Proofs.YtfgjcdfmlpdkaaaGreatDoor
