/- Limbs copied: edenraw.CopyNat. Condition: the limbs read from memory. -/
import Derived.Test.YtgknhmghljedlaaDoorTypes
namespace Go.Proofs.YtgknhmghljedlaaDoor
open Go.RowKit

theorem own_emptyN (w : World) (e : TypeId) : (w.alloc (.cells #[] e)).ownsRow w.heap.size e 1 (.slice (some ⟨w.heap.size, 0, none⟩) 0 0) 0 [] := by
  simpa using World.ownsRow_lit (base := w.heap.size) (e := e) (size := 1) w #[] 0 (Nat.le_refl _) (Nat.zero_le _) rfl

set_option maxRecDepth 100000 in
set_option maxHeartbeats 1000000 in
theorem copyN_c (w : World) (A : Option Addr) (n c : Nat) (xs : List Value) (h : Sl w A n xs) (h1 : ∀ u ∈ xs, u.oneCell' = true) (hm : n * 8 ≤ 140737488355328) :
    Calls Tryd.prog 24 #[.slice A n c] w fun e w' => ∃ C cc, e = .returned (.slice C n cc) ∧ w'.ownsRow w.heap.size 37 1 (.slice C n cc) n xs ∧ Below w.heap.size w w' := by
  have H1 := Lib.hid h1
  have hl := h.alloc (.cells #[] 37)
  have ho := own_emptyN w 37
  clear h1 h
  go_enter Tryd.func24, Tryd.ntmps24
  go_wp2_with (at_builtin; refine wpList_cat rfl _ _ _ rfl tNat ho rfl hl rfl H1.out (by simp only [maxLen]; omega) (by omega) (by simp) ?_; intro v' w' hown hg hv hn)
  rw [Nat.zero_add, List.nil_append] at hown
  obtain ⟨C, cc, rfl, _, _⟩ := own_slice hown
  have hb : Below w.heap.size w w' := ((Below.refl w.heap.size w).alloc (Nat.le_refl _) _).trans ((Keeps.of_grown hg).below (by simp) (fun k hk => by simp [Value.ownBlock] at hk; omega))
  go_ret
  exact ⟨C, cc, rfl, hown, hb⟩
end Go.Proofs.YtgknhmghljedlaaDoor
