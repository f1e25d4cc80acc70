/- Errors told further: fault.Under, edenraw.Under, Err.Bad. Condition: the error reads from memory. -/
import Derived.Test.YtfgjcdfmlpdkaaaDoorRawErr
namespace Go.Proofs.YtfgjcdfmlpdkaaaDoor
open Go.RowKit

/-- An error told further by another package. -/
def under (op : ByteArray) (i : Int) : Option Tale → Option Tale
  | none => none
  | some t => some (t.1, (op, i) :: t.2)
theorem under_ok {op : ByteArray} {i : Int} {t : Option Tale} (h : TaleOk t) : TaleOk (under op i t) := by
  intro x hx
  cases t with
  | none => cases hx
  | some t => cases hx; exact h t rfl

theorem under_c (w : World) (E : Nat → Addr) (op : ByteArray) (i : Int) (t : Option Tale) (v : Value) (h : ErrV w E t v) :
    Calls Tryd.prog 105 #[.string op, .int .i64 i, v] w fun e w' => ∃ v', e = .returned v' ∧ ErrV w' E (under op i t) v' ∧ Below w.heap.size w w' := by
  cases t with
  | none =>
    obtain rfl : v = .nilIface := h
    go_enter Tryd.func105, Tryd.ntmps105
    go_wp2_with fail
    go_ret
    exact ⟨_, rfl, rfl, Below.refl _ _⟩
  | some t =>
    have h' : ErrIs w E t.1 t.2 v := h
    obtain ⟨u, p, rfl⟩ := h'.iface
    have HP := Lib.hid h'
    clear h h'
    go_enter Tryd.func105, Tryd.ntmps105
    go_wp2_with fail
    go_ret
    have hb := (Below.refl w.heap.size w).alloc (Nat.le_refl _) (.cells #[.string op, .int .i64 i, .iface u p] 130)
    exact ⟨_, rfl, ⟨w.heap.size, _, rfl, heap_new _ _, ErrIs.below hb HP.out⟩, hb⟩
end Go.Proofs.YtfgjcdfmlpdkaaaDoor
