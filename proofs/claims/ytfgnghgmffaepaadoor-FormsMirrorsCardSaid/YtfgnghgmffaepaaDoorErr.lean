/- The error that a number stands for, and the error that a package tells: what root, fault.New return. Condition: the package's error variables hold what E says. -/
import Derived.Test.YtfgnghgmffaepaaDoorBase
namespace Go.Proofs.YtfgnghgmffaepaaDoor
open Go.RowKit

theorem heap_new (w : World) (o : Obj) : (w.alloc o).heap[w.heap.size]? = some o := by
  show (w.heap.push o)[w.heap.size]? = some o
  simp
/-- The error variables hold the values of E, by their numbers. -/
structure Errs (w : World) (E : Nat → Addr) : Prop where
  e1 : w.cell? ⟨0, 0, none⟩ = some (.iface 184 (.pointer (some (E 1))))
  e2 : w.cell? ⟨1, 0, none⟩ = some (.iface 184 (.pointer (some (E 2))))
  e3 : w.cell? ⟨2, 0, none⟩ = some (.iface 184 (.pointer (some (E 3))))
  e4 : w.cell? ⟨3, 0, none⟩ = some (.iface 184 (.pointer (some (E 4))))
  e5 : w.cell? ⟨4, 0, none⟩ = some (.iface 184 (.pointer (some (E 5))))
  e6 : w.cell? ⟨5, 0, none⟩ = some (.iface 184 (.pointer (some (E 6))))
  e7 : w.cell? ⟨6, 0, none⟩ = some (.iface 184 (.pointer (some (E 7))))
  e8 : w.cell? ⟨7, 0, none⟩ = some (.iface 184 (.pointer (some (E 8))))
  e9 : w.cell? ⟨8, 0, none⟩ = some (.iface 184 (.pointer (some (E 9))))
  e10 : w.cell? ⟨9, 0, none⟩ = some (.iface 184 (.pointer (some (E 10))))
  e11 : w.cell? ⟨10, 0, none⟩ = some (.iface 184 (.pointer (some (E 11))))
  e99 : w.cell? ⟨11, 0, none⟩ = some (.iface 184 (.pointer (some (E 99))))

theorem Errs.keep {w w' : World} {E : Nat → Addr} (h : Errs w E) (hk : ∀ (a : Addr) v, w.cell? a = some v → w'.cell? a = some v) : Errs w' E :=
  ⟨hk _ _ h.e1, hk _ _ h.e2, hk _ _ h.e3, hk _ _ h.e4, hk _ _ h.e5, hk _ _ h.e6, hk _ _ h.e7, hk _ _ h.e8, hk _ _ h.e9, hk _ _ h.e10, hk _ _ h.e11, hk _ _ h.e99⟩
theorem Errs.below {w w' : World} {E : Nat → Addr} (h : Errs w E) (hb : Below w.heap.size w w') : Errs w' E := h.keep fun _ _ hc => cell_later hb hc

set_option maxHeartbeats 1000000 in
theorem root_c (w : World) (E : Nat → Addr) (hE : Errs w E) (n : Nat) (h1 : 1 ≤ n) (h2 : n ≤ 11) :
    Calls Tryd.prog 77 #[.int .i64 (n : Int)] w fun e w' => e = .returned (.iface 184 (.pointer (some (E n)))) ∧ w = w' := by
  obtain ⟨e1, e2, e3, e4, e5, e6, e7, e8, e9, e10, e11, e99⟩ := hE
  have hn : n = 1 ∨ n = 2 ∨ n = 3 ∨ n = 4 ∨ n = 5 ∨ n = 6 ∨ n = 7 ∨ n = 8 ∨ n = 9 ∨ n = 10 ∨ n = 11 := by omega
  clear h1 h2
  rcases hn with rfl | rfl | rfl | rfl | rfl | rfl | rfl | rfl | rfl | rfl | rfl
  all_goals
    go_enter Tryd.func77, Tryd.ntmps77
    go_wp2
    go_ret
    exact ⟨rfl, rfl⟩

/-- The value of an error that lies in block b. -/
def errV (b : Nat) : Value := .iface 67 (.pointer (some ⟨b, 0, none⟩))

theorem new_c (w : World) (E : Nat → Addr) (hE : Errs w E) (op : ByteArray) (at' : Int) (n : Nat) (h1 : 1 ≤ n) (h2 : n ≤ 11) :
    Calls Tryd.prog 53 #[.string op, .int .i64 at', .int .i64 (n : Int)] w fun e w' => e = .returned (errV w.heap.size) ∧ w.alloc (.cells #[.string op, .int .i64 at', .iface 184 (.pointer (some (E n)))] 71) = w' := by
  have hn : ((n : Int) == 0) = false := by simp; omega
  go_enter Tryd.func53, Tryd.ntmps53
  go_wp2_with (go_at_call 77; refine (root_c _ E hE n h1 h2).mono ?_; rintro e w' ⟨rfl, rfl⟩)
  go_ret
  exact ⟨rfl, rfl⟩


/-- Three writes into one block. -/
theorem keeps_set3 (w : World) (g : Nat) (u0 u1 u2 : Value) : Keeps (fun k => k = g) w (((w.setCell ⟨g, 0, none⟩ u0).setCell ⟨g, 1, none⟩ u1).setCell ⟨g, 2, none⟩ u2) :=
  ((Keeps.of_setCell w ⟨g, 0, none⟩ u0).trans (Keeps.of_setCell _ ⟨g, 1, none⟩ u1) (fun _ _ h => h)).trans (Keeps.of_setCell _ ⟨g, 2, none⟩ u2) (fun _ _ h => h)
theorem below_set3 {w0 w : World} {B g : Nat} (h : Below B w0 w) (hg : B ≤ g) (u0 u1 u2 : Value) : Below B w0 (((w.setCell ⟨g, 0, none⟩ u0).setCell ⟨g, 1, none⟩ u1).setCell ⟨g, 2, none⟩ u2) :=
  ((h.setCell (p := ⟨g, 0, none⟩) hg u0).setCell (p := ⟨g, 1, none⟩) hg u1).setCell (p := ⟨g, 2, none⟩) hg u2
end Go.Proofs.YtfgnghgmffaepaaDoor
