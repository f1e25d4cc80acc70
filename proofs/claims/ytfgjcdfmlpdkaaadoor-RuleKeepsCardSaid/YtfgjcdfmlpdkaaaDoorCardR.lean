/- A rule handed as an argument, opened: its three cells. -/
import Derived.Test.YtfgjcdfmlpdkaaaDoorCard
import Derived.Lib.SmallJoins
namespace Go.Proofs.YtfgjcdfmlpdkaaaDoor
open Go.ChangeShapes Go.WideShapes Go.ChangeAt Go.RowKit Go.Joins
set_option linter.all false
set_option maxRecDepth 10000

theorem open_rule {H : Type} {enc : TypeId × Value → H} {W : World} {base : Nat} {v : Value} {d : DataW H} {p : List MemPlace} (hval : Value.okWide Tryd.prog W .any base 24 v)
    (h : DataW.Trod enc Tryd.prog W 0 (fun _ => true) true 24 v d p) :
    ∃ (K R : Int) (A : Option Addr) (n c : Nat) (xs : List Int), v = .agg #[.int .i64 K, .int .i64 R, .slice A n c] ∧ n ≤ c ∧ c ≤ maxLen ∧ Sl W A n (xs.map (Value.int .i64)) ∧ (∀ x ∈ xs, (Lit.int .i64 x).wf = true) := by
  obtain ⟨c0, c1, c2, y0, y1, y2, m, rfl, rfl, rfl, hy0, hy1, hy2⟩ := open_agg3 Tryd.underlying24 (by kernel_rfl) (by kernel_rfl) hval h
  obtain ⟨K, e0, _, _⟩ := DataW.trod_int Tryd.underlying3 hy0
  obtain ⟨R, e1, _, _⟩ := DataW.trod_int Tryd.underlying3 hy1
  simp at e0 e1
  subst e0 e1
  rcases open_ints Tryd.underlying22 Tryd.underlying3 cellsInt hy2 with ⟨hcs, _⟩ | ⟨a, len', cap', zs, hcs, _, hl, hm, hz, _, hcell, hwz⟩
  · simp at hcs
    subst hcs
    exact ⟨K, R, none, 0, 0, [], rfl, Nat.le_refl _, Nat.zero_le _, Sl.nil _ _, fun x hx => by simp at hx⟩
  · simp at hcs
    subst hcs
    simp only [if_true] at hz
    refine ⟨K, R, some a, len', cap', zs.take len', rfl, hl, hm, ⟨by simp; omega, fun k u hu => ?_⟩, fun x hx => hwz x (List.mem_of_mem_take hx)⟩
    have hk : k < len' := by
      have := (List.getElem?_eq_some_iff.1 hu).1
      simp at this
      omega
    refine ⟨a, rfl, ?_⟩
    rw [hcell k (by omega)]
    rw [List.getElem?_map, List.getElem?_take, if_pos hk] at hu
    rw [List.getD_eq_getElem?_getD]
    cases hz : zs[k]? with
    | none => rw [hz] at hu; cases hu
    | some z => rw [hz] at hu; exact hu
end Go.Proofs.YtfgjcdfmlpdkaaaDoor
