/- A rule handed as an argument, opened: its three cells. The reach of lists that came in: their capacity, in bytes. No condition. -/
import Derived.Test.YtfgjcdfmlpdkaaaGreatDoorCard
import Derived.Lib.SmallJoins
import Derived.SizedLaws
namespace Go.Proofs.YtfgjcdfmlpdkaaaGreatDoor
open Go.ChangeShapes Go.WideShapes Go.ChangeAt Go.RowKit Go.Joins
set_option linter.all false
set_option maxRecDepth 10000

theorem open_rule {H : Type} {enc : TypeId × Value → H} {W : World} {base : Nat} {v : Value} {d : DataW H} {p : List MemPlace} (hval : Value.okWide Tryz.prog W .any base 24 v)
    (h : DataW.Trod enc Tryz.prog W 0 (fun _ => true) true 24 v d p) :
    ∃ (K R : Int) (A : Option Addr) (n c : Nat) (xs : List Int), v = .agg #[.int .i64 K, .int .i64 R, .slice A n c] ∧ n ≤ c ∧ c ≤ maxLen ∧ Sl W A n (xs.map (Value.int .i64)) ∧ (∀ x ∈ xs, (Lit.int .i64 x).wf = true) := by
  obtain ⟨c0, c1, c2, y0, y1, y2, m, rfl, rfl, rfl, hy0, hy1, hy2⟩ := open_agg3 Tryz.underlying24 (by kernel_rfl) (by kernel_rfl) hval h
  obtain ⟨K, e0, _, _⟩ := DataW.trod_int Tryz.underlying3 hy0
  obtain ⟨R, e1, _, _⟩ := DataW.trod_int Tryz.underlying3 hy1
  simp at e0 e1
  subst e0 e1
  rcases open_ints Tryz.underlying22 Tryz.underlying3 cellsInt hy2 with ⟨hcs, _⟩ | ⟨a, len', cap', zs, hcs, _, hl, hm, hz, _, hcell, hwz⟩
  · simp at hcs
    subst hcs
    exact ⟨K, R, none, 0, 0, [], rfl, Nat.le_refl _, Nat.zero_le _, Sl.nil _ _, fun x hx => by simp at hx⟩
  · simp at hcs
    subst hcs
    simp only [if_true] at hz
    refine ⟨K, R, some a, len', cap', zs.take len', rfl, hl, hm, ⟨by simp; omega, fun k u hu => ?_⟩, fun x hx => hwz x (List.mem_of_mem_take hx)⟩
    have hk : k < len' := by
      have := (List.getElem?_eq_some_iff.1 hu).1
      simp at this
      omega
    refine ⟨a, rfl, ?_⟩
    rw [hcell k (by omega)]
    rw [List.getElem?_map, List.getElem?_take, if_pos hk] at hu
    rw [List.getD_eq_getElem?_getD]
    cases hz : zs[k]? with
    | none => rw [hz] at hu; cases hu
    | some z => rw [hz] at hu; exact hu
end Go.Proofs.YtfgjcdfmlpdkaaaGreatDoor

namespace Go.Proofs.YtfgjcdfmlpdkaaaGreatDoor
open Go.ChangeShapes Go.WideShapes Go.ChangeAt Go.RowKit Go.Joins
set_option linter.all false
set_option maxRecDepth 10000

theorem bytesInt : Tryz.prog.bytesOf 3 = 8 := by kernel_rfl
theorem reach_n {H : Type} {P : Program} {ts : List TypeId} {ds : List (DataW H)} (h : (DataW.weightsEach P ts ds).all (· ≤ reachBytes) = true) {j : Nat} {t : TypeId} {d : DataW H} (ht : ts[j]? = some t) (hd : ds[j]? = some d) : ∀ n ∈ d.weights P t, n ≤ 140737488351232 := fun n hn =>
  of_decide_eq_true (List.all_eq_true.1 h n (DataW.weights_mem_each ht hd n hn))

theorem sized_cells {H : Type} {enc : TypeId × Value → H} {W : World} {fuel : Nat} {A : Option Addr} {n c : Nat} {x : DataW H × List MemPlace} (h : DataW.trod enc Tryz.prog W 0 (fun _ => true) true fuel 22 [.slice A n c] = some x)
    (hw : ∀ m ∈ x.1.weights Tryz.prog 22, m ≤ 140737488351232) : c * 8 ≤ 140737488351232 := by
  rcases open_ints Tryz.underlying22 Tryz.underlying3 cellsInt h with ⟨hcs, _⟩ | ⟨a, len', cap', zs, hcs, _, hl, hm, hz, hx, hcell, hwz⟩
  · simp at hcs
    obtain ⟨_, _, rfl⟩ := hcs
    omega
  · simp at hcs
    obtain ⟨_, rfl, rfl⟩ := hcs
    simp only [if_true] at hz
    subst hx
    have := hw (((lits (H := H) .i64 (zs.take n)).length + (lits (H := H) .i64 (zs.drop n)).length) * Tryz.prog.bytesOf 3) (by simp [DataW.weights, Tryz.underlying22])
    rw [bytesInt] at this
    simp only [lits, List.length_map, List.length_take, List.length_drop] at this
    omega
theorem sized_sl {H : Type} {enc : TypeId × Value → H} {W : World} {A : Option Addr} {n c : Nat} {d : DataW H} {p : List MemPlace} (h : DataW.Trod enc Tryz.prog W 0 (fun _ => true) true 22 (.slice A n c) d p)
    (hw : ∀ m ∈ d.weights Tryz.prog 22, m ≤ 140737488351232) : c * 8 ≤ 140737488351232 := by
  obtain ⟨fuel, hf⟩ := h
  exact sized_cells hf hw
theorem sized_rule {H : Type} {enc : TypeId × Value → H} {W : World} {base : Nat} {K R : Int} {A : Option Addr} {n c : Nat} {d : DataW H} {p : List MemPlace} (hval : Value.okWide Tryz.prog W .any base 24 (.agg #[.int .i64 K, .int .i64 R, .slice A n c]))
    (h : DataW.Trod enc Tryz.prog W 0 (fun _ => true) true 24 (.agg #[.int .i64 K, .int .i64 R, .slice A n c]) d p)
    (hw : ∀ m ∈ d.weights Tryz.prog 24, m ≤ 140737488351232) : c * 8 ≤ 140737488351232 := by
  obtain ⟨c0, c1, c2, y0, y1, y2, m, hv, rfl, rfl, hy0, hy1, hy2⟩ := open_agg3 Tryz.underlying24 (by kernel_rfl) (by kernel_rfl) hval h
  injection hv with hv
  injection hv with hv
  injection hv with e0 hv
  injection hv with e1 hv
  injection hv with e2 hv
  subst e2
  exact sized_cells hy2 (fun m hm => hw m (by simp [DataW.weights, Tryz.underlying24, DataW.weightsEach]; right; right; exact hm))
end Go.Proofs.YtfgjcdfmlpdkaaaGreatDoor
