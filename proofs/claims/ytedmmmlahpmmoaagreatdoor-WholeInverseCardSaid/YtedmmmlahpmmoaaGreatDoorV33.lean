/- What the cards of this seat share: the witness's world, and what the arguments' readings give. No condition. A rule handed as an argument, opened: its three cells. The reach of lists that came in: their capacity, in bytes. No condition. Cards of rows that list errors.errorType (a type's handle): the witness's world, and what the condition gives a walk. No condition. How a row is opened that is handed in: its number and its three lists. No condition. -/
import Derived.Test.YtedmmmlahpmmoaaGreatDoorCards
import Derived.Test.YtedmmmlahpmmoaaGreatDoorTie
import Derived.ProofKit
import Derived.OpenShut
import Derived.LaidMore
import Derived.SevenTiedAt
import Derived.Lib.SmallJoins
import Derived.SizedLaws
import Derived.LaidHandle
import Derived.LaidSub
import Derived.Lay
import Derived.Test.YtedmmmlahpmmoaaGreatDoorV6
import Derived.Test.YtedmmmlahpmmoaaGreatDoorV7
import Derived.Test.YtedmmmlahpmmoaaGreatDoorV25
import Derived.Test.YtedmmmlahpmmoaaGreatDoorV31
namespace Go.Proofs.YtedmmmlahpmmoaaGreatDoor
open Go.ChangeShapes Go.WideShapes Go.ChangeAt Go.RowKit

theorem own : ownKnob Tryz.prog.godebug = none := by kernel_rfl
theorem laidOut : laidOutB Tryz.prog = true := by kernel_rfl
theorem cellsInt : Tryz.prog.cellsOf 3 = 1 := by kernel_rfl

set_option maxRecDepth 100000 in
/-- A slice of numbers that came in, nil or not: its cells, its reading behind a call that writes to nothing that was there. -/
theorem open_sl {H : Type} {enc : TypeId × Value → H} {W : World} {base : Nat} {v : Value} {d : DataW H} {p : List MemPlace} (hval : Value.okWide Tryz.prog W .any base 22 v)
    (h : DataW.Trod enc Tryz.prog W 0 (fun _ => true) true 22 v d p) :
    ∃ (A : Option Addr) (n c : Nat) (xs : List Int), v = .slice A n c ∧ n ≤ c ∧ c ≤ maxLen ∧ Sl W A n (xs.map (Value.int .i64)) ∧ (∀ x ∈ xs, (Lit.int .i64 x).wf = true) := by
  obtain ⟨a0, len, cap, rfl⟩ := okWide_slice Tryz.underlying22 hval
  obtain ⟨fuel, hf⟩ := h
  rcases open_ints Tryz.underlying22 Tryz.underlying3 cellsInt hf with ⟨hcs, _⟩ | ⟨a, len', cap', zs, hcs, _, hl, hm, hz, _, hcell, hwz⟩
  · simp [Value.cells] at hcs
    obtain ⟨rfl, rfl, rfl⟩ := hcs
    exact ⟨none, 0, 0, [], rfl, Nat.le_refl _, Nat.zero_le _, Sl.nil _ _, fun x hx => by simp at hx⟩
  · simp [Value.cells] at hcs
    obtain ⟨rfl, rfl, rfl⟩ := hcs
    simp only [if_true] at hz
    refine ⟨some a, len, cap, zs.take len, rfl, hl, hm, ⟨by simp; omega, fun k u hu => ?_⟩, fun x hx => hwz x (List.mem_of_mem_take hx)⟩
    have hk : k < len := by
      have := (List.getElem?_eq_some_iff.1 hu).1
      simp at this
      omega
    refine ⟨a, rfl, ?_⟩
    rw [hcell k (by omega)]
    rw [List.getElem?_map, List.getElem?_take, if_pos hk] at hu
    rw [List.getD_eq_getElem?_getD]
    cases hz : zs[k]? with
    | none => rw [hz] at hu; cases hu
    | some z => rw [hz] at hu; exact hu

/-- No parameter of these types wants a stand-in. -/
theorem noStandIn (l : List TypeId) (hall : (l.all fun u => !Tryz.prog.wantsStandIn u) = true) {ps : Array TypeId} (hp : ps.toList = l) (j : Nat) (t : TypeId) (ht : ps[j]? = some t) : Tryz.prog.wantsStandIn t = false := by
  have hm : t ∈ l := by rw [← hp]; exact Array.mem_toList_iff.2 (Array.mem_of_getElem? ht)
  simpa using List.all_eq_true.1 hall t hm

end Go.Proofs.YtedmmmlahpmmoaaGreatDoor

namespace Go.Proofs.YtedmmmlahpmmoaaGreatDoor
open Go.ChangeShapes Go.WideShapes Go.ChangeAt Go.RowKit Go.Joins
set_option linter.all false
set_option maxRecDepth 10000

theorem open_rule {H : Type} {enc : TypeId × Value → H} {W : World} {base : Nat} {v : Value} {d : DataW H} {p : List MemPlace} (hval : Value.okWide Tryz.prog W .any base 24 v)
    (h : DataW.Trod enc Tryz.prog W 0 (fun _ => true) true 24 v d p) :
    ∃ (K R : Int) (A : Option Addr) (n c : Nat) (xs : List Int), v = .agg #[.int .i64 K, .int .i64 R, .slice A n c] ∧ n ≤ c ∧ c ≤ maxLen ∧ Sl W A n (xs.map (Value.int .i64)) ∧ (∀ x ∈ xs, (Lit.int .i64 x).wf = true) := by
  obtain ⟨c0, c1, c2, y0, y1, y2, m, rfl, rfl, rfl, hy0, hy1, hy2⟩ := open_agg3 Tryz.underlying24 (by kernel_rfl) (by kernel_rfl) hval h
  obtain ⟨K, e0, _, _⟩ := DataW.trod_int Tryz.underlying3 hy0
  obtain ⟨R, e1, _, _⟩ := DataW.trod_int Tryz.underlying3 hy1
  simp at e0 e1
  subst e0 e1
  rcases open_ints Tryz.underlying22 Tryz.underlying3 cellsInt hy2 with ⟨hcs, _⟩ | ⟨a, len', cap', zs, hcs, _, hl, hm, hz, _, hcell, hwz⟩
  · simp at hcs
    subst hcs
    exact ⟨K, R, none, 0, 0, [], rfl, Nat.le_refl _, Nat.zero_le _, Sl.nil _ _, fun x hx => by simp at hx⟩
  · simp at hcs
    subst hcs
    simp only [if_true] at hz
    refine ⟨K, R, some a, len', cap', zs.take len', rfl, hl, hm, ⟨by simp; omega, fun k u hu => ?_⟩, fun x hx => hwz x (List.mem_of_mem_take hx)⟩
    have hk : k < len' := by
      have := (List.getElem?_eq_some_iff.1 hu).1
      simp at this
      omega
    refine ⟨a, rfl, ?_⟩
    rw [hcell k (by omega)]
    rw [List.getElem?_map, List.getElem?_take, if_pos hk] at hu
    rw [List.getD_eq_getElem?_getD]
    cases hz : zs[k]? with
    | none => rw [hz] at hu; cases hu
    | some z => rw [hz] at hu; exact hu
end Go.Proofs.YtedmmmlahpmmoaaGreatDoor

namespace Go.Proofs.YtedmmmlahpmmoaaGreatDoor
open Go.ChangeShapes Go.WideShapes Go.ChangeAt Go.RowKit Go.Joins
end Go.Proofs.YtedmmmlahpmmoaaGreatDoor

namespace Go.Proofs.YtedmmmlahpmmoaaGreatDoor
open Go.ChangeShapes Go.WideShapes Go.ChangeAt Go.RowKit

end Go.Proofs.YtedmmmlahpmmoaaGreatDoor

namespace Go.Proofs.YtedmmmlahpmmoaaGreatDoor
open Go.ChangeShapes Go.WideShapes Go.ChangeAt Go.RowKit Go.Joins
set_option linter.all false
set_option maxRecDepth 10000

theorem ints_cellW {H : Type} {enc : TypeId × Value → H} {W : World} {fuel : Nat} {v : Value} {y : DataW H × List MemPlace} (h : DataW.trod enc Tryz.prog W 0 (fun _ => true) true fuel 22 [v] = some y) :
    ∃ (A : Option Addr) (n c : Nat) (xs : List Int), v = .slice A n c ∧ n ≤ 9223372036854775807 ∧ Sl W A n (xs.map (Value.int .i64)) := by
  rcases open_ints Tryz.underlying22 Tryz.underlying3 cellsInt h with ⟨hcs, _⟩ | ⟨a, len', cap', zs, hcs, _, hl, hm, hz, _, hcell, hwz⟩
  · simp at hcs
    subst hcs
    exact ⟨none, 0, 0, [], rfl, by decide, Sl.nil _ _⟩
  · simp at hcs
    subst hcs
    simp only [if_true] at hz
    refine ⟨some a, len', cap', zs.take len', rfl, by simp only [maxLen] at hm; omega, ⟨by simp; omega, fun k u hu => ?_⟩⟩
    have hk : k < len' := by
      have := (List.getElem?_eq_some_iff.1 hu).1
      simp at this
      omega
    refine ⟨a, rfl, ?_⟩
    rw [hcell k (by omega)]
    rw [List.getElem?_map, List.getElem?_take, if_pos hk] at hu
    rw [List.getD_eq_getElem?_getD]
    cases hz : zs[k]? with
    | none => rw [hz] at hu; cases hu
    | some z => rw [hz] at hu; exact hu
theorem open_row {H : Type} {enc : TypeId × Value → H} {W : World} {base : Nat} {v : Value} {d : DataW H} {p : List MemPlace} (hval : Value.okWide Tryz.prog W .any base 26 v)
    (h : DataW.Trod enc Tryz.prog W 0 (fun _ => true) true 26 v d p) :
    ∃ X : RowV, v = X.val ∧ RowVs W X ∧ X.nl ≤ 9223372036854775807 ∧ X.nc ≤ 9223372036854775807 ∧ X.nr ≤ 9223372036854775807 := by
  obtain ⟨c0, c1, c2, c3, y0, y1, y2, y3, m, rfl, rfl, rfl, hy0, hy1, hy2, hy3⟩ := open_agg4 Tryz.underlying26 (by kernel_rfl) (by kernel_rfl) hval h
  obtain ⟨K, e0, _, _⟩ := DataW.trod_int Tryz.underlying3 hy0
  simp at e0
  subst e0
  obtain ⟨A1, n1, k1, xs1, rfl, l1, s1⟩ := ints_cellW hy1
  obtain ⟨A2, n2, k2, xs2, rfl, l2, s2⟩ := ints_cellW hy2
  obtain ⟨A3, n3, k3, xs3, rfl, l3, s3⟩ := ints_cellW hy3
  exact ⟨⟨K, A1, n1, k1, A2, n2, k2, A3, n3, k3, xs1, xs2, xs3⟩, rfl, ⟨s1, s2, s3⟩, l1, l2, l3⟩
end Go.Proofs.YtedmmmlahpmmoaaGreatDoor
