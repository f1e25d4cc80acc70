/- What a number's reading gives: its limbs. No condition. -/
import Derived.Test.YtkghilmdoabodaaDoorCard
import Derived.Test.YtkghilmdoabodaaDoorNatA
namespace Go.Proofs.YtkghilmdoabodaaDoor
open Go.ChangeShapes Go.WideShapes Go.ChangeAt Go.RowKit NatP

theorem cellsWord : Tryd.prog.cellsOf 27 = 1 := by kernel_rfl
set_option maxRecDepth 100000 in
/-- A number that came in, nil or not: its limbs. -/
theorem open_nat {H : Type} {enc : TypeId × Value → H} {W : World} {base : Nat} {v : Value} {d : DataW H} {p : List MemPlace} (hval : Value.okWide Tryd.prog W .any base 25 v)
    (h : DataW.Trod enc Tryd.prog W 0 (fun _ => true) true 25 v d p) :
    ∃ (A : Option Addr) (n c : Nat) (xs : List Nat), v = .slice A n c ∧ n ≤ c ∧ c ≤ maxLen ∧ Sl W A n (xs.map wv) ∧ OkB W32 xs := by
  obtain ⟨a0, len, cap, rfl⟩ := okWide_slice Tryd.underlying25 hval
  obtain ⟨fuel, hf⟩ := h
  rcases open_ints Tryd.underlying25 Tryd.underlying27 cellsWord hf with ⟨hcs, _⟩ | ⟨a, len', cap', zs, hcs, _, hl, hm, hz, _, hcell, hwz⟩
  · simp [Value.cells] at hcs
    obtain ⟨rfl, rfl, rfl⟩ := hcs
    exact ⟨none, 0, 0, [], rfl, Nat.le_refl _, Nat.zero_le _, Sl.nil _ _, fun x hx => by simp at hx⟩
  · simp [Value.cells] at hcs
    obtain ⟨rfl, rfl, rfl⟩ := hcs
    simp only [if_true] at hz
    have hb : ∀ z ∈ zs, 0 ≤ z ∧ z ≤ 4294967295 := fun z hz' => by
      have := hwz z hz'
      simpa [Lit.wf, IntKind.min, IntKind.max, IntKind.bits, IntKind.signed] using this
    refine ⟨some a, len, cap, (zs.take len).map Int.toNat, rfl, hl, hm, ⟨by simp; omega, fun k u hu => ?_⟩, fun x hx => ?_⟩
    · have hk : k < len := by
        have := (List.getElem?_eq_some_iff.1 hu).1
        simp at this
        omega
      refine ⟨a, rfl, ?_⟩
      rw [hcell k (by omega)]
      rw [List.getElem?_map, List.getElem?_map, List.getElem?_take, if_pos hk] at hu
      rw [List.getD_eq_getElem?_getD]
      cases hz : zs[k]? with
      | none => rw [hz] at hu; cases hu
      | some z =>
        rw [hz] at hu
        have := hb z (List.mem_of_getElem? hz)
        have e : ((z.toNat : Nat) : Int) = z := Int.toNat_of_nonneg this.1
        rw [← Option.some.inj hu]
        simp [wv, e]
    · obtain ⟨z, hz', rfl⟩ := List.mem_map.1 hx
      have := hb z (List.mem_of_mem_take hz')
      unfold W32
      omega

end Go.Proofs.YtkghilmdoabodaaDoor
