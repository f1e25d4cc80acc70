/- What the cards of this seat share: the witness's world, and what the arguments' readings give. No condition. -/
import Derived.Test.YtkghilmdoabodaaDoorCards
import Derived.Test.YtkghilmdoabodaaDoorTie
import Derived.Test.YtkghilmdoabodaaDoorTypes
import Derived.ProofKit
import Derived.OpenShut
import Derived.LaidMore
import Derived.SevenTiedAt
namespace Go.Proofs.YtkghilmdoabodaaDoor
open Go.ChangeShapes Go.WideShapes Go.ChangeAt Go.RowKit

theorem own : ownKnob Tryd.prog.godebug = none := by kernel_rfl
theorem laidOut : laidOutB Tryd.prog = true := by kernel_rfl
theorem cellsInt : Tryd.prog.cellsOf 3 = 1 := by kernel_rfl

set_option maxRecDepth 100000 in
/-- A slice of numbers that came in, nil or not: its cells, its reading behind a call that writes to nothing that was there. -/
theorem open_sl {H : Type} {enc : TypeId × Value → H} {W : World} {base : Nat} {v : Value} {d : DataW H} {p : List MemPlace} (hval : Value.okWide Tryd.prog W .any base 48 v)
    (h : DataW.Trod enc Tryd.prog W 0 (fun _ => true) true 48 v d p) :
    ∃ (A : Option Addr) (n c : Nat) (xs : List Int), v = .slice A n c ∧ n ≤ c ∧ c ≤ maxLen ∧ Sl W A n (xs.map (Value.int .i64)) ∧ (∀ x ∈ xs, (Lit.int .i64 x).wf = true) := by
  obtain ⟨a0, len, cap, rfl⟩ := okWide_slice Tryd.underlying48 hval
  obtain ⟨fuel, hf⟩ := h
  rcases open_ints Tryd.underlying48 Tryd.underlying3 cellsInt hf with ⟨hcs, _⟩ | ⟨a, len', cap', zs, hcs, _, hl, hm, hz, _, hcell, hwz⟩
  · simp [Value.cells] at hcs
    obtain ⟨rfl, rfl, rfl⟩ := hcs
    exact ⟨none, 0, 0, [], rfl, Nat.le_refl _, Nat.zero_le _, Sl.nil _ _, fun x hx => by simp at hx⟩
  · simp [Value.cells] at hcs
    obtain ⟨rfl, rfl, rfl⟩ := hcs
    simp only [if_true] at hz
    refine ⟨some a, len, cap, zs.take len, rfl, hl, hm, ⟨by simp; omega, fun k u hu => ?_⟩, fun x hx => hwz x (List.mem_of_mem_take hx)⟩
    have hk : k < len := by
      have := (List.getElem?_eq_some_iff.1 hu).1
      simp at this
      omega
    refine ⟨a, rfl, ?_⟩
    rw [hcell k (by omega)]
    rw [List.getElem?_map, List.getElem?_take, if_pos hk] at hu
    rw [List.getD_eq_getElem?_getD]
    cases hz : zs[k]? with
    | none => rw [hz] at hu; cases hu
    | some z => rw [hz] at hu; exact hu

/-- No parameter of these types wants a stand-in. -/
theorem noStandIn (l : List TypeId) (hall : (l.all fun u => !Tryd.prog.wantsStandIn u) = true) {ps : Array TypeId} (hp : ps.toList = l) (j : Nat) (t : TypeId) (ht : ps[j]? = some t) : Tryd.prog.wantsStandIn t = false := by
  have hm : t ∈ l := by rw [← hp]; exact Array.mem_toList_iff.2 (Array.mem_of_getElem? ht)
  simpa using List.all_eq_true.1 hall t hm

/-- Five parameters, opened. -/
theorem trodAll_five {H : Type} {enc : TypeId × Value → H} {P : Program} {w : World} {base : Nat} {spare : TypeId → Bool} {held : Bool} {t0 t1 t2 t3 t4 : TypeId} {args : Array Value} {ds : List (DataW H)} {ps : List MemPlace}
    (h : DataW.TrodAll enc P w base spare held [t0, t1, t2, t3, t4] args.toList ds ps) :
    ∃ v0 v1 v2 v3 v4 d0 d1 d2 d3 d4 p0 p1 p2 p3 p4, args = #[v0, v1, v2, v3, v4] ∧ ds = [d0, d1, d2, d3, d4] ∧ ps = p0 ++ p1 ++ p2 ++ p3 ++ p4 ∧
      DataW.Trod enc P w base spare held t0 v0 d0 p0 ∧ DataW.Trod enc P w base spare held t1 v1 d1 p1 ∧ DataW.Trod enc P w base spare held t2 v2 d2 p2 ∧ DataW.Trod enc P w base spare held t3 v3 d3 p3 ∧ DataW.Trod enc P w base spare held t4 v4 d4 p4 := by
  obtain ⟨v0, vs0, d0, ds0, p0, q0, e0, rfl, rfl, h0, r0⟩ := trodAll_cons h
  obtain ⟨v1, vs1, d1, ds1, p1, q1, rfl, rfl, rfl, h1, r1⟩ := trodAll_cons r0
  obtain ⟨v2, vs2, d2, ds2, p2, q2, rfl, rfl, rfl, h2, r2⟩ := trodAll_cons r1
  obtain ⟨v3, vs3, d3, ds3, p3, q3, rfl, rfl, rfl, h3, r3⟩ := trodAll_cons r2
  obtain ⟨v4, vs4, d4, ds4, p4, q4, rfl, rfl, rfl, h4, r4⟩ := trodAll_cons r3
  obtain ⟨rfl, rfl, rfl⟩ := trodAll_nil r4
  refine ⟨v0, v1, v2, v3, v4, d0, d1, d2, d3, d4, p0, p1, p2, p3, p4, ?_, rfl, by simp, h0, h1, h2, h3, h4⟩
  cases args
  simp only at e0
  subst e0
  rfl
theorem trodAll_mk5 {H : Type} {enc : TypeId × Value → H} {P : Program} {w : World} {base : Nat} {spare : TypeId → Bool} {held : Bool} {t0 t1 t2 t3 t4 : TypeId} {v0 v1 v2 v3 v4 : Value} {d0 d1 d2 d3 d4 : DataW H} {p0 p1 p2 p3 p4 : List MemPlace}
    (h0 : DataW.Trod enc P w base spare held t0 v0 d0 p0) (h1 : DataW.Trod enc P w base spare held t1 v1 d1 p1) (h2 : DataW.Trod enc P w base spare held t2 v2 d2 p2) (h3 : DataW.Trod enc P w base spare held t3 v3 d3 p3) (h4 : DataW.Trod enc P w base spare held t4 v4 d4 p4) :
    DataW.TrodAll enc P w base spare held [t0, t1, t2, t3, t4] [v0, v1, v2, v3, v4] [d0, d1, d2, d3, d4] (p0 ++ (p1 ++ (p2 ++ (p3 ++ p4)))) :=
  trodAll_cons_mk h0 (trodAll_mk4 h1 h2 h3 h4)

end Go.Proofs.YtkghilmdoabodaaDoor
