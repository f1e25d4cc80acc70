/- What the cards of this seat share: the witness's world, and what the arguments' readings give. No condition. A rule handed as an argument, opened: its three cells. The reach of lists that came in: their capacity, in bytes. No condition. Cards of rows that list errors.errorType (a type's handle): the witness's world, and what the condition gives a walk. No condition. -/
import Derived.Test.YtfgnghgmffaepaaDoorCards
import Derived.Test.YtfgnghgmffaepaaDoorTie
import Derived.Test.YtfgnghgmffaepaaDoorTypes
import Derived.ProofKit
import Derived.OpenShut
import Derived.LaidMore
import Derived.SevenTiedAt
import Derived.Lib.SmallJoins
import Derived.SizedLaws
import Derived.Test.YtfgnghgmffaepaaDoorLaid
import Derived.Test.YtfgnghgmffaepaaDoorRawErr
import Derived.LaidHandle
import Derived.LaidSub
import Derived.Lay
namespace Go.Proofs.YtfgnghgmffaepaaDoor
open Go.ChangeShapes Go.WideShapes Go.ChangeAt Go.RowKit

theorem own : ownKnob Tryd.prog.godebug = none := by kernel_rfl
theorem laidOut : laidOutB Tryd.prog = true := by kernel_rfl
theorem cellsInt : Tryd.prog.cellsOf 3 = 1 := by kernel_rfl

set_option maxRecDepth 100000 in
/-- A slice of numbers that came in, nil or not: its cells, its reading behind a call that writes to nothing that was there. -/
theorem open_sl {H : Type} {enc : TypeId × Value → H} {W : World} {base : Nat} {v : Value} {d : DataW H} {p : List MemPlace} (hval : Value.okWide Tryd.prog W .any base 22 v)
    (h : DataW.Trod enc Tryd.prog W 0 (fun _ => true) true 22 v d p) :
    ∃ (A : Option Addr) (n c : Nat) (xs : List Int), v = .slice A n c ∧ n ≤ c ∧ c ≤ maxLen ∧ Sl W A n (xs.map (Value.int .i64)) ∧ (∀ x ∈ xs, (Lit.int .i64 x).wf = true) := by
  obtain ⟨a0, len, cap, rfl⟩ := okWide_slice Tryd.underlying22 hval
  obtain ⟨fuel, hf⟩ := h
  rcases open_ints Tryd.underlying22 Tryd.underlying3 cellsInt hf with ⟨hcs, _⟩ | ⟨a, len', cap', zs, hcs, _, hl, hm, hz, _, hcell, hwz⟩
  · simp [Value.cells] at hcs
    obtain ⟨rfl, rfl, rfl⟩ := hcs
    exact ⟨none, 0, 0, [], rfl, Nat.le_refl _, Nat.zero_le _, Sl.nil _ _, fun x hx => by simp at hx⟩
  · simp [Value.cells] at hcs
    obtain ⟨rfl, rfl, rfl⟩ := hcs
    simp only [if_true] at hz
    refine ⟨some a, len, cap, zs.take len, rfl, hl, hm, ⟨by simp; omega, fun k u hu => ?_⟩, fun x hx => hwz x (List.mem_of_mem_take hx)⟩
    have hk : k < len := by
      have := (List.getElem?_eq_some_iff.1 hu).1
      simp at this
      omega
    refine ⟨a, rfl, ?_⟩
    rw [hcell k (by omega)]
    rw [List.getElem?_map, List.getElem?_take, if_pos hk] at hu
    rw [List.getD_eq_getElem?_getD]
    cases hz : zs[k]? with
    | none => rw [hz] at hu; cases hu
    | some z => rw [hz] at hu; exact hu

/-- No parameter of these types wants a stand-in. -/
theorem noStandIn (l : List TypeId) (hall : (l.all fun u => !Tryd.prog.wantsStandIn u) = true) {ps : Array TypeId} (hp : ps.toList = l) (j : Nat) (t : TypeId) (ht : ps[j]? = some t) : Tryd.prog.wantsStandIn t = false := by
  have hm : t ∈ l := by rw [← hp]; exact Array.mem_toList_iff.2 (Array.mem_of_getElem? ht)
  simpa using List.all_eq_true.1 hall t hm

/-- Five parameters, opened. -/
theorem trodAll_five {H : Type} {enc : TypeId × Value → H} {P : Program} {w : World} {base : Nat} {spare : TypeId → Bool} {held : Bool} {t0 t1 t2 t3 t4 : TypeId} {args : Array Value} {ds : List (DataW H)} {ps : List MemPlace}
    (h : DataW.TrodAll enc P w base spare held [t0, t1, t2, t3, t4] args.toList ds ps) :
    ∃ v0 v1 v2 v3 v4 d0 d1 d2 d3 d4 p0 p1 p2 p3 p4, args = #[v0, v1, v2, v3, v4] ∧ ds = [d0, d1, d2, d3, d4] ∧ ps = p0 ++ p1 ++ p2 ++ p3 ++ p4 ∧
      DataW.Trod enc P w base spare held t0 v0 d0 p0 ∧ DataW.Trod enc P w base spare held t1 v1 d1 p1 ∧ DataW.Trod enc P w base spare held t2 v2 d2 p2 ∧ DataW.Trod enc P w base spare held t3 v3 d3 p3 ∧ DataW.Trod enc P w base spare held t4 v4 d4 p4 := by
  obtain ⟨v0, vs0, d0, ds0, p0, q0, e0, rfl, rfl, h0, r0⟩ := trodAll_cons h
  obtain ⟨v1, vs1, d1, ds1, p1, q1, rfl, rfl, rfl, h1, r1⟩ := trodAll_cons r0
  obtain ⟨v2, vs2, d2, ds2, p2, q2, rfl, rfl, rfl, h2, r2⟩ := trodAll_cons r1
  obtain ⟨v3, vs3, d3, ds3, p3, q3, rfl, rfl, rfl, h3, r3⟩ := trodAll_cons r2
  obtain ⟨v4, vs4, d4, ds4, p4, q4, rfl, rfl, rfl, h4, r4⟩ := trodAll_cons r3
  obtain ⟨rfl, rfl, rfl⟩ := trodAll_nil r4
  refine ⟨v0, v1, v2, v3, v4, d0, d1, d2, d3, d4, p0, p1, p2, p3, p4, ?_, rfl, by simp, h0, h1, h2, h3, h4⟩
  cases args
  simp only at e0
  subst e0
  rfl
theorem trodAll_mk5 {H : Type} {enc : TypeId × Value → H} {P : Program} {w : World} {base : Nat} {spare : TypeId → Bool} {held : Bool} {t0 t1 t2 t3 t4 : TypeId} {v0 v1 v2 v3 v4 : Value} {d0 d1 d2 d3 d4 : DataW H} {p0 p1 p2 p3 p4 : List MemPlace}
    (h0 : DataW.Trod enc P w base spare held t0 v0 d0 p0) (h1 : DataW.Trod enc P w base spare held t1 v1 d1 p1) (h2 : DataW.Trod enc P w base spare held t2 v2 d2 p2) (h3 : DataW.Trod enc P w base spare held t3 v3 d3 p3) (h4 : DataW.Trod enc P w base spare held t4 v4 d4 p4) :
    DataW.TrodAll enc P w base spare held [t0, t1, t2, t3, t4] [v0, v1, v2, v3, v4] [d0, d1, d2, d3, d4] (p0 ++ (p1 ++ (p2 ++ (p3 ++ p4)))) :=
  trodAll_cons_mk h0 (trodAll_mk4 h1 h2 h3 h4)

end Go.Proofs.YtfgnghgmffaepaaDoor

namespace Go.Proofs.YtfgnghgmffaepaaDoor
open Go.ChangeShapes Go.WideShapes Go.ChangeAt Go.RowKit Go.Joins
set_option linter.all false
set_option maxRecDepth 10000

theorem open_rule {H : Type} {enc : TypeId × Value → H} {W : World} {base : Nat} {v : Value} {d : DataW H} {p : List MemPlace} (hval : Value.okWide Tryd.prog W .any base 24 v)
    (h : DataW.Trod enc Tryd.prog W 0 (fun _ => true) true 24 v d p) :
    ∃ (K R : Int) (A : Option Addr) (n c : Nat) (xs : List Int), v = .agg #[.int .i64 K, .int .i64 R, .slice A n c] ∧ n ≤ c ∧ c ≤ maxLen ∧ Sl W A n (xs.map (Value.int .i64)) ∧ (∀ x ∈ xs, (Lit.int .i64 x).wf = true) := by
  obtain ⟨c0, c1, c2, y0, y1, y2, m, rfl, rfl, rfl, hy0, hy1, hy2⟩ := open_agg3 Tryd.underlying24 (by kernel_rfl) (by kernel_rfl) hval h
  obtain ⟨K, e0, _, _⟩ := DataW.trod_int Tryd.underlying3 hy0
  obtain ⟨R, e1, _, _⟩ := DataW.trod_int Tryd.underlying3 hy1
  simp at e0 e1
  subst e0 e1
  rcases open_ints Tryd.underlying22 Tryd.underlying3 cellsInt hy2 with ⟨hcs, _⟩ | ⟨a, len', cap', zs, hcs, _, hl, hm, hz, _, hcell, hwz⟩
  · simp at hcs
    subst hcs
    exact ⟨K, R, none, 0, 0, [], rfl, Nat.le_refl _, Nat.zero_le _, Sl.nil _ _, fun x hx => by simp at hx⟩
  · simp at hcs
    subst hcs
    simp only [if_true] at hz
    refine ⟨K, R, some a, len', cap', zs.take len', rfl, hl, hm, ⟨by simp; omega, fun k u hu => ?_⟩, fun x hx => hwz x (List.mem_of_mem_take hx)⟩
    have hk : k < len' := by
      have := (List.getElem?_eq_some_iff.1 hu).1
      simp at this
      omega
    refine ⟨a, rfl, ?_⟩
    rw [hcell k (by omega)]
    rw [List.getElem?_map, List.getElem?_take, if_pos hk] at hu
    rw [List.getD_eq_getElem?_getD]
    cases hz : zs[k]? with
    | none => rw [hz] at hu; cases hu
    | some z => rw [hz] at hu; exact hu
end Go.Proofs.YtfgnghgmffaepaaDoor

namespace Go.Proofs.YtfgnghgmffaepaaDoor
open Go.ChangeShapes Go.WideShapes Go.ChangeAt Go.RowKit Go.Joins
set_option linter.all false
set_option maxRecDepth 10000

theorem bytesInt : Tryd.prog.bytesOf 3 = 8 := by kernel_rfl
theorem reach_n {H : Type} {P : Program} {ts : List TypeId} {ds : List (DataW H)} (h : (DataW.weightsEach P ts ds).all (· ≤ reachBytes) = true) {j : Nat} {t : TypeId} {d : DataW H} (ht : ts[j]? = some t) (hd : ds[j]? = some d) : ∀ n ∈ d.weights P t, n ≤ 140737488351232 := fun n hn =>
  of_decide_eq_true (List.all_eq_true.1 h n (DataW.weights_mem_each ht hd n hn))

theorem sized_cells {H : Type} {enc : TypeId × Value → H} {W : World} {fuel : Nat} {A : Option Addr} {n c : Nat} {x : DataW H × List MemPlace} (h : DataW.trod enc Tryd.prog W 0 (fun _ => true) true fuel 22 [.slice A n c] = some x)
    (hw : ∀ m ∈ x.1.weights Tryd.prog 22, m ≤ 140737488351232) : c * 8 ≤ 140737488351232 := by
  rcases open_ints Tryd.underlying22 Tryd.underlying3 cellsInt h with ⟨hcs, _⟩ | ⟨a, len', cap', zs, hcs, _, hl, hm, hz, hx, hcell, hwz⟩
  · simp at hcs
    obtain ⟨_, _, rfl⟩ := hcs
    omega
  · simp at hcs
    obtain ⟨_, rfl, rfl⟩ := hcs
    simp only [if_true] at hz
    subst hx
    have := hw (((lits (H := H) .i64 (zs.take n)).length + (lits (H := H) .i64 (zs.drop n)).length) * Tryd.prog.bytesOf 3) (by simp [DataW.weights, Tryd.underlying22])
    rw [bytesInt] at this
    simp only [lits, List.length_map, List.length_take, List.length_drop] at this
    omega
theorem sized_sl {H : Type} {enc : TypeId × Value → H} {W : World} {A : Option Addr} {n c : Nat} {d : DataW H} {p : List MemPlace} (h : DataW.Trod enc Tryd.prog W 0 (fun _ => true) true 22 (.slice A n c) d p)
    (hw : ∀ m ∈ d.weights Tryd.prog 22, m ≤ 140737488351232) : c * 8 ≤ 140737488351232 := by
  obtain ⟨fuel, hf⟩ := h
  exact sized_cells hf hw
theorem sized_rule {H : Type} {enc : TypeId × Value → H} {W : World} {base : Nat} {K R : Int} {A : Option Addr} {n c : Nat} {d : DataW H} {p : List MemPlace} (hval : Value.okWide Tryd.prog W .any base 24 (.agg #[.int .i64 K, .int .i64 R, .slice A n c]))
    (h : DataW.Trod enc Tryd.prog W 0 (fun _ => true) true 24 (.agg #[.int .i64 K, .int .i64 R, .slice A n c]) d p)
    (hw : ∀ m ∈ d.weights Tryd.prog 24, m ≤ 140737488351232) : c * 8 ≤ 140737488351232 := by
  obtain ⟨c0, c1, c2, y0, y1, y2, m, hv, rfl, rfl, hy0, hy1, hy2⟩ := open_agg3 Tryd.underlying24 (by kernel_rfl) (by kernel_rfl) hval h
  injection hv with hv
  injection hv with hv
  injection hv with e0 hv
  injection hv with e1 hv
  injection hv with e2 hv
  subst e2
  exact sized_cells hy2 (fun m hm => hw m (by simp [DataW.weights, Tryd.underlying24, DataW.weightsEach]; right; right; exact hm))
end Go.Proofs.YtfgnghgmffaepaaDoor

namespace Go.Proofs.YtfgnghgmffaepaaDoor
open Go.ChangeShapes Go.WideShapes Go.ChangeAt Go.RowKit

def handleRow : String × DataW Unit := ("errors.errorType", .iface "internal/reflectlite.rtype" (.agg [.ptr (.lit (.string [101, 114, 114, 111, 114]))]))
noncomputable def handled (os : Os) : World :=
  let w0 := World.holding Tryd.prog os ⟨#[], #[], []⟩
  { w0 with heap := w0.heap.modify 12 fun
      | .cells _ t frozen => .cells #[.iface 123 (.agg #[.pointer (some ⟨17, 27, none⟩)])] t frozen
      | o => o }
def plainOf (laid : List (String × DataW Unit)) : List (String × DataW Unit) := laid.filter fun x => x.2.handleName?.isNone
noncomputable def laidAllH (os : Os) (laid : List (String × DataW Unit)) : World := (handled os).layVars Tryd.prog (plainOf laid)
theorem laidAllH_os (os : Os) (laid : List (String × DataW Unit)) : (laidAllH os laid).os = os := World.layVars_os _ _ _
theorem laidMetH_allH {os : Os} {laid : List (String × DataW Unit)} (args : Array Value)
    (hf : (handled os).layFits Tryd.prog (plainOf laid) [] = true)
    (hi : (handled os).layIfaces Tryd.prog (plainOf laid) (laidAllH os laid) = true)
    (hh : (laid.filter fun x => x.2.handleName?.isSome).all (handleAtB Tryd.prog (laidAllH os laid)) = true) :
    laidMetH Tryd.prog laid ((laidAllH os laid).forCall (fun _ _ => 0) ⟨#[], args, []⟩).memory := by
  have e1 : ((plainOf laid).filter fun x => ((plainOf laid).map (·.1)).contains x.1) = plainOf laid := List.filter_eq_self.2 fun x hx => List.contains_iff_mem.2 (List.mem_map.2 ⟨x, hx, rfl⟩)
  have e2 : ((plainOf laid).filter fun x => !((plainOf laid).map (·.1)).contains x.1) = [] := List.filter_eq_nil_iff.2 fun x hx => by rw [List.contains_iff_mem.2 (List.mem_map.2 ⟨x, hx, rfl⟩)]; simp
  have h : laidMet Tryd.prog (plainOf laid) (laidAllH os laid) := laidMet_layVars (w0 := handled os) ((plainOf laid).map (·.1)) [] (by rw [e1]; rfl) (by rw [e1]; exact hf) (by rw [e1]; exact hi) (by rw [e2]; exact LaidIn.none)
  have h2 : laidMetH Tryd.prog laid (laidAllH os laid) := laidMetH_of_parts h hh
  exact laidMetH.of_heap (by simp [World.memory, World.forCall, Input.heap]) h2

theorem rtypeCut : (Tryd.prog.cutTypes.find? (·.1 == "internal/reflectlite.rtype")).map (·.2) = some 123 := by kernel_rfl
theorem oneErrorRow : ((List.range Tryd.prog.types.size).filter fun t => Tryd.prog.rowNamed t [101, 114, 114, 111, 114]) = [27] := by kernel_rfl
theorem errT_of {W : World} {l : List (String × DataW Unit)} (h : laidMetH Tryd.prog l W) (hl : (l.filter fun x => x.2.handleName?.isSome) = [handleRow]) : ErrT W := by
  have h' := (laidMetH_iff.1 h).2
  rw [hl] at h'
  obtain ⟨name, u, ty, e1, e2, e3, e4, e5⟩ := h' _ (List.mem_singleton.2 rfl)
  have en : name = [101, 114, 114, 111, 114] := (Option.some.inj e1).symm
  subst en
  obtain rfl := Option.some.inj (rtypeCut.symm.trans e2)
  have hm : ty ∈ (List.range Tryd.prog.types.size).filter fun t => Tryd.prog.rowNamed t [101, 114, 114, 111, 114] := List.mem_filter.2 ⟨List.mem_range.2 e3, e4⟩
  rw [oneErrorRow] at hm
  obtain rfl := List.mem_singleton.1 hm
  have hh : typeHandle Tryd.prog 27 = .pointer (some ⟨17, 27, none⟩) := by kernel_rfl
  rw [hh] at e5
  have et : Tryd.prog.globalNamed "errors.errorType" = some 12 := by kernel_rfl
  simpa [ErrT] using World.var?_cell et e5 0
end Go.Proofs.YtfgnghgmffaepaaDoor
