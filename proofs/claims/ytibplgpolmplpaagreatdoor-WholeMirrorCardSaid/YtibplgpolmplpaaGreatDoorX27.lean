/- What the cards of this seat share: the witness's world, and what the arguments' readings give. No condition. A rule handed as an argument, opened: its three cells. The reach of lists that came in: their capacity, in bytes. No condition. Cards of rows that list errors.errorType (a type's handle): the witness's world, and what the condition gives a walk. No condition. count.Words, Rings, Fixed of any input, in the form that the theorems of the whole want. Condition: the lists read from memory; the error variables hold what E says. The preimages that permut tells: what is computed, as plain lists; unlike beginnings have unlike ones. No program. No condition. permut: wrong, unlike, Sides, fits. Condition: the lists read from memory; the error variables hold what E says. -/
import Derived.Test.YtibplgpolmplpaaGreatDoorCards
import Derived.Test.YtibplgpolmplpaaGreatDoorTie
import Derived.ProofKit
import Derived.OpenShut
import Derived.LaidMore
import Derived.SevenTiedAt
import Derived.Lib.SmallJoins
import Derived.SizedLaws
import Derived.LaidHandle
import Derived.LaidSub
import Derived.Lay
import Derived.Laws.BitsAllLaws
import Derived.Test.YtibplgpolmplpaaGreatDoorX1
import Derived.Test.YtibplgpolmplpaaGreatDoorX2
import Derived.Test.YtibplgpolmplpaaGreatDoorX20
import Derived.Test.YtibplgpolmplpaaGreatDoorX23
import Derived.Test.YtibplgpolmplpaaGreatDoorX25
import Derived.Test.YtibplgpolmplpaaGreatDoorX26
namespace Go.Proofs.YtibplgpolmplpaaGreatDoor
open Go.ChangeShapes Go.WideShapes Go.ChangeAt Go.RowKit

theorem own : ownKnob Tryz.prog.godebug = none := by kernel_rfl
theorem laidOut : laidOutB Tryz.prog = true := by kernel_rfl
theorem cellsInt : Tryz.prog.cellsOf 3 = 1 := by kernel_rfl

set_option maxRecDepth 100000 in
/-- A slice of numbers that came in, nil or not: its cells, its reading behind a call that writes to nothing that was there. -/
theorem open_sl {H : Type} {enc : TypeId × Value → H} {W : World} {base : Nat} {v : Value} {d : DataW H} {p : List MemPlace} (hval : Value.okWide Tryz.prog W .any base 22 v)
    (h : DataW.Trod enc Tryz.prog W 0 (fun _ => true) true 22 v d p) :
    ∃ (A : Option Addr) (n c : Nat) (xs : List Int), v = .slice A n c ∧ n ≤ c ∧ c ≤ maxLen ∧ Sl W A n (xs.map (Value.int .i64)) ∧ (∀ x ∈ xs, (Lit.int .i64 x).wf = true) := by
  obtain ⟨a0, len, cap, rfl⟩ := okWide_slice Tryz.underlying22 hval
  obtain ⟨fuel, hf⟩ := h
  rcases open_ints Tryz.underlying22 Tryz.underlying3 cellsInt hf with ⟨hcs, _⟩ | ⟨a, len', cap', zs, hcs, _, hl, hm, hz, _, hcell, hwz⟩
  · simp [Value.cells] at hcs
    obtain ⟨rfl, rfl, rfl⟩ := hcs
    exact ⟨none, 0, 0, [], rfl, Nat.le_refl _, Nat.zero_le _, Sl.nil _ _, fun x hx => by simp at hx⟩
  · simp [Value.cells] at hcs
    obtain ⟨rfl, rfl, rfl⟩ := hcs
    simp only [if_true] at hz
    refine ⟨some a, len, cap, zs.take len, rfl, hl, hm, ⟨by simp; omega, fun k u hu => ?_⟩, fun x hx => hwz x (List.mem_of_mem_take hx)⟩
    have hk : k < len := by
      have := (List.getElem?_eq_some_iff.1 hu).1
      simp at this
      omega
    refine ⟨a, rfl, ?_⟩
    rw [hcell k (by omega)]
    rw [List.getElem?_map, List.getElem?_take, if_pos hk] at hu
    rw [List.getD_eq_getElem?_getD]
    cases hz : zs[k]? with
    | none => rw [hz] at hu; cases hu
    | some z => rw [hz] at hu; exact hu

/-- No parameter of these types wants a stand-in. -/
theorem noStandIn (l : List TypeId) (hall : (l.all fun u => !Tryz.prog.wantsStandIn u) = true) {ps : Array TypeId} (hp : ps.toList = l) (j : Nat) (t : TypeId) (ht : ps[j]? = some t) : Tryz.prog.wantsStandIn t = false := by
  have hm : t ∈ l := by rw [← hp]; exact Array.mem_toList_iff.2 (Array.mem_of_getElem? ht)
  simpa using List.all_eq_true.1 hall t hm

end Go.Proofs.YtibplgpolmplpaaGreatDoor

namespace Go.Proofs.YtibplgpolmplpaaGreatDoor
open Go.ChangeShapes Go.WideShapes Go.ChangeAt Go.RowKit Go.Joins
set_option linter.all false
set_option maxRecDepth 10000

theorem open_rule {H : Type} {enc : TypeId × Value → H} {W : World} {base : Nat} {v : Value} {d : DataW H} {p : List MemPlace} (hval : Value.okWide Tryz.prog W .any base 24 v)
    (h : DataW.Trod enc Tryz.prog W 0 (fun _ => true) true 24 v d p) :
    ∃ (K R : Int) (A : Option Addr) (n c : Nat) (xs : List Int), v = .agg #[.int .i64 K, .int .i64 R, .slice A n c] ∧ n ≤ c ∧ c ≤ maxLen ∧ Sl W A n (xs.map (Value.int .i64)) ∧ (∀ x ∈ xs, (Lit.int .i64 x).wf = true) := by
  obtain ⟨c0, c1, c2, y0, y1, y2, m, rfl, rfl, rfl, hy0, hy1, hy2⟩ := open_agg3 Tryz.underlying24 (by kernel_rfl) (by kernel_rfl) hval h
  obtain ⟨K, e0, _, _⟩ := DataW.trod_int Tryz.underlying3 hy0
  obtain ⟨R, e1, _, _⟩ := DataW.trod_int Tryz.underlying3 hy1
  simp at e0 e1
  subst e0 e1
  rcases open_ints Tryz.underlying22 Tryz.underlying3 cellsInt hy2 with ⟨hcs, _⟩ | ⟨a, len', cap', zs, hcs, _, hl, hm, hz, _, hcell, hwz⟩
  · simp at hcs
    subst hcs
    exact ⟨K, R, none, 0, 0, [], rfl, Nat.le_refl _, Nat.zero_le _, Sl.nil _ _, fun x hx => by simp at hx⟩
  · simp at hcs
    subst hcs
    simp only [if_true] at hz
    refine ⟨K, R, some a, len', cap', zs.take len', rfl, hl, hm, ⟨by simp; omega, fun k u hu => ?_⟩, fun x hx => hwz x (List.mem_of_mem_take hx)⟩
    have hk : k < len' := by
      have := (List.getElem?_eq_some_iff.1 hu).1
      simp at this
      omega
    refine ⟨a, rfl, ?_⟩
    rw [hcell k (by omega)]
    rw [List.getElem?_map, List.getElem?_take, if_pos hk] at hu
    rw [List.getD_eq_getElem?_getD]
    cases hz : zs[k]? with
    | none => rw [hz] at hu; cases hu
    | some z => rw [hz] at hu; exact hu
end Go.Proofs.YtibplgpolmplpaaGreatDoor

namespace Go.Proofs.YtibplgpolmplpaaGreatDoor
open Go.ChangeShapes Go.WideShapes Go.ChangeAt Go.RowKit Go.Joins
set_option linter.all false
set_option maxRecDepth 10000

theorem bytesInt : Tryz.prog.bytesOf 3 = 8 := by kernel_rfl
theorem reach_n {H : Type} {P : Program} {ts : List TypeId} {ds : List (DataW H)} (h : (DataW.weightsEach P ts ds).all (· ≤ reachBytes) = true) {j : Nat} {t : TypeId} {d : DataW H} (ht : ts[j]? = some t) (hd : ds[j]? = some d) : ∀ n ∈ d.weights P t, n ≤ 140737488351232 := fun n hn =>
  of_decide_eq_true (List.all_eq_true.1 h n (DataW.weights_mem_each ht hd n hn))

theorem sized_cells {H : Type} {enc : TypeId × Value → H} {W : World} {fuel : Nat} {A : Option Addr} {n c : Nat} {x : DataW H × List MemPlace} (h : DataW.trod enc Tryz.prog W 0 (fun _ => true) true fuel 22 [.slice A n c] = some x)
    (hw : ∀ m ∈ x.1.weights Tryz.prog 22, m ≤ 140737488351232) : c * 8 ≤ 140737488351232 := by
  rcases open_ints Tryz.underlying22 Tryz.underlying3 cellsInt h with ⟨hcs, _⟩ | ⟨a, len', cap', zs, hcs, _, hl, hm, hz, hx, hcell, hwz⟩
  · simp at hcs
    obtain ⟨_, _, rfl⟩ := hcs
    omega
  · simp at hcs
    obtain ⟨_, rfl, rfl⟩ := hcs
    simp only [if_true] at hz
    subst hx
    have := hw (((lits (H := H) .i64 (zs.take n)).length + (lits (H := H) .i64 (zs.drop n)).length) * Tryz.prog.bytesOf 3) (by simp [DataW.weights, Tryz.underlying22])
    rw [bytesInt] at this
    simp only [lits, List.length_map, List.length_take, List.length_drop] at this
    omega
theorem sized_sl {H : Type} {enc : TypeId × Value → H} {W : World} {A : Option Addr} {n c : Nat} {d : DataW H} {p : List MemPlace} (h : DataW.Trod enc Tryz.prog W 0 (fun _ => true) true 22 (.slice A n c) d p)
    (hw : ∀ m ∈ d.weights Tryz.prog 22, m ≤ 140737488351232) : c * 8 ≤ 140737488351232 := by
  obtain ⟨fuel, hf⟩ := h
  exact sized_cells hf hw
theorem sized_rule {H : Type} {enc : TypeId × Value → H} {W : World} {base : Nat} {K R : Int} {A : Option Addr} {n c : Nat} {d : DataW H} {p : List MemPlace} (hval : Value.okWide Tryz.prog W .any base 24 (.agg #[.int .i64 K, .int .i64 R, .slice A n c]))
    (h : DataW.Trod enc Tryz.prog W 0 (fun _ => true) true 24 (.agg #[.int .i64 K, .int .i64 R, .slice A n c]) d p)
    (hw : ∀ m ∈ d.weights Tryz.prog 24, m ≤ 140737488351232) : c * 8 ≤ 140737488351232 := by
  obtain ⟨c0, c1, c2, y0, y1, y2, m, hv, rfl, rfl, hy0, hy1, hy2⟩ := open_agg3 Tryz.underlying24 (by kernel_rfl) (by kernel_rfl) hval h
  injection hv with hv
  injection hv with hv
  injection hv with e0 hv
  injection hv with e1 hv
  injection hv with e2 hv
  subst e2
  exact sized_cells hy2 (fun m hm => hw m (by simp [DataW.weights, Tryz.underlying24, DataW.weightsEach]; right; right; exact hm))
end Go.Proofs.YtibplgpolmplpaaGreatDoor

namespace Go.Proofs.YtibplgpolmplpaaGreatDoor
open Go.ChangeShapes Go.WideShapes Go.ChangeAt Go.RowKit

def handleRow : String × DataW Unit := ("errors.errorType", .iface "internal/reflectlite.rtype" (.agg [.ptr (.lit (.string [101, 114, 114, 111, 114]))]))
noncomputable def handled (os : Os) : World :=
  let w0 := World.holding Tryz.prog os ⟨#[], #[], []⟩
  { w0 with heap := w0.heap.modify 1 fun
      | .cells _ t frozen => .cells #[.iface 138 (.agg #[.pointer (some ⟨13, 27, none⟩)])] t frozen
      | o => o }
def plainOf (laid : List (String × DataW Unit)) : List (String × DataW Unit) := laid.filter fun x => x.2.handleName?.isNone
noncomputable def laidAllH (os : Os) (laid : List (String × DataW Unit)) : World := (handled os).layVars Tryz.prog (plainOf laid)
theorem laidAllH_os (os : Os) (laid : List (String × DataW Unit)) : (laidAllH os laid).os = os := World.layVars_os _ _ _
theorem laidMetH_allH {os : Os} {laid : List (String × DataW Unit)} (args : Array Value)
    (hf : (handled os).layFits Tryz.prog (plainOf laid) [] = true)
    (hi : (handled os).layIfaces Tryz.prog (plainOf laid) (laidAllH os laid) = true)
    (hh : (laid.filter fun x => x.2.handleName?.isSome).all (handleAtB Tryz.prog (laidAllH os laid)) = true) :
    laidMetH Tryz.prog laid ((laidAllH os laid).forCall (fun _ _ => 0) ⟨#[], args, []⟩).memory := by
  have e1 : ((plainOf laid).filter fun x => ((plainOf laid).map (·.1)).contains x.1) = plainOf laid := List.filter_eq_self.2 fun x hx => List.contains_iff_mem.2 (List.mem_map.2 ⟨x, hx, rfl⟩)
  have e2 : ((plainOf laid).filter fun x => !((plainOf laid).map (·.1)).contains x.1) = [] := List.filter_eq_nil_iff.2 fun x hx => by rw [List.contains_iff_mem.2 (List.mem_map.2 ⟨x, hx, rfl⟩)]; simp
  have h : laidMet Tryz.prog (plainOf laid) (laidAllH os laid) := laidMet_layVars (w0 := handled os) ((plainOf laid).map (·.1)) [] (by rw [e1]; rfl) (by rw [e1]; exact hf) (by rw [e1]; exact hi) (by rw [e2]; exact LaidIn.none)
  have h2 : laidMetH Tryz.prog laid (laidAllH os laid) := laidMetH_of_parts h hh
  exact laidMetH.of_heap (by simp [World.memory, World.forCall, Input.heap]) h2

theorem rtypeCut : (Tryz.prog.cutTypes.find? (·.1 == "internal/reflectlite.rtype")).map (·.2) = some 138 := by kernel_rfl
theorem oneErrorRow : ((List.range Tryz.prog.types.size).filter fun t => Tryz.prog.rowNamed t [101, 114, 114, 111, 114]) = [27] := by kernel_rfl
theorem errT_of {W : World} {l : List (String × DataW Unit)} (h : laidMetH Tryz.prog l W) (hl : (l.filter fun x => x.2.handleName?.isSome) = [handleRow]) : ErrT W := by
  have h' := (laidMetH_iff.1 h).2
  rw [hl] at h'
  obtain ⟨name, u, ty, e1, e2, e3, e4, e5⟩ := h' _ (List.mem_singleton.2 rfl)
  have en : name = [101, 114, 114, 111, 114] := (Option.some.inj e1).symm
  subst en
  obtain rfl := Option.some.inj (rtypeCut.symm.trans e2)
  have hm : ty ∈ (List.range Tryz.prog.types.size).filter fun t => Tryz.prog.rowNamed t [101, 114, 114, 111, 114] := List.mem_filter.2 ⟨List.mem_range.2 e3, e4⟩
  rw [oneErrorRow] at hm
  obtain rfl := List.mem_singleton.1 hm
  have hh : typeHandle Tryz.prog 27 = .pointer (some ⟨13, 27, none⟩) := by kernel_rfl
  rw [hh] at e5
  have et : Tryz.prog.globalNamed "errors.errorType" = some 1 := by kernel_rfl
  simpa [ErrT] using World.var?_cell et e5 0
end Go.Proofs.YtibplgpolmplpaaGreatDoor

namespace Go.Proofs.YtibplgpolmplpaaGreatDoor
open Go.RowKit RuleP NatP

/-- A number in memory. -/
def NumAt (w : World) (C : Option Addr) (l z : Nat) : Prop := l = (limbs z).length ∧ l ≤ maxLen ∧ Sl w C l ((limbs z).map wv)
theorem NumAt.below {w w' : World} {C : Option Addr} {l z : Nat} (h : NumAt w C l z) (hb : Below w.heap.size w w') : NumAt w' C l z := ⟨h.1, h.2.1, h.2.2.below hb⟩
/-- A slice and a value behind it: an error, or none and what P says of the slice. -/
def AnyNum (w : World) (P : World → Option Addr → Nat → Prop) (e : Ending) (w' : World) : Prop :=
  ∃ (C : Option Addr) (l c : Nat) (v : Value), e = .returned (.tuple #[.slice C l c, v]) ∧ Below w.heap.size w w' ∧ ((∃ u p, v = .iface u p) ∨ (v = .nilIface ∧ P w' C l))
/-- A slice, and no error. -/
def GoodNum (w : World) (z : Nat) (e : Ending) (w' : World) : Prop :=
  ∃ (C : Option Addr) (l c : Nat), e = .returned (.tuple #[.slice C l c, .nilIface]) ∧ Below w.heap.size w w' ∧ NumAt w' C l z
theorem CNum.any {w w' : World} {E : Nat → Addr} {z : Nat} {t : Option Tale} {e : Ending} {P : World → Option Addr → Nat → Prop} (h : CNum w E z t e w') (hP : ∀ C l, t = none → NumAt w' C l z → P w' C l) : AnyNum w P e w' := by
  obtain ⟨C, cc, v, rfl, ho, hv, hb⟩ := h
  refine ⟨C, _, cc, v, rfl, hb, ?_⟩
  cases t with
  | some tl => exact .inl (ErrIs.iface (show ErrIs w' E tl.1 tl.2 v from hv))
  | none =>
    have hle := own_le ho
    exact .inr ⟨hv, hP C _ rfl ⟨rfl, Nat.le_trans hle.1 hle.2, Sl.of_own ho⟩⟩
theorem CNum.good {w w' : World} {E : Nat → Addr} {z : Nat} {e : Ending} (h : CNum w E z none e w') : GoodNum w z e w' := by
  obtain ⟨C, cc, v, rfl, ho, hv, hb⟩ := h
  obtain rfl : v = .nilIface := hv
  have hle := own_le ho
  exact ⟨C, _, cc, rfl, hb, rfl, Nat.le_trans hle.1 hle.2, Sl.of_own ho⟩

/-- count.Words of anything. -/
theorem cWordsU_c (w : World) (E : Nat → Addr) (hE : Errs w E) (K R : Int) (A : Option Addr) (n c : Nat) (T : List Int) (hT : Sl w A n (T.map (Value.int .i64))) (hm : n ≤ 9223372036854775807) (B : Option Addr) (m d : Nat) (X : List Int) (hX : Sl w B m (X.map (Value.int .i64))) (hm2 : m ≤ 9223372036854775807) :
    Calls Tryz.prog 13 #[ruleV K R A n c, .slice B m d] w (AnyNum w fun w' C l => ∃ (k r : Nat) (t x : List Nat), K = (k : Int) ∧ R = (r : Int) ∧ T = ints t ∧ X = ints x ∧ IsRule k r t ∧ t.length ≤ 256 ∧ (∀ s ∈ x, s < k) ∧ x.length ≤ 256 ∧ NumAt w' C l (preL k r t x).length) := by
  refine (cWords_c w E hE K R A n c T hT hm B m d X hX hm2).mono fun e w' h => h.any fun C l hn hat => ?_
  unfold wordsV at hn hat
  cases hs : smallC K R T with
  | some tl => rw [hs] at hn; cases hn
  | none =>
    obtain ⟨k, r, t, rfl, rfl, rfl, hr, hl⟩ := smallC_none hs
    rw [hs] at hn hat
    simp only at hn hat
    cases hy : symT (k : Int) X 256 with
    | some tl => rw [hy] at hn; cases hn
    | none =>
      obtain ⟨x, rfl, hxl, hxs⟩ := symT_none hy
      rw [hy] at hat
      simp only [natL_ints, Int.toNat_natCast] at hat
      exact ⟨k, r, t, x, rfl, rfl, rfl, rfl, hr, hl, hxs, hxl, hat⟩
/-- count.Rings of anything. -/
theorem cRingsU_c (w : World) (E : Nat → Addr) (hE : Errs w E) (K R : Int) (A : Option Addr) (n c : Nat) (T : List Int) (hT : Sl w A n (T.map (Value.int .i64))) (hm : n ≤ 9223372036854775807) (B : Option Addr) (m d : Nat) (X : List Int) (hX : Sl w B m (X.map (Value.int .i64))) (hm2 : m ≤ 9223372036854775807) :
    Calls Tryz.prog 18 #[ruleV K R A n c, .slice B m d] w (AnyNum w fun w' C l => X.length ≠ 0 ∧ NumAt w' C l (ringL K.toNat R.toNat X.length (fitP (natL T) (natL X))).length) := by
  refine (cRings_c w E hE K R A n c T hT hm B m d X hX hm2).mono fun e w' h => h.any fun C l hn hat => ?_
  unfold ringsV at hn hat
  cases hs : smallC K R T with
  | some tl => rw [hs] at hn; cases hn
  | none =>
    rw [hs] at hn hat
    simp only at hn hat
    by_cases h0 : X.length = 0
    · rw [if_pos h0] at hn; cases hn
    · rw [if_neg h0] at hn hat
      cases hy : symT K X 64 with
      | some tl => rw [hy] at hn; cases hn
      | none => rw [hy] at hat; exact ⟨h0, hat⟩
/-- count.Fixed of anything. -/
theorem cFixedU_c (w : World) (E : Nat → Addr) (hE : Errs w E) (K R : Int) (A : Option Addr) (n c : Nat) (T : List Int) (hT : Sl w A n (T.map (Value.int .i64))) (hm : n ≤ 9223372036854775807) (M : Int) :
    Calls Tryz.prog 21 #[ruleV K R A n c, .int .i64 M] w (AnyNum w fun w' C l => NumAt w' C l (ringL K.toNat R.toNat M.toNat (fixP K.toNat R.toNat (natL T))).length) := by
  refine (cFixed_c w E hE K R A n c T hT hm M).mono fun e w' h => h.any fun C l hn hat => ?_
  unfold fixedV at hn hat
  cases hs : smallC K R T with
  | some tl => rw [hs] at hn; cases hn
  | none =>
    rw [hs] at hn hat
    simp only at hn hat
    by_cases h0 : M < 1
    · rw [if_pos h0] at hn; cases hn
    · rw [if_neg h0] at hn hat
      by_cases h1 : 64 < M
      · rw [if_pos h1] at hn; cases hn
      · rw [if_neg h1] at hat; exact hat
/-- Of good rules and words. -/
theorem cWordsY_c (w : World) (E : Nat → Addr) (hE : Errs w E) (k r n c m d : Nat) (A B : Option Addr) (t x : List Nat) (hT : Sl w A n ((ints t).map (Value.int .i64))) (hr : IsRule k r t) (h256 : t.length ≤ 256) (hX : Sl w B m ((ints x).map (Value.int .i64))) (hx : ∀ s ∈ x, s < k) (hxl : x.length ≤ 256) :
    Calls Tryz.prog 13 #[ruleV (k : Int) (r : Int) A n c, .slice B m d] w (GoodNum w (preL k r t x).length) := by
  have h1 : n ≤ 256 := by have := hT.1; rw [List.length_map, ints_len] at this; omega
  have h2 : m ≤ 256 := by have := hX.1; rw [List.length_map, ints_len] at this; omega
  have h := cWords_c w E hE (k : Int) (r : Int) A n c (ints t) hT (by omega) B m d (ints x) hX (by omega)
  rw [wordsV_good hr h256 hx hxl] at h
  exact h.mono fun _ _ h => h.good
theorem cRingsY_c (w : World) (E : Nat → Addr) (hE : Errs w E) (k r n c m d : Nat) (A B : Option Addr) (t x : List Nat) (hT : Sl w A n ((ints t).map (Value.int .i64))) (hr : IsRule k r t) (h256 : t.length ≤ 256) (hX : Sl w B m ((ints x).map (Value.int .i64))) (hx : ∀ s ∈ x, s < k) (h0 : 0 < x.length) (hxl : x.length ≤ 64) :
    Calls Tryz.prog 18 #[ruleV (k : Int) (r : Int) A n c, .slice B m d] w (GoodNum w (ringL k r x.length (fitP t x)).length) := by
  have h1 : n ≤ 256 := by have := hT.1; rw [List.length_map, ints_len] at this; omega
  have h2 : m ≤ 256 := by have := hX.1; rw [List.length_map, ints_len] at this; omega
  have h := cRings_c w E hE (k : Int) (r : Int) A n c (ints t) hT (by omega) B m d (ints x) hX (by omega)
  rw [ringsV_good hr h256 hx h0 hxl] at h
  exact h.mono fun _ _ h => h.good
theorem cFixedY_c (w : World) (E : Nat → Addr) (hE : Errs w E) (k r n c : Nat) (A : Option Addr) (t : List Nat) (hT : Sl w A n ((ints t).map (Value.int .i64))) (hr : IsRule k r t) (h256 : t.length ≤ 256) (q : Nat) (h0 : 0 < q) (hq : q ≤ 64) :
    Calls Tryz.prog 21 #[ruleV (k : Int) (r : Int) A n c, .int .i64 (q : Int)] w (GoodNum w (ringL k r q (fixP k r t)).length) := by
  have h1 : n ≤ 256 := by have := hT.1; rw [List.length_map, ints_len] at this; omega
  have h := cFixed_c w E hE (k : Int) (r : Int) A n c (ints t) hT (by omega) (q : Int)
  rw [fixedV_good hr h256 h0 hq] at h
  exact h.mono fun _ _ h => h.good
/-- Two numbers held against each other. -/
theorem natsY_c {w : World} {C D : Option Addr} {l m c d y z : Nat} (h1 : NumAt w C l y) (h2 : NumAt w D m z) (hyz : y = z) :
    Calls Tryz.prog 14 #[.slice C l c, .slice D m d] w fun e w' => e = .returned (.bool true) ∧ Below w.heap.size w w' := by
  subst hyz
  have h := nats_b w C D l m c d _ _ h1.2.2 h2.2.2 h1.2.1
  rw [decide_eq_true rfl] at h
  exact h
end Go.Proofs.YtibplgpolmplpaaGreatDoor

namespace Go.Proofs.YtibplgpolmplpaaGreatDoor
namespace RuleP

/-- The symbols of windows that differ at one place alone, as bits: n of them. -/
def seenB (k : Nat) (t : List Nat) (i wt : Nat) : Nat → Nat
  | 0 => 0
  | s + 1 => seenB k t i wt s ||| (1 <<< t.getD (i + s * wt) 0)
theorem seenB_bit (k : Nat) (t : List Nat) (i wt c : Nat) : ∀ n, (seenB k t i wt n).testBit c = true ↔ ∃ s, s < n ∧ t.getD (i + s * wt) 0 = c
  | 0 => by simp [seenB]
  | n + 1 => by
    have ih := seenB_bit k t i wt c n
    unfold seenB
    rw [Nat.testBit_or, Bool.or_eq_true, ih, Nat.shiftLeft_eq, Nat.one_mul, Nat.testBit_two_pow, decide_eq_true_iff]
    constructor
    · rintro (⟨s, hs, h⟩ | h)
      · exact ⟨s, by omega, h⟩
      · exact ⟨n, by omega, h⟩
    · rintro ⟨s, hs, h⟩
      by_cases hsn : s = n
      · subst hsn; exact .inr h
      · exact .inl ⟨s, by omega, h⟩
theorem or16 : ∀ a, a < 16 → ∀ x, x < 4 → a ||| (1 <<< x) < 16 := by decide
theorem seenB_lt {k : Nat} {t : List Nat} (hk : k ≤ 4) (ht : ∀ x ∈ t, x < k) (hk1 : 1 ≤ k) (i wt : Nat) : ∀ n, seenB k t i wt n < 16
  | 0 => by simp [seenB]
  | n + 1 => by
    have ih := seenB_lt hk ht hk1 i wt n
    unfold seenB
    refine or16 _ ih _ ?_
    rcases Nat.lt_or_ge (i + n * wt) t.length with h | h
    · rw [List.getD_eq_getElem?_getD, List.getElem?_eq_getElem h]
      have := ht _ (List.getElem_mem h)
      simp only [Option.getD_some]
      omega
    · rw [List.getD_eq_getElem?_getD, List.getElem?_eq_none h]
      simp
/-- permut.unlike. -/
def permU (k : Nat) (t : List Nat) (wt : Nat) : Bool := (List.range t.length).all fun i => i / wt % k != 0 || seenB k t i wt k == 2 ^ k - 1
theorem permU_permB {k : Nat} {t : List Nat} {wt : Nat} (h : permU k t wt = true) : permB k t wt = true := by
  unfold permU at h
  unfold permB
  rw [List.all_eq_true] at h ⊢
  intro i hi
  have h1 := h i hi
  rw [Bool.or_eq_true] at h1 ⊢
  refine h1.imp id fun h2 => ?_
  rw [List.all_eq_true]
  intro c hc
  have hcb : (seenB k t i wt k).testBit c = true := by
    rw [show seenB k t i wt k = 2 ^ k - 1 from by simpa using h2, Nat.testBit_two_pow_sub_one]
    exact decide_eq_true (List.mem_range.1 hc)
  obtain ⟨s, hs, e⟩ := (seenB_bit k t i wt c k).1 hcb
  rw [List.any_eq_true]
  exact ⟨s, List.mem_range.2 hs, by simpa using e⟩
theorem permU_all {k : Nat} {t : List Nat} {wt n : Nat} (hn : t.length = n) (h : ∀ i, i < n → i / wt % k ≠ 0 ∨ seenB k t i wt k = 2 ^ k - 1) : permU k t wt = true := by
  unfold permU
  rw [List.all_eq_true]
  intro i hi
  rw [Bool.or_eq_true]
  rcases h i (by rw [← hn]; exact List.mem_range.1 hi) with h1 | h1
  · exact .inl (by simpa using h1)
  · exact .inr (by simpa using h1)
theorem permU_not {k : Nat} {t : List Nat} {wt i : Nat} (hi : i < t.length) (h1 : i / wt % k = 0) (h2 : seenB k t i wt k ≠ 2 ^ k - 1) : permU k t wt = false := by
  unfold permU
  rw [List.all_eq_false]
  refine ⟨i, List.mem_range.2 hi, ?_⟩
  simp [h1, h2]
/-- permut.fits: the first symbol of n that makes a window right. -/
def fitsU (t : List Nat) (rest wt x : Nat) : Nat → Option Nat
  | 0 => none
  | s + 1 => match fitsU t rest wt x s with
    | some q => some q
    | none => if t.getD (rest + s * wt) 0 = x then some s else none
theorem fitsU_lt {t : List Nat} {rest wt x : Nat} : ∀ {n q : Nat}, fitsU t rest wt x n = some q → q < n
  | 0, _, h => by cases h
  | n + 1, q, h => by
    unfold fitsU at h
    cases hf : fitsU t rest wt x n with
    | some p => rw [hf] at h; cases h; exact Nat.lt_succ_of_lt (fitsU_lt hf)
    | none =>
      rw [hf] at h
      simp only at h
      split at h
      · cases h; exact Nat.lt_succ_self _
      · cases h
/-- The first symbol up to k that makes a window right; 0 if none does. -/
def fitU (k : Nat) (t : List Nat) (rest wt x : Nat) : Nat := (fitsU t rest wt x k).getD 0
theorem fitU_lt {k : Nat} (hk : 1 ≤ k) (t : List Nat) (rest wt x : Nat) : fitU k t rest wt x < k := by
  unfold fitU
  cases h : fitsU t rest wt x k with
  | some q => exact fitsU_lt h
  | none => exact hk
theorem fitU_step {k : Nat} {t : List Nat} {rest wt x s : Nat} (hs : s < k) (h : fitsU t rest wt x s = none) (hx : t.getD (rest + s * wt) 0 = x) : fitU k t rest wt x = s := by
  have key : ∀ d, fitsU t rest wt x (s + 1 + d) = some s := by
    intro d
    induction d with
    | zero => unfold fitsU; rw [h]; simp only; rw [if_pos hx]
    | succ d ih => rw [Nat.add_succ]; unfold fitsU; rw [ih]
  unfold fitU
  rw [show k = s + 1 + (k - (s + 1)) from by omega, key]
  rfl
/-- permut.Right's symbols behind the head. -/
def rightT (k N : Nat) (t : List Nat) : List Nat → Nat → List Nat
  | [], _ => []
  | x :: w, node => fitU k t (node * k) 1 x :: rightT k N t w ((node * k + fitU k t (node * k) 1 x) % N)
/-- The nodes on the way. -/
def rightN (k N : Nat) (t : List Nat) : List Nat → Nat → Nat
  | [], node => node
  | x :: w, node => rightN k N t w ((node * k + fitU k t (node * k) 1 x) % N)
theorem rightT_snoc (k N : Nat) (t : List Nat) (x : Nat) : ∀ (w : List Nat) (node : Nat), rightT k N t (w ++ [x]) node = rightT k N t w node ++ [fitU k t (rightN k N t w node * k) 1 x]
  | [], _ => rfl
  | y :: w, node => by
    rw [List.cons_append]
    show _ :: rightT k N t (w ++ [x]) _ = _
    rw [rightT_snoc k N t x w]
    rfl
theorem rightN_snoc (k N : Nat) (t : List Nat) (x : Nat) : ∀ (w : List Nat) (node : Nat), rightN k N t (w ++ [x]) node = (rightN k N t w node * k + fitU k t (rightN k N t w node * k) 1 x) % N
  | [], _ => rfl
  | y :: w, node => by
    rw [List.cons_append]
    exact rightN_snoc k N t x w _
/-- permut.Right. -/
def rightF (k N : Nat) (t w a : List Nat) : List Nat := a ++ rightT k N t w (wval k a)
/-- permut.Left's symbols ahead of the tail, the word read from its end. -/
def leftN (k N : Nat) (t : List Nat) : List Nat → Nat → Nat
  | [], node => node
  | x :: v, node => leftN k N t v ((fitU k t node N x * N + node) / k)
def leftT (k N : Nat) (t : List Nat) : List Nat → Nat → List Nat
  | [], _ => []
  | x :: v, node => leftT k N t v ((fitU k t node N x * N + node) / k) ++ [fitU k t node N x]
theorem leftT_len (k N : Nat) (t : List Nat) : ∀ (w : List Nat) (node : Nat), (leftT k N t w node).length = w.length
  | [], _ => rfl
  | x :: w, node => by
    show (leftT k N t w _ ++ [_]).length = _
    rw [List.length_append, leftT_len k N t w]
    rfl
theorem leftT_snoc (k N : Nat) (t : List Nat) (x : Nat) : ∀ (w : List Nat) (node : Nat), leftT k N t (w ++ [x]) node = fitU k t (leftN k N t w node) N x :: leftT k N t w node
  | [], _ => rfl
  | y :: w, node => by
    rw [List.cons_append]
    show leftT k N t (w ++ [x]) _ ++ [_] = _
    rw [leftT_snoc k N t x w]
    rfl
theorem leftN_snoc (k N : Nat) (t : List Nat) (x : Nat) : ∀ (w : List Nat) (node : Nat), leftN k N t (w ++ [x]) node = (fitU k t (leftN k N t w node) N x * N + leftN k N t w node) / k
  | [], _ => rfl
  | y :: w, node => by
    rw [List.cons_append]
    exact leftN_snoc k N t x w _
theorem node_left {k N s node : Nat} (hk : 0 < k) (hs : s < k) (h : node < N) : (s * N + node) / k < N := by
  refine Nat.div_lt_of_lt_mul ?_
  have h1 : s * N + N = (s + 1) * N := by rw [Nat.add_mul, Nat.one_mul]
  have h2 : (s + 1) * N ≤ k * N := Nat.mul_le_mul_right _ hs
  omega
/-- permut.Left. -/
def leftF (k N : Nat) (t w a : List Nat) : List Nat := leftT k N t w.reverse (wval k a) ++ a
theorem rightF_same {k N m : Nat} {t w a b : List Nat} (ha : a.length = m) (hb : b.length = m) : rightF k N t w a = rightF k N t w b ↔ a = b := by
  constructor
  · intro h
    unfold rightF at h
    exact (List.append_inj h (by rw [ha, hb])).1
  · rintro rfl; rfl
theorem leftF_same {k N m : Nat} {t w a b : List Nat} (ha : a.length = m) (hb : b.length = m) : leftF k N t w a = leftF k N t w b ↔ a = b := by
  constructor
  · intro h
    unfold leftF at h
    exact (List.append_inj' h (by rw [ha, hb])).2
  · rintro rfl; rfl
/-- Left's list with the places from i on filled. -/
def leftP (k N : Nat) (t w a : List Nat) (i : Nat) : List Nat := List.replicate i 0 ++ leftT k N t (w.drop i).reverse (wval k a) ++ a
theorem leftP_len {k N m i : Nat} {t w a : List Nat} (ha : a.length = m) (hi : i ≤ w.length) : (leftP k N t w a i).length = w.length + m := by
  unfold leftP
  rw [List.length_append, List.length_append, leftT_len, ha, List.length_reverse, List.length_drop, List.length_replicate]
  omega
theorem leftP_zero (k N : Nat) (t w a : List Nat) : leftP k N t w a 0 = leftF k N t w a := by
  unfold leftP leftF
  rw [List.replicate_zero, List.nil_append, List.drop_zero]
theorem leftP_start {k N : Nat} {t w a : List Nat} : leftP k N t w a w.length = List.replicate w.length 0 ++ a := by
  unfold leftP
  rw [List.drop_length]
  simp [leftT]
theorem leftP_step {k N i x : Nat} {t w a : List Nat} (hx : w[i]? = some x) : (leftP k N t w a (i + 1)).set i (fitU k t (leftN k N t (w.drop (i + 1)).reverse (wval k a)) N x) = leftP k N t w a i := by
  have hi : i < w.length := (List.getElem?_eq_some_iff.1 hx).1
  have hd : w.drop i = x :: w.drop (i + 1) := by
    rw [List.drop_eq_getElem_cons hi]
    congr 1
    have := List.getElem?_eq_getElem hi
    rw [hx] at this
    exact (Option.some.inj this).symm
  unfold leftP
  rw [hd, List.reverse_cons, leftT_snoc, List.replicate_succ', List.append_assoc, List.append_assoc, List.set_append_right _ _ (by simp)]
  simp
theorem leftN_step {k N i x : Nat} {t w : List Nat} {node : Nat} (hx : w[i]? = some x) : leftN k N t (w.drop i).reverse node = (fitU k t (leftN k N t (w.drop (i + 1)).reverse node) N x * N + leftN k N t (w.drop (i + 1)).reverse node) / k := by
  have hi : i < w.length := (List.getElem?_eq_some_iff.1 hx).1
  have hd : w.drop i = x :: w.drop (i + 1) := by
    rw [List.drop_eq_getElem_cons hi]
    congr 1
    have := List.getElem?_eq_getElem hi
    rw [hx] at this
    exact (Option.some.inj this).symm
  rw [hd, List.reverse_cons, leftN_snoc]
end RuleP
end Go.Proofs.YtibplgpolmplpaaGreatDoor

namespace Go.Proofs.YtibplgpolmplpaaGreatDoor
open Go.RowKit RuleP

def sPermut : ByteArray := ⟨#[112, 101, 114, 109, 117, 116]⟩
theorem permWrong_c (w : World) (E : Nat → Addr) (hE : Errs w E) (at' : Int) (n : Nat) (h1 : 1 ≤ n) (h2 : n ≤ 11) :
    Calls Tryz.prog 73 #[.int .i64 at', .int .i64 (n : Int)] w fun e w' => e = .returned (errV w.heap.size) ∧ ErrIs w' E n [(sPermut, at')] (errV w.heap.size) ∧ Below w.heap.size w w' := by
  have HE := Lib.hid hE
  clear hE
  go_enter Tryz.func73, Tryz.ntmps73
  go_wp2_with fail
  refine (new_c w E HE.out sPermut at' n h1 h2).mono ?_
  rintro e w' ⟨rfl, rfl⟩
  go_wp2_with fail
  go_ret
  exact ⟨rfl, ⟨w.heap.size, _, rfl, heap_new _ _, rfl⟩, (Below.refl _ _).alloc (Nat.le_refl _) _⟩

theorem perm_at {w : World} {A : Option Addr} {n : Nat} {l : List Nat} (h : Sl w A n ((ints l).map (Value.int .i64))) {i : Nat} (hi : i < n) : ∃ ad v, A = some ad ∧ l[i]? = some v ∧ w.cell? (ad.add i) = some (.int .i64 ((v : Nat) : Int)) := by
  rw [ints_map] at h
  exact h.word_ hi
theorem or16i : ∀ a, a < 16 → ∀ x, x < 4 → bits .or .i64 ((a : Nat) : Int) (wrap64 (2 ^ x)) = ((a ||| (1 <<< x) : Nat) : Int) := by decide +kernel
theorem pow_bits {k : Nat} (hk : k ≤ 4) : ∃ q : Nat, 2 ^ k - 1 = q ∧ q < 16 ∧ IntKind.i64.wrap (2 ^ k) = ((q + 1 : Nat) : Int) ∧ IntKind.i64.wrap (((q + 1 : Nat) : Int) - 1) = (q : Int) := by
  match k, hk with
  | 0, _ => exact ⟨0, by decide⟩
  | 1, _ => exact ⟨1, by decide⟩
  | 2, _ => exact ⟨3, by decide⟩
  | 3, _ => exact ⟨7, by decide⟩
  | 4, _ => exact ⟨15, by decide⟩

set_option maxRecDepth 100000 in
set_option maxHeartbeats 2000000 in
theorem unlike_c (w : World) (k r n c wt : Nat) (A : Option Addr) (t : List Nat) (hr : IsRule k r t) (hT : Sl w A n ((ints t).map (Value.int .i64))) (hn : n ≤ 16384) (hwt : 0 < wt) (hwn : wt ≤ 16384)
    (hin : ∀ i, i < n → i / wt % k = 0 → ∀ s, s < k → i + s * wt < n) :
    Calls Tryz.prog 72 #[ruleV (k : Int) (r : Int) A n c, .int .i64 (wt : Int)] w fun e w' => e = .returned (.bool (permU k t wt)) ∧ Below w.heap.size w w' := by
  have hl : t.length = n := by simpa [ints] using hT.1
  have hk1 := hr.k1
  have hk4 := hr.k4
  have hb1 := (Below.refl w.heap.size w).alloc (Nat.le_refl _) (.cells #[.int .i64 (k : Int), .int .i64 (r : Int), .slice A n c] 24)
  have hr1 := RuleAt.new w (.int .i64 (k : Int)) (.int .i64 (r : Int)) (.slice A n c)
  obtain ⟨r0, r1, r2, _⟩ := hr1.facts
  obtain ⟨w1, hw1⟩ : ∃ w1, w.alloc (.cells #[.int .i64 (k : Int), .int .i64 (r : Int), .slice A n c] 24) = w1 := ⟨_, rfl⟩
  rw [hw1] at hb1 hr1
  have HW1 := Lib.hid hw1
  have HB1 := Lib.hid hb1
  have HR1 := Lib.hid hr1
  have HT1 := Lib.hid (fun (wz : World) (hz : Below w1.heap.size w1 wz) => hT.below (hb1.trans (hz.mono hb1.size)))
  have HIN := Lib.hid hin
  have HRU := Lib.hid hr
  have HLL := Lib.hid hl
  have hk0 : ¬ ((k : Int) = 0) := by omega
  have hk0n : ¬ k = 0 := by omega
  have hwt0 : ¬ ((wt : Int) = 0) := by omega
  have hwt0n : ¬ wt = 0 := by omega
  obtain ⟨qk, hqk, hq16, p1, p2⟩ := pow_bits hk4
  have HQK := Lib.hid hqk
  clear hw1 hb1 hr1 hT hin hr hl hqk
  unfold ruleV
  go_enter Tryz.func72, Tryz.ntmps72
  go_wp2_with fail
  rw [HW1.out]
  clear r0 r1 r2
  go_loopw [11] (fun iv wl => ∃ i : Nat, iv = .int .i64 (i : Int) ∧ i ≤ n ∧ Hid (∀ j, j < i → j / wt % k ≠ 0 ∨ seenB k t j wt k = qk) ∧ Hid (Below w1.heap.size w1 wl)) (fun iv _ => n - (intOf iv).toNat)
  case atStart => exact ⟨0, rfl, Nat.zero_le _, Lib.hid (fun j h => absurd h (Nat.not_lt_zero _)), Lib.hid (Below.refl _ _)⟩
  case round =>
    obtain ⟨i, rfl, hi, HA, HB⟩ := hrel
    obtain ⟨v0, rfl⟩ : ∃ v0, v0 = wr := ⟨_, rfl⟩
    obtain ⟨r0, r1, r2, _⟩ := (HR1.out.below HB.out HR1.out.lt).facts
    by_cases hin : i < n
    · have hin' : (i : Int) < (n : Int) := by omega
      obtain ⟨z1, hz1⟩ : ∃ z1, i / wt = z1 := ⟨_, rfl⟩
      obtain ⟨z2, hz2⟩ : ∃ z2, z1 % k = z2 := ⟨_, rfl⟩
      have hz1n : z1 ≤ 16384 := by rw [← hz1]; exact Nat.le_trans (Nat.div_le_self _ _) (by omega)
      have hz2n : z2 < k := by rw [← hz2]; exact Nat.mod_lt _ hk1
      have d1 : (i : Int).tdiv (wt : Int) = (z1 : Int) := by rw [← hz1]; rfl
      have d1' : (i : Int) / (wt : Int) = (z1 : Int) := by rw [← hz1]; rfl
      have d2 : (z1 : Int).tmod (k : Int) = (z2 : Int) := by rw [← hz2]; rfl
      have d2' : (z1 : Int) % (k : Int) = (z2 : Int) := by rw [← hz2]; rfl
      have d3 : IntKind.i64.wrap (z1 : Int) = (z1 : Int) := IntWalk.i64_in _ (by omega)
      have d4 : IntKind.i64.wrap (z2 : Int) = (z2 : Int) := IntWalk.i64_in _ (by omega)
      have HZ : Hid (i / wt % k = z2) := Lib.hid (by rw [hz1, hz2])
      clear hz1 hz2
      by_cases hz0 : z2 = 0
      · subst hz0
        have HIX := Lib.hid (HIN.out i hin HZ.out)
        go_wp2_with (go_quiet (fail))
        have HB2 := Lib.hid (below_drewN HB.out nq)
        go_loopw [6, 23] (fun bv sv wl => ∃ s : Nat, sv = .int .i64 (s : Int) ∧ s ≤ k ∧ bv = .int .i64 ((seenB k t i wt s : Nat) : Int) ∧ Hid (Below w1.heap.size w1 wl)) (fun _ sv _ => k - (intOf sv).toNat)
        case atStart => exact ⟨0, rfl, Nat.zero_le _, rfl, HB2⟩
        case round =>
          obtain ⟨s, rfl, hs, rfl, HB⟩ := hrel
          obtain ⟨v0, rfl⟩ : ∃ v0, v0 = wr := ⟨_, rfl⟩
          obtain ⟨r0, r1, r2, _⟩ := (HR1.out.below HB.out HR1.out.lt).facts
          by_cases hsk : s < k
          · have hsk' : (s : Int) < (k : Int) := by omega
            obtain ⟨q, hq⟩ : ∃ q, s * wt = q := ⟨_, rfl⟩
            have hqn := HIX.out s hsk
            rw [hq] at hqn
            obtain ⟨p, hp⟩ : ∃ p, i + q = p := ⟨_, rfl⟩
            rw [hp] at hqn
            have hpn' : (p : Int) < (n : Int) := by omega
            have hp0 : (0 : Int) ≤ (p : Int) := by omega
            have e1 : IntKind.i64.wrap ((s : Int) * (wt : Int)) = (q : Int) := by rw [← Int.natCast_mul, hq]; exact IntWalk.i64_in _ (by omega)
            have e2 : IntKind.i64.wrap ((i : Int) + (q : Int)) = (p : Int) := by rw [← Int.natCast_add, hp]; exact IntWalk.i64_in _ (by omega)
            obtain ⟨ad, y, rfl, hy, hcy⟩ := perm_at (HT1.out v0 HB.out) hqn
            have hy4 : y < 4 := by have := HRU.out.sym y (List.mem_of_getElem? hy); omega
            have hb16 := seenB_lt hk4 HRU.out.sym hk1 i wt s
            have hse : seenB k t i wt (s + 1) = seenB k t i wt s ||| (1 <<< y) := by
              show seenB k t i wt s ||| (1 <<< t.getD (i + s * wt) 0) = _
              rw [hq, hp, List.getD_eq_getElem?_getD, hy]
              rfl
            obtain ⟨b, hb⟩ : ∃ b, seenB k t i wt s = b := ⟨_, rfl⟩
            rw [hb] at hb16 hse ⊢
            have hor := or16i b hb16 y hy4
            rw [← hse] at hor
            have HOR := Lib.hid hor
            clear hor
            have hy0 : (0 : Int) ≤ (y : Int) := by omega
            clear hq hp hy hb hse hb16
            go_wp2_with fail
            exact ⟨⟨s + 1, by go_num, by omega, by rw [HOR.out], HB⟩, by simp [intOf]; omega⟩
          · obtain rfl : s = k := by omega
            have hsk' : ¬ (s : Int) < (s : Int) := by omega
            obtain ⟨b, hb⟩ : ∃ b, seenB s t i wt s = b := ⟨_, rfl⟩
            rw [hb]
            have HBS := Lib.hid hb
            clear hb
            by_cases hbq : b = qk
            · subst hbq
              have HA' : Hid (∀ j, j < i + 1 → j / wt % s ≠ 0 ∨ seenB s t j wt s = b) := Lib.hid (fun j hj => by
                by_cases e : j = i
                · subst e; exact .inr HBS.out
                · exact HA.out j (by omega))
              go_wp2_with fail
              exact ⟨⟨i + 1, by go_num, by omega, HA', HB⟩, by simp [intOf]; omega⟩
            · have hbq' : ¬ (b : Int) = (qk : Int) := by omega
              have hno : permU s t wt = false := permU_not (i := i) (by rw [HLL.out]; exact hin) HZ.out (by rw [HBS.out, HQK.out]; exact hbq)
              have HNO := Lib.hid hno
              have HBB := Lib.hid (HB1.out.trans (HB.out.mono HB1.out.size))
              clear hno
              go_wp2_with fail
              go_ret
              exact ⟨by rw [HNO.out]; rfl, HBB.out⟩
      · have hz0' : ¬ (z2 : Int) = 0 := by omega
        have HA' : Hid (∀ j, j < i + 1 → j / wt % k ≠ 0 ∨ seenB k t j wt k = qk) := Lib.hid (fun j hj => by
          by_cases e : j = i
          · subst e; exact .inl (by rw [HZ.out]; exact hz0)
          · exact HA.out j (by omega))
        go_wp2_with (go_quiet (fail))
        exact ⟨⟨i + 1, by go_num, by omega, HA', Lib.hid (below_drewN HB.out _)⟩, by simp [intOf]; omega⟩
    · obtain rfl : i = n := by omega
      have hin' : ¬ (i : Int) < (i : Int) := by omega
      have hall : permU k t wt = true := permU_all HLL.out (fun j hj => (HA.out j hj).imp id fun h => by rw [h]; exact HQK.out.symm)
      have HALL := Lib.hid hall
      have HBB := Lib.hid (HB1.out.trans (HB.out.mono HB1.out.size))
      clear hall
      go_wp2_with fail
      go_ret
      exact ⟨by rw [HALL.out]; rfl, HBB.out⟩

set_option maxRecDepth 100000 in
set_option maxHeartbeats 2000000 in
theorem permFits_c (w : World) (k r n c rest wt x : Nat) (A : Option Addr) (t : List Nat) (hr : IsRule k r t) (hT : Sl w A n ((ints t).map (Value.int .i64))) (hn : n ≤ 16384)
    (hin : ∀ s, s < k → rest + s * wt < n) :
    Calls Tryz.prog 75 #[ruleV (k : Int) (r : Int) A n c, .int .i64 (rest : Int), .int .i64 (wt : Int), .int .i64 (x : Int)] w fun e w' => e = .returned (.int .i64 ((fitU k t rest wt x : Nat) : Int)) ∧ Below w.heap.size w w' := by
  have hl : t.length = n := by simpa [ints] using hT.1
  have hk1 := hr.k1
  have hk4 := hr.k4
  have hb1 := (Below.refl w.heap.size w).alloc (Nat.le_refl _) (.cells #[.int .i64 (k : Int), .int .i64 (r : Int), .slice A n c] 24)
  have hr1 := RuleAt.new w (.int .i64 (k : Int)) (.int .i64 (r : Int)) (.slice A n c)
  obtain ⟨r0, r1, r2, _⟩ := hr1.facts
  obtain ⟨w1, hw1⟩ : ∃ w1, w.alloc (.cells #[.int .i64 (k : Int), .int .i64 (r : Int), .slice A n c] 24) = w1 := ⟨_, rfl⟩
  rw [hw1] at hb1 hr1
  have HW1 := Lib.hid hw1
  have HB1 := Lib.hid hb1
  have HR1 := Lib.hid hr1
  have hT1 := hT.below hb1
  have HT1 := Lib.hid (fun (wz : World) (hz : Below w1.heap.size w1 wz) => hT1.below hz)
  have HIN := Lib.hid hin
  have HLL := Lib.hid hl
  clear hw1 hb1 hr1 hT hin hr hl hT1
  unfold ruleV
  go_enter Tryz.func75, Tryz.ntmps75
  go_wp2_with fail
  rw [HW1.out]
  clear r0 r1 r2
  go_loopw [12] (fun sv wl => ∃ s : Nat, sv = .int .i64 (s : Int) ∧ s ≤ k ∧ Hid (fitsU t rest wt x s = none) ∧ Hid (Below w1.heap.size w1 wl)) (fun sv _ => k - (intOf sv).toNat)
  case atStart => exact ⟨0, rfl, Nat.zero_le _, Lib.hid rfl, Lib.hid (Below.refl _ _)⟩
  case round =>
    obtain ⟨s, rfl, hs, HA, HB⟩ := hrel
    obtain ⟨v0, rfl⟩ : ∃ v0, v0 = wr := ⟨_, rfl⟩
    have HBB := Lib.hid (HB1.out.trans (HB.out.mono HB1.out.size))
    obtain ⟨r0, r1, r2, _⟩ := (HR1.out.below HB.out HR1.out.lt).facts
    by_cases hsk : s < k
    · have hsk' : (s : Int) < (k : Int) := by omega
      obtain ⟨q, hq⟩ : ∃ q, s * wt = q := ⟨_, rfl⟩
      have hqn := HIN.out s hsk
      rw [hq] at hqn
      obtain ⟨p, hp⟩ : ∃ p, rest + q = p := ⟨_, rfl⟩
      rw [hp] at hqn
      have hpn' : (p : Int) < (n : Int) := by omega
      have hp0 : (0 : Int) ≤ (p : Int) := by omega
      have d1 : IntKind.i64.wrap ((s : Int) * (wt : Int)) = (q : Int) := by rw [← Int.natCast_mul, hq]; exact IntWalk.i64_in _ (by omega)
      have d2 : IntKind.i64.wrap ((rest : Int) + (q : Int)) = (p : Int) := by rw [← Int.natCast_add, hp]; exact IntWalk.i64_in _ (by omega)
      obtain ⟨ad, y, rfl, hy, hcy⟩ := perm_at (HT1.out v0 HB.out) hqn
      have hpe : t.getD (rest + s * wt) 0 = y := by rw [hq, hp, List.getD_eq_getElem?_getD, hy]; rfl
      have HPE := Lib.hid hpe
      clear hq hp hy hpe
      by_cases hyx : y = x
      · subst hyx
        have hfin := fitU_step hsk HA.out HPE.out
        have HFIN := Lib.hid hfin
        clear hfin
        go_wp2_with fail
        go_ret
        exact ⟨by rw [HFIN.out]; rfl, HBB.out⟩
      · have hyx' : ¬ (y : Int) = (x : Int) := by omega
        have HA' : Hid (fitsU t rest wt x (s + 1) = none) := Lib.hid (by
          unfold fitsU
          rw [HA.out]
          simp only
          rw [HPE.out, if_neg hyx])
        go_wp2_with fail
        exact ⟨⟨s + 1, by go_num, by omega, HA', HB⟩, by simp [intOf]; omega⟩
    · obtain rfl : s = k := by omega
      have hsk' : ¬ (s : Int) < (s : Int) := by omega
      have hfin : fitU s t rest wt x = 0 := by unfold fitU; rw [HA.out]; rfl
      have HFIN := Lib.hid hfin
      clear hfin
      go_wp2_with fail
      go_ret
      exact ⟨by rw [HFIN.out]; rfl, HBB.out⟩
end Go.Proofs.YtibplgpolmplpaaGreatDoor
