/- What the cards of this seat share: the witness's world, and what the arguments' readings give. No condition. A rule handed as an argument, opened: its three cells. The reach of lists that came in: their capacity, in bytes. No condition. Cards of rows that list errors.errorType (a type's handle): the witness's world, and what the condition gives a walk. No condition. Words of any lengths compared: word.Cmp. Condition: the words read from memory. Lists of lists compared: slices.EqualFunc over rows of one length, edenraw.Lists and edenraw.Autos of any two; image.Same of any two rules. Condition: the lists read from memory; the error variables hold what E says. image.Same, the walk: any two rules. Condition: the tables read from memory; the error variables hold what E says. Rules out of rules, as plain lists: the document's narrow form is the program's; two rules make the same just if their widened forms are one. No program. No condition. -/
import Derived.Test.YthilnpfpllplaaaGreatDoorCards
import Derived.Test.YthilnpfpllplaaaGreatDoorTie
import Derived.ProofKit
import Derived.OpenShut
import Derived.LaidMore
import Derived.SevenTiedAt
import Derived.Lib.SmallJoins
import Derived.SizedLaws
import Derived.LaidHandle
import Derived.LaidSub
import Derived.Lay
import Derived.Test.YthilnpfpllplaaaGreatDoorS4
import Derived.Test.YthilnpfpllplaaaGreatDoorS5
import Derived.Test.YthilnpfpllplaaaGreatDoorS15
import Derived.Test.YthilnpfpllplaaaGreatDoorS22
import Derived.Test.YthilnpfpllplaaaGreatDoorS24
namespace Go.Proofs.YthilnpfpllplaaaGreatDoor
open Go.ChangeShapes Go.WideShapes Go.ChangeAt Go.RowKit

theorem own : ownKnob Tryz.prog.godebug = none := by kernel_rfl
theorem laidOut : laidOutB Tryz.prog = true := by kernel_rfl
theorem cellsInt : Tryz.prog.cellsOf 3 = 1 := by kernel_rfl

set_option maxRecDepth 100000 in
/-- A slice of numbers that came in, nil or not: its cells, its reading behind a call that writes to nothing that was there. -/
theorem open_sl {H : Type} {enc : TypeId × Value → H} {W : World} {base : Nat} {v : Value} {d : DataW H} {p : List MemPlace} (hval : Value.okWide Tryz.prog W .any base 22 v)
    (h : DataW.Trod enc Tryz.prog W 0 (fun _ => true) true 22 v d p) :
    ∃ (A : Option Addr) (n c : Nat) (xs : List Int), v = .slice A n c ∧ n ≤ c ∧ c ≤ maxLen ∧ Sl W A n (xs.map (Value.int .i64)) ∧ (∀ x ∈ xs, (Lit.int .i64 x).wf = true) := by
  obtain ⟨a0, len, cap, rfl⟩ := okWide_slice Tryz.underlying22 hval
  obtain ⟨fuel, hf⟩ := h
  rcases open_ints Tryz.underlying22 Tryz.underlying3 cellsInt hf with ⟨hcs, _⟩ | ⟨a, len', cap', zs, hcs, _, hl, hm, hz, _, hcell, hwz⟩
  · simp [Value.cells] at hcs
    obtain ⟨rfl, rfl, rfl⟩ := hcs
    exact ⟨none, 0, 0, [], rfl, Nat.le_refl _, Nat.zero_le _, Sl.nil _ _, fun x hx => by simp at hx⟩
  · simp [Value.cells] at hcs
    obtain ⟨rfl, rfl, rfl⟩ := hcs
    simp only [if_true] at hz
    refine ⟨some a, len, cap, zs.take len, rfl, hl, hm, ⟨by simp; omega, fun k u hu => ?_⟩, fun x hx => hwz x (List.mem_of_mem_take hx)⟩
    have hk : k < len := by
      have := (List.getElem?_eq_some_iff.1 hu).1
      simp at this
      omega
    refine ⟨a, rfl, ?_⟩
    rw [hcell k (by omega)]
    rw [List.getElem?_map, List.getElem?_take, if_pos hk] at hu
    rw [List.getD_eq_getElem?_getD]
    cases hz : zs[k]? with
    | none => rw [hz] at hu; cases hu
    | some z => rw [hz] at hu; exact hu

/-- No parameter of these types wants a stand-in. -/
theorem noStandIn (l : List TypeId) (hall : (l.all fun u => !Tryz.prog.wantsStandIn u) = true) {ps : Array TypeId} (hp : ps.toList = l) (j : Nat) (t : TypeId) (ht : ps[j]? = some t) : Tryz.prog.wantsStandIn t = false := by
  have hm : t ∈ l := by rw [← hp]; exact Array.mem_toList_iff.2 (Array.mem_of_getElem? ht)
  simpa using List.all_eq_true.1 hall t hm

end Go.Proofs.YthilnpfpllplaaaGreatDoor

namespace Go.Proofs.YthilnpfpllplaaaGreatDoor
open Go.ChangeShapes Go.WideShapes Go.ChangeAt Go.RowKit Go.Joins
set_option linter.all false
set_option maxRecDepth 10000

theorem open_rule {H : Type} {enc : TypeId × Value → H} {W : World} {base : Nat} {v : Value} {d : DataW H} {p : List MemPlace} (hval : Value.okWide Tryz.prog W .any base 24 v)
    (h : DataW.Trod enc Tryz.prog W 0 (fun _ => true) true 24 v d p) :
    ∃ (K R : Int) (A : Option Addr) (n c : Nat) (xs : List Int), v = .agg #[.int .i64 K, .int .i64 R, .slice A n c] ∧ n ≤ c ∧ c ≤ maxLen ∧ Sl W A n (xs.map (Value.int .i64)) ∧ (∀ x ∈ xs, (Lit.int .i64 x).wf = true) := by
  obtain ⟨c0, c1, c2, y0, y1, y2, m, rfl, rfl, rfl, hy0, hy1, hy2⟩ := open_agg3 Tryz.underlying24 (by kernel_rfl) (by kernel_rfl) hval h
  obtain ⟨K, e0, _, _⟩ := DataW.trod_int Tryz.underlying3 hy0
  obtain ⟨R, e1, _, _⟩ := DataW.trod_int Tryz.underlying3 hy1
  simp at e0 e1
  subst e0 e1
  rcases open_ints Tryz.underlying22 Tryz.underlying3 cellsInt hy2 with ⟨hcs, _⟩ | ⟨a, len', cap', zs, hcs, _, hl, hm, hz, _, hcell, hwz⟩
  · simp at hcs
    subst hcs
    exact ⟨K, R, none, 0, 0, [], rfl, Nat.le_refl _, Nat.zero_le _, Sl.nil _ _, fun x hx => by simp at hx⟩
  · simp at hcs
    subst hcs
    simp only [if_true] at hz
    refine ⟨K, R, some a, len', cap', zs.take len', rfl, hl, hm, ⟨by simp; omega, fun k u hu => ?_⟩, fun x hx => hwz x (List.mem_of_mem_take hx)⟩
    have hk : k < len' := by
      have := (List.getElem?_eq_some_iff.1 hu).1
      simp at this
      omega
    refine ⟨a, rfl, ?_⟩
    rw [hcell k (by omega)]
    rw [List.getElem?_map, List.getElem?_take, if_pos hk] at hu
    rw [List.getD_eq_getElem?_getD]
    cases hz : zs[k]? with
    | none => rw [hz] at hu; cases hu
    | some z => rw [hz] at hu; exact hu
end Go.Proofs.YthilnpfpllplaaaGreatDoor

namespace Go.Proofs.YthilnpfpllplaaaGreatDoor
open Go.ChangeShapes Go.WideShapes Go.ChangeAt Go.RowKit Go.Joins
set_option linter.all false
set_option maxRecDepth 10000

theorem bytesInt : Tryz.prog.bytesOf 3 = 8 := by kernel_rfl
theorem reach_n {H : Type} {P : Program} {ts : List TypeId} {ds : List (DataW H)} (h : (DataW.weightsEach P ts ds).all (· ≤ reachBytes) = true) {j : Nat} {t : TypeId} {d : DataW H} (ht : ts[j]? = some t) (hd : ds[j]? = some d) : ∀ n ∈ d.weights P t, n ≤ 140737488351232 := fun n hn =>
  of_decide_eq_true (List.all_eq_true.1 h n (DataW.weights_mem_each ht hd n hn))

theorem sized_cells {H : Type} {enc : TypeId × Value → H} {W : World} {fuel : Nat} {A : Option Addr} {n c : Nat} {x : DataW H × List MemPlace} (h : DataW.trod enc Tryz.prog W 0 (fun _ => true) true fuel 22 [.slice A n c] = some x)
    (hw : ∀ m ∈ x.1.weights Tryz.prog 22, m ≤ 140737488351232) : c * 8 ≤ 140737488351232 := by
  rcases open_ints Tryz.underlying22 Tryz.underlying3 cellsInt h with ⟨hcs, _⟩ | ⟨a, len', cap', zs, hcs, _, hl, hm, hz, hx, hcell, hwz⟩
  · simp at hcs
    obtain ⟨_, _, rfl⟩ := hcs
    omega
  · simp at hcs
    obtain ⟨_, rfl, rfl⟩ := hcs
    simp only [if_true] at hz
    subst hx
    have := hw (((lits (H := H) .i64 (zs.take n)).length + (lits (H := H) .i64 (zs.drop n)).length) * Tryz.prog.bytesOf 3) (by simp [DataW.weights, Tryz.underlying22])
    rw [bytesInt] at this
    simp only [lits, List.length_map, List.length_take, List.length_drop] at this
    omega
theorem sized_sl {H : Type} {enc : TypeId × Value → H} {W : World} {A : Option Addr} {n c : Nat} {d : DataW H} {p : List MemPlace} (h : DataW.Trod enc Tryz.prog W 0 (fun _ => true) true 22 (.slice A n c) d p)
    (hw : ∀ m ∈ d.weights Tryz.prog 22, m ≤ 140737488351232) : c * 8 ≤ 140737488351232 := by
  obtain ⟨fuel, hf⟩ := h
  exact sized_cells hf hw
theorem sized_rule {H : Type} {enc : TypeId × Value → H} {W : World} {base : Nat} {K R : Int} {A : Option Addr} {n c : Nat} {d : DataW H} {p : List MemPlace} (hval : Value.okWide Tryz.prog W .any base 24 (.agg #[.int .i64 K, .int .i64 R, .slice A n c]))
    (h : DataW.Trod enc Tryz.prog W 0 (fun _ => true) true 24 (.agg #[.int .i64 K, .int .i64 R, .slice A n c]) d p)
    (hw : ∀ m ∈ d.weights Tryz.prog 24, m ≤ 140737488351232) : c * 8 ≤ 140737488351232 := by
  obtain ⟨c0, c1, c2, y0, y1, y2, m, hv, rfl, rfl, hy0, hy1, hy2⟩ := open_agg3 Tryz.underlying24 (by kernel_rfl) (by kernel_rfl) hval h
  injection hv with hv
  injection hv with hv
  injection hv with e0 hv
  injection hv with e1 hv
  injection hv with e2 hv
  subst e2
  exact sized_cells hy2 (fun m hm => hw m (by simp [DataW.weights, Tryz.underlying24, DataW.weightsEach]; right; right; exact hm))
end Go.Proofs.YthilnpfpllplaaaGreatDoor

namespace Go.Proofs.YthilnpfpllplaaaGreatDoor
open Go.ChangeShapes Go.WideShapes Go.ChangeAt Go.RowKit

def handleRow : String × DataW Unit := ("errors.errorType", .iface "internal/reflectlite.rtype" (.agg [.ptr (.lit (.string [101, 114, 114, 111, 114]))]))
noncomputable def handled (os : Os) : World :=
  let w0 := World.holding Tryz.prog os ⟨#[], #[], []⟩
  { w0 with heap := w0.heap.modify 12 fun
      | .cells _ t frozen => .cells #[.iface 161 (.agg #[.pointer (some ⟨13, 29, none⟩)])] t frozen
      | o => o }
def plainOf (laid : List (String × DataW Unit)) : List (String × DataW Unit) := laid.filter fun x => x.2.handleName?.isNone
noncomputable def laidAllH (os : Os) (laid : List (String × DataW Unit)) : World := (handled os).layVars Tryz.prog (plainOf laid)
theorem laidAllH_os (os : Os) (laid : List (String × DataW Unit)) : (laidAllH os laid).os = os := World.layVars_os _ _ _
theorem laidMetH_allH {os : Os} {laid : List (String × DataW Unit)} (args : Array Value)
    (hf : (handled os).layFits Tryz.prog (plainOf laid) [] = true)
    (hi : (handled os).layIfaces Tryz.prog (plainOf laid) (laidAllH os laid) = true)
    (hh : (laid.filter fun x => x.2.handleName?.isSome).all (handleAtB Tryz.prog (laidAllH os laid)) = true) :
    laidMetH Tryz.prog laid ((laidAllH os laid).forCall (fun _ _ => 0) ⟨#[], args, []⟩).memory := by
  have e1 : ((plainOf laid).filter fun x => ((plainOf laid).map (·.1)).contains x.1) = plainOf laid := List.filter_eq_self.2 fun x hx => List.contains_iff_mem.2 (List.mem_map.2 ⟨x, hx, rfl⟩)
  have e2 : ((plainOf laid).filter fun x => !((plainOf laid).map (·.1)).contains x.1) = [] := List.filter_eq_nil_iff.2 fun x hx => by rw [List.contains_iff_mem.2 (List.mem_map.2 ⟨x, hx, rfl⟩)]; simp
  have h : laidMet Tryz.prog (plainOf laid) (laidAllH os laid) := laidMet_layVars (w0 := handled os) ((plainOf laid).map (·.1)) [] (by rw [e1]; rfl) (by rw [e1]; exact hf) (by rw [e1]; exact hi) (by rw [e2]; exact LaidIn.none)
  have h2 : laidMetH Tryz.prog laid (laidAllH os laid) := laidMetH_of_parts h hh
  exact laidMetH.of_heap (by simp [World.memory, World.forCall, Input.heap]) h2

theorem rtypeCut : (Tryz.prog.cutTypes.find? (·.1 == "internal/reflectlite.rtype")).map (·.2) = some 161 := by kernel_rfl
theorem oneErrorRow : ((List.range Tryz.prog.types.size).filter fun t => Tryz.prog.rowNamed t [101, 114, 114, 111, 114]) = [29] := by kernel_rfl
theorem errT_of {W : World} {l : List (String × DataW Unit)} (h : laidMetH Tryz.prog l W) (hl : (l.filter fun x => x.2.handleName?.isSome) = [handleRow]) : ErrT W := by
  have h' := (laidMetH_iff.1 h).2
  rw [hl] at h'
  obtain ⟨name, u, ty, e1, e2, e3, e4, e5⟩ := h' _ (List.mem_singleton.2 rfl)
  have en : name = [101, 114, 114, 111, 114] := (Option.some.inj e1).symm
  subst en
  obtain rfl := Option.some.inj (rtypeCut.symm.trans e2)
  have hm : ty ∈ (List.range Tryz.prog.types.size).filter fun t => Tryz.prog.rowNamed t [101, 114, 114, 111, 114] := List.mem_filter.2 ⟨List.mem_range.2 e3, e4⟩
  rw [oneErrorRow] at hm
  obtain rfl := List.mem_singleton.1 hm
  have hh : typeHandle Tryz.prog 29 = .pointer (some ⟨13, 29, none⟩) := by kernel_rfl
  rw [hh] at e5
  have et : Tryz.prog.globalNamed "errors.errorType" = some 12 := by kernel_rfl
  simpa [ErrT] using World.var?_cell et e5 0
end Go.Proofs.YthilnpfpllplaaaGreatDoor

namespace Go.Proofs.YthilnpfpllplaaaGreatDoor
open Go.RowKit RuleP

def SomeNum (w : World) (e : Ending) (w' : World) : Prop := (∃ x : Int, e = .returned (.int .i64 x)) ∧ w = w'

set_option maxRecDepth 100000 in
theorem cmpS_any (w : World) (A B : Option Addr) (n m c d : Nat) (a b : List Nat) (hA : Sl w A n ((ints a).map (Value.int .i64))) (hB : Sl w B m ((ints b).map (Value.int .i64))) (hn : n ≤ 9223372036854775807) (hm : m ≤ 9223372036854775807) :
    Calls Tryz.prog 69 #[.slice A n c, .slice B m d] w (SomeNum w) := by
  rw [ints_map] at hA hB
  have HA := Lib.hid hA
  have HB := Lib.hid hB
  clear hA hB
  go_enter Tryz.func69, Tryz.ntmps69
  go_wp2_with fail
  go_loop [11] (fun i => ∃ j : Nat, j ≤ n ∧ i = .int .i64 (j : Int)) (fun i => n - (intOf i).toNat)
  case atStart => exact ⟨0, Nat.zero_le _, rfl⟩
  case round =>
    obtain ⟨j, hj, rfl⟩ := hrel
    by_cases hlt : j < n
    · by_cases hlm : j < m
      · obtain ⟨ad, x, rfl, _, hc⟩ := HA.out.word_ hlt
        obtain ⟨ad2, y, rfl, _, hc2⟩ := HB.out.word_ hlm
        have HC := Lib.hid (cmpI_c w x y)
        have hnj : decide ((m : Int) ≤ (j : Int)) = false := decide_eq_false (by omega)
        rcases Nat.lt_trichotomy x y with h | h | h
        · rw [if_pos h] at HC
          clear h
          go_wp2_with fail
          refine (HC.out).mono ?_
          rintro e w' ⟨rfl, rfl⟩
          go_wp2_with fail
          go_ret
          exact ⟨⟨_, rfl⟩, rfl⟩
        · subst h
          rw [if_neg (Nat.lt_irrefl _), if_neg (Nat.lt_irrefl _)] at HC
          go_wp2_with fail
          refine (HC.out).mono ?_
          rintro e w' ⟨rfl, rfl⟩
          go_wp2_with fail
          exact ⟨⟨j + 1, by omega, by go_num⟩, by simp [intOf]; omega⟩
        · rw [if_neg (by omega), if_pos h] at HC
          clear h
          go_wp2_with fail
          refine (HC.out).mono ?_
          rintro e w' ⟨rfl, rfl⟩
          go_wp2_with fail
          go_ret
          exact ⟨⟨_, rfl⟩, rfl⟩
      · obtain ⟨ad, x, rfl, _, hc⟩ := HA.out.word_ hlt
        have hnj : decide ((m : Int) ≤ (j : Int)) = true := decide_eq_true (by omega)
        go_wp2_with fail
        go_ret
        exact ⟨⟨_, rfl⟩, rfl⟩
    · obtain rfl : j = n := by omega
      by_cases hlm : j < m
      · go_wp2_with fail
        go_ret
        exact ⟨⟨_, rfl⟩, rfl⟩
      · go_wp2_with fail
        go_ret
        exact ⟨⟨_, rfl⟩, rfl⟩

set_option maxRecDepth 100000 in
theorem or_first (w : World) (g : Nat) (x : Int) (h0 : w.cell? ⟨g, 0, none⟩ = some (.int .i64 x)) (hx0 : (x != 0) = true) :
    Calls Tryz.prog 67 #[.slice (some ⟨g, 0, none⟩) 2 2] w fun e w' => e = .returned (.int .i64 x) ∧ w = w' := by
  go_enter Tryz.func67, Tryz.ntmps67
  go_wp2_with fail
  go_loop [8] (fun i => i = .int .i64 ((0 : Nat) : Int)) (fun i => 2 - (intOf i).toNat)
  case atStart => rfl
  case round =>
    subst hrel
    go_wp2_with fail
    go_ret
    exact ⟨rfl, rfl⟩

/-- The shorter first, then by the first place that differs. -/
def cmpW (a b : List Nat) : Int := if a.length < b.length then -1 else if b.length < a.length then 1 else cmpL a b

set_option maxRecDepth 100000 in
theorem wordCmp_g (w : World) (A B : Option Addr) (n m c d : Nat) (a b : List Nat) (hA : Sl w A n ((ints a).map (Value.int .i64))) (hB : Sl w B m ((ints b).map (Value.int .i64))) (hn : n ≤ 9223372036854775807) (hm : m ≤ 9223372036854775807) :
    Calls Tryz.prog 36 #[.slice A n c, .slice B m d] w fun e w' => e = .returned (.int .i64 (cmpW a b)) ∧ Below w.heap.size w w' := by
  have hla : a.length = n := by simpa [ints] using hA.1
  have hlb : b.length = m := by simpa [ints] using hB.1
  by_cases he : n = m
  · subst he
    have e1 : cmpW a b = cmpL a b := by unfold cmpW; rw [if_neg (by omega), if_neg (by omega)]
    rw [e1]
    exact wordCmp_c w A B n c d a b hA hB hn
  · obtain ⟨x, hx⟩ : ∃ x, cmpW a b = x := ⟨_, rfl⟩
    have hx2 : (if n < m then (-1 : Int) else if m < n then 1 else 0) = x := by
      rw [← hx]
      unfold cmpW
      rw [hla, hlb]
      by_cases h1 : n < m
      · rw [if_pos h1, if_pos h1]
      · rw [if_neg h1, if_neg h1, if_pos (by omega), if_pos (by omega)]
    have hx0 : (x != 0) = true := by
      rw [← hx2]
      by_cases h1 : n < m
      · rw [if_pos h1]; rfl
      · rw [if_neg h1, if_pos (by omega)]; rfl
    have h1 := cmpI_c w n m
    rw [hx2] at h1
    rw [hx]
    have H1 := Lib.hid h1
    have H2 := Lib.hid (cmpS_any w A B n m c d a b hA hB hn hm)
    have H3 := Lib.hid (fun (y : Int) => or_first (w.alloc (.cells #[.int .i64 x, .int .i64 y] 3)) w.heap.size x ((cell_of_row _ w.heap.size 0 _ _ _ (heap_new w (.cells #[.int .i64 x, .int .i64 y] 3))).trans rfl) hx0)
    have HB := Lib.hid (fun (y : Int) => (Below.refl w.heap.size w).alloc (Nat.le_refl _) (.cells #[.int .i64 x, .int .i64 y] 3))
    clear h1 hx hx2 hx0 hA hB hla hlb he
    go_enter Tryz.func36, Tryz.ntmps36
    go_wp2_with fail
    refine (H1.out).mono ?_
    rintro e w1 ⟨rfl, rfl⟩
    go_wp2_with fail
    refine (H2.out).mono ?_
    rintro e w1 ⟨⟨y, rfl⟩, rfl⟩
    go_wp2_with fail
    refine (H3.out y).mono ?_
    rintro e w1 ⟨rfl, rfl⟩
    go_wp2_with fail
    go_ret
    exact ⟨rfl, HB.out y⟩
end Go.Proofs.YthilnpfpllplaaaGreatDoor

namespace Go.Proofs.YthilnpfpllplaaaGreatDoor
open Go.RowKit BagP RuleP SubP

theorem take_next {α : Type} {L : List α} {j : Nat} {l : α} (h : L[j]? = some l) : L.take (j + 1) = L.take j ++ [l] := by rw [List.take_add_one, h]; rfl
theorem take_ne {α : Type} {L M : List α} {j : Nat} {l m : α} (h1 : L[j]? = some l) (h2 : M[j]? = some m) (h : l ≠ m) : L ≠ M := fun e => by
  rw [e, h2] at h1
  exact h (Option.some.inj h1).symm

set_option maxRecDepth 100000 in
set_option maxHeartbeats 1000000 in
theorem equalFunc_c (w : World) (F : FuncId) (k : Nat) (he : ∀ (v u : Value) (wz : World), (callFunc F #[v, u]).run Tryz.prog wz = .ok (.enter F #[v, u]) wz)
    (hf : ∀ (wz : World) (P1 P2 : Option Addr) (c1 c2 : Nat) (xs ys : List Int), Sl wz P1 k (xs.map (Value.int .i64)) → Sl wz P2 k (ys.map (Value.int .i64)) →
      Calls Tryz.prog F #[.slice P1 k c1, .slice P2 k c2] wz fun e w' => e = .returned (.bool (decide (xs = ys))) ∧ Below wz.heap.size wz w')
    (A B : Option Addr) (n m c d : Nat) (L M : List (List Int)) (hA : ListAt w A n L) (hB : ListAt w B m M) (hkL : ∀ l ∈ L, l.length = k) (hkM : ∀ l ∈ M, l.length = k) (hn : n ≤ 4096) (hm : m ≤ 4096) :
    Calls Tryz.prog 52 #[.slice A n c, .slice B m d, .func (.func F) #[] #[]] w fun e w' => e = .returned (.bool (decide (L = M))) ∧ Below w.heap.size w w' := by
  have hln : n = L.length := by obtain ⟨_, _, h, _⟩ := hA; exact h
  have hlm : m = M.length := by obtain ⟨_, _, h, _⟩ := hB; exact h
  have HA := Lib.hid hA
  have HB := Lib.hid hB
  have HE := Lib.hid he
  have HF := Lib.hid hf
  have HK := Lib.hid (⟨hkL, hkM⟩ : _ ∧ _)
  have HL := Lib.hid (⟨hln, hlm⟩ : _ ∧ _)
  clear hA hB hf hkL hkM hln hlm
  by_cases hnm : n = m
  · subst hnm
    have hne : ((n : Int) != (n : Int)) = false := by simp
    go_enter Tryz.func52, Tryz.ntmps52
    go_wp2_with fail
    go_loopw [17] (fun iv wr => ∃ j : Nat, j ≤ n ∧ iv = .int .i64 (j : Int) ∧ Hid (L.take j = M.take j) ∧ Hid (Below w.heap.size w wr)) (fun iv _ => n - (intOf iv).toNat)
    case atStart => exact ⟨0, Nat.zero_le _, rfl, Lib.hid rfl, Lib.hid (Below.refl _ _)⟩
    case round =>
      obtain ⟨j, hj, rfl, htk, hb⟩ := hrel
      by_cases hlt : j < n
      · have hlt' : (j : Int) < (n : Int) := by omega
        have hj0 : (0 : Int) ≤ (j : Int) := by omega
        obtain ⟨ad, l, P, pc, rfl, hl, hc, _, hs⟩ := (HA.out.keep hb.out).at_ hlt
        obtain ⟨ad2, l2, P2, pc2, rfl, hl2, hc2, _, hs2⟩ := (HB.out.keep hb.out).at_ hlt
        have e1 := HK.out.1 l (List.mem_of_getElem? hl)
        have e2 := HK.out.2 l2 (List.mem_of_getElem? hl2)
        rw [e1] at hc hs
        rw [e2] at hc2 hs2
        have hcall := HF.out wr P P2 pc pc2 l l2 hs hs2
        by_cases hll : l = l2
        · rw [decide_eq_true hll] at hcall
          have HC := Lib.hid hcall
          have HT := Lib.hid (show L.take (j + 1) = M.take (j + 1) by rw [take_next hl, take_next hl2, htk.out, hll])
          clear hcall hll hs hs2 hl hl2 e1 e2
          go_wp2_with fail
          refine (HC.out).mono ?_
          rintro e w2 ⟨rfl, hb2⟩
          have HB2 := Lib.hid (hb.out.trans (hb2.mono hb.out.size))
          clear hb2
          go_wp2_with fail
          exact ⟨⟨j + 1, by omega, by go_num, HT, HB2⟩, by simp [intOf]; omega⟩
        · rw [decide_eq_false hll] at hcall
          have HC := Lib.hid hcall
          have HT := Lib.hid (take_ne hl hl2 hll)
          clear hcall hll hs hs2 hl hl2 e1 e2
          go_wp2_with fail
          refine (HC.out).mono ?_
          rintro e w2 ⟨rfl, hb2⟩
          have HB2 := Lib.hid (hb.out.trans (hb2.mono hb.out.size))
          clear hb2
          go_wp2_with fail
          go_ret
          exact ⟨by rw [decide_eq_false HT.out]; rfl, HB2.out⟩
      · obtain rfl : j = n := by omega
        have hlt' : ¬ (j : Int) < (j : Int) := by omega
        have HT := Lib.hid (show L = M by
          have h := htk.out
          rwa [List.take_of_length_le (by rw [← HL.out.1]; exact Nat.le_refl _), List.take_of_length_le (by rw [← HL.out.2]; exact Nat.le_refl _)] at h)
        go_wp2_with fail
        go_ret
        exact ⟨by rw [decide_eq_true HT.out]; rfl, hb.out⟩
  · have hne : ((n : Int) != (m : Int)) = true := by simp; omega
    have HT := Lib.hid (show L ≠ M from fun e => hnm (by rw [HL.out.1, HL.out.2, e]))
    clear hnm
    go_enter Tryz.func52, Tryz.ntmps52
    go_wp2_with fail
    go_ret
    exact ⟨by rw [decide_eq_false HT.out]; rfl, Below.refl _ _⟩

set_option maxRecDepth 100000 in
set_option maxHeartbeats 1000000 in
theorem lists_u (w : World) (A B : Option Addr) (n m c d : Nat) (L M : List (List Int)) (hA : ListAt w A n L) (hB : ListAt w B m M) (hn : n ≤ 9223372036854775807) (hm : m ≤ 9223372036854775807) :
    Calls Tryz.prog 50 #[.slice A n c, .slice B m d] w fun e w' => e = .returned (.bool (decide (L = M))) ∧ Below w.heap.size w w' := by
  have hln : n = L.length := by obtain ⟨_, _, h, _⟩ := hA; exact h
  have hlm : m = M.length := by obtain ⟨_, _, h, _⟩ := hB; exact h
  have HA := Lib.hid hA
  have HB := Lib.hid hB
  have HL := Lib.hid (⟨hln, hlm⟩ : _ ∧ _)
  clear hA hB hln hlm
  by_cases hnm : n = m
  · subst hnm
    have hnn : ((n : Int) != (n : Int)) = false := by simp
    go_enter Tryz.func50, Tryz.ntmps50
    go_wp2_with fail
    go_loopw [5] (fun iv wr => ∃ j : Nat, j ≤ n ∧ iv = .int .i64 (j : Int) ∧ Hid (L.take j = M.take j) ∧ Hid (Below w.heap.size w wr)) (fun iv _ => n - (intOf iv).toNat)
    case atStart => exact ⟨0, Nat.zero_le _, rfl, Lib.hid rfl, Lib.hid (Below.refl _ _)⟩
    case round =>
      obtain ⟨j, hj, rfl, htk, hb⟩ := hrel
      by_cases hlt : j < n
      · obtain ⟨ad, l, P, pc, rfl, hl, hc, hll, hs⟩ := (HA.out.keep hb.out).at_ hlt
        obtain ⟨ad2, l2, P2, pc2, rfl, hl2, hc2, hll2, hs2⟩ := (HB.out.keep hb.out).at_ hlt
        have hi := ints_b wr.drew P P2 l.length l2.length pc pc2 l l2 hs hs2 hll hll2
        by_cases hle : l = l2
        · rw [decide_eq_true hle] at hi
          have HI := Lib.hid hi
          have HT := Lib.hid (show L.take (j + 1) = M.take (j + 1) by rw [take_next hl, take_next hl2, htk.out, hle])
          obtain ⟨nl, hnl⟩ : ∃ nl, l.length = nl := ⟨_, rfl⟩
          obtain ⟨nl2, hnl2⟩ : ∃ nl2, l2.length = nl2 := ⟨_, rfl⟩
          rw [hnl, hnl2] at HI
          rw [hnl] at hc
          rw [hnl2] at hc2
          clear hi hl hl2 hs hs2 hll hll2 hnl hnl2 hle
          go_wp2_with fail
          go_region_held3 (fun w' => w'.cell? (ad.add j) = some (.slice P nl pc) ∧ w'.cell? (ad2.add j) = some (.slice P2 nl2 pc2))
            (first | (refine ⟨?_, ?_⟩ <;> assumption) | go_keep)
            (first
              | (go_at_call 26
                 refine (HI.out).mono ?_
                 rintro e w2 ⟨rfl, hb2⟩
                 have x0 := cell_later hb2 hc
                 have x1 := cell_later hb2 hc2))
          have HB2 := Lib.hid (hb.out.trans ((Below.refl wr.heap.size wr).drew.trans hb2 |>.mono hb.out.size))
          clear hb2 x0 x1 hc hc2 hb
          go_wp2_with fail
          exact ⟨⟨j + 1, by omega, by go_num, HT, HB2⟩, by simp [intOf]; omega⟩
        · rw [decide_eq_false hle] at hi
          have HI := Lib.hid hi
          have HT := Lib.hid (take_ne hl hl2 hle)
          obtain ⟨nl, hnl⟩ : ∃ nl, l.length = nl := ⟨_, rfl⟩
          obtain ⟨nl2, hnl2⟩ : ∃ nl2, l2.length = nl2 := ⟨_, rfl⟩
          rw [hnl, hnl2] at HI
          rw [hnl] at hc
          rw [hnl2] at hc2
          clear hi hl hl2 hs hs2 hll hll2 hnl hnl2 hle
          go_wp2_with fail
          go_region_held3 (fun w' => w'.cell? (ad.add j) = some (.slice P nl pc) ∧ w'.cell? (ad2.add j) = some (.slice P2 nl2 pc2))
            (first | (refine ⟨?_, ?_⟩ <;> assumption) | go_keep)
            (first
              | (go_at_call 26
                 refine (HI.out).mono ?_
                 rintro e w2 ⟨rfl, hb2⟩
                 have x0 := cell_later hb2 hc
                 have x1 := cell_later hb2 hc2))
          have HB2 := Lib.hid (hb.out.trans ((Below.refl wr.heap.size wr).drew.trans hb2 |>.mono hb.out.size))
          clear hb2 x0 x1 hc hc2 hb
          go_wp2_with fail
          go_ret
          exact ⟨by rw [decide_eq_false HT.out]; rfl, HB2.out⟩
      · obtain rfl : j = n := by omega
        have HT := Lib.hid (show L = M by
          have h := htk.out
          rwa [List.take_of_length_le (by rw [← HL.out.1]; exact Nat.le_refl _), List.take_of_length_le (by rw [← HL.out.2]; exact Nat.le_refl _)] at h)
        go_wp2_with fail
        go_ret
        exact ⟨by rw [decide_eq_true HT.out]; rfl, hb.out⟩
  · have hne : ((n : Int) != (m : Int)) = true := by simp; omega
    have HT := Lib.hid (show L ≠ M from fun e => hnm (by rw [HL.out.1, HL.out.2, e]))
    clear hnm
    go_enter Tryz.func50, Tryz.ntmps50
    go_wp2_with fail
    go_ret
    exact ⟨by rw [decide_eq_false HT.out]; rfl, Below.refl _ _⟩

theorem autos_k (w : World) (K : Int) (A B : Option Addr) (n m c d : Nat) (L M : List (List Int)) (hA : ListAt w A n L) (hB : ListAt w B m M) (hn : n ≤ 9223372036854775807) (hm : m ≤ 9223372036854775807) :
    Calls Tryz.prog 22 #[autoV K (.slice A n c), autoV K (.slice B m d)] w fun e w' => e = .returned (.bool (decide (L = M))) ∧ Below w.heap.size w w' := by
  have hb1 := (Below.refl w.heap.size w).alloc (Nat.le_refl _) (.cells #[.int .i64 K, .slice A n c] 50)
  have hb2 := hb1.alloc (by simp) (.cells #[.int .i64 K, .slice B m d] 50)
  obtain ⟨w2, hw2⟩ : ∃ w2, (w.alloc (.cells #[.int .i64 K, .slice A n c] 50)).alloc (.cells #[.int .i64 K, .slice B m d] 50) = w2 := ⟨_, rfl⟩
  have ha1 : AutoAt (w.alloc (.cells #[.int .i64 K, .slice A n c] 50)) w.heap.size (.int .i64 K) (.slice A n c) := heap_new w (.cells #[.int .i64 K, .slice A n c] 50)
  have ha2 : AutoAt w2 w.heap.size (.int .i64 K) (.slice A n c) := by
    rw [← hw2]
    exact ha1.below ((Below.refl _ _).alloc (Nat.le_refl _) _) (by simp)
  have hb2' : AutoAt w2 (w.heap.size + 1) (.int .i64 K) (.slice B m d) := by
    rw [← hw2]
    have := heap_new (w.alloc (.cells #[.int .i64 K, .slice A n c] 50)) (.cells #[.int .i64 K, .slice B m d] 50)
    unfold AutoAt
    simpa using this
  rw [hw2] at hb2
  obtain ⟨x0, x1, _, _⟩ := ha2.facts
  obtain ⟨y0, y1, _, _⟩ := hb2'.facts
  obtain ⟨bb, hbb⟩ : ∃ bb, decide (L = M) = bb := ⟨_, rfl⟩
  have hls := lists_u w2 A B n m c d L M (hA.keep hb2) (hB.keep hb2) hn hm
  rw [hbb] at hls
  rw [hbb]
  have HLS := Lib.hid hls
  have HB := Lib.hid hb2
  have HW := Lib.hid hw2
  have hkk : (K == K) = true := by simp
  clear hb1 hb2 ha1 ha2 hb2' hA hB hw2 hls hbb
  unfold autoV
  go_enter Tryz.func22, Tryz.ntmps22
  go_wp2_with fail
  rw [HW.out]
  refine (HLS.out).mono ?_
  rintro e w3 ⟨rfl, hb3⟩
  go_wp2_with fail
  go_ret
  exact ⟨rfl, HB.out.trans (hb3.mono HB.out.size)⟩

theorem same1_c (w : World) (P1 P2 : Option Addr) (k c1 c2 : Nat) (xs ys : List Int) (h1 : Sl w P1 k (xs.map (Value.int .i64))) (h2 : Sl w P2 k (ys.map (Value.int .i64))) (hk : k ≤ 9223372036854775807) :
    Calls Tryz.prog 53 #[.slice P1 k c1, .slice P2 k c2] w fun e w' => e = .returned (.bool (decide (xs = ys))) ∧ Below w.heap.size w w' := by
  obtain ⟨bb, hbb⟩ : ∃ bb, decide (xs = ys) = bb := ⟨_, rfl⟩
  have h := equalQ_c w P1 P2 k c1 c2 xs ys h1 h2 hk
  rw [hbb] at h
  rw [hbb]
  have H := Lib.hid h
  clear h h1 h2 hbb
  go_enter Tryz.func53, Tryz.ntmps53
  go_wp2_with fail
  refine (H.out).mono ?_
  rintro e w2 ⟨rfl, q, rfl⟩
  go_wp2_with fail
  go_ret
  exact ⟨rfl, pure_drewN _ _⟩

/-- What image.Same answers. -/
noncomputable def sameF (K R : Int) (T : List Int) (K2 R2 : Int) (T2 : List Int) : Bool × Option Tale :=
  match (ofF 0 K R T).2.2 with
  | some tl => (false, some tl)
  | none => match (ofF 1 K2 R2 T2).2.2 with
    | some tl => (false, some tl)
    | none => (decide (K = K2 ∧ (ofF 0 K R T).2.1 = (ofF 1 K2 R2 T2).2.1), none)
theorem sameF_bad {K R : Int} {T : List Int} {K2 R2 : Int} {T2 : List Int} {tl : Tale} {kk : Int} {L : List (List Int)} (h : ofF 0 K R T = (kk, L, some tl)) : sameF K R T K2 R2 T2 = (false, some tl) := by unfold sameF; rw [h]
theorem sameF_bad2 {K R : Int} {T : List Int} {K2 R2 : Int} {T2 : List Int} {tl : Tale} {kk k2 : Int} {L L2 : List (List Int)} (h : ofF 0 K R T = (kk, L, none)) (h2 : ofF 1 K2 R2 T2 = (k2, L2, some tl)) : sameF K R T K2 R2 T2 = (false, some tl) := by unfold sameF; rw [h, h2]
theorem sameF_good {K R : Int} {T : List Int} {K2 R2 : Int} {T2 : List Int} {kk k2 : Int} {L L2 : List (List Int)} (h : ofF 0 K R T = (kk, L, none)) (h2 : ofF 1 K2 R2 T2 = (k2, L2, none)) : sameF K R T K2 R2 T2 = (decide (K = K2 ∧ L = L2), none) := by unfold sameF; rw [h, h2]
end Go.Proofs.YthilnpfpllplaaaGreatDoor

namespace Go.Proofs.YthilnpfpllplaaaGreatDoor
open Go.RowKit BagP RuleP SubP

theorem ofF_len {at' K R : Int} {T : List Int} : (ofF at' K R T).2.1.length ≤ 4096 ∧ ∀ k : Nat, K = (k : Int) → ∀ l ∈ (ofF at' K R T).2.1, l.length = k := by
  rcases walkF_cases K R T with ⟨tl, h⟩ | ⟨k, r, t, S, rfl, rfl, rfl, hr, hl, h⟩ | ⟨k, r, t, rfl, rfl, rfl, hr, hl, h⟩
  · rw [ofF_bad (walkF_bad h)]
    exact ⟨Nat.zero_le _, fun _ _ l hl => by simp at hl⟩
  · rw [ofF_good hr hl h]
    have hN : 0 < k ^ (2 * r) := Nat.pow_pos hr.k1
    have hA := (fin_rows hN h).auto
    have h1 := least_le hA
    have h2 := (fin_ok hN h).2
    have h3 := (fin_inv hN h).2.1
    refine ⟨by show (leastA k S.next).length ≤ 4096; omega, fun k' hk l hl => ?_⟩
    obtain rfl : k = k' := Int.ofNat.inj hk
    exact (least_auto hA).len l hl
  · have hb : walkF (k : Int) (r : Int) (ints t) = (0, [], [], some (4, [(sSubset, 0)])) := by rw [walkF_good hr hl h]
    rw [ofF_bad hb]
    exact ⟨Nat.zero_le _, fun _ _ l hl => by simp at hl⟩
theorem ofF_kk {at' K R : Int} {T : List Int} {kk : Int} {L : List (List Int)} (h : ofF at' K R T = (kk, L, none)) : kk = K ∧ ∃ k : Nat, K = (k : Int) ∧ k ≤ 4 := by
  rcases ofF_cases at' K R T with ⟨tl, h'⟩ | ⟨k, r, t, S, rfl, rfl, rfl, hr, hl, hS, h', hau⟩
  · rw [h'] at h
    cases (Prod.mk.inj (Prod.mk.inj h).2).2
  · rw [h'] at h
    exact ⟨(Prod.mk.inj h).1.symm, k, rfl, hr.k4⟩

set_option maxRecDepth 100000 in
set_option maxHeartbeats 2000000 in
theorem same_u (w : World) (E : Nat → Addr) (hE : Errs w E) (hEt : ErrT w) (hA : Apart12 E) (hB : ErrBlk w E) (K R : Int) (A : Option Addr) (n c : Nat) (T : List Int) (hT : Sl w A n (T.map (Value.int .i64))) (hm : n ≤ 9223372036854775807)
    (K2 R2 : Int) (B : Option Addr) (m d : Nat) (T2 : List Int) (hT2 : Sl w B m (T2.map (Value.int .i64))) (hm2 : m ≤ 9223372036854775807) :
    Calls Tryz.prog 27 #[ruleV K R A n c, ruleV K2 R2 B m d] w fun e w' => ∃ v, e = .returned (.tuple #[.bool (sameF K R T K2 R2 T2).1, v]) ∧ ErrV w' E (sameF K R T K2 R2 T2).2 v ∧ Below w.heap.size w w' := by
  have hb0 := ((Below.refl w.heap.size w).alloc (Nat.le_refl _) (.cells #[.int .i64 K, .int .i64 R, .slice A n c] 24)).alloc (by simp) (.cells #[.int .i64 K2, .int .i64 R2, .slice B m d] 24)
  have hr2 := RuleAt.new (w.alloc (.cells #[.int .i64 K, .int .i64 R, .slice A n c] 24)) (.int .i64 K2) (.int .i64 R2) (.slice B m d)
  rw [World.size_alloc] at hr2
  obtain ⟨w0, hw0⟩ : ∃ w0, (w.alloc (.cells #[.int .i64 K, .int .i64 R, .slice A n c] 24)).alloc (.cells #[.int .i64 K2, .int .i64 R2, .slice B m d] 24) = w0 := ⟨_, rfl⟩
  rw [hw0] at hb0 hr2
  have HER := Lib.hid (fun (wz : World) (hz : Below w.heap.size w wz) => (⟨hE.below hz, hEt.below hz, hB.below hz⟩ : _ ∧ _ ∧ _))
  have HT2 := Lib.hid (fun (wz : World) (hz : Below w.heap.size w wz) => hT2.below hz)
  have hof := of_u w0 E (hE.below hb0) (hEt.below hb0) hA (hB.below hb0) 0 K R A n c T (hT.below hb0) hm
  obtain ⟨o, ho⟩ : ∃ o, ofF 0 K R T = o := ⟨_, rfl⟩
  obtain ⟨kk, L, tt⟩ := o
  obtain ⟨o2, ho2⟩ : ∃ o, ofF 1 K2 R2 T2 = o := ⟨_, rfl⟩
  obtain ⟨kk2, L2, tt2⟩ := o2
  obtain ⟨o3, ho3⟩ : ∃ o, sameF K R T K2 R2 T2 = o := ⟨_, rfl⟩
  obtain ⟨bb, tb⟩ := o3
  have hle := ofF_len (at' := 0) (K := K) (R := R) (T := T)
  have hle2 := ofF_len (at' := 1) (K := K2) (R := R2) (T := T2)
  rw [ho] at hof hle
  rw [ho2] at hle2
  rw [ho3]
  dsimp only at hof hle hle2
  dsimp only
  obtain ⟨l1, hl1⟩ : ∃ l1, L.length = l1 := ⟨_, rfl⟩
  obtain ⟨l2, hl2⟩ : ∃ l2, L2.length = l2 := ⟨_, rfl⟩
  rw [hl1] at hof hle
  rw [hl2] at hle2
  unfold ruleV autoV at hof
  have HOF := Lib.hid hof
  have HO := Lib.hid (⟨ho, ho2, ho3⟩ : _ ∧ _ ∧ _)
  have HLE := Lib.hid (⟨hle, hle2⟩ : _ ∧ _)
  have HL := Lib.hid (⟨hl1, hl2⟩ : _ ∧ _)
  have HW0 := Lib.hid hw0
  have HB0 := Lib.hid hb0
  have HR2 := Lib.hid hr2
  clear hof ho ho2 ho3 hle hle2 hl1 hl2 hw0 hb0 hr2 hE hEt hB hT hT2
  unfold ruleV
  go_enter Tryz.func27, Tryz.ntmps27
  go_wp2_with fail
  rw [HW0.out]
  refine (HOF.out).mono ?_
  rintro e w1 ⟨C, cc, rows, v, rfl, hR, hv, hb1⟩
  have hb12 := (Below.refl w1.heap.size w1).alloc (Nat.le_refl _) (.cells #[.int .i64 kk, .slice C l1 cc] 50)
  have ha2 := heap_new w1 (.cells #[.int .i64 kk, .slice C l1 cc] 50)
  obtain ⟨w2, hw2⟩ : ∃ w2, w1.alloc (.cells #[.int .i64 kk, .slice C l1 cc] 50) = w2 := ⟨_, rfl⟩
  rw [hw2] at hb12 ha2
  have ha2 : AutoAt w2 w1.heap.size (.int .i64 kk) (.slice C l1 cc) := ha2
  have hl12 : w1.heap.size < w2.heap.size := by rw [← hw2]; simp
  have hb2 := HB0.out.trans ((hb1.trans (hb12.mono hb1.size)).mono HB0.out.size)
  have HW2 := Lib.hid hw2
  have HB2 := Lib.hid hb2
  have HV2 := Lib.hid (hv.below hb12)
  clear HOF hw2
  cases tt with
  | some tl =>
    obtain ⟨rfl, rfl⟩ : bb = false ∧ tb = some tl := by
      have h := HO.out.2.2
      rw [sameF_bad HO.out.1] at h
      exact ⟨(Prod.mk.inj h).1.symm, (Prod.mk.inj h).2.symm⟩
    have hv3 : ErrIs w1 E tl.1 tl.2 v := hv
    obtain ⟨u, p, rfl⟩ := hv3.iface
    clear hv3 hv hb12 hb1 hR hb2 ha2
    go_wp2_with fail
    rw [HW2.out]
    go_ret2
    exact ⟨_, rfl, HV2.out, HB2.out⟩
  | none =>
    obtain rfl : v = .nilIface := hv
    have hli : ListAt w2 C l1 L := by
      have h1 : RowsAt w1 w0.heap.size (.slice C L.length cc) rows L (fun _ => False) := by rw [HL.out.1]; exact hR
      have h2 := h1.list.keep hb12
      rwa [HL.out.1] at h2
    have HLI := Lib.hid hli
    have HA2 := Lib.hid ha2
    have hof := of_u w2 E (HER.out _ hb2).1 (HER.out _ hb2).2.1 hA (HER.out _ hb2).2.2 1 K2 R2 B m d T2 (HT2.out _ hb2) hm2
    rw [HO.out.2.1] at hof
    dsimp only at hof
    rw [HL.out.2] at hof
    unfold ruleV autoV at hof
    have HOF := Lib.hid hof
    have hr1 := HR2.out.below hb1 HR2.out.lt
    obtain ⟨r0, r1, r2, _⟩ := hr1.facts
    have r3 := hr1.lt
    clear hof hli ha2 hR hb12 hb1 hb2 hr1 HV2
    go_wp2_with fail
    rw [HW2.out]
    refine (HOF.out).mono ?_
    rintro e w3 ⟨C3, c3, rows3, v3, rfl, hR3, hv3, hb3⟩
    have hb34 := (Below.refl w3.heap.size w3).alloc (Nat.le_refl _) (.cells #[.int .i64 kk2, .slice C3 l2 c3] 50)
    have ha4 := heap_new w3 (.cells #[.int .i64 kk2, .slice C3 l2 c3] 50)
    obtain ⟨w4, hw4⟩ : ∃ w4, w3.alloc (.cells #[.int .i64 kk2, .slice C3 l2 c3] 50) = w4 := ⟨_, rfl⟩
    rw [hw4] at hb34 ha4
    have ha4 : AutoAt w4 w3.heap.size (.int .i64 kk2) (.slice C3 l2 c3) := ha4
    have hl34 : w3.heap.size < w4.heap.size := by rw [← hw4]; simp
    have z24 := pure_trans hb3 hb34
    have HW4 := Lib.hid hw4
    have HB4 := Lib.hid (HB2.out.trans (z24.mono HB2.out.size))
    have HV4 := Lib.hid (hv3.below hb34)
    clear HOF hw4 r0 r1 r2 r3
    cases tt2 with
    | some tl =>
      obtain ⟨rfl, rfl⟩ : bb = false ∧ tb = some tl := by
        have h := HO.out.2.2
        rw [sameF_bad2 HO.out.1 HO.out.2.1] at h
        exact ⟨(Prod.mk.inj h).1.symm, (Prod.mk.inj h).2.symm⟩
      have hvv : ErrIs w3 E tl.1 tl.2 v3 := hv3
      obtain ⟨u, p, rfl⟩ := hvv.iface
      clear hvv hv3 hb34 hb3 hR3 ha4 z24
      go_wp2_with fail
      rw [HW4.out]
      go_ret2
      exact ⟨_, rfl, HV4.out, HB4.out⟩
    | none =>
      obtain rfl : v3 = .nilIface := hv3
      obtain ⟨e1, k, hk, hk4⟩ := ofF_kk HO.out.1
      obtain ⟨e2, k2, hk2, _⟩ := ofF_kk HO.out.2.1
      subst e1 e2
      have hbt : bb = decide (kk = kk2 ∧ L = L2) ∧ tb = none := by
        have h := HO.out.2.2
        rw [sameF_good HO.out.1 HO.out.2.1] at h
        exact ⟨(Prod.mk.inj h).1.symm, (Prod.mk.inj h).2.symm⟩
      obtain ⟨hbb, rfl⟩ := hbt
      have hli4 : ListAt w4 C3 l2 L2 := by
        have h1 : RowsAt w3 w2.heap.size (.slice C3 L2.length c3) rows3 L2 (fun _ => False) := by rw [HL.out.2]; exact hR3
        have h2 := h1.list.keep hb34
        rwa [HL.out.2] at h2
      obtain ⟨a0, a1, _, _⟩ := (HA2.out.below z24 hl12).facts
      obtain ⟨x0, x1, _, _⟩ := ha4.facts
      obtain ⟨y0, y1, _, _⟩ := (HA2.out.below hb3 hl12).facts
      have y3 : w1.heap.size < w3.heap.size := Nat.lt_of_lt_of_le hl12 hb3.size
      by_cases hkk : kk = kk2
      · subst hkk
        have hef := equalFunc_c w4 53 k (fun _ _ _ => rfl) (fun wz P1 P2 c1 c2 xs ys h1 h2 => same1_c wz P1 P2 k c1 c2 xs ys h1 h2 (by omega)) C C3 l1 l2 cc c3 L L2 (HLI.out.keep z24) hli4 (HLE.out.1.2 k hk) (HLE.out.2.2 k hk) HLE.out.1.1 HLE.out.2.1
        have hbd : decide (L = L2) = bb := by rw [hbb]; simp
        rw [hbd] at hef
        have HEF := Lib.hid hef
        have hkeq : (kk == kk) = true := by simp
        clear hef hbd hbb hk hk2 hli4 ha4 hR3 hb34 hb3 z24 HV4
        go_wp2_with fail
        rw [HW4.out]
        refine (HEF.out).mono ?_
        rintro e w5 ⟨rfl, hb5⟩
        go_wp2_with fail
        go_ret2
        exact ⟨_, rfl, rfl, HB4.out.trans (hb5.mono HB4.out.size)⟩
      · have hkeq : (kk == kk2) = false := by simpa using hkk
        obtain rfl : bb = false := by rw [hbb]; exact decide_eq_false (fun h => hkk h.1)
        have hkk' : ¬ kk = kk2 := hkk
        clear hbb hk hk2 hli4 ha4 hR3 hb34 hb3 z24 HV4 hkk
        go_wp2_with fail
        rw [HW4.out]
        go_ret2
        exact ⟨_, rfl, rfl, HB4.out⟩
end Go.Proofs.YthilnpfpllplaaaGreatDoor

namespace Go.Proofs.YthilnpfpllplaaaGreatDoor
namespace RuleP

theorem narrow_back {k : Nat} : ∀ {r : Nat} {t : List Nat}, IsRule k r t → ∃ d, (narrow k r t).1 + d = r ∧ wide k (narrow k r t).1 d (narrow k r t).2 = t
  | 0, t, h => ⟨0, rfl, wide_zero h⟩
  | r + 1, t, h => by
    by_cases hw : wide k r 1 (inn k r t) = t
    · have e : narrow k (r + 1) t = narrow k r (inn k r t) := by rw [narrow, if_pos hw]
      rw [e]
      obtain ⟨d, h1, h2⟩ := narrow_back (inn_rule h)
      have h3 := h.r3
      refine ⟨d + 1, by omega, ?_⟩
      have h4 := wide_one (d := d) (narrow_rule (inn_rule h))
      rw [h2, h1, hw] at h4
      exact h4.symm
    · have e : narrow k (r + 1) t = (r + 1, t) := by rw [narrow, if_neg hw]
      rw [e]
      exact ⟨0, rfl, wide_zero h⟩
end RuleP
end Go.Proofs.YthilnpfpllplaaaGreatDoor
