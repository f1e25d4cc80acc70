/- The bag's methods as the statements use them, and the fixed answers: awake returns true. No condition. What the rows' listed error variables give a walk: each holds an error of its own. Condition: the row's list. What the cards of this seat share: the witness's world, and what the arguments' readings give. No condition. A rule handed as an argument, opened: its three cells. The reach of lists that came in: their capacity, in bytes. No condition. Cards of rows that list errors.errorType (a type's handle): the witness's world, and what the condition gives a walk. No condition. What the reading of BagPlays' script gives: its calls, each in four cells. No condition. -/
import Derived.Test.YtiobnnhjnkcafaaDoorRows
import Derived.LaidLaws
import Derived.LaidSub
import Derived.Test.YtiobnnhjnkcafaaDoorCards
import Derived.Test.YtiobnnhjnkcafaaDoorTie
import Derived.ProofKit
import Derived.OpenShut
import Derived.LaidMore
import Derived.SevenTiedAt
import Derived.Lib.SmallJoins
import Derived.SizedLaws
import Derived.LaidHandle
import Derived.Lay
import Derived.Deep.Slices
import Derived.Deep.Fields
import Derived.ChangeSame
import Derived.Test.YtiobnnhjnkcafaaDoorP1
import Derived.Test.YtiobnnhjnkcafaaDoorP2
import Derived.Test.YtiobnnhjnkcafaaDoorP3
import Derived.Test.YtiobnnhjnkcafaaDoorP10
import Derived.Test.YtiobnnhjnkcafaaDoorP11
namespace Go.Proofs.YtiobnnhjnkcafaaDoor
open Go.RowKit BagP

theorem own_lt {w : World} {base e n g : Nat} {v : Value} {xs : List Value} (h : w.ownsRow base e 1 v n xs) (hg : v.ownBlock = some g) : g < w.heap.size := (h.lt g hg).2
/-- A bag lies in blocks that are there. -/
theorem BagIs.restrict {w : World} {p : Value} {n : Nat} {S : List (List Nat)} {O : Nat → Prop} (h : BagIs w p n S O) : BagIs w p n S (fun k => O k ∧ k < w.heap.size) := by
  obtain ⟨bb, mb, sv, rows, D, hp, hb⟩ := h
  exact ⟨bb, mb, sv, rows, D, hp, { hb with
    row := fun i l hl => (let ⟨v, h1, h2, h3⟩ := hb.row i l hl; ⟨v, h1, h2, fun g hg => ⟨h3 g hg, own_lt h2 hg⟩⟩)
    fb := ⟨hb.fb, hb.ltb⟩
    fm := ⟨hb.fm, hb.map.lt⟩
    fs := fun g hg => ⟨hb.fs g hg, own_lt hb.own hg⟩ }⟩

theorem PutH {w : World} {p : Value} {n : Nat} {S S' : List (List Nat)} {H i : Nat} {f : Bool} {l : List Nat} (hB : BagIs w p n S (fun k => H ≤ k)) (hH : H ≤ w.heap.size) (A : Option Addr) (m c : Nat) (xs : List Int) (hm : m ≤ 140737488355328)
    (h : Sl w A m (xs.map (Value.int .i64))) (hx : ∀ x ∈ xs, 0 ≤ x ∧ x < (n : Int)) (hl : bitsOf n xs = l) (hroom : l ∈ S ∨ S.length < 4096) (hS : addS S l = S') (hi : S'.idxOf l = i) (hf : (!decide (l ∈ S)) = f) :
    Calls Tryd.prog 12 #[p, .slice A m c] w fun e w' => e = .returned (.tuple #[.int .i64 (i : Int), .bool f, .nilIface]) ∧ BagIs w' p n S' (fun k => H ≤ k) ∧ Below H w w' := by
  subst hl hS hi hf
  refine (Put_c hB A m c xs hm h hx hroom).mono ?_
  rintro e w' ⟨rfl, hB', hk⟩
  exact ⟨rfl, hB'.mono (fun k h => by rcases h with h | h <;> omega), hk.below hH (fun _ h => h)⟩

/-- The literal list in a new block. -/
theorem lit_sl (w : World) (l : List Int) (n : Nat) (hn : l.length = n) (hm : n ≤ maxLen) : Sl (w.alloc (.cells (l.map (Value.int .i64)).toArray 3)) (some ⟨w.heap.size, 0, none⟩) n (l.map (Value.int .i64)) := by
  have := World.ownsRow_lit (base := 0) (e := 3) (size := 1) w (l.map (Value.int .i64)).toArray n (Nat.zero_le _) hm (by simp [hn])
  exact Sl.of_own this

set_option maxRecDepth 100000 in
set_option maxHeartbeats 400000 in
theorem awake_c (w : World) : Calls Tryd.prog 4 #[] w fun e w' => e = .returned (.bool true) ∧ Below w.heap.size w w' := by
  have hbits1 : bitsOf 5 [3, 1] = [10] := by decide
  have hbits2 : bitsOf 5 [1, 3, 3] = [10] := by decide
  have H1 := Lib.hid hbits1
  have H2 := Lib.hid hbits2
  clear hbits1 hbits2
  go_enter Tryd.func4, Tryd.ntmps4
  go_wp2_with fail
  refine (newBag_c w 5 (by decide)).mono ?_
  rintro e w1 ⟨rfl, hB1, hb1⟩
  have hs1 := hb1.size
  go_wp2_with fail
  refine (PutH (H := w.heap.size) (hB1.below ((Below.refl _ _).alloc (Nat.le_refl _) _)) (by simp; omega) _ 2 _ [3, 1] (by decide) (lit_sl w1 [3, 1] 2 rfl (by decide)) (by decide) H1.out (.inr (by decide)) (S' := [[10]]) rfl (i := 0) rfl (f := true) rfl).mono ?_
  rintro e w2 ⟨rfl, hB2, hb2⟩
  have hs2 := hb2.size
  simp at hs2
  go_wp2_with fail
  refine (PutH (H := w.heap.size) (hB2.below ((Below.refl _ _).alloc (Nat.le_refl _) _)) (by simp; omega) _ 3 _ [1, 3, 3] (by decide) (lit_sl w2 [1, 3, 3] 3 rfl (by decide)) (by decide) H2.out (.inr (by decide)) (S' := [[10]]) (by decide) (i := 0) rfl (f := false) (by decide)).mono ?_
  rintro e w3 ⟨rfl, hB3, hb3⟩
  have hs3 := hb3.size
  simp at hs3
  go_wp2_with fail
  refine (Get_c hB3 0 [10] rfl).mono ?_
  rintro e w4 ⟨v, rfl, hv, hb4⟩
  have hget : getL 5 [10] = [1, 3] := by decide
  rw [hget] at hv
  clear hget
  obtain ⟨A, c, rfl, _, _⟩ := own_slice hv
  have hs4 := hb4.size
  go_wp2_with fail
  refine (ints_c _ A _ 2 2 c _ [1, 3] [1, 3] ((Sl.of_own hv).alloc _) (lit_sl w4 [1, 3] 2 rfl (by decide)) (by decide) (by decide)).mono ?_
  rintro e w5 ⟨rfl, q, rfl⟩
  go_wp2_with fail
  go_ret
  refine ⟨rfl, below_drewN ?_ q⟩
  have e1 : Below w.heap.size w w2 := (hb1.alloc hs1 _).trans hb2
  have e2 : Below w.heap.size w w3 := (e1.alloc (by omega) _).trans hb3
  have e3 : Below w.heap.size w w4 := e2.trans (hb4.mono (by omega))
  exact e3.alloc (by omega) _

end Go.Proofs.YtiobnnhjnkcafaaDoor

namespace Go.Proofs.YtiobnnhjnkcafaaDoor
open Go.RowKit Go.ChangeShapes

def mkSent (nm : String) (x : String × List UInt8) : String × DataW Unit := (x.1, .iface nm (.ptr (.agg [.lit (.string x.2)])))

theorem sents {P : Program} {nm : String} {W : World} {ti tp te ts : TypeId} {ms : Array (String × TypeId)} {f : Field}
    (hi : P.underlying ti = some (.interface ms)) (hrow : ∀ u, P.typeName? 3 u = some nm → u = tp)
    (hp : P.underlying tp = some (.pointer te)) (he : P.underlying te = some (.struct #[f])) (hft : f.type = ts) (hfo : f.offset = 0) (hs : P.underlying ts = some .string) (hc : P.cellsOf te = 1) (hcs : P.cellsOf ts = 1)
    (all : List MemPlace) (hrows : ∀ b off, MemPlace.cell b off ∈ all → (∃ c t, W.heap[b]? = some (.cells c t (0, 0))) ∧ ∀ u v, W.cell? ⟨b, off, none⟩ = some (.iface u v) → Value.okWide P W .any 0 u v) :
    ∀ (L : List (String × List UInt8)) (ps : List MemPlace), (∀ x ∈ L, ∀ g, P.globalNamed x.1 = some g → (P.globals[g]?).map (·.type) = some ti) → DataW.LaidVars P W (L.map (mkSent nm)) ps → ps.Nodup → (∀ x ∈ ps, x ∈ all) →
      ∃ adr : List Addr, adr.length = L.length ∧ adr.Nodup ∧ (∀ a ∈ adr, MemPlace.cell a.block a.off ∈ ps) ∧ ∀ (i : Nat) x a, L[i]? = some x → adr[i]? = some a → W.var? P x.1 = some #[.iface tp (.pointer (some a))] := by
  intro L
  induction L with
  | nil => intro ps _ _ _ _; exact ⟨[], rfl, List.nodup_nil, fun a h => by simp at h, fun i x a h => by simp at h⟩
  | cons y L ih =>
    intro ps hti h hnd hall
    obtain ⟨g, t, cs, fuel, p, q, hg, ht, hv, hd, hr, rfl⟩ := h
    have ht' := hti y (by simp) g hg
    rw [ht] at ht'
    obtain rfl := Option.some.inj ht'
    obtain ⟨l0⟩ := cs
    have ok0 : ∀ u v, l0 = [.iface u v] → Value.okWide P W .any 0 u v := fun u v e => by
      subst e
      exact (hrows g 0 (hall _ (by simp [MemPlace.row]))).2 u v (by simpa using World.var?_cell hg hv 0)
    obtain ⟨a0, s0, rfl, hc0, hs0, hz0, rfl⟩ := errorString_of_trod hi hrow hp he hft hfo hs hc hcs hd ok0
    obtain ⟨adr, h1, h2, h3, h4⟩ := ih q (fun x hx => hti x (by simp [hx])) hr ((List.nodup_append.1 hnd).2.1) (fun x hx => hall x (by simp [hx]))
    refine ⟨a0 :: adr, by simp [h1], List.nodup_cons.2 ⟨fun hm => ?_, h2⟩, ?_, ?_⟩
    · have := (List.nodup_append.1 hnd).2.2 (.cell a0.block a0.off) (by simp [MemPlace.row]) _ (h3 a0 hm)
      exact this rfl
    · intro a ha
      rcases List.mem_cons.1 ha with rfl | ha
      · simp [MemPlace.row]
      · have := h3 a ha
        simp [this]
    · intro i x a hx ha
      cases i with
      | zero =>
        simp at hx ha
        subst hx ha
        exact hv
      | succ i => exact h4 i x a (by simpa using hx) (by simpa using ha)

/-- The error variables' rows of a list. -/
def keepSent (x : String × DataW Unit) : Bool := match x.2 with
  | .iface _ (.ptr (.agg [.lit (.string _)])) => true
  | _ => false
def sentsOf (l : List (String × DataW Unit)) : List (String × List UInt8) := l.filterMap fun x => match x.2 with
  | .iface _ (.ptr (.agg [.lit (.string t)])) => some (x.1, t)
  | _ => none
def sentGlobals : List (Option Nat) := [some 0, some 1, some 2, some 3, some 4, some 5, some 6, some 7, some 8, some 9, some 10, some 11]
/-- The errors' addresses are twelve different ones. -/
def Apart12 (E : Nat → Addr) : Prop := ∀ i j, ((1 ≤ i ∧ i ≤ 11) ∨ i = 99) → ((1 ≤ j ∧ j ≤ 11) ∨ j = 99) → E i = E j → i = j

theorem star : "*" ++ "errors.errorString" = "*errors.errorString" := by decide
theorem rowErr (u : TypeId) (h : Tryd.prog.typeName? 3 u = some "*errors.errorString") : u = 148 :=
  typeName_ptr_named (nm := "errors.errorString") (by rw [star]; kernel_rfl) (by kernel_rfl) (by decide) u (by rw [star]; exact h)
theorem cellsErr : Tryd.prog.cellsOf 168 = 1 := by kernel_rfl
theorem cellsStr : Tryd.prog.cellsOf 9 = 1 := by kernel_rfl

/-- Each error's own memory. -/
def ErrBlk (W : World) (E : Nat → Addr) : Prop := ∀ n, ((1 ≤ n ∧ n ≤ 11) ∨ n = 99) → ∃ c t, W.heap[(E n).block]? = some (.cells c t (0, 0))
theorem ErrBlk.below {W W' : World} {E : Nat → Addr} (h : ErrBlk W E) (hb : Below W.heap.size W W') : ErrBlk W' E := fun n hn => by
  obtain ⟨c, t, hc⟩ := h n hn
  exact ⟨c, t, (hb.block _ (Array.getElem?_eq_some_iff.1 hc).1).trans hc⟩
/-- From a row's list: the error variables hold errors, twelve different ones. -/
theorem errs_of2 {W : World} (l : List (String × DataW Unit)) (h : laidMetH Tryd.prog l W)
    (hl : ((l.filter fun x => x.2.handleName?.isNone).filter keepSent) = (sentsOf l).map (mkSent "*errors.errorString"))
    (hg : (sentsOf l).map (fun x => Tryd.prog.globalNamed x.1) = sentGlobals)
    (ht : ((sentsOf l).all fun x => decide ((Tryd.prog.globalNamed x.1).bind (fun g => (Tryd.prog.globals[g]?).map (·.type)) = some 26)) = true) :
    ∃ E, Errs W E ∧ Apart12 E ∧ ErrBlk W E := by
  obtain ⟨ps, h1, h2, h3⟩ := (laidMetH_iff.1 h).1.filter keepSent
  rw [hl] at h1
  obtain ⟨adr, a1, a2, a3, a4⟩ := sents Tryd.underlying26 rowErr Tryd.underlying148 Tryd.underlying168 rfl rfl Tryd.underlying9 cellsErr cellsStr ps h3 (sentsOf l) ps (fun x hx g hxg => by
    have := List.all_eq_true.1 ht x hx
    rw [hxg] at this
    simpa using this) h1 h2 (fun x hx => hx)
  have hlen : (sentsOf l).length = 12 := by
    have := congrArg List.length hg
    simpa [sentGlobals] using this
  have cell : ∀ (i g : Nat), sentGlobals[i]? = some (some g) → ∃ a, adr[i]? = some a ∧ W.cell? ⟨g, 0, none⟩ = some (.iface 148 (.pointer (some a))) := by
    intro i g hi
    rw [← hg, List.getElem?_map] at hi
    cases hx : (sentsOf l)[i]? with
    | none => rw [hx] at hi; cases hi
    | some x =>
      rw [hx] at hi
      have hil : i < (sentsOf l).length := (List.getElem?_eq_some_iff.1 hx).1
      have ha : adr[i]? = some (adr[i]'(by omega)) := List.getElem?_eq_getElem (by omega)
      have hv := a4 i x _ hx ha
      refine ⟨_, ha, ?_⟩
      simpa using World.var?_cell (Option.some.inj hi) hv 0
  let ix : Nat → Nat := fun n => if n = 99 then 11 else n - 1
  have get : ∀ (n g : Nat), sentGlobals[ix n]? = some (some g) → W.cell? ⟨g, 0, none⟩ = some (.iface 148 (.pointer (some ((fun n => adr.getD (ix n) ⟨0, 0, none⟩) n)))) := by
    intro n g hi
    obtain ⟨a, ha, hc⟩ := cell _ _ hi
    simp only [List.getD_eq_getElem?_getD, ha, Option.getD_some]
    exact hc
  refine ⟨fun n => adr.getD (ix n) ⟨0, 0, none⟩, ⟨get 1 _ rfl, get 2 _ rfl, get 3 _ rfl, get 4 _ rfl, get 5 _ rfl, get 6 _ rfl, get 7 _ rfl, get 8 _ rfl, get 9 _ rfl, get 10 _ rfl, get 11 _ rfl, get 99 _ rfl⟩, ?_⟩
  have bound : ∀ n, ((1 ≤ n ∧ n ≤ 11) ∨ n = 99) → ix n < adr.length := by
    intro n hn
    rw [a1, hlen]
    show (if n = 99 then 11 else n - 1) < 12
    split <;> omega
  refine ⟨fun i j hi hj he => ?_, fun n hn => ?_⟩
  rotate_left
  · have hx := bound n hn
    simp only [List.getD_eq_getElem?_getD, List.getElem?_eq_getElem hx, Option.getD_some]
    exact (h3 _ _ (a3 _ (List.getElem_mem hx))).1
  have hx := bound i hi
  have hy := bound j hj
  simp only [List.getD_eq_getElem?_getD, List.getElem?_eq_getElem hx, List.getElem?_eq_getElem hy, Option.getD_some] at he
  have hpw := List.pairwise_iff_getElem.1 a2
  have hij : ix i = ix j := by
    rcases Nat.lt_trichotomy (ix i) (ix j) with h | h | h
    · exact absurd he (hpw _ _ hx hy h)
    · exact h
    · exact absurd he.symm (hpw _ _ hy hx h)
  change (if i = 99 then 11 else i - 1) = (if j = 99 then 11 else j - 1) at hij
  split at hij <;> split at hij <;> omega
theorem errs_of {W : World} (l : List (String × DataW Unit)) (h : laidMetH Tryd.prog l W)
    (hl : ((l.filter fun x => x.2.handleName?.isNone).filter keepSent) = (sentsOf l).map (mkSent "*errors.errorString"))
    (hg : (sentsOf l).map (fun x => Tryd.prog.globalNamed x.1) = sentGlobals)
    (ht : ((sentsOf l).all fun x => decide ((Tryd.prog.globalNamed x.1).bind (fun g => (Tryd.prog.globals[g]?).map (·.type)) = some 26)) = true) :
    ∃ E, Errs W E ∧ Apart12 E := (errs_of2 l h hl hg ht).imp fun _ h => ⟨h.1, h.2.1⟩

end Go.Proofs.YtiobnnhjnkcafaaDoor

namespace Go.Proofs.YtiobnnhjnkcafaaDoor
open Go.ChangeShapes Go.WideShapes Go.ChangeAt Go.RowKit

theorem own : ownKnob Tryd.prog.godebug = none := by kernel_rfl
theorem laidOut : laidOutB Tryd.prog = true := by kernel_rfl
theorem cellsInt : Tryd.prog.cellsOf 3 = 1 := by kernel_rfl

/-- No parameter of these types wants a stand-in. -/
theorem noStandIn (l : List TypeId) (hall : (l.all fun u => !Tryd.prog.wantsStandIn u) = true) {ps : Array TypeId} (hp : ps.toList = l) (j : Nat) (t : TypeId) (ht : ps[j]? = some t) : Tryd.prog.wantsStandIn t = false := by
  have hm : t ∈ l := by rw [← hp]; exact Array.mem_toList_iff.2 (Array.mem_of_getElem? ht)
  simpa using List.all_eq_true.1 hall t hm

end Go.Proofs.YtiobnnhjnkcafaaDoor

namespace Go.Proofs.YtiobnnhjnkcafaaDoor
open Go.ChangeShapes Go.WideShapes Go.ChangeAt Go.RowKit Go.Joins
end Go.Proofs.YtiobnnhjnkcafaaDoor

namespace Go.Proofs.YtiobnnhjnkcafaaDoor
open Go.ChangeShapes Go.WideShapes Go.ChangeAt Go.RowKit Go.Joins
end Go.Proofs.YtiobnnhjnkcafaaDoor

namespace Go.Proofs.YtiobnnhjnkcafaaDoor
open Go.ChangeShapes Go.WideShapes Go.ChangeAt Go.RowKit

def handleRow : String × DataW Unit := ("errors.errorType", .iface "internal/reflectlite.rtype" (.agg [.ptr (.lit (.string [101, 114, 114, 111, 114]))]))
noncomputable def handled (os : Os) : World :=
  let w0 := World.holding Tryd.prog os ⟨#[], #[], []⟩
  { w0 with heap := w0.heap.modify 12 fun
      | .cells _ t frozen => .cells #[.iface 107 (.agg #[.pointer (some ⟨13, 26, none⟩)])] t frozen
      | o => o }
def plainOf (laid : List (String × DataW Unit)) : List (String × DataW Unit) := laid.filter fun x => x.2.handleName?.isNone
noncomputable def laidAllH (os : Os) (laid : List (String × DataW Unit)) : World := (handled os).layVars Tryd.prog (plainOf laid)
theorem laidAllH_os (os : Os) (laid : List (String × DataW Unit)) : (laidAllH os laid).os = os := World.layVars_os _ _ _
theorem laidMetH_allH {os : Os} {laid : List (String × DataW Unit)} (args : Array Value)
    (hf : (handled os).layFits Tryd.prog (plainOf laid) [] = true)
    (hi : (handled os).layIfaces Tryd.prog (plainOf laid) (laidAllH os laid) = true)
    (hh : (laid.filter fun x => x.2.handleName?.isSome).all (handleAtB Tryd.prog (laidAllH os laid)) = true) :
    laidMetH Tryd.prog laid ((laidAllH os laid).forCall (fun _ _ => 0) ⟨#[], args, []⟩).memory := by
  have e1 : ((plainOf laid).filter fun x => ((plainOf laid).map (·.1)).contains x.1) = plainOf laid := List.filter_eq_self.2 fun x hx => List.contains_iff_mem.2 (List.mem_map.2 ⟨x, hx, rfl⟩)
  have e2 : ((plainOf laid).filter fun x => !((plainOf laid).map (·.1)).contains x.1) = [] := List.filter_eq_nil_iff.2 fun x hx => by rw [List.contains_iff_mem.2 (List.mem_map.2 ⟨x, hx, rfl⟩)]; simp
  have h : laidMet Tryd.prog (plainOf laid) (laidAllH os laid) := laidMet_layVars (w0 := handled os) ((plainOf laid).map (·.1)) [] (by rw [e1]; rfl) (by rw [e1]; exact hf) (by rw [e1]; exact hi) (by rw [e2]; exact LaidIn.none)
  have h2 : laidMetH Tryd.prog laid (laidAllH os laid) := laidMetH_of_parts h hh
  exact laidMetH.of_heap (by simp [World.memory, World.forCall, Input.heap]) h2

theorem rtypeCut : (Tryd.prog.cutTypes.find? (·.1 == "internal/reflectlite.rtype")).map (·.2) = some 107 := by kernel_rfl
theorem oneErrorRow : ((List.range Tryd.prog.types.size).filter fun t => Tryd.prog.rowNamed t [101, 114, 114, 111, 114]) = [26] := by kernel_rfl
theorem errT_of {W : World} {l : List (String × DataW Unit)} (h : laidMetH Tryd.prog l W) (hl : (l.filter fun x => x.2.handleName?.isSome) = [handleRow]) : ErrT W := by
  have h' := (laidMetH_iff.1 h).2
  rw [hl] at h'
  obtain ⟨name, u, ty, e1, e2, e3, e4, e5⟩ := h' _ (List.mem_singleton.2 rfl)
  have en : name = [101, 114, 114, 111, 114] := (Option.some.inj e1).symm
  subst en
  obtain rfl := Option.some.inj (rtypeCut.symm.trans e2)
  have hm : ty ∈ (List.range Tryd.prog.types.size).filter fun t => Tryd.prog.rowNamed t [101, 114, 114, 111, 114] := List.mem_filter.2 ⟨List.mem_range.2 e3, e4⟩
  rw [oneErrorRow] at hm
  obtain rfl := List.mem_singleton.1 hm
  have hh : typeHandle Tryd.prog 26 = .pointer (some ⟨13, 26, none⟩) := by kernel_rfl
  rw [hh] at e5
  have et : Tryd.prog.globalNamed "errors.errorType" = some 12 := by kernel_rfl
  simpa [ErrT] using World.var?_cell et e5 0
end Go.Proofs.YtiobnnhjnkcafaaDoor

namespace Go.Proofs.YtiobnnhjnkcafaaDoor
open Go.ChangeShapes Go.WideShapes Go.ChangeAt Go.RowKit Go.Deep

theorem cellsBop : Tryd.prog.cellsOf 38 = 4 := by kernel_rfl
set_option maxRecDepth 100000 in
theorem sl_cell {H : Type} {enc : TypeId × Value → H} {W : World} {fuel : Nat} {v : Value} {y : DataW H × List MemPlace} (h : DataW.trod enc Tryd.prog W 0 (fun _ => true) true fuel 31 [v] = some y) :
    ∃ (A : Option Addr) (n c : Nat) (xs : List Int), v = .slice A n c ∧ n ≤ c ∧ c ≤ maxLen ∧ Sl W A n (xs.map (Value.int .i64)) := by
  rcases open_ints Tryd.underlying31 Tryd.underlying3 cellsInt h with ⟨hcs, _⟩ | ⟨a, len, cap, zs, hcs, _, hl, hm, hz, _, hcell, _⟩
  · simp at hcs
    subst hcs
    exact ⟨none, 0, 0, [], rfl, Nat.le_refl _, Nat.zero_le _, Sl.nil _ _⟩
  · simp at hcs
    subst hcs
    simp only [if_true] at hz
    refine ⟨some a, len, cap, zs.take len, rfl, hl, hm, ⟨by simp; omega, fun k u hu => ?_⟩⟩
    have hk : k < len := by
      have := (List.getElem?_eq_some_iff.1 hu).1
      simp at this
      omega
    refine ⟨a, rfl, ?_⟩
    rw [hcell k (by omega)]
    rw [List.getElem?_map, List.getElem?_take, if_pos hk] at hu
    rw [List.getD_eq_getElem?_getD]
    cases hz : zs[k]? with
    | none => rw [hz] at hu; cases hu
    | some z => rw [hz] at hu; exact hu
set_option maxRecDepth 100000 in
theorem bop_cells {H : Type} {enc : TypeId × Value → H} {W : World} {fuel : Nat} {cs : List Value} {y : DataW H × List MemPlace} (h : DataW.trod enc Tryd.prog W 0 (fun _ => true) true fuel 38 cs = some y) :
    ∃ o : BOp, BOpOk W o ∧ cs = [.int .i64 o.K, .int .i64 o.I, .int .i64 o.J, .slice o.A o.n o.c] := by
  obtain ⟨xs, n, _, _, hlen, hxl, hf⟩ := DataW.trod_struct Tryd.underlying38 h
  rw [cellsBop] at hlen
  match cs, hlen with
  | [c0, c1, c2, c3], _ =>
    match xs, hxl with
    | [y0, y1, y2, y3], _ =>
      have h0 : DataW.trod enc Tryd.prog W 0 (fun _ => true) true n 3 [c0] = some y0 := hf 0 _ rfl
      have h1 : DataW.trod enc Tryd.prog W 0 (fun _ => true) true n 3 [c1] = some y1 := hf 1 _ rfl
      have h2 : DataW.trod enc Tryd.prog W 0 (fun _ => true) true n 3 [c2] = some y2 := hf 2 _ rfl
      have h3 : DataW.trod enc Tryd.prog W 0 (fun _ => true) true n 31 [c3] = some y3 := hf 3 _ rfl
      obtain ⟨K, e0, _, _⟩ := DataW.trod_int Tryd.underlying3 h0
      obtain ⟨I, e1, _, _⟩ := DataW.trod_int Tryd.underlying3 h1
      obtain ⟨J, e2, _, _⟩ := DataW.trod_int Tryd.underlying3 h2
      obtain ⟨A, n', c, l, rfl, hl, hm, hL⟩ := sl_cell h3
      simp at e0 e1 e2
      subst e0 e1 e2
      exact ⟨⟨K, I, J, A, n', c, l⟩, ⟨hL, hl, hm⟩, rfl⟩
set_option maxRecDepth 100000 in
/-- A script that came in. -/
theorem open_bscript {H : Type} {enc : TypeId × Value → H} {W : World} {base : Nat} {v : Value} {d : DataW H} {p : List MemPlace} (hval : Value.okWide Tryd.prog W .any base 22 v)
    (h : DataW.Trod enc Tryd.prog W 0 (fun _ => true) true 22 v d p) :
    ∃ (A : Option Addr) (n c : Nat), v = .slice A n c ∧ n ≤ c ∧ c ≤ maxLen ∧ BScript W A n := by
  obtain ⟨a0, len, cap, rfl⟩ := okWide_slice Tryd.underlying22 hval
  obtain ⟨fuel, hf⟩ := h
  rcases open_slice Tryd.underlying22 hf with ⟨hcs, _⟩ | ⟨a, len', cap', m, n, D, Pl, hcs, _, hl, hm, hmm, _, hi⟩
  · simp [Value.cells] at hcs
    obtain ⟨rfl, rfl, rfl⟩ := hcs
    exact ⟨none, 0, 0, rfl, Nat.le_refl _, Nat.zero_le _, fun i hi => by omega⟩
  · simp [Value.cells] at hcs
    obtain ⟨rfl, rfl, rfl⟩ := hcs
    simp only [if_true] at hmm
    subst hmm
    refine ⟨some a, len, _, rfl, hl, hm, fun i hil => ?_⟩
    obtain ⟨cs, hc, ht⟩ := hi i (by omega)
    obtain ⟨_, hlen, hcell⟩ := World.cells?_some hc
    rw [cellsBop] at hlen hcell
    obtain ⟨o, ho, rfl⟩ := bop_cells ht
    have hk : ∀ j, j < 4 → W.cell? (a.add (i * 4 + j)) = [Value.int .i64 o.K, .int .i64 o.I, .int .i64 o.J, .slice o.A o.n o.c][j]? := fun j hj => by
      have := hcell j hj
      rwa [add_of_add] at this
    exact ⟨a, o, rfl, ho, hk 0 (by decide), hk 1 (by decide), hk 2 (by decide), hk 3 (by decide)⟩
end Go.Proofs.YtiobnnhjnkcafaaDoor
