/- What the rows' listed error variables give a walk: each holds an error of its own. Condition: the row's list. What the cards of this seat share: the witness's world, and what the arguments' readings give. No condition. A rule handed as an argument, opened: its three cells. The reach of lists that came in: their capacity, in bytes. No condition. Cards of rows that list errors.errorType (a type's handle): the witness's world, and what the condition gives a walk. No condition. What the reading of FormsAll's script gives: its calls, each in ten cells, their lists within reach. No condition. -/
import Derived.Test.YtpllojpgpejfmaaGreatDoorRows
import Derived.LaidLaws
import Derived.LaidSub
import Derived.Test.YtpllojpgpejfmaaGreatDoorCards
import Derived.Test.YtpllojpgpejfmaaGreatDoorTie
import Derived.ProofKit
import Derived.OpenShut
import Derived.LaidMore
import Derived.SevenTiedAt
import Derived.Lib.SmallJoins
import Derived.SizedLaws
import Derived.LaidHandle
import Derived.Lay
import Derived.Deep.Slices
import Derived.Deep.Fields
import Derived.ChangeSame
import Derived.Test.YtpllojpgpejfmaaGreatDoorF2
import Derived.Test.YtpllojpgpejfmaaGreatDoorF3
import Derived.Test.YtpllojpgpejfmaaGreatDoorFormsAllF
namespace Go.Proofs.YtpllojpgpejfmaaGreatDoor
open Go.RowKit Go.ChangeShapes

def mkSent (nm : String) (x : String × List UInt8) : String × DataW Unit := (x.1, .iface nm (.ptr (.agg [.lit (.string x.2)])))

theorem sents {P : Program} {nm : String} {W : World} {ti tp te ts : TypeId} {ms : Array (String × TypeId)} {f : Field}
    (hi : P.underlying ti = some (.interface ms)) (hrow : ∀ u, P.typeName? 3 u = some nm → u = tp)
    (hp : P.underlying tp = some (.pointer te)) (he : P.underlying te = some (.struct #[f])) (hft : f.type = ts) (hfo : f.offset = 0) (hs : P.underlying ts = some .string) (hc : P.cellsOf te = 1) (hcs : P.cellsOf ts = 1)
    (all : List MemPlace) (hrows : ∀ b off, MemPlace.cell b off ∈ all → (∃ c t, W.heap[b]? = some (.cells c t (0, 0))) ∧ ∀ u v, W.cell? ⟨b, off, none⟩ = some (.iface u v) → Value.okWide P W .any 0 u v) :
    ∀ (L : List (String × List UInt8)) (ps : List MemPlace), (∀ x ∈ L, ∀ g, P.globalNamed x.1 = some g → (P.globals[g]?).map (·.type) = some ti) → DataW.LaidVars P W (L.map (mkSent nm)) ps → ps.Nodup → (∀ x ∈ ps, x ∈ all) →
      ∃ adr : List Addr, adr.length = L.length ∧ adr.Nodup ∧ (∀ a ∈ adr, MemPlace.cell a.block a.off ∈ ps) ∧ ∀ (i : Nat) x a, L[i]? = some x → adr[i]? = some a → W.var? P x.1 = some #[.iface tp (.pointer (some a))] := by
  intro L
  induction L with
  | nil => intro ps _ _ _ _; exact ⟨[], rfl, List.nodup_nil, fun a h => by simp at h, fun i x a h => by simp at h⟩
  | cons y L ih =>
    intro ps hti h hnd hall
    obtain ⟨g, t, cs, fuel, p, q, hg, ht, hv, hd, hr, rfl⟩ := h
    have ht' := hti y (by simp) g hg
    rw [ht] at ht'
    obtain rfl := Option.some.inj ht'
    obtain ⟨l0⟩ := cs
    have ok0 : ∀ u v, l0 = [.iface u v] → Value.okWide P W .any 0 u v := fun u v e => by
      subst e
      exact (hrows g 0 (hall _ (by simp [MemPlace.row]))).2 u v (by simpa using World.var?_cell hg hv 0)
    obtain ⟨a0, s0, rfl, hc0, hs0, hz0, rfl⟩ := errorString_of_trod hi hrow hp he hft hfo hs hc hcs hd ok0
    obtain ⟨adr, h1, h2, h3, h4⟩ := ih q (fun x hx => hti x (by simp [hx])) hr ((List.nodup_append.1 hnd).2.1) (fun x hx => hall x (by simp [hx]))
    refine ⟨a0 :: adr, by simp [h1], List.nodup_cons.2 ⟨fun hm => ?_, h2⟩, ?_, ?_⟩
    · have := (List.nodup_append.1 hnd).2.2 (.cell a0.block a0.off) (by simp [MemPlace.row]) _ (h3 a0 hm)
      exact this rfl
    · intro a ha
      rcases List.mem_cons.1 ha with rfl | ha
      · simp [MemPlace.row]
      · have := h3 a ha
        simp [this]
    · intro i x a hx ha
      cases i with
      | zero =>
        simp at hx ha
        subst hx ha
        exact hv
      | succ i => exact h4 i x a (by simpa using hx) (by simpa using ha)

/-- The error variables' rows of a list. -/
def keepSent (x : String × DataW Unit) : Bool := match x.2 with
  | .iface _ (.ptr (.agg [.lit (.string _)])) => true
  | _ => false
def sentsOf (l : List (String × DataW Unit)) : List (String × List UInt8) := l.filterMap fun x => match x.2 with
  | .iface _ (.ptr (.agg [.lit (.string t)])) => some (x.1, t)
  | _ => none
def sentGlobals : List (Option Nat) := [some 0, some 1, some 2, some 3, some 4, some 5, some 6, some 7, some 8, some 9, some 10, some 11]
/-- The errors' addresses are twelve different ones. -/
def Apart12 (E : Nat → Addr) : Prop := ∀ i j, ((1 ≤ i ∧ i ≤ 11) ∨ i = 99) → ((1 ≤ j ∧ j ≤ 11) ∨ j = 99) → E i = E j → i = j

theorem star : "*" ++ "errors.errorString" = "*errors.errorString" := by decide
theorem rowErr (u : TypeId) (h : Tryz.prog.typeName? 3 u = some "*errors.errorString") : u = 199 :=
  typeName_ptr_named (nm := "errors.errorString") (by rw [star]; kernel_rfl) (by kernel_rfl) (by decide) u (by rw [star]; exact h)
theorem cellsErr : Tryz.prog.cellsOf 220 = 1 := by kernel_rfl
theorem cellsStr : Tryz.prog.cellsOf 9 = 1 := by kernel_rfl

/-- Each error's own memory. -/
def ErrBlk (W : World) (E : Nat → Addr) : Prop := ∀ n, ((1 ≤ n ∧ n ≤ 11) ∨ n = 99) → ∃ c t, W.heap[(E n).block]? = some (.cells c t (0, 0))
theorem ErrBlk.below {W W' : World} {E : Nat → Addr} (h : ErrBlk W E) (hb : Below W.heap.size W W') : ErrBlk W' E := fun n hn => by
  obtain ⟨c, t, hc⟩ := h n hn
  exact ⟨c, t, (hb.block _ (Array.getElem?_eq_some_iff.1 hc).1).trans hc⟩
/-- From a row's list: the error variables hold errors, twelve different ones. -/
theorem errs_of2 {W : World} (l : List (String × DataW Unit)) (h : laidMetH Tryz.prog l W)
    (hl : ((l.filter fun x => x.2.handleName?.isNone).filter keepSent) = (sentsOf l).map (mkSent "*errors.errorString"))
    (hg : (sentsOf l).map (fun x => Tryz.prog.globalNamed x.1) = sentGlobals)
    (ht : ((sentsOf l).all fun x => decide ((Tryz.prog.globalNamed x.1).bind (fun g => (Tryz.prog.globals[g]?).map (·.type)) = some 36)) = true) :
    ∃ E, Errs W E ∧ Apart12 E ∧ ErrBlk W E := by
  obtain ⟨ps, h1, h2, h3⟩ := (laidMetH_iff.1 h).1.filter keepSent
  rw [hl] at h1
  obtain ⟨adr, a1, a2, a3, a4⟩ := sents Tryz.underlying36 rowErr Tryz.underlying199 Tryz.underlying220 rfl rfl Tryz.underlying9 cellsErr cellsStr ps h3 (sentsOf l) ps (fun x hx g hxg => by
    have := List.all_eq_true.1 ht x hx
    rw [hxg] at this
    simpa using this) h1 h2 (fun x hx => hx)
  have hlen : (sentsOf l).length = 12 := by
    have := congrArg List.length hg
    simpa [sentGlobals] using this
  have cell : ∀ (i g : Nat), sentGlobals[i]? = some (some g) → ∃ a, adr[i]? = some a ∧ W.cell? ⟨g, 0, none⟩ = some (.iface 199 (.pointer (some a))) := by
    intro i g hi
    rw [← hg, List.getElem?_map] at hi
    cases hx : (sentsOf l)[i]? with
    | none => rw [hx] at hi; cases hi
    | some x =>
      rw [hx] at hi
      have hil : i < (sentsOf l).length := (List.getElem?_eq_some_iff.1 hx).1
      have ha : adr[i]? = some (adr[i]'(by omega)) := List.getElem?_eq_getElem (by omega)
      have hv := a4 i x _ hx ha
      refine ⟨_, ha, ?_⟩
      simpa using World.var?_cell (Option.some.inj hi) hv 0
  let ix : Nat → Nat := fun n => if n = 99 then 11 else n - 1
  have get : ∀ (n g : Nat), sentGlobals[ix n]? = some (some g) → W.cell? ⟨g, 0, none⟩ = some (.iface 199 (.pointer (some ((fun n => adr.getD (ix n) ⟨0, 0, none⟩) n)))) := by
    intro n g hi
    obtain ⟨a, ha, hc⟩ := cell _ _ hi
    simp only [List.getD_eq_getElem?_getD, ha, Option.getD_some]
    exact hc
  refine ⟨fun n => adr.getD (ix n) ⟨0, 0, none⟩, ⟨get 1 _ rfl, get 2 _ rfl, get 3 _ rfl, get 4 _ rfl, get 5 _ rfl, get 6 _ rfl, get 7 _ rfl, get 8 _ rfl, get 9 _ rfl, get 10 _ rfl, get 11 _ rfl, get 99 _ rfl⟩, ?_⟩
  have bound : ∀ n, ((1 ≤ n ∧ n ≤ 11) ∨ n = 99) → ix n < adr.length := by
    intro n hn
    rw [a1, hlen]
    show (if n = 99 then 11 else n - 1) < 12
    split <;> omega
  refine ⟨fun i j hi hj he => ?_, fun n hn => ?_⟩
  rotate_left
  · have hx := bound n hn
    simp only [List.getD_eq_getElem?_getD, List.getElem?_eq_getElem hx, Option.getD_some]
    exact (h3 _ _ (a3 _ (List.getElem_mem hx))).1
  have hx := bound i hi
  have hy := bound j hj
  simp only [List.getD_eq_getElem?_getD, List.getElem?_eq_getElem hx, List.getElem?_eq_getElem hy, Option.getD_some] at he
  have hpw := List.pairwise_iff_getElem.1 a2
  have hij : ix i = ix j := by
    rcases Nat.lt_trichotomy (ix i) (ix j) with h | h | h
    · exact absurd he (hpw _ _ hx hy h)
    · exact h
    · exact absurd he.symm (hpw _ _ hy hx h)
  change (if i = 99 then 11 else i - 1) = (if j = 99 then 11 else j - 1) at hij
  split at hij <;> split at hij <;> omega
theorem errs_of {W : World} (l : List (String × DataW Unit)) (h : laidMetH Tryz.prog l W)
    (hl : ((l.filter fun x => x.2.handleName?.isNone).filter keepSent) = (sentsOf l).map (mkSent "*errors.errorString"))
    (hg : (sentsOf l).map (fun x => Tryz.prog.globalNamed x.1) = sentGlobals)
    (ht : ((sentsOf l).all fun x => decide ((Tryz.prog.globalNamed x.1).bind (fun g => (Tryz.prog.globals[g]?).map (·.type)) = some 36)) = true) :
    ∃ E, Errs W E ∧ Apart12 E := (errs_of2 l h hl hg ht).imp fun _ h => ⟨h.1, h.2.1⟩

end Go.Proofs.YtpllojpgpejfmaaGreatDoor

namespace Go.Proofs.YtpllojpgpejfmaaGreatDoor
open Go.ChangeShapes Go.WideShapes Go.ChangeAt Go.RowKit

theorem own : ownKnob Tryz.prog.godebug = none := by kernel_rfl
theorem laidOut : laidOutB Tryz.prog = true := by kernel_rfl
theorem cellsInt : Tryz.prog.cellsOf 3 = 1 := by kernel_rfl

/-- No parameter of these types wants a stand-in. -/
theorem noStandIn (l : List TypeId) (hall : (l.all fun u => !Tryz.prog.wantsStandIn u) = true) {ps : Array TypeId} (hp : ps.toList = l) (j : Nat) (t : TypeId) (ht : ps[j]? = some t) : Tryz.prog.wantsStandIn t = false := by
  have hm : t ∈ l := by rw [← hp]; exact Array.mem_toList_iff.2 (Array.mem_of_getElem? ht)
  simpa using List.all_eq_true.1 hall t hm

end Go.Proofs.YtpllojpgpejfmaaGreatDoor

namespace Go.Proofs.YtpllojpgpejfmaaGreatDoor
open Go.ChangeShapes Go.WideShapes Go.ChangeAt Go.RowKit Go.Joins
end Go.Proofs.YtpllojpgpejfmaaGreatDoor

namespace Go.Proofs.YtpllojpgpejfmaaGreatDoor
open Go.ChangeShapes Go.WideShapes Go.ChangeAt Go.RowKit Go.Joins
set_option linter.all false
set_option maxRecDepth 10000

theorem bytesInt : Tryz.prog.bytesOf 3 = 8 := by kernel_rfl
theorem reach_n {H : Type} {P : Program} {ts : List TypeId} {ds : List (DataW H)} (h : (DataW.weightsEach P ts ds).all (· ≤ reachBytes) = true) {j : Nat} {t : TypeId} {d : DataW H} (ht : ts[j]? = some t) (hd : ds[j]? = some d) : ∀ n ∈ d.weights P t, n ≤ 140737488351232 := fun n hn =>
  of_decide_eq_true (List.all_eq_true.1 h n (DataW.weights_mem_each ht hd n hn))

theorem sized_cells {H : Type} {enc : TypeId × Value → H} {W : World} {fuel : Nat} {A : Option Addr} {n c : Nat} {x : DataW H × List MemPlace} (h : DataW.trod enc Tryz.prog W 0 (fun _ => true) true fuel 24 [.slice A n c] = some x)
    (hw : ∀ m ∈ x.1.weights Tryz.prog 24, m ≤ 140737488351232) : c * 8 ≤ 140737488351232 := by
  rcases open_ints Tryz.underlying24 Tryz.underlying3 cellsInt h with ⟨hcs, _⟩ | ⟨a, len', cap', zs, hcs, _, hl, hm, hz, hx, hcell, hwz⟩
  · simp at hcs
    obtain ⟨_, _, rfl⟩ := hcs
    omega
  · simp at hcs
    obtain ⟨_, rfl, rfl⟩ := hcs
    simp only [if_true] at hz
    subst hx
    have := hw (((lits (H := H) .i64 (zs.take n)).length + (lits (H := H) .i64 (zs.drop n)).length) * Tryz.prog.bytesOf 3) (by simp [DataW.weights, Tryz.underlying24])
    rw [bytesInt] at this
    simp only [lits, List.length_map, List.length_take, List.length_drop] at this
    omega
end Go.Proofs.YtpllojpgpejfmaaGreatDoor

namespace Go.Proofs.YtpllojpgpejfmaaGreatDoor
open Go.ChangeShapes Go.WideShapes Go.ChangeAt Go.RowKit

def handleRow : String × DataW Unit := ("errors.errorType", .iface "internal/reflectlite.rtype" (.agg [.ptr (.lit (.string [101, 114, 114, 111, 114]))]))
noncomputable def handled (os : Os) : World :=
  let w0 := World.holding Tryz.prog os ⟨#[], #[], []⟩
  { w0 with heap := w0.heap.modify 12 fun
      | .cells _ t frozen => .cells #[.iface 152 (.agg #[.pointer (some ⟨17, 36, none⟩)])] t frozen
      | o => o }
def plainOf (laid : List (String × DataW Unit)) : List (String × DataW Unit) := laid.filter fun x => x.2.handleName?.isNone
noncomputable def laidAllH (os : Os) (laid : List (String × DataW Unit)) : World := (handled os).layVars Tryz.prog (plainOf laid)
theorem laidAllH_os (os : Os) (laid : List (String × DataW Unit)) : (laidAllH os laid).os = os := World.layVars_os _ _ _
theorem laidMetH_allH {os : Os} {laid : List (String × DataW Unit)} (args : Array Value)
    (hf : (handled os).layFits Tryz.prog (plainOf laid) [] = true)
    (hi : (handled os).layIfaces Tryz.prog (plainOf laid) (laidAllH os laid) = true)
    (hh : (laid.filter fun x => x.2.handleName?.isSome).all (handleAtB Tryz.prog (laidAllH os laid)) = true) :
    laidMetH Tryz.prog laid ((laidAllH os laid).forCall (fun _ _ => 0) ⟨#[], args, []⟩).memory := by
  have e1 : ((plainOf laid).filter fun x => ((plainOf laid).map (·.1)).contains x.1) = plainOf laid := List.filter_eq_self.2 fun x hx => List.contains_iff_mem.2 (List.mem_map.2 ⟨x, hx, rfl⟩)
  have e2 : ((plainOf laid).filter fun x => !((plainOf laid).map (·.1)).contains x.1) = [] := List.filter_eq_nil_iff.2 fun x hx => by rw [List.contains_iff_mem.2 (List.mem_map.2 ⟨x, hx, rfl⟩)]; simp
  have h : laidMet Tryz.prog (plainOf laid) (laidAllH os laid) := laidMet_layVars (w0 := handled os) ((plainOf laid).map (·.1)) [] (by rw [e1]; rfl) (by rw [e1]; exact hf) (by rw [e1]; exact hi) (by rw [e2]; exact LaidIn.none)
  have h2 : laidMetH Tryz.prog laid (laidAllH os laid) := laidMetH_of_parts h hh
  exact laidMetH.of_heap (by simp [World.memory, World.forCall, Input.heap]) h2

theorem rtypeCut : (Tryz.prog.cutTypes.find? (·.1 == "internal/reflectlite.rtype")).map (·.2) = some 152 := by kernel_rfl
theorem oneErrorRow : ((List.range Tryz.prog.types.size).filter fun t => Tryz.prog.rowNamed t [101, 114, 114, 111, 114]) = [36] := by kernel_rfl
theorem errT_of {W : World} {l : List (String × DataW Unit)} (h : laidMetH Tryz.prog l W) (hl : (l.filter fun x => x.2.handleName?.isSome) = [handleRow]) : ErrT W := by
  have h' := (laidMetH_iff.1 h).2
  rw [hl] at h'
  obtain ⟨name, u, ty, e1, e2, e3, e4, e5⟩ := h' _ (List.mem_singleton.2 rfl)
  have en : name = [101, 114, 114, 111, 114] := (Option.some.inj e1).symm
  subst en
  obtain rfl := Option.some.inj (rtypeCut.symm.trans e2)
  have hm : ty ∈ (List.range Tryz.prog.types.size).filter fun t => Tryz.prog.rowNamed t [101, 114, 114, 111, 114] := List.mem_filter.2 ⟨List.mem_range.2 e3, e4⟩
  rw [oneErrorRow] at hm
  obtain rfl := List.mem_singleton.1 hm
  have hh : typeHandle Tryz.prog 36 = .pointer (some ⟨17, 36, none⟩) := by kernel_rfl
  rw [hh] at e5
  have et : Tryz.prog.globalNamed "errors.errorType" = some 12 := by kernel_rfl
  simpa [ErrT] using World.var?_cell et e5 0
end Go.Proofs.YtpllojpgpejfmaaGreatDoor

namespace Go.Proofs.YtpllojpgpejfmaaGreatDoor
open Go.ChangeShapes Go.WideShapes Go.ChangeAt Go.RowKit Go.Deep

theorem weightsAll_memF {H : Type} {P : Program} {e : TypeId} : ∀ {l : List (DataW H)} {d : DataW H}, d ∈ l → ∀ n ∈ d.weights P e, n ∈ DataW.weightsAll P e l
  | d' :: r, d, hd, n, hn => by
    simp only [DataW.weightsAll, List.mem_append]
    rcases List.mem_cons.1 hd with rfl | h
    · exact Or.inl hn
    · exact Or.inr (weightsAll_memF h n hn)
theorem cellsOpF : Tryz.prog.cellsOf 28 = 10 := by kernel_rfl
theorem cellsRuleF : Tryz.prog.cellsOf 26 = 3 := by kernel_rfl

set_option maxRecDepth 100000 in
theorem ints_cellF {H : Type} {enc : TypeId × Value → H} {W : World} {fuel : Nat} {v : Value} {y : DataW H × List MemPlace} (h : DataW.trod enc Tryz.prog W 0 (fun _ => true) true fuel 24 [v] = some y)
    (hw : ∀ m ∈ y.1.weights Tryz.prog 24, m ≤ 140737488351232) : ∃ (A : Option Addr) (n c : Nat) (xs : List Int), v = .slice A n c ∧ Sl W A n (xs.map (Value.int .i64)) ∧ n * 8 ≤ 140737488351232 := by
  have h' := h
  rcases open_ints Tryz.underlying24 Tryz.underlying3 cellsInt h with ⟨hcs, _⟩ | ⟨a, len', cap', zs, hcs, _, hl, hm, hz, _, hcell, hwz⟩
  · simp at hcs
    subst hcs
    exact ⟨none, 0, 0, [], rfl, Sl.nil _ _, by decide⟩
  · simp at hcs
    subst hcs
    simp only [if_true] at hz
    have hc := sized_cells h' hw
    refine ⟨some a, len', cap', zs.take len', rfl, ⟨by simp; omega, fun k u hu => ?_⟩, by omega⟩
    have hk : k < len' := by
      have := (List.getElem?_eq_some_iff.1 hu).1
      simp at this
      omega
    refine ⟨a, rfl, ?_⟩
    rw [hcell k (by omega)]
    rw [List.getElem?_map, List.getElem?_take, if_pos hk] at hu
    rw [List.getD_eq_getElem?_getD]
    cases hz : zs[k]? with
    | none => rw [hz] at hu; cases hu
    | some z => rw [hz] at hu; exact hu

set_option maxRecDepth 100000 in
theorem rule_cellsF {H : Type} {enc : TypeId × Value → H} {W : World} {fuel : Nat} {c0 c1 c2 : Value} {y : DataW H × List MemPlace} (h : DataW.trod enc Tryz.prog W 0 (fun _ => true) true fuel 26 [c0, c1, c2] = some y)
    (hw : ∀ m ∈ y.1.weights Tryz.prog 26, m ≤ 140737488351232) : ∃ (K R : Int) (A : Option Addr) (n c : Nat) (xs : List Int), c0 = .int .i64 K ∧ c1 = .int .i64 R ∧ c2 = .slice A n c ∧ Sl W A n (xs.map (Value.int .i64)) ∧ n * 8 ≤ 140737488351232 := by
  obtain ⟨xs, n, _, rfl, hlen, hxl, hf⟩ := DataW.trod_struct Tryz.underlying26 h
  match xs, hxl with
  | [y0, y1, y2], _ =>
    have h0 : DataW.trod enc Tryz.prog W 0 (fun _ => true) true n 3 [c0] = some y0 := hf 0 _ rfl
    have h1 : DataW.trod enc Tryz.prog W 0 (fun _ => true) true n 3 [c1] = some y1 := hf 1 _ rfl
    have h2 : DataW.trod enc Tryz.prog W 0 (fun _ => true) true n 24 [c2] = some y2 := hf 2 _ rfl
    obtain ⟨K, e0, _, _⟩ := DataW.trod_int Tryz.underlying3 h0
    obtain ⟨R, e1, _, _⟩ := DataW.trod_int Tryz.underlying3 h1
    obtain ⟨A, n', c, zs, e2, hs, hb⟩ := ints_cellF h2 (fun m hm => hw m (by simp [DataW.weights, Tryz.underlying26, DataW.weightsEach]; right; right; exact hm))
    simp at e0 e1
    exact ⟨K, R, A, n', c, zs, e0, e1, e2, hs, hb⟩

set_option maxRecDepth 100000 in
theorem op_cellsF {H : Type} {enc : TypeId × Value → H} {W : World} {fuel : Nat} {cs : List Value} {y : DataW H × List MemPlace} (h : DataW.trod enc Tryz.prog W 0 (fun _ => true) true fuel 28 cs = some y)
    (hw : ∀ m ∈ y.1.weights Tryz.prog 28, m ≤ 140737488351232) :
    ∃ o : FD, FOk W o ∧ cs = [.int .i64 o.kd, .int .i64 o.K, .int .i64 o.D, .int .i64 o.KA, .int .i64 o.RA, .slice o.A o.n o.c, .int .i64 o.KB, .int .i64 o.RB, .slice o.B o.m o.d, .slice o.P o.l o.e] := by
  obtain ⟨xs, n, _, rfl, hlen, hxl, hf⟩ := DataW.trod_struct Tryz.underlying28 h
  rw [cellsOpF] at hlen
  match cs, hlen with
  | [c0, c1, c2, c3, c4, c5, c6, c7, c8, c9], _ =>
    match xs, hxl with
    | [y0, y1, y2, y3, y4, y5], _ =>
      have h0 : DataW.trod enc Tryz.prog W 0 (fun _ => true) true n 3 [c0] = some y0 := hf 0 _ rfl
      have h1 : DataW.trod enc Tryz.prog W 0 (fun _ => true) true n 3 [c1] = some y1 := hf 1 _ rfl
      have h2 : DataW.trod enc Tryz.prog W 0 (fun _ => true) true n 3 [c2] = some y2 := hf 2 _ rfl
      have h3 : DataW.trod enc Tryz.prog W 0 (fun _ => true) true n 26 [c3, c4, c5] = some y3 := by
        have h : DataW.trod enc Tryz.prog W 0 (fun _ => true) true n 26 (([c0, c1, c2, c3, c4, c5, c6, c7, c8, c9].drop 3).take (Tryz.prog.cellsOf 26)) = some y3 := hf 3 _ rfl
        rw [cellsRuleF] at h
        exact h
      have h4 : DataW.trod enc Tryz.prog W 0 (fun _ => true) true n 26 [c6, c7, c8] = some y4 := by
        have h : DataW.trod enc Tryz.prog W 0 (fun _ => true) true n 26 (([c0, c1, c2, c3, c4, c5, c6, c7, c8, c9].drop 6).take (Tryz.prog.cellsOf 26)) = some y4 := hf 4 _ rfl
        rw [cellsRuleF] at h
        exact h
      have h5 : DataW.trod enc Tryz.prog W 0 (fun _ => true) true n 24 [c9] = some y5 := hf 5 _ rfl
      have w3 : ∀ m ∈ y3.1.weights Tryz.prog 26, m ≤ 140737488351232 := fun m hm => hw m (by simp only [DataW.weights, Tryz.underlying28, List.map_cons, List.map_nil, DataW.weightsEach, List.mem_append, List.toList_toArray]; exact .inr (.inr (.inr (.inl hm))))
      have w4 : ∀ m ∈ y4.1.weights Tryz.prog 26, m ≤ 140737488351232 := fun m hm => hw m (by simp only [DataW.weights, Tryz.underlying28, List.map_cons, List.map_nil, DataW.weightsEach, List.mem_append, List.toList_toArray]; exact .inr (.inr (.inr (.inr (.inl hm)))))
      have w5 : ∀ m ∈ y5.1.weights Tryz.prog 24, m ≤ 140737488351232 := fun m hm => hw m (by simp only [DataW.weights, Tryz.underlying28, List.map_cons, List.map_nil, DataW.weightsEach, List.mem_append, List.toList_toArray]; exact .inr (.inr (.inr (.inr (.inr (.inl hm))))))
      obtain ⟨kd, e0, _, _⟩ := DataW.trod_int Tryz.underlying3 h0
      obtain ⟨K, e1, _, _⟩ := DataW.trod_int Tryz.underlying3 h1
      obtain ⟨D, e2, _, wD⟩ := DataW.trod_int Tryz.underlying3 h2
      obtain ⟨KA, RA, A, na, ca, TA, rfl, rfl, rfl, hA, hna⟩ := rule_cellsF h3 w3
      obtain ⟨KB, RB, B, nb, cb, TB, rfl, rfl, rfl, hB, hnb⟩ := rule_cellsF h4 w4
      obtain ⟨P, l, e, Q, rfl, hP, hl⟩ := ints_cellF h5 w5
      simp at e0 e1 e2
      subst e0 e1 e2
      have hD : -9223372036854775808 ≤ D ∧ D ≤ 9223372036854775807 := by simpa [Lit.wf, IntKind.min, IntKind.max, IntKind.bits, IntKind.signed] using wD
      exact ⟨⟨kd, K, D, KA, RA, A, na, ca, TA, KB, RB, B, nb, cb, TB, P, l, e, Q⟩, ⟨hA, hB, hP, hna, hnb, hl, hD.1, hD.2⟩, rfl⟩

set_option maxRecDepth 100000 in
/-- A script that came in. -/
theorem open_fscript {H : Type} {enc : TypeId × Value → H} {W : World} {base : Nat} {v : Value} {d : DataW H} {p : List MemPlace} (hval : Value.okWide Tryz.prog W .any base 22 v)
    (h : DataW.Trod enc Tryz.prog W 0 (fun _ => true) true 22 v d p) (hw : ∀ m ∈ d.weights Tryz.prog 22, m ≤ 140737488351232) :
    ∃ (A : Option Addr) (n c : Nat), v = .slice A n c ∧ n ≤ c ∧ c ≤ maxLen ∧ FScript W A n := by
  obtain ⟨a0, len, cap, rfl⟩ := okWide_slice Tryz.underlying22 hval
  obtain ⟨fuel, hf⟩ := h
  rcases open_slice Tryz.underlying22 hf with ⟨hcs, _⟩ | ⟨a, len', cap', m, n, D, Pl, hcs, _, hl, hm, hmm, hd, hi⟩
  · simp [Value.cells] at hcs
    obtain ⟨rfl, rfl, rfl⟩ := hcs
    exact ⟨none, 0, 0, rfl, Nat.le_refl _, Nat.zero_le _, fun i hi => by omega⟩
  · simp [Value.cells] at hcs
    obtain ⟨rfl, rfl, rfl⟩ := hcs
    simp only [if_true] at hmm
    subst hmm
    refine ⟨some a, len, _, rfl, hl, hm, fun i hil => ?_⟩
    obtain ⟨cs, hc, ht⟩ := hi i (by omega)
    obtain ⟨_, hlen, hcell⟩ := World.cells?_some hc
    rw [cellsOpF] at hlen hcell
    injection hd with hd1 hd2
    obtain ⟨o, ho, rfl⟩ := op_cellsF ht (fun k hk => hw k (by
      rw [hd1]
      simp only [DataW.weights, Tryz.underlying22, List.mem_cons, List.mem_append]
      exact .inr (.inl (weightsAll_memF (List.mem_map.2 ⟨i, List.mem_range.2 hil, rfl⟩) k hk))))
    have hx : ∀ j, j < 10 → W.cell? (a.add (i * 10 + j)) = [Value.int .i64 o.kd, .int .i64 o.K, .int .i64 o.D, .int .i64 o.KA, .int .i64 o.RA, .slice o.A o.n o.c, .int .i64 o.KB, .int .i64 o.RB, .slice o.B o.m o.d, .slice o.P o.l o.e][j]? := fun j hj => by
      have := hcell j hj
      rwa [add_of_add] at this
    exact ⟨a, o, rfl, ho, hx 0 (by decide), hx 1 (by decide), hx 2 (by decide), hx 3 (by decide), hx 4 (by decide), hx 5 (by decide), hx 6 (by decide), hx 7 (by decide), hx 8 (by decide), hx 9 (by decide)⟩
end Go.Proofs.YtpllojpgpejfmaaGreatDoor
