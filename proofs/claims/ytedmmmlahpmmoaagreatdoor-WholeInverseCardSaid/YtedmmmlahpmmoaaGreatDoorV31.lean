/- What the rows' listed error variables give a walk: each holds an error of its own. Condition: the row's list. The walk over the subsets: (*subset.walk).all. Condition: the rule reads from memory; the error variables hold what E says. errors.Is of an error that is another: false; errors.Unwrap of a Fault; errors.As at an *api.Fault that misses nothing. Condition: the errors' own memory. The walk's error as subset tells it: subset.told; the walk of what is no small rule. Condition: the error variables hold what E says. The automaton of the subsets: subset.Walk. Condition: the rule's table reads from memory; the error variables hold what E says. errors.As at a *subset.found: the hit, and the miss. After the kit's worked proof of errors.As at a concrete target. Condition: the variable that As reads, the target's cell. errors.As at a *subset.found, along Faults: false. Condition: the error reads from memory. Whether every word has a preimage: subset.Onto. Condition: the rule's table reads from memory; the error variables hold what E says. The number of an error: fault.Code of an error that is told. Condition: the error reads from memory; the error variables hold what E says. slices.Backward of ints: each round gets a place and its number, the last first. Condition: the slice reads from memory. Digits to the base 65536 and limbs to the base 2^32: plain lists, no program. No condition. Schoolbook rules on digits to any base: plain lists, no program. No condition. Powers in memory: what nat.Pow returns. Condition: the error variables hold what E says. Differences in memory: what nat.Sub returns. Condition: the limbs read from memory; the error variables hold what E says. Numbers by their value: differences, quotients, powers, texts, and the errors told. Condition: the numbers read from memory; the error variables hold what E says. A small rule's number: rule.Code. Condition: the table reads from memory; the error variables hold what E says. A rule's number where there is none; a number's digits again. Condition: the table reads from memory; the error variables hold what E says. The decimal text: what nat.Text returns. Condition: the limbs read from memory. The laws' helper awake of chapter 05: it returns true. Condition: the error variables hold what E says. -/
import Derived.Test.YtedmmmlahpmmoaaGreatDoorRows
import Derived.LaidLaws
import Derived.LaidSub
import Derived.LaidEql
import Derived.Stop.Asserts
import Derived.RowKitTokens
import Derived.Deep.RegionHeld3
import Derived.Deep.RegionLaw
import Derived.StillTailTactics
import Derived.RangeFuncNested
import Derived.RangeFuncBound
import Derived.RangeFuncCalls
import Derived.RangeFuncLeaves
import Derived.RangeFuncBox
import Derived.Shelf.Abstract
import Derived.WalkKit
import Derived.OwnWalkIn
import Derived.TacticsInMore
import Derived.LoopNIn
import Derived.LoopIn
import Derived.Laws.BitsAllLaws
import Derived.Lib.Strings
import Derived.Lib.TrimByte
import Derived.Laws.Strings3
import Derived.Deep.RegionWith
import Derived.Deep.DrawnRows
import Derived.RangeFuncWrites
import Derived.Shelf.RegionOpen
import Derived.Lib.Slices
import Derived.Lib.Small
import Derived.Lib.Walk
import Derived.Lib.BitFns
import Derived.Deep.QuietTactic
import Derived.BigQuiet
import Derived.Test.YtedmmmlahpmmoaaGreatDoorV1
import Derived.Test.YtedmmmlahpmmoaaGreatDoorV5
import Derived.Test.YtedmmmlahpmmoaaGreatDoorV6
import Derived.Test.YtedmmmlahpmmoaaGreatDoorV7
import Derived.Test.YtedmmmlahpmmoaaGreatDoorV8
import Derived.Test.YtedmmmlahpmmoaaGreatDoorV9
import Derived.Test.YtedmmmlahpmmoaaGreatDoorV18
import Derived.Test.YtedmmmlahpmmoaaGreatDoorV22
import Derived.Test.YtedmmmlahpmmoaaGreatDoorV30
namespace Go.Proofs.YtedmmmlahpmmoaaGreatDoor
open Go.RowKit Go.ChangeShapes

def mkSent (nm : String) (x : String × List UInt8) : String × DataW Unit := (x.1, .iface nm (.ptr (.agg [.lit (.string x.2)])))

theorem sents {P : Program} {nm : String} {W : World} {ti tp te ts : TypeId} {ms : Array (String × TypeId)} {f : Field}
    (hi : P.underlying ti = some (.interface ms)) (hrow : ∀ u, P.typeName? 3 u = some nm → u = tp)
    (hp : P.underlying tp = some (.pointer te)) (he : P.underlying te = some (.struct #[f])) (hft : f.type = ts) (hfo : f.offset = 0) (hs : P.underlying ts = some .string) (hc : P.cellsOf te = 1) (hcs : P.cellsOf ts = 1)
    (all : List MemPlace) (hrows : ∀ b off, MemPlace.cell b off ∈ all → (∃ c t, W.heap[b]? = some (.cells c t (0, 0))) ∧ ∀ u v, W.cell? ⟨b, off, none⟩ = some (.iface u v) → Value.okWide P W .any 0 u v) :
    ∀ (L : List (String × List UInt8)) (ps : List MemPlace), (∀ x ∈ L, ∀ g, P.globalNamed x.1 = some g → (P.globals[g]?).map (·.type) = some ti) → DataW.LaidVars P W (L.map (mkSent nm)) ps → ps.Nodup → (∀ x ∈ ps, x ∈ all) →
      ∃ adr : List Addr, adr.length = L.length ∧ adr.Nodup ∧ (∀ a ∈ adr, MemPlace.cell a.block a.off ∈ ps) ∧ ∀ (i : Nat) x a, L[i]? = some x → adr[i]? = some a → W.var? P x.1 = some #[.iface tp (.pointer (some a))] := by
  intro L
  induction L with
  | nil => intro ps _ _ _ _; exact ⟨[], rfl, List.nodup_nil, fun a h => by simp at h, fun i x a h => by simp at h⟩
  | cons y L ih =>
    intro ps hti h hnd hall
    obtain ⟨g, t, cs, fuel, p, q, hg, ht, hv, hd, hr, rfl⟩ := h
    have ht' := hti y (by simp) g hg
    rw [ht] at ht'
    obtain rfl := Option.some.inj ht'
    obtain ⟨l0⟩ := cs
    have ok0 : ∀ u v, l0 = [.iface u v] → Value.okWide P W .any 0 u v := fun u v e => by
      subst e
      exact (hrows g 0 (hall _ (by simp [MemPlace.row]))).2 u v (by simpa using World.var?_cell hg hv 0)
    obtain ⟨a0, s0, rfl, hc0, hs0, hz0, rfl⟩ := errorString_of_trod hi hrow hp he hft hfo hs hc hcs hd ok0
    obtain ⟨adr, h1, h2, h3, h4⟩ := ih q (fun x hx => hti x (by simp [hx])) hr ((List.nodup_append.1 hnd).2.1) (fun x hx => hall x (by simp [hx]))
    refine ⟨a0 :: adr, by simp [h1], List.nodup_cons.2 ⟨fun hm => ?_, h2⟩, ?_, ?_⟩
    · have := (List.nodup_append.1 hnd).2.2 (.cell a0.block a0.off) (by simp [MemPlace.row]) _ (h3 a0 hm)
      exact this rfl
    · intro a ha
      rcases List.mem_cons.1 ha with rfl | ha
      · simp [MemPlace.row]
      · have := h3 a ha
        simp [this]
    · intro i x a hx ha
      cases i with
      | zero =>
        simp at hx ha
        subst hx ha
        exact hv
      | succ i => exact h4 i x a (by simpa using hx) (by simpa using ha)

/-- The error variables' rows of a list. -/
def keepSent (x : String × DataW Unit) : Bool := match x.2 with
  | .iface _ (.ptr (.agg [.lit (.string _)])) => true
  | _ => false
def sentsOf (l : List (String × DataW Unit)) : List (String × List UInt8) := l.filterMap fun x => match x.2 with
  | .iface _ (.ptr (.agg [.lit (.string t)])) => some (x.1, t)
  | _ => none
def sentGlobals : List (Option Nat) := [some 1, some 2, some 3, some 4, some 5, some 6, some 7, some 8, some 0, some 9, some 10, some 11]
/-- The errors' addresses are twelve different ones. -/
def Apart12 (E : Nat → Addr) : Prop := ∀ i j, ((1 ≤ i ∧ i ≤ 11) ∨ i = 99) → ((1 ≤ j ∧ j ≤ 11) ∨ j = 99) → E i = E j → i = j

theorem star : "*" ++ "errors.errorString" = "*errors.errorString" := by decide
theorem rowErr (u : TypeId) (h : Tryz.prog.typeName? 3 u = some "*errors.errorString") : u = 169 :=
  typeName_ptr_named (nm := "errors.errorString") (by rw [star]; kernel_rfl) (by kernel_rfl) (by decide) u (by rw [star]; exact h)
theorem cellsErr : Tryz.prog.cellsOf 194 = 1 := by kernel_rfl
theorem cellsStr : Tryz.prog.cellsOf 9 = 1 := by kernel_rfl

/-- Each error's own memory. -/
def ErrBlk (W : World) (E : Nat → Addr) : Prop := ∀ n, ((1 ≤ n ∧ n ≤ 11) ∨ n = 99) → ∃ c t, W.heap[(E n).block]? = some (.cells c t (0, 0))
theorem ErrBlk.below {W W' : World} {E : Nat → Addr} (h : ErrBlk W E) (hb : Below W.heap.size W W') : ErrBlk W' E := fun n hn => by
  obtain ⟨c, t, hc⟩ := h n hn
  exact ⟨c, t, (hb.block _ (Array.getElem?_eq_some_iff.1 hc).1).trans hc⟩
/-- From a row's list: the error variables hold errors, twelve different ones. -/
theorem errs_of2 {W : World} (l : List (String × DataW Unit)) (h : laidMetH Tryz.prog l W)
    (hl : ((l.filter fun x => x.2.handleName?.isNone).filter keepSent) = (sentsOf l).map (mkSent "*errors.errorString"))
    (hg : (sentsOf l).map (fun x => Tryz.prog.globalNamed x.1) = sentGlobals)
    (ht : ((sentsOf l).all fun x => decide ((Tryz.prog.globalNamed x.1).bind (fun g => (Tryz.prog.globals[g]?).map (·.type)) = some 29)) = true) :
    ∃ E, Errs W E ∧ Apart12 E ∧ ErrBlk W E := by
  obtain ⟨ps, h1, h2, h3⟩ := (laidMetH_iff.1 h).1.filter keepSent
  rw [hl] at h1
  obtain ⟨adr, a1, a2, a3, a4⟩ := sents Tryz.underlying29 rowErr Tryz.underlying169 Tryz.underlying194 rfl rfl Tryz.underlying9 cellsErr cellsStr ps h3 (sentsOf l) ps (fun x hx g hxg => by
    have := List.all_eq_true.1 ht x hx
    rw [hxg] at this
    simpa using this) h1 h2 (fun x hx => hx)
  have hlen : (sentsOf l).length = 12 := by
    have := congrArg List.length hg
    simpa [sentGlobals] using this
  have cell : ∀ (i g : Nat), sentGlobals[i]? = some (some g) → ∃ a, adr[i]? = some a ∧ W.cell? ⟨g, 0, none⟩ = some (.iface 169 (.pointer (some a))) := by
    intro i g hi
    rw [← hg, List.getElem?_map] at hi
    cases hx : (sentsOf l)[i]? with
    | none => rw [hx] at hi; cases hi
    | some x =>
      rw [hx] at hi
      have hil : i < (sentsOf l).length := (List.getElem?_eq_some_iff.1 hx).1
      have ha : adr[i]? = some (adr[i]'(by omega)) := List.getElem?_eq_getElem (by omega)
      have hv := a4 i x _ hx ha
      refine ⟨_, ha, ?_⟩
      simpa using World.var?_cell (Option.some.inj hi) hv 0
  let ix : Nat → Nat := fun n => if n = 99 then 11 else n - 1
  have get : ∀ (n g : Nat), sentGlobals[ix n]? = some (some g) → W.cell? ⟨g, 0, none⟩ = some (.iface 169 (.pointer (some ((fun n => adr.getD (ix n) ⟨0, 0, none⟩) n)))) := by
    intro n g hi
    obtain ⟨a, ha, hc⟩ := cell _ _ hi
    simp only [List.getD_eq_getElem?_getD, ha, Option.getD_some]
    exact hc
  refine ⟨fun n => adr.getD (ix n) ⟨0, 0, none⟩, ⟨get 1 _ rfl, get 2 _ rfl, get 3 _ rfl, get 4 _ rfl, get 5 _ rfl, get 6 _ rfl, get 7 _ rfl, get 8 _ rfl, get 9 _ rfl, get 10 _ rfl, get 11 _ rfl, get 99 _ rfl⟩, ?_⟩
  have bound : ∀ n, ((1 ≤ n ∧ n ≤ 11) ∨ n = 99) → ix n < adr.length := by
    intro n hn
    rw [a1, hlen]
    show (if n = 99 then 11 else n - 1) < 12
    split <;> omega
  refine ⟨fun i j hi hj he => ?_, fun n hn => ?_⟩
  rotate_left
  · have hx := bound n hn
    simp only [List.getD_eq_getElem?_getD, List.getElem?_eq_getElem hx, Option.getD_some]
    exact (h3 _ _ (a3 _ (List.getElem_mem hx))).1
  have hx := bound i hi
  have hy := bound j hj
  simp only [List.getD_eq_getElem?_getD, List.getElem?_eq_getElem hx, List.getElem?_eq_getElem hy, Option.getD_some] at he
  have hpw := List.pairwise_iff_getElem.1 a2
  have hij : ix i = ix j := by
    rcases Nat.lt_trichotomy (ix i) (ix j) with h | h | h
    · exact absurd he (hpw _ _ hx hy h)
    · exact h
    · exact absurd he.symm (hpw _ _ hy hx h)
  change (if i = 99 then 11 else i - 1) = (if j = 99 then 11 else j - 1) at hij
  split at hij <;> split at hij <;> omega
end Go.Proofs.YtedmmmlahpmmoaaGreatDoor

namespace Go.Proofs.YtedmmmlahpmmoaaGreatDoor
open Go.RowKit BagP RuleP SubP

variable {w : World} {E : Nat → Addr}
end Go.Proofs.YtedmmmlahpmmoaaGreatDoor

namespace Go.Proofs.YtedmmmlahpmmoaaGreatDoor
open Go.RowKit Go.Extern.Stop Go.Stop Go.Extern

theorem noUnwrapE (v : Value) (xT : TypeId) (w : World) : (Instr.typeAssert (.iface 169 v) xT 81 true).run Tryz.prog w = .ok (.tuple #[.nilIface, .bool false]) w := run_typeAssert_lacksB Tryz.underlying81 (by kernel_rfl) (by kernel_rfl) v xT w
theorem noUnwrapsE (v : Value) (xT : TypeId) (w : World) : (Instr.typeAssert (.iface 169 v) xT 83 true).run Tryz.prog w = .ok (.tuple #[.nilIface, .bool false]) w := run_typeAssert_lacksB Tryz.underlying83 (by kernel_rfl) (by kernel_rfl) v xT w

set_option maxRecDepth 1000000 in
theorem is_chain_no (w : World) (E : Nat → Addr) (n m : Nat) (l : List (ByteArray × Int)) (v : Value) (h : ErrIs w E n l v) (hne : E n ≠ E m) {c1 c2 : Array Value} {t1 t2 : TypeId} (h1 : w.heap[(E n).block]? = some (.cells c1 t1 (0, 0))) (h2 : w.heap[(E m).block]? = some (.cells c2 t2 (0, 0))) :
    Calls Tryz.prog 26 #[v, .iface 169 (.pointer (some (E m))), .bool true] w fun e w' => e = .returned (.bool false) ∧ w = w' := by
  obtain ⟨i, hi, hcmp⟩ := Option.map_eq_some_iff.1 is_comp
  obtain ⟨j, hj, hjs⟩ := Option.map_eq_some_iff.1 is_size
  have hjz : j.size ≠ 0 := by rw [hjs]; decide
  have heq := run_eql_iface_ptr_other (P := Tryz.prog) (w := w) Tryz.underlying29 Tryz.underlying169 hi hcmp hj hjz hne h1 h2
  have nE := noIsE
  have nF := noIsF
  have uF := hasUnwrapF
  have uE := noUnwrapE
  have sE := noUnwrapsE
  have mU := methodUnwrapF
  clear h1 h2 hne hi hcmp hj hjs hjz
  go_enter Tryz.func26, Tryz.ntmps26
  go_wp2
  go_loopw [0] (fun v wl => wl = w ∧ ∃ l, ErrIs w E n l v) (fun v _ => errLen w E n v)
  case atStart => exact ⟨rfl, l, h⟩
  case round =>
    clear h
    obtain ⟨rfl, l, h⟩ := hrel
    cases l with
    | nil =>
      obtain rfl := h
      go_wp2
      go_ret
      exact ⟨rfl, rfl⟩
    | cons x l =>
      obtain ⟨op, at'⟩ := x
      have hlen0 := errLen_eq h
      obtain ⟨b, v', rfl, hb, h1⟩ := h
      have hlen := errLen_eq h1
      obtain ⟨u1, p1, rfl⟩ := h1.iface
      have hty := run_eql_iface_types (P := Tryz.prog) 71 169 (.pointer (some ⟨b, 0, none⟩)) (.pointer (some (E m))) Tryz.underlying29 (by decide) wr
      have hcell := (blk_cells hb).2.2.1
      have H1 := Lib.hid h1
      have HL := Lib.hid hlen
      have HL0 := Lib.hid hlen0
      clear h1 hb hlen hlen0
      unfold errV at *
      go_wp2
      exact ⟨⟨trivial, l, H1.out⟩, by show errLen wr E n (.iface u1 p1) < _; rw [HL.out, HL0.out]; simp⟩

set_option maxRecDepth 1000000 in
theorem errorsIsNo_c (w : World) (E : Nat → Addr) (n m : Nat) (l : List (ByteArray × Int)) (v : Value) (h : ErrIs w E n l v) (hne : E n ≠ E m) {c1 c2 : Array Value} {t1 t2 : TypeId} (h1 : w.heap[(E n).block]? = some (.cells c1 t1 (0, 0))) (h2 : w.heap[(E m).block]? = some (.cells c2 t2 (0, 0))) :
    Calls Tryz.prog 13 #[v, .iface 169 (.pointer (some (E m)))] w fun e w' => e = .returned (.bool false) ∧ w = w' := by
  have HC := Lib.hid (is_chain_no w E n m l v h hne h1 h2)
  obtain ⟨u1, p1, rfl⟩ := h.iface
  have tO := is_typeOf
  have mC := methodComparable
  have iC := is_comparable
  have hT := @run_callFunc_extern Tryz.prog 25 _ ReflectliteType.typeOf Tryz.func25 (by kernel_rfl) (by kernel_rfl) (by kernel_rfl) (by kernel_rfl)
  have hC := @run_callFunc_extern Tryz.prog 132 _ (ReflectliteType.method fun t => do Rtype.noPackHeld "Comparable" t; pure (.bool (← typeInfo t).comparable)) Tryz.func132 (by kernel_rfl) (by kernel_rfl) (by kernel_rfl) (by kernel_rfl)
  clear h h1 h2 hne
  go_enter Tryz.func13, Tryz.ntmps13
  go_wp2_with (go_at_call 26; refine (HC.out).mono ?_; rintro e w' ⟨rfl, rfl⟩)
  go_ret
  exact ⟨rfl, rfl⟩

/-- errors.Is, whatever the error's number. -/
theorem errorsIs_b (w : World) (E : Nat → Addr) (hA : Apart12 E) (hB : ErrBlk w E) (n m : Nat) (hn : 1 ≤ n ∧ n ≤ 11) (hm : 1 ≤ m ∧ m ≤ 11) (l : List (ByteArray × Int)) (v : Value) (h : ErrIs w E n l v) :
    Calls Tryz.prog 13 #[v, .iface 169 (.pointer (some (E m)))] w fun e w' => e = .returned (.bool (decide (n = m))) ∧ w = w' := by
  by_cases e : n = m
  · subst e
    rw [decide_eq_true rfl]
    exact errorsIs_c w E n l v h
  · rw [decide_eq_false e]
    obtain ⟨c1, t1, h1⟩ := hB n (.inl hn)
    obtain ⟨c2, t2, h2⟩ := hB m (.inl hm)
    exact errorsIsNo_c w E n m l v h (fun h => e (hA n m (.inl hn) (.inl hm) h)) h1 h2

end Go.Proofs.YtedmmmlahpmmoaaGreatDoor

namespace Go.Proofs.YtedmmmlahpmmoaaGreatDoor
open Go.RowKit BagP RuleP SubP

end Go.Proofs.YtedmmmlahpmmoaaGreatDoor

namespace Go.Proofs.YtedmmmlahpmmoaaGreatDoor
open Go.RowKit BagP RuleP SubP

end Go.Proofs.YtedmmmlahpmmoaaGreatDoor

namespace Go.Proofs.YtedmmmlahpmmoaaGreatDoor
open Go.RowKit Go.Extern.Stop Go.Stop Go.Extern

end Go.Proofs.YtedmmmlahpmmoaaGreatDoor

namespace Go.Proofs.YtedmmmlahpmmoaaGreatDoor
open Go.RowKit Go.Extern.Stop Go.Stop Go.Extern

end Go.Proofs.YtedmmmlahpmmoaaGreatDoor

namespace Go.Proofs.YtedmmmlahpmmoaaGreatDoor
open Go.RowKit BagP RuleP SubP

end Go.Proofs.YtedmmmlahpmmoaaGreatDoor

namespace Go.Proofs.YtedmmmlahpmmoaaGreatDoor
open Go.RowKit RuleP

set_option maxRecDepth 100000 in
set_option maxHeartbeats 2000000 in
theorem codeF_c (w : World) (E : Nat → Addr) (hE : Errs w E) (hA : Apart12 E) (hB : ErrBlk w E) (n : Nat) (h1 : 1 ≤ n) (h2 : n ≤ 11) (l : List (ByteArray × Int)) (v : Value) (h : ErrIs w E n l v) :
    Calls Tryz.prog 14 #[v] w fun e w' => e = .returned (.int .i64 (n : Int)) ∧ w = w' := by
  have HR := Lib.hid (fun (j : Nat) (h1 : 1 ≤ j) (h2 : j ≤ 11) => root_c w E hE j h1 h2)
  have HI := Lib.hid (fun (j : Nat) (hj1 : 1 ≤ j) (hj2 : j ≤ 11) => errorsIs_b w E hA hB n j ⟨h1, h2⟩ ⟨hj1, hj2⟩ l v h)
  obtain ⟨u, p, rfl⟩ := h.iface
  clear hE hA hB h
  go_enter Tryz.func14, Tryz.ntmps14
  go_wp2_with fail
  go_loopw [3] (fun jv wl => ∃ j : Nat, jv = .int .i64 (j : Int) ∧ 1 ≤ j ∧ j ≤ n ∧ wl = w) (fun jv _ => 12 - (intOf jv).toNat)
  case atStart => exact ⟨1, rfl, by omega, h1, rfl⟩
  case round =>
    obtain ⟨j, rfl, hj1, hjn, rfl⟩ := hrel
    have hj11 : (j : Int) ≤ 11 := by omega
    have HRj := Lib.hid (HR.out j hj1 (by omega))
    by_cases hjn2 : n = j
    · have HIj := Lib.hid (HI.out j hj1 (by omega))
      rw [decide_eq_true hjn2] at HIj
      subst hjn2
      go_wp2_with fail
      refine (HRj.out).mono ?_
      rintro e w2 ⟨rfl, rfl⟩
      go_wp2_with fail
      refine (HIj.out).mono ?_
      rintro e w2 ⟨rfl, rfl⟩
      go_wp2_with fail
      go_ret
      exact ⟨rfl, rfl⟩
    · have HIj := Lib.hid (HI.out j hj1 (by omega))
      rw [decide_eq_false hjn2] at HIj
      go_wp2_with fail
      refine (HRj.out).mono ?_
      rintro e w2 ⟨rfl, rfl⟩
      go_wp2_with fail
      refine (HIj.out).mono ?_
      rintro e w2 ⟨rfl, rfl⟩
      go_wp2_with fail
      exact ⟨⟨j + 1, by go_num, by omega, by omega, trivial⟩, by simp [intOf]; omega⟩
end Go.Proofs.YtedmmmlahpmmoaaGreatDoor

namespace Go.Proofs.YtedmmmlahpmmoaaGreatDoor
open Go.RowKit Go.Shelf

attribute [local go_sem] Oper.semAt_some

/-- What a round keeps: what lay below, and the slice's own variable. -/
def KpB (n₀ Bs : Nat) (W W' : World) : Prop := Below n₀ W W' ∧ W'.heap[Bs]? = W.heap[Bs]?
theorem KpB.t {n₀ Bs : Nat} {A B C : World} (h : KpB n₀ Bs A B) (k : KpB n₀ Bs B C) : KpB n₀ Bs A C := ⟨h.1.trans k.1, k.2.trans h.2⟩
theorem KpB.b {n₀ Bs : Nat} {w : World} (hn : n₀ ≤ w.heap.size) (hB : Bs < w.heap.size) (W : World) (l : Nat) (o o' : Obj) (hl : w.heap.size ≤ l) (h : W.heap[l]? = some o) (h1 : o.isCells = false) (h2 : o.isWalk = false) : KpB n₀ Bs W (W.putObj l o') :=
  ⟨belowK_b hn W l o o' hl h h1 h2, (grownBy_putObj' W l o').block Bs (by have := (Array.getElem?_eq_some_iff.1 h).1; omega) (by intro e; cases e; omega)⟩

end Go.Proofs.YtedmmmlahpmmoaaGreatDoor

namespace Go.Proofs.YtedmmmlahpmmoaaGreatDoor
namespace NatP

end NatP
end Go.Proofs.YtedmmmlahpmmoaaGreatDoor

namespace Go.Proofs.YtedmmmlahpmmoaaGreatDoor
namespace NatP

/-- A sum, digit by digit. -/
structure AddG (b : Nat) (X Y D : List Nat) (i cr v : Nat) : Prop where
  len : D.length = i
  ok : OkB b D
  cr1 : cr ≤ 1
  eq : valB b D + b ^ i * (cr + valB b (X.drop i) + valB b (Y.drop i)) = v
theorem drop_val {b : Nat} (l : List Nat) (i : Nat) : valB b (l.drop i) = l.getD i 0 + b * valB b (l.drop (i + 1)) := by
  rcases Nat.lt_or_ge i l.length with h | h
  · rw [List.drop_eq_getElem_cons h, List.getD_eq_getElem?_getD, List.getElem?_eq_getElem h]; rfl
  · rw [List.drop_of_length_le h, List.drop_of_length_le (by omega), List.getD_eq_getElem?_getD, List.getElem?_eq_none h]; rfl
theorem AddG.step {b : Nat} (hb : 2 ≤ b) {X Y D : List Nat} {i cr v : Nat} (h : AddG b X Y D i cr v) (hx : OkB b X) (hy : OkB b Y) :
    AddG b X Y (D ++ [(cr + X.getD i 0 + Y.getD i 0) % b]) (i + 1) ((cr + X.getD i 0 + Y.getD i 0) / b) v := by
  have h1 := ok_getD (by omega) hx i
  have h2 := ok_getD (by omega) hy i
  refine ⟨by simp [h.len], fun z hz => ?_, ?_, ?_⟩
  · rcases List.mem_append.1 hz with hz | hz
    · exact h.ok z hz
    · simp at hz; subst hz; exact Nat.mod_lt _ (by omega)
  · have : (cr + X.getD i 0 + Y.getD i 0) / b < 2 := Nat.div_lt_of_lt_mul (by have := h.cr1; omega)
    omega
  · have e := h.eq
    rw [drop_val X i, drop_val Y i] at e
    rw [val_snoc, h.len, Nat.pow_succ]
    have e5 := Nat.mod_add_div (cr + X.getD i 0 + Y.getD i 0) b
    generalize (cr + X.getD i 0 + Y.getD i 0) / b = q at *
    generalize (cr + X.getD i 0 + Y.getD i 0) % b = r at *
    generalize valB b (X.drop (i + 1)) = P at *
    generalize valB b (Y.drop (i + 1)) = Q at *
    have e6 : b ^ i * (r + b * q + b * P + b * Q) = b ^ i * (cr + (X.getD i 0 + b * P) + (Y.getD i 0 + b * Q)) := by rw [e5]; congr 1; omega
    rw [← e, ← e6]
    rw [Nat.mul_assoc]
    simp only [Nat.mul_add]
    omega
theorem AddG.done {b : Nat} {X Y D : List Nat} {i v : Nat} (h : AddG b X Y D i 0 v) (hx : X.length ≤ i) (hy : Y.length ≤ i) : valB b D = v := by
  have e := h.eq
  rw [List.drop_of_length_le hx, List.drop_of_length_le hy] at e
  simpa [valB] using e

/-- A product, digit by digit: behind i digits of the first factor. -/
structure MulG (b : Nat) (X Y out : List Nat) (i : Nat) : Prop where
  ok : OkB b out
  eq : valB b out = valB b (X.take i) * valB b Y
/-- And behind j digits of the second. -/
structure MulH (b : Nat) (X Y out : List Nat) (i x j cr : Nat) : Prop where
  ok : OkB b out
  cr1 : cr < b
  eq : valB b out + b ^ (i + j) * cr = valB b (X.take i) * valB b Y + b ^ i * (x * valB b (Y.take j))
/-- And where the rest is carried on to place k. -/
structure MulC (b : Nat) (X Y out : List Nat) (i k cr : Nat) : Prop where
  ok : OkB b out
  cr1 : cr < b
  eq : valB b out + b ^ k * cr = valB b (X.take (i + 1)) * valB b Y
theorem MulG.start {b : Nat} (hb : 2 ≤ b) {X Y out : List Nat} {i x : Nat} (h : MulG b X Y out i) : MulH b X Y out i x 0 0 :=
  ⟨h.ok, by omega, by rw [h.eq]; simp [valB]⟩
theorem mul_lt2 {b x y o c : Nat} (hx : x < b) (hy : y < b) (ho : o < b) (hc : c < b) : x * y + o + c < b * b := by
  have h1 : x * y ≤ (b - 1) * (b - 1) := Nat.mul_le_mul (by omega) (by omega)
  obtain ⟨a, rfl⟩ : ∃ a, b = a + 1 := ⟨b - 1, by omega⟩
  simp only [Nat.add_sub_cancel] at h1
  have : (a + 1) * (a + 1) = a * a + a + a + 1 := by rw [Nat.add_mul, Nat.mul_add]; omega
  omega
theorem MulH.step {b : Nat} (hb : 2 ≤ b) {X Y out : List Nat} {i x j cr y o : Nat} (h : MulH b X Y out i x j cr) (hx : x < b) (hy : OkB b Y) (hyj : Y[j]? = some y) (hoj : out[i + j]? = some o) :
    MulH b X Y (out.set (i + j) ((x * y + o + cr) % b)) i x (j + 1) ((x * y + o + cr) / b) := by
  have hyl : y < b := hy y (List.mem_of_getElem? hyj)
  have hol : o < b := h.ok o (List.mem_of_getElem? hoj)
  refine ⟨ok_set h.ok (Nat.mod_lt _ (by omega)), Nat.div_lt_of_lt_mul (mul_lt2 hx hyl hol h.cr1), ?_⟩
  have e1 := val_set (b := b) (v := (x * y + o + cr) % b) hoj
  have e3 := val_take_succ b Y j
  have e4 : Y.getD j 0 = y := by rw [List.getD_eq_getElem?_getD, hyj]; rfl
  have e5 := h.eq
  have e6 := Nat.mod_add_div (x * y + o + cr) b
  rw [e4] at e3
  rw [e3, Nat.mul_add x, Nat.mul_add (b ^ i), ← Nat.add_assoc i, ← Nat.add_assoc (valB b (List.take i X) * valB b Y), ← e5, Nat.pow_succ]
  generalize (x * y + o + cr) % b = r at *
  generalize (x * y + o + cr) / b = d at *
  have e7 : b ^ (i + j) * (r + b * d) = b ^ (i + j) * (x * y + o + cr) := by rw [e6]
  have e8 : b ^ i * (x * (b ^ j * y)) = b ^ (i + j) * (x * y) := by
    rw [Nat.pow_add, Nat.mul_assoc, Nat.mul_left_comm x]
  rw [e8]
  rw [Nat.mul_add, Nat.mul_add, Nat.mul_add, ← Nat.mul_assoc] at e7
  omega
theorem MulC.step {b : Nat} (hb : 2 ≤ b) {X Y out : List Nat} {i k cr o : Nat} (h : MulC b X Y out i k cr) (ho : out[k]? = some o) :
    MulC b X Y (out.set k ((o + cr) % b)) i (k + 1) ((o + cr) / b) := by
  have hol : o < b := h.ok o (List.mem_of_getElem? ho)
  have hcr := h.cr1
  refine ⟨ok_set h.ok (Nat.mod_lt _ (by omega)), ?_, ?_⟩
  · have : (o + cr) / b < 2 := Nat.div_lt_of_lt_mul (by omega)
    omega
  · have e1 := val_set (b := b) (v := (o + cr) % b) ho
    have e6 := Nat.mod_add_div (o + cr) b
    rw [← h.eq, Nat.pow_succ]
    generalize (o + cr) % b = r at *
    generalize (o + cr) / b = d at *
    have e7 : b ^ k * (r + b * d) = b ^ k * (o + cr) := by rw [e6]
    rw [Nat.mul_add, Nat.mul_add, ← Nat.mul_assoc] at e7
    omega
/-- The rest dies before the row's end. -/
theorem MulC.lt {b : Nat} (hb : 2 ≤ b) {X Y out : List Nat} {i k cr : Nat} (h : MulC b X Y out i k cr) (hx : OkB b X) (hy : OkB b Y) (hi : i < X.length) (hc : 0 < cr) : k < X.length + Y.length := by
  have h1 := val_lt hb (ok_take hx (i + 1))
  have h2 := val_lt hb hy
  rw [List.length_take, Nat.min_eq_left (by omega)] at h1
  have h3 : b ^ k ≤ valB b (X.take (i + 1)) * valB b Y := by
    rw [← h.eq]
    have : b ^ k * 1 ≤ b ^ k * cr := Nat.mul_le_mul_left _ hc
    omega
  have h4 : valB b (X.take (i + 1)) * valB b Y < b ^ (i + 1) * b ^ Y.length := by
    rcases Nat.eq_zero_or_pos (valB b Y) with h0 | h0
    · rw [h0, Nat.mul_zero]; exact Nat.mul_pos (Nat.pow_pos (by omega)) (Nat.pow_pos (by omega))
    · exact Nat.mul_lt_mul'' h1 h2
  rw [← Nat.pow_add] at h4
  have h5 : b ^ k < b ^ (i + 1 + Y.length) := Nat.lt_of_le_of_lt h3 h4
  have := (Nat.pow_lt_pow_iff_right (by omega : 1 < b)).1 h5
  omega
theorem MulC.done {b : Nat} {X Y out : List Nat} {i k : Nat} (h : MulC b X Y out i k 0) : MulG b X Y out (i + 1) := ⟨h.ok, by simpa using h.eq⟩

/-- A number's rest at one digit after the other, the highest first. -/
structure OverG (b : Nat) (X out : List Nat) (d m rest : Nat) : Prop where
  len : out.length = X.length
  ok : OkB b out
  rlt : rest < d
  zero : ∀ j x, j < m → out[j]? = some x → x = 0
  eq : valB b X = valB b out * d + b ^ m * rest + valB b (X.take m)
theorem OverG.start {b : Nat} (hb : 2 ≤ b) {X : List Nat} {d : Nat} (hd : 0 < d) : OverG b X (List.replicate X.length 0) d X.length 0 :=
  ⟨by simp, ok_zeros (by omega) _, hd, fun j x _ hx => List.eq_of_mem_replicate (List.mem_of_getElem? hx), by simp [val_zeros]⟩
theorem OverG.step {b : Nat} {X out : List Nat} {d k rest x : Nat} (h : OverG b X out d (k + 1) rest) (hx : X[k]? = some x) (hxl : x < b) :
    OverG b X (out.set k ((rest * b + x) / d)) d k ((rest * b + x) % d) := by
  have hk : k < out.length := by rw [h.len]; exact (List.getElem?_eq_some_iff.1 hx).1
  obtain ⟨z, hz⟩ : ∃ z, out[k]? = some z := ⟨_, List.getElem?_eq_getElem hk⟩
  have hz0 := h.zero k z (Nat.lt_succ_self k) hz
  subst hz0
  have hd : 0 < d := by have := h.rlt; omega
  have hq : (rest * b + x) / d < b := Nat.div_lt_of_lt_mul (by
    have : (rest + 1) * b ≤ d * b := Nat.mul_le_mul_right _ h.rlt
    rw [Nat.add_mul, Nat.one_mul] at this
    omega)
  refine ⟨by simp [h.len], ok_set h.ok hq, Nat.mod_lt _ hd, fun j y hj hy => ?_, ?_⟩
  · rw [List.getElem?_set_ne (by omega)] at hy
    exact h.zero j y (by omega) hy
  · have e1 := val_set (b := b) (v := (rest * b + x) / d) hz
    have e2 := val_take_succ b X k
    have e3 : X.getD k 0 = x := by rw [List.getD_eq_getElem?_getD, hx]; rfl
    have e4 := h.eq
    have e5 := Nat.mod_add_div (rest * b + x) d
    rw [e3] at e2
    rw [e2] at e4
    generalize (rest * b + x) / d = q at *
    generalize (rest * b + x) % d = r at *
    rw [Nat.mul_zero, Nat.add_zero] at e1
    rw [e1, e4, Nat.pow_succ]
    have e6 : b ^ k * (r + d * q) = b ^ k * (rest * b + x) := by rw [e5]
    rw [Nat.mul_add, Nat.mul_add] at e6
    have e7 : b ^ k * (d * q) = b ^ k * q * d := by rw [Nat.mul_comm d q, Nat.mul_assoc]
    have e8 : b ^ k * (rest * b) = b ^ k * b * rest := by rw [Nat.mul_comm rest, Nat.mul_assoc]
    rw [Nat.add_mul]
    omega
theorem OverG.done {b : Nat} {X out : List Nat} {d rest : Nat} (h : OverG b X out d 0 rest) : valB b out = valB b X / d ∧ rest = valB b X % d := by
  have e := h.eq
  have hr := h.rlt
  simp only [Nat.pow_zero, Nat.one_mul, List.take_zero, valB, Nat.add_zero] at e
  rw [e]
  constructor
  · rw [Nat.mul_comm, Nat.mul_add_div (by omega), Nat.div_eq_of_lt hr]; rfl
  · rw [Nat.mul_comm, Nat.mul_add_mod, Nat.mod_eq_of_lt hr]

end NatP
end Go.Proofs.YtedmmmlahpmmoaaGreatDoor

namespace Go.Proofs.YtedmmmlahpmmoaaGreatDoor
open Go.RowKit NatP

/-- Behind j halvings of the exponent. -/
structure PowTo (k n j m O B : Nat) : Prop where
  m_eq : m = n / 2 ^ j
  O_eq : O = k ^ (n % 2 ^ j)
  B_eq : B = k ^ (2 ^ j)
theorem PowTo.odd {k n j m O B : Nat} (h : PowTo k n j m O B) (hm : m % 2 = 1) : PowTo k n (j + 1) (m / 2) (O * B) (B * B) := by
  refine ⟨?_, ?_, ?_⟩
  · rw [h.m_eq, Nat.pow_succ, Nat.div_div_eq_div_mul]
  · rw [h.O_eq, h.B_eq, Nat.mod_pow_succ, ← h.m_eq, hm, ← Nat.pow_add, Nat.mul_one]
  · rw [h.B_eq, ← Nat.pow_add, Nat.pow_succ, Nat.mul_two]
theorem PowTo.le {k n j m O B : Nat} (h : PowTo k n j m O B) (hm : 0 < m) : 2 ^ j ≤ n := by
  rcases Nat.lt_or_ge n (2 ^ j) with h1 | h1
  · rw [h.m_eq, Nat.div_eq_of_lt h1] at hm; omega
  · exact h1
end Go.Proofs.YtedmmmlahpmmoaaGreatDoor

namespace Go.Proofs.YtedmmmlahpmmoaaGreatDoor
open Go.RowKit NatP

/-- Behind k limbs of a difference. -/
structure SubTo (xs ys out : List Nat) (k br : Nat) : Prop where
  ok : OkB W32 out
  len : out.length = xs.length
  zero : ∀ j x, k ≤ j → out[j]? = some x → x = 0
  br1 : br ≤ 1
  eq : val out + val (ys.take k) = val (xs.take k) + W32 ^ k * br
theorem SubTo.step {xs ys out : List Nat} {k br x : Nat} (h : SubTo xs ys out k br) (hx : OkB W32 xs) (hy : OkB W32 ys) (hxk : xs[k]? = some x) :
    SubTo xs ys (out.set k ((x + W32 - ys.getD k 0 - br) % W32)) (k + 1) (1 - (x + W32 - ys.getD k 0 - br) / W32) := by
  have hk : k < out.length := by rw [h.len]; exact (List.getElem?_eq_some_iff.1 hxk).1
  obtain ⟨z, hz⟩ : ∃ z, out[k]? = some z := ⟨_, List.getElem?_eq_getElem hk⟩
  have hz0 := h.zero k z (Nat.le_refl _) hz
  subst hz0
  have hxl : x < W32 := hx x (List.mem_of_getElem? hxk)
  have hyl : ys.getD k 0 < W32 := ok_getD (by decide) hy k
  have hb := h.br1
  refine ⟨ok_set h.ok (Nat.mod_lt _ (by decide)), by simp [h.len], fun j y hj hy' => ?_, Nat.sub_le _ _, ?_⟩
  · rw [List.getElem?_set_ne (by omega)] at hy'
    exact h.zero j y (by omega) hy'
  · have e1 := val_set (b := W32) (v := (x + W32 - ys.getD k 0 - br) % W32) hz
    have e2 := val_take_succ W32 xs k
    have e3 := val_take_succ W32 ys k
    have e4 : xs.getD k 0 = x := by rw [List.getD_eq_getElem?_getD, hxk]; rfl
    have e5 := h.eq
    have e6 : x + W32 * (1 - (x + W32 - ys.getD k 0 - br) / W32) = (x + W32 - ys.getD k 0 - br) % W32 + ys.getD k 0 + br := by
      unfold W32 at *
      omega
    unfold val at *
    rw [e4] at e2
    rw [e2, e3]
    generalize ys.getD k 0 = y at *
    generalize (x + W32 - y - br) % W32 = r at *
    generalize 1 - (x + W32 - y - br) / W32 = d at *
    generalize valB W32 (out.set k r) = V at *
    rw [Nat.mul_zero, Nat.add_zero] at e1
    rw [Nat.pow_succ]
    have e7 : W32 ^ k * (x + W32 * d) = W32 ^ k * (r + y + br) := by rw [e6]
    rw [Nat.mul_add, Nat.mul_add, Nat.mul_add, ← Nat.mul_assoc] at e7
    omega
theorem SubTo.stop {xs ys out : List Nat} {n br : Nat} (h : SubTo xs ys out n br) (hx : xs.length = n) (hy : ys.length ≤ n) (hle : val ys ≤ val xs) : val out = val xs - val ys := by
  have e := h.eq
  rw [List.take_of_length_le (by omega), List.take_of_length_le (by omega)] at e
  have h1 := val_lt w32 h.ok
  rw [h.len, hx] at h1
  change val out < W32 ^ n at h1
  have h2 := h.br1
  rcases Nat.lt_or_ge br 1 with h3 | h3
  · have : br = 0 := by omega
    subst this
    omega
  · have : br = 1 := by omega
    subst this
    omega

end Go.Proofs.YtedmmmlahpmmoaaGreatDoor

namespace Go.Proofs.YtedmmmlahpmmoaaGreatDoor
open Go.RowKit NatP

end Go.Proofs.YtedmmmlahpmmoaaGreatDoor

namespace Go.Proofs.YtedmmmlahpmmoaaGreatDoor
open Go.RowKit Go.Shelf RuleP NatP

attribute [local go_sem] Oper.semAt_some

/-- A round's place and symbol. -/
abbrev Sym := Nat × { x : Nat // x < 4 }
/-- The number that has come together. -/
def backV (k : Nat) (pre : List Sym) : Nat := pre.foldl (fun n p => n * k + p.2.1) 0
theorem backV_lt {k : Nat} (hk : k ≤ 4) (pre : List Sym) : backV k pre < 4 ^ pre.length := by
  have key : ∀ (l : List Sym) (n m : Nat), n < 4 ^ m → l.foldl (fun n p => n * k + p.2.1) n < 4 ^ (m + l.length) := by
    intro l
    induction l with
    | nil => intro n m h; exact h
    | cons x l ih =>
      intro n m h
      rw [List.foldl_cons, List.length_cons, show m + (l.length + 1) = (m + 1) + l.length from by omega]
      refine ih _ _ ?_
      have h1 : n * k ≤ n * 4 := Nat.mul_le_mul_left _ hk
      have h2 := x.2.2
      rw [Nat.pow_succ]
      omega
  have := key pre 0 0 (by decide)
  rwa [Nat.zero_add] at this
theorem backV_len {k : Nat} (hk : k ≤ 4) (pre : List Sym) : (limbs (backV k pre)).length ≤ pre.length :=
  limbs_len_of_lt _ _ (Nat.lt_of_lt_of_le (backV_lt hk pre) (Nat.pow_le_pow_left (by decide) _))
end Go.Proofs.YtedmmmlahpmmoaaGreatDoor

namespace Go.Proofs.YtedmmmlahpmmoaaGreatDoor
open Go.RowKit RuleP NatP

namespace RuleP
end RuleP

end Go.Proofs.YtedmmmlahpmmoaaGreatDoor

namespace Go.Proofs.YtedmmmlahpmmoaaGreatDoor
open Go.RowKit NatP

def chars (D : List Nat) : List Value := (D.map dch).map bv
theorem pow_le_pow2 {k n V : Nat} (h : 10 ^ k ≤ V) (hv : V < W32 ^ n) : k < 32 * n + 1 := by
  rcases Nat.lt_or_ge k (32 * n + 1) with h1 | h1
  · exact h1
  · have h2 : 2 ^ (32 * n) ≤ 10 ^ k := Nat.le_trans (Nat.pow_le_pow_right (by decide) (by omega)) (Nat.pow_le_pow_left (by decide) k)
    rw [Nat.pow_mul] at h2
    have h3 : (2 ^ 32 : Nat) = W32 := rfl
    rw [h3] at h2
    omega

/-- Digits done, and what is left of the number. -/
structure TextTo (V n : Nat) (D : List Nat) (v : Nat) : Prop where
  ok : OkB 10 D
  eq : valB 10 D + 10 ^ D.length * v = V
theorem TextTo.len {V n v : Nat} {D : List Nat} (h : TextTo V n D v) (hV : V < W32 ^ n) (hv : 0 < v) : D.length < 32 * n + 1 := by
  refine pow_le_pow2 (V := V) ?_ hV
  have : 10 ^ D.length * 1 ≤ 10 ^ D.length * v := Nat.mul_le_mul (Nat.le_refl _) hv
  have := h.eq
  omega
/-- And digits of one rest done. -/
structure TextIn (V : Nat) (D : List Nat) (v r : Nat) : Prop where
  ok : OkB 10 D
  eq : valB 10 D + 10 ^ D.length * r + v = V
theorem TextIn.step {V v r : Nat} {D : List Nat} (h : TextIn V D v r) : TextIn V (D ++ [r % 10]) v (r / 10) := by
  refine ⟨ok_append h.ok (fun x hx => by simp at hx; subst hx; exact Nat.mod_lt _ (by decide)), ?_⟩
  rw [val_snoc, List.length_append, List.length_singleton, Nat.pow_succ]
  have e1 := h.eq
  have e2 := Nat.mod_add_div r 10
  generalize r % 10 = a at *
  generalize r / 10 = b at *
  have e3 : 10 ^ D.length * (a + 10 * b) = 10 ^ D.length * r := by rw [e2]
  rw [Nat.mul_add, ← Nat.mul_assoc] at e3
  omega
theorem TextTo.go {V n v : Nat} {D : List Nat} (h : TextTo V n D v) : TextIn V D (10 ^ D.length * (1000000000 * (v / 1000000000))) (v % 1000000000) := by
  refine ⟨h.ok, ?_⟩
  have e1 := h.eq
  have e2 := Nat.mod_add_div v 1000000000
  rw [Nat.add_assoc, ← Nat.mul_add, e2]
  exact e1
theorem TextIn.stop {V n v k : Nat} {D : List Nat} (h : TextIn V D (10 ^ k * (1000000000 * v)) 0) (hk : D.length = k + 9) : TextTo V n D v := by
  refine ⟨h.ok, ?_⟩
  have e := h.eq
  rw [Nat.mul_zero, Nat.add_zero] at e
  rw [hk, Nat.pow_add, Nat.mul_assoc]
  exact e

/-- The bytes from m on, the last first. -/
def TextOut (m : Nat) (cs L : List Value) : Prop := L = (cs.drop m).reverse
theorem TextOut.step {k : Nat} {cs L : List Value} {u : Value} (h : TextOut (k + 1) cs L) (hu : cs[k]? = some u) : TextOut k cs (L ++ [u]) := by
  obtain ⟨hk, e⟩ := List.getElem?_eq_some_iff.1 hu
  unfold TextOut at *
  rw [List.drop_eq_getElem_cons hk, e, List.reverse_cons, ← h]
theorem TextOut.start (D : List Nat) : TextOut D.length (chars D) [] := by
  unfold TextOut
  rw [List.drop_of_length_le (by simp [chars])]; rfl
theorem TextOut.stop {D : List Nat} {L : List Value} (h : TextOut 0 (chars D) L) : L = ((D.map dch).reverse).map bv := by
  unfold TextOut at h
  rw [h, List.drop_zero, chars, List.map_reverse]
end Go.Proofs.YtedmmmlahpmmoaaGreatDoor

namespace Go.Proofs.YtedmmmlahpmmoaaGreatDoor
open Go.RowKit RuleP NatP

open RuleP
/-- Rules held against each other, any. -/
theorem rules_b (w : World) (K R K2 R2 : Int) (A B : Option Addr) (n m c d : Nat) (T T2 : List Int) (h1 : Sl w A n (T.map (Value.int .i64))) (h2 : Sl w B m (T2.map (Value.int .i64))) (hm : n ≤ 9223372036854775807) (hm2 : m ≤ 9223372036854775807) :
    Calls Tryz.prog 12 #[ruleV K R A n c, ruleV K2 R2 B m d] w fun e w' => e = .returned (.bool (decide (K = K2 ∧ R = R2 ∧ T = T2))) ∧ Below w.heap.size w w' := by
  have hb : Below w.heap.size w ((w.alloc (.cells #[.int .i64 K, .int .i64 R, .slice A n c] 24)).alloc (.cells #[.int .i64 K2, .int .i64 R2, .slice B m d] 24)) := ((Below.refl _ _).alloc (Nat.le_refl _) _).alloc (by simp) _
  have hi := ints_b ((w.alloc (.cells #[.int .i64 K, .int .i64 R, .slice A n c] 24)).alloc (.cells #[.int .i64 K2, .int .i64 R2, .slice B m d] 24)) A B n m c d T T2 (h1.below hb) (h2.below hb) hm hm2
  have HI := Lib.hid hi
  have HB := Lib.hid hb
  obtain ⟨X, hX⟩ : ∃ X, decide (K = K2 ∧ R = R2 ∧ T = T2) = X := ⟨_, rfl⟩
  rw [hX]
  have HX := Lib.hid hX
  clear hi hb hX h1 h2
  unfold ruleV
  by_cases hk : K = K2
  · have k1 : (K == K2) = true := by simp [hk]
    by_cases hr : R = R2
    · have k2 : (R == R2) = true := by simp [hr]
      have HD := Lib.hid (show X = decide (T = T2) by rw [← HX.out, decide_eq_decide]; exact ⟨fun h => h.2.2, fun h => ⟨hk, hr, h⟩⟩)
      clear hk hr
      go_enter Tryz.func12, Tryz.ntmps12
      go_wp2_with fail
      refine (HI.out).mono ?_
      rintro e w1 ⟨rfl, hb1⟩
      have HB1 := Lib.hid (HB.out.trans (hb1.mono HB.out.size))
      clear hb1
      go_wp2_with fail
      go_ret
      exact ⟨by rw [HD.out]; rfl, HB1.out⟩
    · have k2 : (R == R2) = false := by simp [hr]
      have HD := Lib.hid (show X = false by rw [← HX.out]; exact decide_eq_false (fun h => hr h.2.1))
      clear hk hr
      go_enter Tryz.func12, Tryz.ntmps12
      go_wp2_with fail
      go_ret
      exact ⟨by rw [HD.out]; rfl, HB.out⟩
  · have k1 : (K == K2) = false := by simp [hk]
    have HD := Lib.hid (show X = false by rw [← HX.out]; exact decide_eq_false (fun h => hk h.1))
    clear hk
    go_enter Tryz.func12, Tryz.ntmps12
    go_wp2_with fail
    go_ret
    exact ⟨by rw [HD.out]; rfl, HB.out⟩
end Go.Proofs.YtedmmmlahpmmoaaGreatDoor
