/- What the rows' listed error variables give a walk: each holds an error of its own. Condition: the row's list. -/
import Derived.Test.YtibplgpolmplpaaGreatDoorRows
import Derived.LaidLaws
import Derived.LaidSub
import Derived.Test.YtibplgpolmplpaaGreatDoorW1
namespace Go.Proofs.YtibplgpolmplpaaGreatDoor
open Go.RowKit Go.ChangeShapes

def mkSent (nm : String) (x : String × List UInt8) : String × DataW Unit := (x.1, .iface nm (.ptr (.agg [.lit (.string x.2)])))

theorem sents {P : Program} {nm : String} {W : World} {ti tp te ts : TypeId} {ms : Array (String × TypeId)} {f : Field}
    (hi : P.underlying ti = some (.interface ms)) (hrow : ∀ u, P.typeName? 3 u = some nm → u = tp)
    (hp : P.underlying tp = some (.pointer te)) (he : P.underlying te = some (.struct #[f])) (hft : f.type = ts) (hfo : f.offset = 0) (hs : P.underlying ts = some .string) (hc : P.cellsOf te = 1) (hcs : P.cellsOf ts = 1)
    (all : List MemPlace) (hrows : ∀ b off, MemPlace.cell b off ∈ all → (∃ c t, W.heap[b]? = some (.cells c t (0, 0))) ∧ ∀ u v, W.cell? ⟨b, off, none⟩ = some (.iface u v) → Value.okWide P W .any 0 u v) :
    ∀ (L : List (String × List UInt8)) (ps : List MemPlace), (∀ x ∈ L, ∀ g, P.globalNamed x.1 = some g → (P.globals[g]?).map (·.type) = some ti) → DataW.LaidVars P W (L.map (mkSent nm)) ps → ps.Nodup → (∀ x ∈ ps, x ∈ all) →
      ∃ adr : List Addr, adr.length = L.length ∧ adr.Nodup ∧ (∀ a ∈ adr, MemPlace.cell a.block a.off ∈ ps) ∧ ∀ (i : Nat) x a, L[i]? = some x → adr[i]? = some a → W.var? P x.1 = some #[.iface tp (.pointer (some a))] := by
  intro L
  induction L with
  | nil => intro ps _ _ _ _; exact ⟨[], rfl, List.nodup_nil, fun a h => by simp at h, fun i x a h => by simp at h⟩
  | cons y L ih =>
    intro ps hti h hnd hall
    obtain ⟨g, t, cs, fuel, p, q, hg, ht, hv, hd, hr, rfl⟩ := h
    have ht' := hti y (by simp) g hg
    rw [ht] at ht'
    obtain rfl := Option.some.inj ht'
    obtain ⟨l0⟩ := cs
    have ok0 : ∀ u v, l0 = [.iface u v] → Value.okWide P W .any 0 u v := fun u v e => by
      subst e
      exact (hrows g 0 (hall _ (by simp [MemPlace.row]))).2 u v (by simpa using World.var?_cell hg hv 0)
    obtain ⟨a0, s0, rfl, hc0, hs0, hz0, rfl⟩ := errorString_of_trod hi hrow hp he hft hfo hs hc hcs hd ok0
    obtain ⟨adr, h1, h2, h3, h4⟩ := ih q (fun x hx => hti x (by simp [hx])) hr ((List.nodup_append.1 hnd).2.1) (fun x hx => hall x (by simp [hx]))
    refine ⟨a0 :: adr, by simp [h1], List.nodup_cons.2 ⟨fun hm => ?_, h2⟩, ?_, ?_⟩
    · have := (List.nodup_append.1 hnd).2.2 (.cell a0.block a0.off) (by simp [MemPlace.row]) _ (h3 a0 hm)
      exact this rfl
    · intro a ha
      rcases List.mem_cons.1 ha with rfl | ha
      · simp [MemPlace.row]
      · have := h3 a ha
        simp [this]
    · intro i x a hx ha
      cases i with
      | zero =>
        simp at hx ha
        subst hx ha
        exact hv
      | succ i => exact h4 i x a (by simpa using hx) (by simpa using ha)

/-- The error variables' rows of a list. -/
def keepSent (x : String × DataW Unit) : Bool := match x.2 with
  | .iface _ (.ptr (.agg [.lit (.string _)])) => true
  | _ => false
def sentsOf (l : List (String × DataW Unit)) : List (String × List UInt8) := l.filterMap fun x => match x.2 with
  | .iface _ (.ptr (.agg [.lit (.string t)])) => some (x.1, t)
  | _ => none
def sentGlobals : List (Option Nat) := [some 2, some 3, some 4, some 0, some 5, some 6, some 7, some 8, some 9, some 10, some 11, some 12]
/-- The errors' addresses are twelve different ones. -/
def Apart12 (E : Nat → Addr) : Prop := ∀ i j, ((1 ≤ i ∧ i ≤ 11) ∨ i = 99) → ((1 ≤ j ∧ j ≤ 11) ∨ j = 99) → E i = E j → i = j

theorem star : "*" ++ "errors.errorString" = "*errors.errorString" := by decide
theorem rowErr (u : TypeId) (h : Tryz.prog.typeName? 3 u = some "*errors.errorString") : u = 219 :=
  typeName_ptr_named (nm := "errors.errorString") (by rw [star]; kernel_rfl) (by kernel_rfl) (by decide) u (by rw [star]; exact h)
theorem cellsErr : Tryz.prog.cellsOf 239 = 1 := by kernel_rfl
theorem cellsStr : Tryz.prog.cellsOf 9 = 1 := by kernel_rfl

/-- Each error's own memory. -/
def ErrBlk (W : World) (E : Nat → Addr) : Prop := ∀ n, ((1 ≤ n ∧ n ≤ 11) ∨ n = 99) → ∃ c t, W.heap[(E n).block]? = some (.cells c t (0, 0))
theorem ErrBlk.below {W W' : World} {E : Nat → Addr} (h : ErrBlk W E) (hb : Below W.heap.size W W') : ErrBlk W' E := fun n hn => by
  obtain ⟨c, t, hc⟩ := h n hn
  exact ⟨c, t, (hb.block _ (Array.getElem?_eq_some_iff.1 hc).1).trans hc⟩
/-- From a row's list: the error variables hold errors, twelve different ones. -/
theorem errs_of2 {W : World} (l : List (String × DataW Unit)) (h : laidMetH Tryz.prog l W)
    (hl : ((l.filter fun x => x.2.handleName?.isNone).filter keepSent) = (sentsOf l).map (mkSent "*errors.errorString"))
    (hg : (sentsOf l).map (fun x => Tryz.prog.globalNamed x.1) = sentGlobals)
    (ht : ((sentsOf l).all fun x => decide ((Tryz.prog.globalNamed x.1).bind (fun g => (Tryz.prog.globals[g]?).map (·.type)) = some 27)) = true) :
    ∃ E, Errs W E ∧ Apart12 E ∧ ErrBlk W E := by
  obtain ⟨ps, h1, h2, h3⟩ := (laidMetH_iff.1 h).1.filter keepSent
  rw [hl] at h1
  obtain ⟨adr, a1, a2, a3, a4⟩ := sents Tryz.underlying27 rowErr Tryz.underlying219 Tryz.underlying239 rfl rfl Tryz.underlying9 cellsErr cellsStr ps h3 (sentsOf l) ps (fun x hx g hxg => by
    have := List.all_eq_true.1 ht x hx
    rw [hxg] at this
    simpa using this) h1 h2 (fun x hx => hx)
  have hlen : (sentsOf l).length = 12 := by
    have := congrArg List.length hg
    simpa [sentGlobals] using this
  have cell : ∀ (i g : Nat), sentGlobals[i]? = some (some g) → ∃ a, adr[i]? = some a ∧ W.cell? ⟨g, 0, none⟩ = some (.iface 219 (.pointer (some a))) := by
    intro i g hi
    rw [← hg, List.getElem?_map] at hi
    cases hx : (sentsOf l)[i]? with
    | none => rw [hx] at hi; cases hi
    | some x =>
      rw [hx] at hi
      have hil : i < (sentsOf l).length := (List.getElem?_eq_some_iff.1 hx).1
      have ha : adr[i]? = some (adr[i]'(by omega)) := List.getElem?_eq_getElem (by omega)
      have hv := a4 i x _ hx ha
      refine ⟨_, ha, ?_⟩
      simpa using World.var?_cell (Option.some.inj hi) hv 0
  let ix : Nat → Nat := fun n => if n = 99 then 11 else n - 1
  have get : ∀ (n g : Nat), sentGlobals[ix n]? = some (some g) → W.cell? ⟨g, 0, none⟩ = some (.iface 219 (.pointer (some ((fun n => adr.getD (ix n) ⟨0, 0, none⟩) n)))) := by
    intro n g hi
    obtain ⟨a, ha, hc⟩ := cell _ _ hi
    simp only [List.getD_eq_getElem?_getD, ha, Option.getD_some]
    exact hc
  refine ⟨fun n => adr.getD (ix n) ⟨0, 0, none⟩, ⟨get 1 _ rfl, get 2 _ rfl, get 3 _ rfl, get 4 _ rfl, get 5 _ rfl, get 6 _ rfl, get 7 _ rfl, get 8 _ rfl, get 9 _ rfl, get 10 _ rfl, get 11 _ rfl, get 99 _ rfl⟩, ?_⟩
  have bound : ∀ n, ((1 ≤ n ∧ n ≤ 11) ∨ n = 99) → ix n < adr.length := by
    intro n hn
    rw [a1, hlen]
    show (if n = 99 then 11 else n - 1) < 12
    split <;> omega
  refine ⟨fun i j hi hj he => ?_, fun n hn => ?_⟩
  rotate_left
  · have hx := bound n hn
    simp only [List.getD_eq_getElem?_getD, List.getElem?_eq_getElem hx, Option.getD_some]
    exact (h3 _ _ (a3 _ (List.getElem_mem hx))).1
  have hx := bound i hi
  have hy := bound j hj
  simp only [List.getD_eq_getElem?_getD, List.getElem?_eq_getElem hx, List.getElem?_eq_getElem hy, Option.getD_some] at he
  have hpw := List.pairwise_iff_getElem.1 a2
  have hij : ix i = ix j := by
    rcases Nat.lt_trichotomy (ix i) (ix j) with h | h | h
    · exact absurd he (hpw _ _ hx hy h)
    · exact h
    · exact absurd he.symm (hpw _ _ hy hx h)
  change (if i = 99 then 11 else i - 1) = (if j = 99 then 11 else j - 1) at hij
  split at hij <;> split at hij <;> omega
end Go.Proofs.YtibplgpolmplpaaGreatDoor
