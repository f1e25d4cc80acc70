/- image.least, what its loops keep: the numbers of groups in a map, the states met, the rows written. Condition: the lists in blocks of their own. image.least, the walk: the least automaton of the same words. Condition: the automaton reads from memory. -/
import Derived.Test.YthilnpfpllplaaaGreatDoorS3
import Derived.Test.YthilnpfpllplaaaGreatDoorS18
import Derived.Test.YthilnpfpllplaaaGreatDoorS20
namespace Go.Proofs.YthilnpfpllplaaaGreatDoor
open Go.RowKit Go.WideMaps Go.Maps BagP RuleP SubP

theorem keyI : Keyed Tryz.prog 3 := int_keyed Tryz.underlying3
theorem keyI_of (x : Nat) (h : x ≤ 4096) : keyOf Tryz.prog 3 (.int .i64 (x : Int)) = some (.int .i64 (x : Int)) := keyOf_int_mk Tryz.underlying3 (WalkArith.wf_i64 (by omega))
/-- The map numbers the keys in their order. -/
def RelI (D : DataW Unit) (K : List Nat) : Prop :=
  Maps.IsMap D ∧ ∀ x : Nat, Maps.has D (.int .i64 (x : Int)) = decide (x ∈ K) ∧ ∀ i : Nat, K[i]? = some x → D.atKey (.int .i64 (x : Int)) (.lit (.int .i64 0)) = .lit (.int .i64 (i : Int))
theorem relI_nil : RelI (.map []) [] := ⟨Maps.isMap_empty, fun x => ⟨rfl, fun i h => by simp at h⟩⟩
theorem relI_snoc {D : DataW Unit} {S : List Nat} (h : RelI D S) {l : Nat} (hn : l ∉ S) : RelI (D.put (.int .i64 (l : Int)) (.lit (.int .i64 (S.length : Int)))) (S ++ [l]) := by
  refine ⟨h.1.put _ _, fun l' => ?_⟩
  by_cases e : l' = l
  · subst e
    refine ⟨?_, fun i hi => ?_⟩
    · rw [Maps.has_put_same h.1 (by simp [WideAt.IsKeyLit])]; simp
    · rw [Maps.atKey_put_same h.1 (by simp [WideAt.IsKeyLit])]
      rcases get_snoc hi with hi | ⟨hi, _⟩
      · exact absurd (List.mem_of_getElem? hi) hn
      · rw [hi]
  · have hne : (Lit.int .i64 (l' : Int)) ≠ Lit.int .i64 (l : Int) := by
      intro e'
      injection e' with _ e'
      exact e (by omega)
    refine ⟨?_, fun i hi => ?_⟩
    · rw [Maps.has_put_other hne, (h.2 l').1, decide_eq_decide]; simp [e]
    · rw [Maps.atKey_put_other hne]
      rcases get_snoc hi with hi | ⟨_, hi⟩
      · exact (h.2 l').2 i hi
      · exact absurd hi e

/-- The groups of the states met. -/
def keysG (G S : List Nat) : List Nat := S.map fun u => G.getD u 0
theorem keysG_len (G S : List Nat) : (keysG G S).length = S.length := List.length_map ..
theorem keysG_snoc (G S : List Nat) (t : Nat) : keysG G (S ++ [t]) = keysG G S ++ [G.getD t 0] := by simp [keysG]
def eG (G : List Nat) : Nat → Nat → Bool := fun i j => decide (G.getD i 0 = G.getD j 0)
theorem look_in {G S : List Nat} {t : Nat} (h : G.getD t 0 ∈ keysG G S) : RuleP.look (eG G) S t < S.length ∧ (keysG G S)[RuleP.look (eG G) S t]? = some (G.getD t 0) := by
  obtain ⟨u, hu, e⟩ := List.mem_map.1 h
  have h1 : RuleP.look (eG G) S t < S.length := List.findIdx_lt_length_of_exists ⟨u, hu, decide_eq_true e⟩
  obtain ⟨x, hx, hp⟩ := findIdx_spec h1
  refine ⟨h1, ?_⟩
  have hx' : S[RuleP.look (eG G) S t]? = some x := hx
  unfold keysG
  rw [List.getElem?_map, hx']
  have hp' : G.getD x 0 = G.getD t 0 := of_decide_eq_true hp
  show some (G.getD x 0) = _
  rw [hp']
theorem look_out {G S : List Nat} {t : Nat} (h : G.getD t 0 ∉ keysG G S) : ¬ RuleP.look (eG G) S t < S.length := fun h1 => by
  obtain ⟨x, hx, hp⟩ := findIdx_spec h1
  have hp' : G.getD x 0 = G.getD t 0 := of_decide_eq_true hp
  exact h (List.mem_map.2 ⟨x, List.mem_of_getElem? hx, hp'⟩)

structure LeP where
  w0 : World
  k : Nat
  n : Nat
  nc : Nat
  NA : Option Addr
  gg : Nat
  mb : Nat
  ob : Nat
def LeP.B (D : LeP) : Nat := D.w0.heap.size
/-- The number rows that are written beside the rows kept. -/
def XL (X : Nat → Prop) (sv : Value) (b : Nat) : Prop := X b ∨ sv.ownBlock = some b

/-- All but the automaton that is written. -/
structure LeC (w : World) (D : LeP) (G S K : List Nat) (F : List (List Int)) (sv nv : Value) (nr : List Value) (X : Nat → Prop) : Prop where
  old : Below D.B D.w0 w
  auto : AutoAt w D.B (.int .i64 (D.k : Int)) (.slice D.NA D.n D.nc)
  grp : w.ownsRow D.B 3 1 (.slice (some ⟨D.gg, 0, none⟩) D.n D.n) D.n ((ints G).map (Value.int .i64))
  map : ∃ M, w.ownsMap Tryz.prog 3 (plainElem (H := Unit) Tryz.prog 3) D.mb K.length M ∧ RelI M K
  fm : D.B ≤ D.mb
  fb : D.B + 1 < D.ob
  res : AutoAt w (D.B + 1) (.int .i64 0) (.slice none 0 0)
  st : w.ownsRow D.B 3 1 sv S.length ((ints S).map (Value.int .i64))
  nx : RowsAt w D.B nv nr F (XL X sv)
  ne : sv.ownBlock ≠ some D.gg
  nX : ∀ g, X g → g ≠ D.gg ∧ sv.ownBlock ≠ some g

namespace LeC
variable {w w' : World} {D : LeP} {G S K : List Nat} {F : List (List Int)} {sv nv sv' nv' : Value} {nr : List Value} {X X' : Nat → Prop}
theorem map_keeps {Q : Nat → Prop} (h : LeC w D G S K F sv nv nr X) (hk : Keeps Q w w') (hq : ∀ b, Q b → ∃ cs e, w.heap[b]? = some (.cells cs e (0, 0))) :
    ∃ M, w'.ownsMap Tryz.prog 3 (plainElem (H := Unit) Tryz.prog 3) D.mb K.length M ∧ RelI M K := by
  obtain ⟨M, ⟨es, clock, hb, rest⟩, hr⟩ := h.map
  refine ⟨M, ⟨es, clock, (hk.block D.mb (Array.getElem?_eq_some_iff.1 hb).1 (fun hQ => ?_)).trans hb, rest⟩, hr⟩
  obtain ⟨cs, e, hc⟩ := hq _ hQ
  rw [hb] at hc
  cases hc
theorem auto_keeps {Q : Nat → Prop} (h : LeC w D G S K F sv nv nr X) (hk : Keeps Q w w') (hq : ¬ Q D.B) : AutoAt w' D.B (.int .i64 (D.k : Int)) (.slice D.NA D.n D.nc) :=
  (hk.block D.B (Array.getElem?_eq_some_iff.1 h.auto).1 hq).trans h.auto
theorem res_keeps {Q : Nat → Prop} (h : LeC w D G S K F sv nv nr X) (hk : Keeps Q w w') (hq : ¬ Q (D.B + 1)) : AutoAt w' (D.B + 1) (.int .i64 0) (.slice none 0 0) :=
  (hk.block (D.B + 1) (Array.getElem?_eq_some_iff.1 h.res).1 hq).trans h.res
theorem res_not (h : LeC w D G S K F sv nv nr X) {cs : Array Value} {e : TypeId} {b : Nat} (hb : w.heap[b]? = some (.cells cs e (0, 0))) (he : e ≠ 50) : b ≠ D.B + 1 := fun e' => by
  have := h.res
  unfold AutoAt at this
  rw [e', this] at hb
  injection hb with hb
  injection hb with _ hb
  exact he hb.symm
/-- Not the automaton's block: cells of another type. -/
theorem auto_not (h : LeC w D G S K F sv nv nr X) {cs : Array Value} {e : TypeId} {b : Nat} (hb : w.heap[b]? = some (.cells cs e (0, 0))) (he : e ≠ 50) : b ≠ D.B := fun e' => by
  have := h.auto
  unfold AutoAt at this
  rw [e', this] at hb
  injection hb with hb
  injection hb with _ hb
  exact he hb.symm
/-- Writes to the automaton that is written. -/
theorem stored (h : LeC w D G S K F sv nv nr X) {cs : Array Value} (ho : w.heap[D.ob]? = some (.cells cs 50 (0, 0))) (j : Nat) (u : Value) : LeC (w.setCell ⟨D.ob, j, none⟩ u) D G S K F sv nv nr X :=
  have hk := Keeps.of_setCell w ⟨D.ob, j, none⟩ u
  have hq : ∀ b, b = D.ob → ∃ cs, w.heap[b]? = some (.cells cs 50 (0, 0)) := fun b hb => ⟨cs, by rw [hb]; exact ho⟩
  { old := h.old.trans (hk.below h.old.size (fun b hb => by rw [show b = D.ob from hb]; exact Nat.le_of_lt (Nat.lt_of_succ_lt h.fb)))
    auto := h.auto_keeps hk (fun e => absurd (show D.B = D.ob from e) (Nat.ne_of_lt (Nat.lt_of_succ_lt h.fb)))
    res := h.res_keeps hk (fun e => absurd (show D.B + 1 = D.ob from e) (Nat.ne_of_lt h.fb))
    grp := own_keeps h.grp hk (fun g hg hQ => by obtain ⟨cs, hc⟩ := hq g hQ; exact own_ne_blk h.grp hc (by decide) hg)
    map := h.map_keeps hk (fun b hb => by obtain ⟨cs, hc⟩ := hq b hb; exact ⟨cs, _, hc⟩)
    fm := h.fm
    fb := h.fb
    st := own_keeps h.st hk (fun g hg hQ => by obtain ⟨cs, hc⟩ := hq g hQ; exact own_ne_blk h.st hc (by decide) hg)
    nx := h.nx.keeps hk (fun b hb => by obtain ⟨cs, hc⟩ := hq b hb; exact h.nx.not_lst hc (by decide)) (fun b hb => by obtain ⟨cs, hc⟩ := hq b hb; exact h.nx.not_el hc (by decide))
    ne := h.ne
    nX := h.nX }
/-- Writes to the current row. -/
theorem keeps {Q : Nat → Prop} (h : LeC w D G S K F sv nv nr X) (hk : Keeps Q w w') (hq : ∀ b, Q b → X b ∧ D.B ≤ b ∧ ∃ cs, w.heap[b]? = some (.cells cs 3 (0, 0))) : LeC w' D G S K F sv nv nr X where
  old := h.old.trans (hk.below h.old.size (fun b hb => (hq b hb).2.1))
  auto := h.auto_keeps hk (fun e => by obtain ⟨_, _, cs, hc⟩ := hq _ e; exact h.auto_not hc (by decide) rfl)
  res := h.res_keeps hk (fun e => by obtain ⟨_, _, cs, hc⟩ := hq _ e; exact h.res_not hc (by decide) rfl)
  grp := own_keeps h.grp hk (fun g hg hQ => by
    have e : D.gg = g := by simpa [Value.ownBlock] using hg
    exact (h.nX g (hq g hQ).1).1 e.symm)
  map := h.map_keeps hk (fun b hb => by obtain ⟨_, _, cs, hc⟩ := hq b hb; exact ⟨cs, _, hc⟩)
  fm := h.fm
  fb := h.fb
  st := own_keeps h.st hk (fun g hg hQ => (h.nX g (hq g hQ).1).2 hg)
  nx := h.nx.keeps hk (fun b hb => by obtain ⟨_, _, cs, hc⟩ := hq b hb; exact h.nx.not_lst hc (by decide)) (fun b hb => h.nx.not_X (.inl (hq b hb).1))
  ne := h.ne
  nX := h.nX
theorem pure (h : LeC w D G S K F sv nv nr X) (hb : Below w.heap.size w w') : LeC w' D G S K F sv nv nr X :=
  h.keeps (Keeps.of_pure hb (fun _ => False)) (fun _ hf => hf.elim)
/-- Another current row: a new one, or none. -/
theorem mono (h : LeC w D G S K F sv nv nr X) (hx : ∀ b, X' b → X b ∨ w.heap.size ≤ b) : LeC w D G S K F sv nv nr X' where
  old := h.old
  auto := h.auto
  res := h.res
  grp := h.grp
  map := h.map
  fm := h.fm
  fb := h.fb
  st := h.st
  nx := h.nx.mono (fun b hb => by
    rcases hb with hb | hb
    · exact (hx b hb).imp .inl id
    · exact .inl (.inr hb))
  ne := h.ne
  nX := fun g hg => by
    rcases hx g hg with h1 | h1
    · exact h.nX g h1
    · exact ⟨fun e => by have h2 := (h.grp.lt D.gg rfl).2; rw [e] at h1; omega, fun e => by have := (h.st.lt g e).2; omega⟩
/-- A group told to the map. -/
theorem mapped (h : LeC w D G S K F sv nv nr X) {M : DataW Unit} {x : Nat} (hg : w.grownBy w' (some D.mb)) (hm : w'.ownsMap Tryz.prog 3 (plainElem (H := Unit) Tryz.prog 3) D.mb (K.length + 1) (M.put (.int .i64 (x : Int)) (.lit (.int .i64 (K.length : Int)))))
    (hr : RelI M K) (hn : x ∉ K) : LeC w' D G S (K ++ [x]) F sv nv nr X := by
  have hk := Keeps.of_grown hg
  obtain ⟨_, ⟨es, clock, hb, _⟩, _⟩ := h.map
  have hne : ∀ {e n : Nat} {v : Value} {xs : List Value} {base : Nat}, w.ownsRow base e 1 v n xs → ∀ g, v.ownBlock = some g → ¬ (some D.mb = some g) := fun ho g hg e => by
    injection e with e
    rw [← e] at hg
    exact own_ne_map ho hb hg
  exact {
    old := h.old.trans (hk.below h.old.size (fun b hb => by injection hb with hb; rw [← hb]; exact h.fm))
    auto := h.auto_keeps hk (fun e => by
      have := h.auto
      unfold AutoAt at this
      injection e with e
      rw [← e, hb] at this
      cases this)
    res := h.res_keeps hk (fun e => by
      have := h.res
      unfold AutoAt at this
      injection e with e
      rw [← e, hb] at this
      cases this)
    grp := own_keeps h.grp hk (fun g hg hQ => hne h.grp g hg hQ)
    map := ⟨_, by rw [List.length_append]; exact hm, relI_snoc hr hn⟩
    fm := h.fm
    fb := h.fb
    st := own_keeps h.st hk (fun g hg hQ => hne h.st g hg hQ)
    nx := h.nx.keeps hk (fun b hb hg => hne h.nx.lst b hg hb) (fun b hb v hv hg => by obtain ⟨l, _, h2, _⟩ := h.nx.mem hv; exact hne h2 b hg hb)
    ne := h.ne
    nX := h.nX }
/-- A state kept behind the others. -/
theorem pushed (h : LeC w D G S K F sv nv nr X) {t : Nat} (hl : w'.ownsRow D.B 3 1 sv' (S.length + 1) ((ints S).map (Value.int .i64) ++ [.int .i64 (t : Int)])) (hk : Keeps (fun b => sv.ownBlock = some b) w w')
    (hat : ∀ g, sv'.ownBlock = some g → sv.ownBlock = some g ∨ w.heap.size ≤ g) (hX : ∀ g, X g → g < w.heap.size) : LeC w' D G (S ++ [t]) K F sv' nv nr X where
  old := h.old.trans (hk.below h.old.size (fun b hb => (h.st.lt b hb).1))
  auto := h.auto_keeps hk (fun e => own_ne_blk h.st (show w.heap[D.B]? = some (.cells _ 50 (0, 0)) from h.auto) (by decide) e)
  res := h.res_keeps hk (fun e => own_ne_blk h.st (show w.heap[D.B + 1]? = some (.cells _ 50 (0, 0)) from h.res) (by decide) e)
  grp := own_keeps h.grp hk (fun g hg hQ => by
    have e : D.gg = g := by simpa [Value.ownBlock] using hg
    rw [← e] at hQ
    exact h.ne hQ)
  map := h.map_keeps hk (fun b hb => by obtain ⟨cs, hc⟩ := own_block h.st hb; exact ⟨cs, _, hc⟩)
  fm := h.fm
  fb := h.fb
  st := by
    rw [List.length_append]
    have e3 : (ints (S ++ [t])).map (Value.int .i64) = (ints S).map (Value.int .i64) ++ [.int .i64 (t : Int)] := by simp [ints]
    rw [e3]
    exact hl
  nx := ((h.nx.mono (X' := fun b => XL X sv b ∨ w.heap.size ≤ b) (fun b hb => hb)).keeps hk (fun b hb hg => own_ne_own h.nx.lst h.st (by decide) hg hb) (fun b hb => h.nx.not_X (.inr hb))) |> fun h1 => by
    refine ⟨RowsG.lst h1, fun j l hj => ?_, RowsG.far h1⟩
    obtain ⟨v, a1, a2, a3⟩ := RowsG.el h1 j l hj
    refine ⟨v, a1, a2, fun g hg hx => a3 g hg ?_⟩
    rcases hx with hx | hx
    · exact .inl (.inl hx)
    · exact (hat g hx).elim (fun h => .inl (.inr h)) .inr
  ne := fun e => by
    rcases hat _ e with h1 | h1
    · exact h.ne h1
    · have := (h.grp.lt D.gg rfl).2
      omega
  nX := fun g hg => ⟨(h.nX g hg).1, fun e => by
    rcases hat _ e with h1 | h1
    · exact (h.nX g hg).2 h1
    · have := hX g hg
      omega⟩
/-- A row kept behind the others. -/
theorem nexted (h : LeC w D G S K F sv nv nr X) {l : List Int} {v : Value} (hv : w.ownsRow D.B 3 1 v l.length (l.map (Value.int .i64))) (hX : ∀ g, v.ownBlock = some g → ¬ XL X sv g) (hnew : ∀ g, v.ownBlock = some g → ∀ u ∈ nr, u.ownBlock ≠ some g)
    (hl : w'.ownsRow D.B 22 1 nv' (F.length + 1) (nr ++ [v])) (hk : Keeps (fun b => nv.ownBlock = some b) w w') : LeC w' D G S K (F ++ [l]) sv nv' (nr ++ [v]) X where
  old := h.old.trans (hk.below h.old.size (fun b hb => (h.nx.lst.lt b hb).1))
  auto := h.auto_keeps hk (fun e => own_ne_blk h.nx.lst (show w.heap[D.B]? = some (.cells _ 50 (0, 0)) from h.auto) (by decide) e)
  res := h.res_keeps hk (fun e => own_ne_blk h.nx.lst (show w.heap[D.B + 1]? = some (.cells _ 50 (0, 0)) from h.res) (by decide) e)
  grp := own_keeps h.grp hk (fun g hg hQ => own_ne_own h.grp h.nx.lst (by decide) hg hQ)
  map := h.map_keeps hk (fun b hb => by obtain ⟨cs, hc⟩ := own_block h.nx.lst hb; exact ⟨cs, _, hc⟩)
  fm := h.fm
  fb := h.fb
  st := own_keeps h.st hk (fun g hg hQ => own_ne_own h.st h.nx.lst (by decide) hg hQ)
  nx := h.nx.put hv hX hnew hl hk
  ne := h.ne
  nX := h.nX
theorem reob {w0 : World} {k n nc gg mb ob ob' : Nat} {NA : Option Addr} (h : LeC w ⟨w0, k, n, nc, NA, gg, mb, ob⟩ G S K F sv nv nr X) (hb : w0.heap.size + 1 < ob') : LeC w ⟨w0, k, n, nc, NA, gg, mb, ob'⟩ G S K F sv nv nr X :=
  ⟨h.old, h.auto, h.grp, h.map, h.fm, hb, h.res, h.st, h.nx, h.ne, h.nX⟩
end LeC
end Go.Proofs.YthilnpfpllplaaaGreatDoor

namespace Go.Proofs.YthilnpfpllplaaaGreatDoor
open Go.RowKit Go.WideMaps Go.Maps BagP RuleP SubP

theorem int_at {w : World} {base e g n cap : Nat} {l : List Nat} (h : w.ownsRow base e 1 (.slice (some ⟨g, 0, none⟩) n cap) n ((ints l).map (Value.int .i64))) {i : Nat} (hi : i < n) : w.cell? ⟨g, i, none⟩ = some (.int .i64 ((l.getD i 0 : Nat) : Int)) ∧ w.frozen? ⟨g, i, none⟩ = false := by
  have hl : l.length = n := by have := h.1; simpa [ints] using this
  refine ⟨?_, h.frozenAt i⟩
  rw [h.cellAt i (by omega)]
  unfold ints
  rw [List.getElem?_map, List.getElem?_map, List.getD_eq_getElem?_getD, List.getElem?_eq_getElem (by omega)]
  rfl
theorem row_put {row l : List Int} {j : Nat} (hr : row.length = j) (hj : j < l.length) (v : Int) : (row ++ l.drop j).set j v = (row ++ [v]) ++ l.drop (j + 1) := by
  rw [List.set_append_right _ _ (by omega), hr, Nat.sub_self, List.drop_eq_getElem_cons hj, List.set_cons_zero, List.append_assoc]; rfl
theorem row_same {row l : List Int} {j : Nat} {v : Int} (hv : l[j]? = some v) : row ++ l.drop j = (row ++ [v]) ++ l.drop (j + 1) := by
  obtain ⟨h1, h2⟩ := List.getElem?_eq_some_iff.1 hv
  rw [List.drop_eq_getElem_cons h1, h2, List.append_assoc]; rfl
theorem row_at {row l : List Int} {j : Nat} (hr : row.length = j) : (row ++ l.drop j)[j]? = l[j]? := by
  rw [List.getElem?_append_right (by omega), hr, Nat.sub_self, List.getElem?_drop, Nat.add_zero]
theorem row_snoc {e : Nat → Nat → Bool} {S S' : List Nat} {l row : List Int} {j : Nat} {v : Int} (h : rowF e S (l.take j) = (S', row)) (hv : l[j]? = some v) : rowF e S (l.take (j + 1)) = stepS e (S', row) v := by
  rw [List.take_add_one, hv, Option.toList_some, rowF_snoc, h]
theorem step_neg {e : Nat → Nat → Bool} {S : List Nat} {row : List Int} {t : Int} (h : t < 0) : stepS e (S, row) t = (S, row ++ [t]) := by unfold stepS; rw [if_pos h]
theorem step_in {e : Nat → Nat → Bool} {S : List Nat} {row : List Int} {t : Nat} (h : RuleP.look e S t < S.length) : stepS e (S, row) (t : Int) = (S, row ++ [((RuleP.look e S t : Nat) : Int)]) := by
  unfold stepS; rw [if_neg (by omega)]; simp only [Int.toNat_natCast]; rw [if_pos h]
theorem step_out {e : Nat → Nat → Bool} {S : List Nat} {row : List Int} {t : Nat} (h : ¬ RuleP.look e S t < S.length) : stepS e (S, row) (t : Int) = (S ++ [t], row ++ [(S.length : Int)]) := by
  unfold stepS; rw [if_neg (by omega)]; simp only [Int.toNat_natCast]; rw [if_neg h]
theorem fold_round {e : Nat → Nat → Bool} {L : List (List Int)} {S S' : List Nat} {F : List (List Int)} {row : List Int} (h : foldTo e L F.length = (S, F)) (hlt : F.length < S.length) (hr : rowF e S (L.getD (S.getD F.length 0) []) = (S', row)) :
    foldTo e L (F ++ [row]).length = (S', F ++ [row]) := by
  rw [List.length_append, show F.length + [row].length = F.length + 1 from rfl, foldTo_succ, h, if_pos hlt]
  unfold stepR
  dsimp only
  rw [hr]
theorem inv_round {k : Nat} {L : List (List Int)} {e : Nat → Nat → Bool} (hA : IsAuto k L) (hre : ∀ t, t < L.length → e t t = true) {S S' : List Nat} {F : List (List Int)} {row : List Int} (h : FInv k L e S F) (hlt : F.length < S.length) (hr : rowF e S (L.getD (S.getD F.length 0) []) = (S', row)) :
    FInv k L e S' (F ++ [row]) := by
  have h1 := (h.round hA hre hlt).1
  unfold stepR at h1
  dsimp only at h1
  rwa [hr] at h1

theorem auto_set1 {w : World} {g : Nat} {x0 x1 : Value} (h : AutoAt w g x0 x1) (u : Value) : AutoAt (w.setCell ⟨g, 1, none⟩ u) g x0 u := by
  exact heap_setCell_same w g 1 _ _ u h
theorem auto_keeps {w w' : World} {Q : Nat → Prop} {g : Nat} {x0 x1 : Value} (h : AutoAt w g x0 x1) (hk : Keeps Q w w') (hq : ¬ Q g) : AutoAt w' g x0 x1 :=
  (hk.block g (Array.getElem?_eq_some_iff.1 h).1 hq).trans h

set_option maxRecDepth 100000 in
set_option maxHeartbeats 1500000 in
theorem least_c (w : World) (k n nc : Nat) (NA : Option Addr) (L : List (List Int)) (hn : L.length = n) (hA : IsAuto k L) (hL : ListAt w NA n L) (hk0 : 0 < k) (hk4 : k ≤ 4) (hn4 : n ≤ 4096) :
    Calls Tryz.prog 72 #[autoV (k : Int) (.slice NA n nc)] w fun e w' => ∃ (nv : Value) (nr : List Value), e = .returned (autoV (k : Int) nv) ∧ RowsAt w' w.heap.size nv nr (leastA k L) (fun _ => False) ∧ Below w.heap.size w w' := by
  have hn0 : 0 < n := by rw [← hn]; exact hA.pos
  obtain ⟨adn, _, _, _, rfl, _⟩ := hL.at_ hn0
  have hmm := @run_makeMap Tryz.prog
  obtain ⟨W1, hW1⟩ : ∃ W1, w.alloc (.cells #[.int .i64 (k : Int), .slice (some adn) n nc] 50) = W1 := ⟨_, rfl⟩
  have hz1 : W1.heap.size = w.heap.size + 1 := by rw [← hW1]; simp
  have ha1 : AutoAt W1 w.heap.size (.int .i64 (k : Int)) (.slice (some adn) n nc) := by rw [← hW1]; exact heap_new _ _
  have hb1 := (Below.refl w.heap.size w).alloc (Nat.le_refl _) (.cells #[.int .i64 (k : Int), .slice (some adn) n nc] 50)
  rw [hW1] at hb1
  obtain ⟨W2, hW2⟩ : ∃ W2, W1.alloc (.cells #[.int .i64 0, .slice none 0 0] 50) = W2 := ⟨_, rfl⟩
  have hz2 : W2.heap.size = w.heap.size + 2 := by rw [← hW2]; simp [hz1]
  have hr2 : AutoAt W2 (w.heap.size + 1) (.int .i64 0) (.slice none 0 0) := by rw [← hW2, ← hz1]; exact heap_new _ _
  have hb12 : Below W1.heap.size W1 W2 := by rw [← hW2]; exact (Below.refl _ _).alloc (Nat.le_refl _) _
  have hb2 : Below w.heap.size w W2 := hb1.trans (hb12.mono hb1.size)
  have ha2 := ha1.below hb12 (by omega)
  have hPT := parted_c W2 k n nc (some adn) L hn hA (hL.keep hb2) hk4 hn4
  unfold autoV at hPT
  have HPT := Lib.hid hPT
  have HW12 := Lib.hid (⟨hW1, hW2⟩ : _ ∧ _)
  have HN := Lib.hid hn
  have HA := Lib.hid hA
  have HL := Lib.hid hL
  have HA2 := Lib.hid ha2
  have HR2 := Lib.hid hr2
  have HB2 := Lib.hid hb2
  have HZ2 := Lib.hid hz2
  clear hPT hW1 hW2 hz1 hz2 ha1 hb1 hb12 hb2 ha2 hr2 hn hA hL
  unfold autoV
  go_enter Tryz.func72, Tryz.ntmps72
  go_wp2_with fail
  rw [HW12.out.1, HW12.out.2]
  refine (HPT.out).mono ?_
  rintro e w3 ⟨gg, G, rfl, ho3, hGl, hGB, hPD, hb3⟩
  clear HPT HW12
  have hz2 := HZ2.out
  have hs3 := hb3.size
  have hb34 := (Below.refl w3.heap.size w3).alloc (Nat.le_refl _) (.map #[] 0)
  have hmp := World.ownsMap_made w3 Tryz.prog 3 (plainElem (H := Unit) Tryz.prog 3)
  have hC4 : LeC (w3.alloc (.map #[] 0)) ⟨w, k, n, nc, some adn, gg, w3.heap.size, w.heap.size + 2⟩ G [] [] [] (.slice none 0 0) (.slice none 0 0) [] (fun _ => False) := {
    old := HB2.out.trans ((hb3.trans (hb34.mono hs3)).mono HB2.out.size)
    auto := (HA2.out.below hb3 (by omega)).below hb34 (by omega)
    grp := own_below (own_base ho3 HB2.out.size) hb34
    map := ⟨_, hmp, relI_nil⟩
    fm := by show w.heap.size ≤ w3.heap.size; omega
    fb := by show w.heap.size + 1 < w.heap.size + 2; omega
    res := (HR2.out.below hb3 (by omega)).below hb34 (by omega)
    st := World.ownsRow_nil _ _ _ _
    nx := RowsAt.nil _ _ _
    ne := by simp [Value.ownBlock]
    nX := fun g hg => hg.elim }
  obtain ⟨M0, hM0, hrel0⟩ := hC4.map
  obtain ⟨q0, q1⟩ := int_at hC4.grp hn0
  have hkey0 := keyI_of (G.getD 0 0) (by have := hGB 0 hn0; omega)
  have hins : plainElem (H := Unit) Tryz.prog 3 (.int .i64 0) = some (.lit (.int .i64 0), []) := plainElem_int Tryz.underlying3 (WalkArith.wf_i64 (by omega))
  have HC4 := Lib.hid hC4
  have HREL0 := Lib.hid hrel0
  have HGL := Lib.hid hGl
  have HGB := Lib.hid hGB
  have HPD := Lib.hid hPD
  clear hC4 hrel0 hmp hb34 hs3 hz2 hb3 ho3 hGl hGB hPD HA2 HR2 HB2 HZ2
  dsimp only at hM0 q0 q1
  go_wp2_with (refine wpList_insert_own _ rfl _ _ _ 132 rfl 3 3 keyI Tryz.underlying132 _ _ 0 M0 rfl hM0 (by decide) _ _ _ rfl rfl hkey0 _ [] hins ?_; intro w6 hmap6 hg6; have hC6 := HC4.out.mapped hg6 hmap6 HREL0.out (by simp); obtain ⟨c0, c1, _, _⟩ := hC6.auto.facts; dsimp only [LeP.B] at c0 c1; have c2 := cell_later ((Below.refl w6.heap.size w6).alloc (Nat.le_refl _) (.cells #[.int .i64 0] 3)) c0)
  have hl6 := World.ownsRow_lit (base := w6.heap.size) (e := 3) (size := 1) w6 #[.int .i64 0] 1 (Nat.le_refl _) (by decide) rfl
  have hb6 : Below w6.heap.size w6 (w6.alloc (.cells #[.int .i64 0] 3)) := (Below.refl _ _).alloc (Nat.le_refl _) _
  have hC6' := hC6.pushed (t := 0) (sv' := .slice (some ⟨w6.heap.size, 0, none⟩) 1 1) (own_base (by simpa [ints] using hl6) hC6.old.size) (Keeps.of_pure hb6 _) (fun g hg => .inr (by simp [Value.ownBlock] at hg; omega)) (fun g hg => hg.elim)
  have hb7 : Below (w6.alloc (.cells #[.int .i64 0] 3)).heap.size (w6.alloc (.cells #[.int .i64 0] 3)) ((w6.alloc (.cells #[.int .i64 0] 3)).alloc (.cells #[.int .i64 (k : Int), .slice none 0 0] 50)) := (Below.refl _ _).alloc (Nat.le_refl _) _
  have ho7 := heap_new (w6.alloc (.cells #[.int .i64 0] 3)) (.cells #[.int .i64 (k : Int), .slice none 0 0] 50)
  have hs6 : w.heap.size + 1 < w6.heap.size + 1 := by
    have h1 := (Array.getElem?_eq_some_iff.1 hC6.auto).1
    dsimp only [LeP.B] at h1
    omega
  have hC7 := (hC6'.pure hb7).reob (ob' := w6.heap.size + 1) hs6
  rw [World.size_alloc] at ho7
  obtain ⟨W7, hW7⟩ : ∃ W7, (w6.alloc (.cells #[.int .i64 0] 3)).alloc (.cells #[.int .i64 (k : Int), .slice none 0 0] 50) = W7 := ⟨_, rfl⟩
  obtain ⟨ob, hob⟩ : ∃ ob, w6.heap.size + 1 = ob := ⟨_, rfl⟩
  obtain ⟨sb, hsb⟩ : ∃ sb, w6.heap.size = sb := ⟨_, rfl⟩
  obtain ⟨mb, hmb⟩ : ∃ mb, w3.heap.size = mb := ⟨_, rfl⟩
  rw [hW7, hob, hmb, hsb] at hC7
  rw [hW7, hob] at ho7
  rw [hW7, hob, hmb, hsb]
  have hO7 : AutoAt W7 ob (.int .i64 (k : Int)) (.slice none 0 0) := ho7
  have hC7 : LeC W7 ⟨w, k, n, nc, some adn, gg, mb, ob⟩ G [0] (keysG G [0]) [] (.slice (some ⟨sb, 0, none⟩) 1 1) (.slice none 0 0) [] (fun _ => False) := hC7
  have HC7 := Lib.hid hC7
  have HO7 := Lib.hid hO7
  have hre : ∀ t, t < L.length → eG G t t = true := fun t _ => by simp [eG]
  have HRE := Lib.hid hre
  clear hC7 hO7 ho7 hs6 hb7 hC6' hb6 hl6 hC6 c0 c1 c2 hmap6 hg6 hM0 q0 q1 hkey0 hins HC4 HREL0 hob hsb hmb hW7 hre
  go_loopw [5, 7] (fun sv iv wl => ∃ (S : List Nat) (F : List (List Int)) (nv : Value) (nr : List Value), iv = .int .i64 (F.length : Int) ∧ Hid (foldTo (eG G) L F.length = (S, F)) ∧ Hid (FInv k L (eG G) S F) ∧ Hid (LeC wl ⟨w, k, n, nc, some adn, gg, mb, ob⟩ G S (keysG G S) F sv nv nr (fun _ => False)) ∧ Hid (AutoAt wl ob (.int .i64 (k : Int)) nv)) (fun _ iv _ => n - (intOf iv).toNat)
  case atStart => exact ⟨[0], [], .slice none 0 0, [], rfl, Lib.hid rfl, Lib.hid (FInv.start HA.out), HC7, HO7⟩
  case round =>
    obtain ⟨S, F, nv, nr, rfl, hfd, hfi, hC, hO⟩ := hrel
    have hSl := apart_nodup (k := k) HRE.out hfi.out.lt hfi.out.apart
    rw [HN.out] at hSl
    have hst := hC.out.st
    obtain ⟨SA, sc, rfl, _, _⟩ := own_slice hst
    obtain ⟨v8, rfl⟩ : ∃ v8, v8 = wr := ⟨_, rfl⟩
    obtain ⟨i, hi⟩ : ∃ i, F.length = i := ⟨_, rfl⟩
    have HI := Lib.hid hi
    rw [hi]
    clear hi
    have a1 : v8.cell? ⟨w.heap.size, 1, none⟩ = some (.slice (some adn) n nc) := hC.out.auto.facts.2.1
    obtain ⟨o0, o1, p0, p1⟩ := hO.out.facts
    by_cases hlt : i < S.length
    · have hlt' : (i : Int) < (S.length : Int) := by omega
      obtain ⟨ads, x, rfl, hx, hcx⟩ := (Sl.of_own hst).int_ hlt
      obtain ⟨u, hu⟩ : ∃ u, S[i]? = some u := ⟨_, List.getElem?_eq_getElem hlt⟩
      have hxu : x = (u : Int) := by
        unfold ints at hx
        rw [List.getElem?_map, hu] at hx
        exact (Option.some.inj hx).symm
      subst hxu
      have hun : u < n := by rw [← HN.out]; exact hfi.out.lt u (List.mem_of_getElem? hu)
      obtain ⟨adn', l, P, pc, hadn, hl, hcl, _, hsl⟩ := (HL.out.keep (hC.out.old.mono (Nat.le_refl _))).at_ hun
      obtain rfl := Option.some.inj hadn
      have hlk : l.length = k := HA.out.len l (List.mem_of_getElem? hl)
      have HLU := Lib.hid (show L.getD (S.getD i 0) [] = l by
        rw [List.getD_eq_getElem?_getD (l := S), hu, Option.getD_some, List.getD_eq_getElem?_getD, hl]; rfl)
      have HLO := Lib.hid (HA.out.ok l (List.mem_of_getElem? hl))
      rw [hlk] at hcl hsl
      have HLK := Lib.hid hlk
      have HCL := Lib.hid (clone_c v8.drew P k pc _ (ints_one _) (by omega) (hsl.below ((Below.refl _ _).drew)))
      have hun' : (u : Int) < (n : Int) := by omega
      have hu0 : (0 : Int) ≤ (u : Int) := by omega
      have hi0 : (0 : Int) ≤ (i : Int) := by omega
      clear hu hl hlk hsl hst hx
      go_wp2_with fail
      go_region_held3 (fun w' => w'.cell? ⟨w.heap.size, 1, none⟩ = some (.slice (some adn) n nc) ∧ w'.cell? (ads.add i) = some (.int .i64 (u : Int)) ∧ w'.cell? (adn.add u) = some (.slice P k pc))
        (first | go_keep)
        (first
          | (go_at_call 65
             refine (HCL.out).mono ?_
             rintro e w2 ⟨C, cc, rfl, ho2, hb2⟩
             have hbz := (Below.refl v8.heap.size v8).drew.trans hb2
             have x0 := cell_later hbz a1
             have x1 := cell_later hbz hcx
             have x2 := cell_later hbz hcl)
          | fail)
      obtain ⟨g, rfl⟩ : ∃ g, C = some ⟨g, 0, none⟩ := by
        obtain ⟨ad2, _, e2, _⟩ := (Sl.of_own ho2).at_ hk0
        rcases ho2.2 with ⟨hv, _⟩ | ⟨g, cap, cur, hv, _⟩
        · injection hv with hA'
          rw [hA'] at e2
          cases e2
        · injection hv with hA'
          exact ⟨g, hA'⟩
      have hgn : v8.heap.size ≤ g := (ho2.lt g rfl).1
      have hBs : w.heap.size ≤ v8.heap.size := hC.out.old.size
      have HC2 := Lib.hid ((hC.out.mono (X' := fun b => b = g) (fun b hb => .inr (by rw [show b = g from hb]; exact hgn))).pure hbz)
      have HO2 := Lib.hid (hO.out.below hbz (Array.getElem?_eq_some_iff.1 hO.out).1)
      have HROW2 : Hid (w2.ownsRow w.heap.size 3 1 (.slice (some ⟨g, 0, none⟩) k cc) k (([] ++ l.drop 0).map (Value.int .i64))) := Lib.hid (own_base ho2 hBs)
      have HSN := Lib.hid (show ∀ x ∈ S, x < n from fun x hx => by rw [← HN.out]; exact hfi.out.lt x hx)
      have HGW := Lib.hid (show w.heap.size ≤ g by omega)
      clear hC hO ho2 hb2 hbz x0 x1 x2 hgn hcx hcl HCL a1 o0 o1 p0 p1 hBs
      go_wp2_with fail
      go_loopw [5, 41] (fun sv' jv wl => ∃ (j : Nat) (S' : List Nat) (row : List Int), jv = .int .i64 (j : Int) ∧ j ≤ k ∧ Hid (rowF (eG G) S (l.take j) = (S', row)) ∧ Hid (S'.length ≤ S.length + j ∧ row.length = j ∧ ∀ x ∈ S', x < n) ∧ Hid (LeC wl ⟨w, k, n, nc, some adn, gg, mb, ob⟩ G S' (keysG G S') F sv' nv nr (fun b => b = g)) ∧ Hid (AutoAt wl ob (.int .i64 (k : Int)) nv) ∧ Hid (wl.ownsRow w.heap.size 3 1 (.slice (some ⟨g, 0, none⟩) k cc) k ((row ++ l.drop j).map (Value.int .i64)))) (fun _ jv _ => k - (intOf jv).toNat)
      case atStart => exact ⟨0, S, [], rfl, Nat.zero_le _, Lib.hid rfl, Lib.hid ⟨Nat.le_refl _, rfl, HSN.out⟩, HC2, HO2, HROW2⟩
      case round =>
        obtain ⟨j, S', row, rfl, hjk, hrw, hfs, hC, hO, hrow⟩ := hrel
        obtain ⟨v9, rfl⟩ : ∃ v9, v9 = wr := ⟨_, rfl⟩
        obtain ⟨hSj, hrl, hSn⟩ := hfs.out
        clear HC2 HO2 HROW2
        by_cases hjl : j < k
        · have hjl' : (j : Int) < (k : Int) := by omega
          have hj0 : (0 : Int) ≤ (j : Int) := by omega
          have hll : j < l.length := by rw [HLK.out]; exact hjl
          obtain ⟨x, hx⟩ : ∃ x, l[j]? = some x := ⟨_, List.getElem?_eq_getElem hll⟩
          have hcx : v9.cell? ⟨g, j, none⟩ = some (.int .i64 x) := by
            rw [hrow.out.cellAt j (by omega), List.getElem?_map, row_at hrl, hx]; rfl
          have hfx := hrow.out.frozenAt j
          have hrs := row_snoc hrw.out hx
          have HSN' := Lib.hid hSn
          rcases HLO.out x (List.mem_of_getElem? hx) with rfl | ⟨t, rfl, htn⟩
          · rw [step_neg (by omega)] at hrs
            have hrow2 := hrow.out
            rw [row_same hx] at hrow2
            have HRS := Lib.hid hrs
            have HROW := Lib.hid hrow2
            have HLEN := Lib.hid (show S'.length ≤ S.length + (j + 1) ∧ (row ++ [-1]).length = j + 1 ∧ ∀ x ∈ S', x < n from ⟨by omega, by rw [List.length_append, hrl]; rfl, hSn⟩)
            clear hrs hrow2 hSn hx hrow hfs hSj
            go_wp2_with fail
            exact ⟨⟨j + 1, S', row ++ [-1], by go_num, by omega, HRS, HLEN, hC, hO, HROW⟩, by simp [intOf]; omega⟩
          · rw [HN.out] at htn
            have htn' : (t : Int) < (n : Int) := by omega
            have ht0 : (0 : Int) ≤ (t : Int) := by omega
            have hnn : ¬ (t : Int) < 0 := by omega
            obtain ⟨q0, _⟩ := int_at hC.out.grp htn
            obtain ⟨M1, hM1, hrel1⟩ := hC.out.map
            dsimp only at q0 hM1
            have hgb := HGB.out t htn
            obtain ⟨γ, hγ⟩ : ∃ γ, G.getD t 0 = γ := ⟨_, rfl⟩
            rw [hγ] at q0 hgb
            have hkey := keyI_of γ (by omega)
            have HG := Lib.hid hγ
            obtain ⟨hgcs, hgc⟩ := own_block hrow.out rfl
            have hgob : ¬ ob = g := fun e => own_ne_blk hrow.out (show v9.heap[ob]? = some (.cells _ 50 (0, 0)) from hO.out) (by decide) (by rw [e]; rfl)
            clear hγ
            by_cases hin : γ ∈ keysG G S'
            · have HH := Lib.hid (show Maps.has M1 (.int .i64 (γ : Int)) = true by rw [(hrel1.2 γ).1]; exact decide_eq_true hin)
              obtain ⟨hlk1, hlk2⟩ := look_in (S := S') (t := t) (by rw [HG.out]; exact hin)
              rw [step_in hlk1] at hrs
              obtain ⟨ix, hix⟩ : ∃ ix, RuleP.look (eG G) S' t = ix := ⟨_, rfl⟩
              rw [hix] at hrs hlk2
              have HAT := Lib.hid ((hrel1.2 γ).2 ix (by rw [← HG.out]; exact hlk2))
              have hst := (hrow.out.stored j (.int .i64 (ix : Int))).1
              rw [← List.map_set, row_put hrl hll] at hst
              have hks := Keeps.of_setCell v9 ⟨g, j, none⟩ (.int .i64 (ix : Int))
              have HC9 := Lib.hid (hC.out.keeps hks (fun b hb => ⟨hb, by rw [show b = g from hb]; exact HGW.out, hgcs, by rw [show b = g from hb]; exact hgc⟩))
              have HO9 := Lib.hid (auto_keeps hO.out hks hgob)
              have HRS := Lib.hid hrs
              have HROW := Lib.hid hst
              have HLEN := Lib.hid (show S'.length ≤ S.length + (j + 1) ∧ (row ++ [(ix : Int)]).length = j + 1 ∧ ∀ x ∈ S', x < n from ⟨by omega, by rw [List.length_append, hrl]; rfl, hSn⟩)
              clear hrs hst hks hC hO hrow hfs hSj hSn hx hrel1 hin hix hlk1 hlk2 hgc hgob hgb
              go_wp2_with (at_lookup; refine wpList_lookup_own_ok_int _ rfl _ _ _ rfl 3 3 .i64 keyI Tryz.underlying132 Tryz.underlying3 (zeroInt _) mb _ M1 rfl hM1 _ _ rfl hkey ?_; intro c' hat' _; rw [HH.out]; obtain rfl : c' = (ix : Int) := by (have h := hat'.symm.trans HAT.out; injection h with h; injection h))
              exact ⟨⟨j + 1, S', row ++ [(ix : Int)], by go_num, by omega, HRS, HLEN, HC9, HO9, HROW⟩, by simp [intOf]; omega⟩
            · have HH := Lib.hid (show Maps.has M1 (.int .i64 (γ : Int)) = false by rw [(hrel1.2 γ).1]; exact decide_eq_false hin)
              have hlk1 := look_out (S := S') (t := t) (by rw [HG.out]; exact hin)
              rw [step_out hlk1] at hrs
              have HREL1 := Lib.hid hrel1
              have HIN := Lib.hid hin
              rw [keysG_len] at hM1
              have hsl9 : v9.ownsRow w.heap.size 3 1 _ S'.length ((ints S').map (Value.int .i64)) := hC.out.st
              obtain ⟨SA', sc', rfl, _, _⟩ := own_slice hsl9
              have hm0 : S'.length < maxLen := by simp only [maxLen]; omega
              have hm1 : S'.length + 1 ≤ maxLen := by simp only [maxLen]; omega
              have hm2 : (S'.length + 1) * 8 ≤ 140737488355328 := by omega
              have K10 := Lib.hid (fun (w10 : World) (hg10 : v9.grownBy w10 (some mb)) => (by
                have hk := Keeps.of_grown hg10
                obtain ⟨_, ⟨es, ck, hbk, _⟩, _⟩ := hC.out.map
                have hne : ∀ {e n : Nat} {v : Value} {xs : List Value} {base : Nat}, v9.ownsRow base e 1 v n xs → w10.ownsRow base e 1 v n xs := fun ho => own_keeps ho hk (fun g' hg' e => by
                  injection e with e
                  rw [← e] at hg'
                  exact own_ne_map ho hbk hg')
                exact ⟨auto_keeps hO.out hk (fun e => by
                  injection e with e
                  have h1 := hO.out
                  unfold AutoAt at h1
                  have h2 : v9.heap[mb]? = _ := hbk
                  rw [← e, h2] at h1
                  cases h1), hne hrow.out, hne hsl9, (int_at (hne hC.out.grp) htn).1, Nat.le_trans hC.out.old.size hk.size⟩ : AutoAt w10 ob (.int .i64 (k : Int)) nv ∧ w10.ownsRow w.heap.size 3 1 (.slice (some ⟨g, 0, none⟩) k cc) k ((row ++ l.drop j).map (Value.int .i64)) ∧ w10.ownsRow w.heap.size 3 1 (.slice SA' S'.length sc') S'.length ((ints S').map (Value.int .i64)) ∧ w10.cell? ⟨gg, t, none⟩ = some (.int .i64 ((G.getD t 0 : Nat) : Int)) ∧ w.heap.size ≤ w10.heap.size))
              have HLEN := Lib.hid (show (S' ++ [t]).length ≤ S.length + (j + 1) ∧ (row ++ [((S'.length : Nat) : Int)]).length = j + 1 ∧ ∀ x ∈ S' ++ [t], x < n from ⟨by rw [List.length_append]; simp only [List.length_cons, List.length_nil]; omega, by rw [List.length_append, hrl]; rfl, fun x hx => by
                rcases List.mem_append.1 hx with h | h
                · exact hSn x h
                · rw [List.mem_singleton.1 h]; exact htn⟩)
              have HRS := Lib.hid hrs
              have HQS := Lib.hid (fun (wz : World) (h : wz.ownsRow w.heap.size 3 1 (.slice (some ⟨g, 0, none⟩) k cc) k ((row ++ l.drop j).map (Value.int .i64))) => (by rw [h.cellAt j (by omega), List.getElem?_map, row_at hrl, hx]; rfl : wz.cell? ⟨g, j, none⟩ = some (.int .i64 (t : Int))))
              have HLL := Lib.hid hll
              have HRL := Lib.hid hrl
              clear hrs hrow hfs hSj hSn hx hrel1 hin hlk1 hgc hgob hgb hO hsl9
              go_wp2_with (first
                | (at_lookup; refine wpList_lookup_own_ok_int _ rfl _ _ _ rfl 3 3 .i64 keyI Tryz.underlying132 Tryz.underlying3 (zeroInt _) mb _ M1 rfl hM1 _ _ rfl hkey ?_; intro c' hat' _; rw [HH.out])
                | (at_mapUpdate; refine wpList_mapUpdate_own _ rfl _ _ _ 132 rfl 3 3 keyI Tryz.underlying132 _ mb S'.length M1 rfl hM1 hm0 _ _ _ rfl rfl hkey _ [] (plainElem_int Tryz.underlying3 (WalkArith.wf_i64 (by omega))) ?_
                   intro w10 hmap10 hg10
                   have hC10 := hC.out.mapped (x := γ) hg10 (by rw [keysG_len]; exact hmap10) HREL1.out HIN.out
                   obtain ⟨hO10, hrow10, hsl10, q10, z10⟩ := K10.out w10 hg10)
                | (at_builtin; refine wpList_push rfl _ _ _ rfl tInts hsl10 rfl _ 0 rfl rfl rfl hm1 hm2 z10 ?_
                   intro g11 cap11 w11 hown11 hg11 hat11 hlt11
                   have hk11 := Keeps.of_grown hg11
                   have hC11 := hC10.pushed (t := t) (sv' := .slice (some ⟨g11, 0, none⟩) (S'.length + 1) cap11) hown11 hk11 (fun g' hg' => by
                     have e : g11 = g' := by simpa [Value.ownBlock] using hg'
                     rw [← e]
                     exact hat11.imp id Nat.le_of_lt) (fun b hb => by rw [show b = g from hb]; exact (hrow10.lt g rfl).2)
                   have hrow11 := own_keeps hrow10 hk11 (fun g' hg' hQ => by
                     have e : g = g' := by simpa [Value.ownBlock] using hg'
                     exact (hC10.nX g' e.symm).2 hQ)
                   have hO11 := auto_keeps hO10 hk11 (fun hQ => own_ne_blk hsl10 (show w10.heap[ob]? = some (.cells _ 50 (0, 0)) from hO10) (by decide) hQ)
                   have qs : w11.cell? ⟨g, j, none⟩ = some (.int .i64 (t : Int)) := HQS.out w11 hrow11
                   have ps := hrow11.frozenAt j))
              rw [← HG.out, ← keysG_snoc] at hC11
              have hst := (hrow11.stored j (.int .i64 ((S'.length : Nat) : Int))).1
              rw [← List.map_set, row_put HRL.out HLL.out] at hst
              have hks := Keeps.of_setCell w11 ⟨g, j, none⟩ (.int .i64 ((S'.length : Nat) : Int))
              obtain ⟨ggs, ggc⟩ := own_block hrow11 rfl
              have hgob : ¬ ob = g := fun e => own_ne_blk hrow11 (show w11.heap[ob]? = some (.cells _ 50 (0, 0)) from hO11) (by decide) (by rw [e]; rfl)
              have HC9 := Lib.hid (hC11.keeps hks (fun b hb => ⟨hb, by rw [show b = g from hb]; exact HGW.out, ggs, by rw [show b = g from hb]; exact ggc⟩))
              have HO9 := Lib.hid (auto_keeps hO11 hks hgob)
              exact ⟨⟨j + 1, S' ++ [t], row ++ [((S'.length : Nat) : Int)], by go_num, by omega, HRS, HLEN, HC9, HO9, Lib.hid hst⟩, by simp [intOf]; omega⟩
        · have hjl' : ¬ (j : Int) < (k : Int) := by omega
          obtain rfl : k = j := by omega
          have hrw2 := hrw.out
          rw [List.take_of_length_le (by rw [HLK.out]; exact Nat.le_refl _)] at hrw2
          have hrowk := hrow.out
          rw [List.drop_eq_nil_of_le (by rw [HLK.out]; exact Nat.le_refl _), List.append_nil] at hrowk
          have hnx : v9.ownsRow w.heap.size 22 1 nv i nr := by
            have h := hC.out.nx.lst
            rw [HI.out] at h
            exact h
          obtain ⟨NB, nb, rfl, _, _⟩ := own_slice hnx
          have hm1 : i + 1 ≤ maxLen := by simp only [maxLen]; omega
          have hm2 : (i + 1) * 24 ≤ 140737488355328 := by omega
          have hBw : w.heap.size ≤ v9.heap.size := hC.out.old.size
          obtain ⟨o0, o1, p0, p1⟩ := hO.out.facts
          have HPRE := Lib.hid (fun (w9 : World) (hk : Keeps (fun b => (Value.slice NB i nb).ownBlock = some b) v9 w9) => (auto_keeps hO.out hk (fun hQ => own_ne_blk hnx (show v9.heap[ob]? = some (.cells _ 50 (0, 0)) from hO.out) (by decide) hQ) : AutoAt w9 ob (.int .i64 (k : Int)) (.slice NB i nb)))
          have HRW := Lib.hid hrw2
          have HROW := Lib.hid hrowk
          have HRL := Lib.hid hrl
          clear hrw2 hrowk hrow hrw hfs hSj hSn hrl
          go_wp2_with (at_builtin; refine wpList_push rfl _ _ _ rfl tIntss hnx rfl _ 0 rfl rfl rfl hm1 hm2 hBw ?_; intro g2 cap2 w9 hown9 hg9 hat9 hlt9; obtain ⟨d4, d5, e4, e5⟩ := (HPRE.out w9 (Keeps.of_grown hg9)).facts)
          have hk9 := Keeps.of_grown hg9
          have hO9 := HPRE.out w9 hk9
          have hrow9 : v9.ownsRow w.heap.size 3 1 (.slice (some ⟨g, 0, none⟩) k cc) row.length (row.map (Value.int .i64)) := by rw [HRL.out]; exact HROW.out
          have hC9 := (hC.out.mono (X' := fun _ => False) (fun _ hf => hf.elim)).nexted (l := row) (v := .slice (some ⟨g, 0, none⟩) k cc) (nv' := .slice (some ⟨g2, 0, none⟩) (i + 1) cap2) hrow9 (fun g' hg' hx => by
            have e : g = g' := by simpa [Value.ownBlock] using hg'
            rw [← e] at hx
            rcases hx with hx | hx
            · exact hx
            · exact (hC.out.nX g rfl).2 hx) (fun g' hg' u hu => by
            have e : g = g' := by simpa [Value.ownBlock] using hg'
            rw [← e]
            exact hC.out.nx.not_X (.inl rfl) u hu) (by rw [HI.out]; exact hown9) hk9
          have HC10 := Lib.hid (hC9.stored hO9 1 (.slice (some ⟨g2, 0, none⟩) (i + 1) cap2))
          have HO10 := Lib.hid (auto_set1 hO9 (.slice (some ⟨g2, 0, none⟩) (i + 1) cap2))
          have hltF : F.length < S.length := by rw [HI.out]; exact hlt
          have hrwF : rowF (eG G) S (L.getD (S.getD F.length 0) []) = (S', row) := by rw [HI.out, HLU.out]; exact HRW.out
          have hfF : foldTo (eG G) L F.length = (S, F) := hfd.out
          exact ⟨⟨S', F ++ [row], _, _, by rw [List.length_append, HI.out]; go_num, Lib.hid (fold_round hfF hltF hrwF), Lib.hid (inv_round HA.out HRE.out hfi.out hltF hrwF), HC10, HO10⟩, by simp [intOf]; omega⟩
    · have hlt' : ¬ (i : Int) < (S.length : Int) := by omega
      have hle := least_of HA.out (parted_eqB HPD.out) (n := F.length) (by rw [show foldTo (fun i j => decide (G.getD i 0 = G.getD j 0)) L F.length = (S, F) from hfd.out, HI.out]; exact hlt)
      rw [show foldTo (fun i j => decide (G.getD i 0 = G.getD j 0)) L F.length = (S, F) from hfd.out] at hle
      have hF : F = leastA k L := hle
      obtain ⟨NB, nb, rfl, _, _⟩ := own_slice hC.out.nx.lst
      obtain ⟨o0, o1, p0, p1⟩ := hO.out.facts
      have hres : AutoAt v8 (w.heap.size + 1) (.int .i64 0) (.slice none 0 0) := hC.out.res
      have hblk : ∀ b, b = (⟨w.heap.size + 1, 0, none⟩ : Addr).block → v8.heap[b]? = some (.cells #[.int .i64 0, .slice none 0 0] 50 (0, 0)) := fun b e => by rw [show b = w.heap.size + 1 from e]; exact hres
      have HA6 := Lib.hid (hres.set2 (.int .i64 (k : Int)) (.slice NB F.length nb))
      have HN6 := Lib.hid ((hC.out.nx.mono (X' := fun _ => False) (fun _ hf => hf.elim)).keeps ((Keeps.of_setCell v8 ⟨w.heap.size + 1, 0, none⟩ (.int .i64 (k : Int))).trans (Keeps.of_setCell _ ⟨w.heap.size + 1, 1, none⟩ (.slice NB F.length nb)) (fun _ _ h => h))
        (fun b hb => hC.out.nx.not_lst (hblk b hb) (by decide)) (fun b hb => hC.out.nx.not_el (hblk b hb) (by decide)))
      have hold : Below w.heap.size w v8 := hC.out.old
      have HB6 := Lib.hid ((hold.setCell (p := ⟨w.heap.size + 1, 0, none⟩) (Nat.le_succ _) (.int .i64 (k : Int))).setCell (p := ⟨w.heap.size + 1, 1, none⟩) (Nat.le_succ _) (.slice NB F.length nb))
      have HF := Lib.hid hF
      obtain ⟨d0, d1, f0, f1⟩ := hres.facts
      clear hF hle hold hblk hres hC hO hfd hfi hst
      go_wp2_with fail
      obtain ⟨d0, d1, _, _⟩ := HA6.out.facts
      refine bodyPost_ret (v := .agg #[.int .i64 (k : Int), .slice NB F.length nb]) (by simp [results, Tryz.results72, go_sem, d0, d1]) rfl ⟨_, rfl, ⟨nr, ?_⟩, HB6.out⟩
      rw [← HF.out]
      exact HN6.out
end Go.Proofs.YthilnpfpllplaaaGreatDoor
