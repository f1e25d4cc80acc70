/- What the search among preimages adds: overlap's on. Condition: the search lies in memory as DeadAt says. What the search among preimages adds: overlap's on, whole. Condition: the search lies in memory as DeadAt says. -/
import Derived.Deep.RegionHeld3
import Derived.Deep.RegionLaw
import Derived.StillTailTactics
import Derived.Test.YthilnpfpllplaaaGreatDoorS7
namespace Go.Proofs.YthilnpfpllplaaaGreatDoor
open Go.RowKit RuleP

/-- What a call of the search leaves. -/
def OnPost (w : World) (D : DeadP) (lv : Value) (X : Nat → Prop) (xv : Value) (x : List Nat) (P S : List (List Nat)) (e : Ending) (w' : World) : Prop :=
  ∃ (lv' : Value) (rows' : List Value) (L' : List (List Nat)) (more' : Bool), e = .returned (.bool (decide (S ≠ []))) ∧ DeadAt w' D lv' rows' L' more' X ∧ RuleP.Found D.most (onP P x S) L' more' ∧
    w'.ownsRow D.B 3 1 xv x.length ((ints x).map (Value.int .i64)) ∧ Keeps (fun b => Foot D lv b ∨ xv.ownBlock = some b) w w' ∧ (∀ g, lv'.ownBlock = some g → lv.ownBlock = some g ∨ w.heap.size ≤ g)

variable {w : World} {D : DeadP} {lv : Value} {rows : List Value} {L : List (List Nat)} {X : Nat → Prop}

theorem sols_nil (k N : Nat) (t : List Nat) (u : Nat) : sols k N t u [] = [[]] := by simp [sols]
theorem onP_leaf (P : List (List Nat)) (x : List Nat) : onP P x [[]] = P ++ [x] := by simp [onP]

set_option maxRecDepth 100000 in
set_option maxHeartbeats 1000000 in
theorem on_full (h : DeadAt w D lv rows L false X) (_ : DeadOk D) (XA : Option Addr) (xc u : Nat) (x : List Nat) (P : List (List Nat)) (hx : w.ownsRow D.B 3 1 (.slice XA x.length xc) x.length ((ints x).map (Value.int .i64)))
    (hF : RuleP.Found D.most P L false) (hlt : ¬ L.length < D.most) :
    Calls Tryz.prog 89 #[.pointer (some ⟨D.db, 0, none⟩), .slice XA x.length xc, .int .i64 (u : Int), .int .i64 (D.W.length : Int)] w (OnPost w D lv X (.slice XA x.length xc) x P (sols D.k D.N D.t u (D.W.drop D.W.length))) := by
  have hs : Hid (sols D.k D.N D.t u (D.W.drop D.W.length) = [[]]) := Lib.hid (by rw [List.drop_length]; exact sols_nil _ _ _ _)
  rw [hs.out]
  obtain ⟨A, c, rfl, hlc, _⟩ := own_slice h.lst
  obtain ⟨c0, c1, c2, c3, c4, c5, c6, c7, f6, f7⟩ := h.facts
  have h1 : ((D.W.length : Int) == (D.W.length : Int)) = true := by simp
  have h2 : decide (L.length < D.most) = false := decide_eq_false hlt
  have hP := Lib.hid (hF.full hlt x)
  have hW := Lib.hid (h.full.pure ((Below.refl _ _).drew))
  have hk : Keeps (fun b => b = D.db) w (w.setCell ⟨D.db, 7, none⟩ (.bool true)).drew := (Keeps.of_setCell w ⟨D.db, 7, none⟩ (.bool true)).trans (Keeps.of_pure ((Below.refl _ _).drew) _) (fun _ _ h => h)
  have hO := Lib.hid (own_keeps hx hk (fun g hg e => by
    subst e
    exact own_ne_blk hx h.blk (by decide) hg))
  have HK := Lib.hid hk
  clear hk
  clear hF hlt hs
  go_enter Tryz.func89, Tryz.ntmps89
  go_wp2_with fail
  go_region
  go_wp2_with fail
  go_ret
  exact ⟨_, rows, L, true, rfl, hW.out, by rw [onP_leaf]; exact hP.out, hO.out, HK.out.mono (fun b _ e => Or.inl (Or.inl e)), fun g hg => Or.inl hg⟩

theorem leaf_end {w1 w3 : World} {g cap : Nat} {xv v : Value} {x : List Nat} {P : List (List Nat)} (h : DeadAt w D lv rows L false X) (hX : ∀ b, X b → b < w.heap.size) (hb : Below w.heap.size w w1)
    (hc : w1.ownsRow w.heap.size 3 1 v x.length ((ints x).map (Value.int .i64))) (hk : Keeps (fun b => lv.ownBlock = some b) w1 w3) (hown : w3.ownsRow D.B 22 1 (.slice (some ⟨g, 0, none⟩) (L.length + 1) cap) (L.length + 1) (rows ++ [v]))
    (hg : lv.ownBlock = some g ∨ w1.heap.size ≤ g) (hx : w.ownsRow D.B 3 1 xv x.length ((ints x).map (Value.int .i64))) (hP : RuleP.Found D.most (P ++ [x]) (L ++ [x]) false) :
    OnPost w D lv X xv x P [[]] (.returned (.bool true)) (w3.setCell ⟨D.db, 6, none⟩ (.slice (some ⟨g, 0, none⟩) (L.length + 1) cap)) := by
  have h1 := h.pure hb
  have hB : D.B ≤ w.heap.size := h.old.size
  have hnew : ∀ g, v.ownBlock = some g → ∀ u ∈ rows, u.ownBlock ≠ some g := fun g' hg' u hu e => by
    obtain ⟨j, hj⟩ := List.getElem?_of_mem hu
    have hjl : j < L.length := by have := (List.getElem?_eq_some_iff.1 hj).1; have := h.lst.1; simp at this; omega
    obtain ⟨u', e1, e2, _⟩ := h.el j _ (List.getElem?_eq_getElem hjl)
    rw [hj] at e1
    cases e1
    have := (e2.lt g' e).2
    have := (hc.lt g' hg').1
    omega
  have hd := h1.put (own_base hc hB) (fun g' hg' hx' => by have := (hc.lt g' hg').1; have := hX g' hx'; omega) hnew hown hk
  have hk0 : Keeps (fun b => Foot D lv b ∨ xv.ownBlock = some b) w (w3.setCell ⟨D.db, 6, none⟩ (.slice (some ⟨g, 0, none⟩) (L.length + 1) cap)) :=
    ((Keeps.of_pure hb (fun b => Foot D lv b ∨ xv.ownBlock = some b)).trans (hk.mono (fun b _ e => Or.inl (Or.inr (Or.inr e)))) (fun _ _ h => h)).trans ((Keeps.of_setCell w3 _ _).mono (fun b _ e => Or.inl (Or.inl e))) (fun _ _ h => h)
  refine ⟨_, _, _, _, rfl, hd, by rw [onP_leaf]; exact hP, ?_, hk0, fun g' hg' => ?_⟩
  · have hx1 := own_keeps (own_below hx hb) hk (fun g' hg' e => own_ne_own (own_below hx hb) h1.lst (by decide) hg' e)
    refine own_keeps hx1 (Keeps.of_setCell w3 _ _) (fun g' hg' e => ?_)
    have e' : g' = D.db := e
    subst e'
    exact h.notFoot hx hg' (Or.inl rfl)
  · have e' : g = g' := by simpa [Value.ownBlock] using hg'
    subst e'
    exact hg.imp id (fun h => Nat.le_trans hb.size h)

set_option maxRecDepth 100000 in
set_option maxHeartbeats 4000000 in
theorem on_put (h : DeadAt w D lv rows L false X) (hD : DeadOk D) (hX : ∀ b, X b → b < w.heap.size) (XA : Option Addr) (xc u : Nat) (x : List Nat) (P : List (List Nat)) (hx : w.ownsRow D.B 3 1 (.slice XA x.length xc) x.length ((ints x).map (Value.int .i64)))
    (hxl : x.length ≤ 1000) (hF : RuleP.Found D.most P L false) (hlt : L.length < D.most) :
    Calls Tryz.prog 89 #[.pointer (some ⟨D.db, 0, none⟩), .slice XA x.length xc, .int .i64 (u : Int), .int .i64 (D.W.length : Int)] w (OnPost w D lv X (.slice XA x.length xc) x P (sols D.k D.N D.t u (D.W.drop D.W.length))) := by
  have hs : Hid (sols D.k D.N D.t u (D.W.drop D.W.length) = [[]]) := Lib.hid (by rw [List.drop_length]; exact sols_nil _ _ _ _)
  rw [hs.out]
  obtain ⟨A, c, rfl, hlc, _⟩ := own_slice h.lst
  obtain ⟨c0, c1, c2, c3, c4, c5, c6, c7, f6, f7⟩ := h.facts
  have h1 : ((D.W.length : Int) == (D.W.length : Int)) = true := by simp
  have h2 : decide (L.length < D.most) = true := decide_eq_true hlt
  have hL : L.length ≤ 256 := by have := hD.most; omega
  have hP := Lib.hid (hF.put hlt x)
  have hA := h.pure ((Below.refl _ _).drew)
  have hAA := Lib.hid hA
  have hxd := own_below hx ((Below.refl _ _).drew)
  have HX := Lib.hid hX
  have hh := h
  clear hF hlt hs hX h
  go_enter Tryz.func89, Tryz.ntmps89
  go_wp2_with fail
  go_region
  go_wp2_with fail
  go_region_law (first
    | (go_simp
       go_at_call 65
       refine (clone_c _ XA x.length xc _ (ints_one _) (by omega) (Sl.of_own (own_below hxd ((Below.refl _ _).drew)))).mono ?_
       rintro e w1 ⟨C, cc, rfl, hc1, hb1⟩
       have hA1 := (hAA.out.pure ((Below.refl _ _).drew)).pure hb1
       have e6 := hA1.facts.2.2.2.2.2.2.1
       have hz1 := hA1.lt
       dsimp only)
    | (refine step_push3 ?_ (.tmp 33) (.tmp 36) 48 rfl tIntss (base := D.B) (v := .slice A L.length c) (n := L.length) (xs := rows) ?_ rfl ⟨w1.heap.size, 0, none⟩ 1 rfl (.slice C x.length cc) ?_ rfl ?_ ?_ ?_ ?_
       · rfl
       · exact hA1.lst.alloc _
       · simp
       · (simp only [maxLen]; omega)
       · omega
       · (rw [World.size_alloc]; exact Nat.le_succ_of_le hA1.old.size)
       intro g cap w3 hown3 hor hlt3
       obtain ⟨hk3, hg3⟩ := push3_keeps hor
       obtain ⟨d6, g6, z3⟩ := hA1.pushed hk3
       clear hor))
  all_goals
    have hbw := (((Below.refl w.heap.size w).drew).drew).trans hb1
    have HEND := Lib.hid (leaf_end hh HX.out hbw hc1 hk3 hown3 hg3 hx hP.out)
    clear d6 g6 z3 hown3 hk3 hg3 hc1 hb1 hA1 e6 hz1
    go_wp2_with fail
    go_ret
    exact HEND.out
end Go.Proofs.YthilnpfpllplaaaGreatDoor

namespace Go.Proofs.YthilnpfpllplaaaGreatDoor
open Go.RowKit RuleP

/-- What is proved of a call of the search at place i. -/
def OnC (D : DeadP) (i : Nat) : Prop :=
  ∀ (w : World) (lv : Value) (rows : List Value) (L : List (List Nat)) (X : Nat → Prop) (XA : Option Addr) (xc u : Nat) (x : List Nat) (P : List (List Nat)), DeadAt w D lv rows L false X → (∀ b, X b → b < w.heap.size) →
    w.ownsRow D.B 3 1 (.slice XA x.length xc) x.length ((ints x).map (Value.int .i64)) → (∀ g, (Value.slice XA x.length xc).ownBlock = some g → X g) → x.length ≤ 500 + i → u < D.N → RuleP.Found D.most P L false →
    Calls Tryz.prog 89 #[.pointer (some ⟨D.db, 0, none⟩), .slice XA x.length xc, .int .i64 (u : Int), .int .i64 (i : Int)] w (OnPost w D lv X (.slice XA x.length xc) x P (sols D.k D.N D.t u (D.W.drop i)))

variable {w : World} {D : DeadP} {lv : Value} {rows : List Value} {L : List (List Nat)} {X : Nat → Prop}

/-- The mark of place i and node u. -/
theorem DeadAt.markAt {more : Bool} (h : DeadAt w D lv rows L more X) {i u : Nat} (hi : i < D.W.length) (hu : u < D.N) :
    ∃ (ab ac g : Nat) (b : Bool), D.atv = .slice (some ⟨ab, 0, none⟩) D.W.length ac ∧ D.G[i]? = some (.slice (some ⟨g, 0, none⟩) D.N D.N) ∧ w.cell? ⟨ab, i, none⟩ = some (.slice (some ⟨g, 0, none⟩) D.N D.N) ∧ w.cell? ⟨g, u, none⟩ = some (.bool b) ∧ w.frozen? ⟨g, u, none⟩ = false ∧
      (b = true → sols D.k D.N D.t u (D.W.drop i) = []) := by
  obtain ⟨ab, ac, hav, _⟩ := h.atb.form (by omega)
  obtain ⟨g, fl, e1, e2, e3⟩ := h.row i hi
  have ha := h.atb
  rw [hav] at ha
  have hc := ha.cellAt i (by omega)
  rw [e1] at hc
  have hfl : fl.length = D.N := by simpa using e2.1
  have hm := e2.cellAt u (by omega)
  rw [List.getElem?_map, List.getElem?_eq_getElem (by omega)] at hm
  exact ⟨ab, ac, g, fl[u], hav, e1, hc, hm, e2.frozenAt u, fun hb => e3 u (by rw [List.getElem?_eq_getElem (by omega), hb])⟩

set_option maxRecDepth 100000 in
set_option maxHeartbeats 1000000 in
theorem on_dead (h : DeadAt w D lv rows L false X) (_ : DeadOk D) (XA : Option Addr) (xc u i : Nat) (x : List Nat) (P : List (List Nat)) (hx : w.ownsRow D.B 3 1 (.slice XA x.length xc) x.length ((ints x).map (Value.int .i64)))
    (hi : i < D.W.length) (hu : u < D.N) (hF : RuleP.Found D.most P L false) {ab ac g : Nat} (hav : D.atv = .slice (some ⟨ab, 0, none⟩) D.W.length ac) (hg : w.cell? ⟨ab, i, none⟩ = some (.slice (some ⟨g, 0, none⟩) D.N D.N)) (hm : w.cell? ⟨g, u, none⟩ = some (.bool true))
    (hs : sols D.k D.N D.t u (D.W.drop i) = []) :
    Calls Tryz.prog 89 #[.pointer (some ⟨D.db, 0, none⟩), .slice XA x.length xc, .int .i64 (u : Int), .int .i64 (i : Int)] w (OnPost w D lv X (.slice XA x.length xc) x P (sols D.k D.N D.t u (D.W.drop i))) := by
  rw [hs]
  obtain ⟨c0, c1, c2, c3, c4, c5, c6, c7, f6, f7⟩ := h.facts
  rw [hav] at c4
  have h1 : ((i : Int) == (D.W.length : Int)) = false := by simp; omega
  have hi' : ¬ i = D.W.length := by omega
  have HH := Lib.hid h
  have HF := Lib.hid hF
  clear hs h hF hav
  go_enter Tryz.func89, Tryz.ntmps89
  go_wp2_with fail
  go_ret
  exact ⟨_, rows, L, false, rfl, HH.out, by rw [onP_nil]; exact HF.out, hx, Keeps.refl _ _, fun g hg => Or.inl hg⟩

/-- Between two rounds of the loop. -/
structure OnMid (w : World) (D : DeadP) (lv : Value) (X : Nat → Prop) (xv : Value) (x : List Nat) (P S : List (List Nat)) (wr : World) (lv' : Value) (rows' : List Value) (L' : List (List Nat)) (more' : Bool) : Prop where
  dead : DeadAt wr D lv' rows' L' more' X
  found : RuleP.Found D.most (onP P x S) L' more'
  own : wr.ownsRow D.B 3 1 xv x.length ((ints x).map (Value.int .i64))
  keeps : Keeps (fun b => Foot D lv b ∨ xv.ownBlock = some b) w wr
  fresh : ∀ g, lv'.ownBlock = some g → lv.ownBlock = some g ∨ w.heap.size ≤ g

theorem mid_end {xv : Value} {x : List Nat} {P : List (List Nat)} {u c s : Nat} {V : List Nat} {wr : World} {lv' : Value} {rows' : List Value} {L' : List (List Nat)} {more' : Bool} (hF : RuleP.Found D.most P L false)
    (hM : OnMid w D lv X xv x P (solsTo D.k D.N D.t u c V s) wr lv' rows' L' more') (hs : s ≤ D.k) (he : more' = true ∨ s = D.k) :
    OnMid w D lv X xv x P (sols D.k D.N D.t u (c :: V)) wr lv' rows' L' more' ∧ decide (solsTo D.k D.N D.t u c V s ≠ []) = decide (sols D.k D.N D.t u (c :: V) ≠ []) ∧ (more' = true → decide (sols D.k D.N D.t u (c :: V) ≠ []) = true) := by
  have hPm := hF.all.2
  rcases he with rfl | rfl
  · have h1 := hM.found.any hPm
    have h2 := sols_some (k := D.k) (N := D.N) (t := D.t) (u := u) (c := c) (w := V) hs h1
    exact ⟨⟨hM.dead, onP_stay hM.found hs, hM.own, hM.keeps, hM.fresh⟩, by rw [decide_eq_true h1, decide_eq_true h2], fun _ => decide_eq_true h2⟩
  · rw [← solsTo_all]
    exact ⟨hM, rfl, fun h => by subst h; exact decide_eq_true (hM.found.any hPm)⟩

/-- The mark is set, and that is all. -/
theorem on_end {xv : Value} {x : List Nat} {P S : List (List Nat)} {wr w' : World} {lv' : Value} {rows' : List Value} {L' : List (List Nat)} {more' : Bool} {i u g : Nat} (hM : OnMid w D lv X xv x P S wr lv' rows' L' more') (hi : i < D.W.length) (hu : u < D.N)
    (hg : D.G[i]? = some (.slice (some ⟨g, 0, none⟩) D.N D.N)) (b : Bool) (hb : b = true → sols D.k D.N D.t u (D.W.drop i) = []) (hw : Below (wr.setCell ⟨g, u, none⟩ (.bool b)).heap.size (wr.setCell ⟨g, u, none⟩ (.bool b)) w') :
    OnPost w D lv X xv x P S (.returned (.bool (decide (S ≠ [])))) w' := by
  have hk : Keeps (fun k => k = g) wr w' := (Keeps.of_setCell wr ⟨g, u, none⟩ (.bool b)).trans (Keeps.of_pure hw _) (fun _ _ h => h)
  have hf : Foot D lv g := Or.inr (Or.inl ⟨i, _, hg, rfl⟩)
  refine ⟨lv', rows', L', more', rfl, (hM.dead.mark hi hu hg b hb).pure hw, hM.found, own_keeps hM.own hk (fun g' hg' e => ?_), hM.keeps.trans (hk.mono (fun b _ e => by subst e; exact Or.inl hf)) (fun _ _ h => h), hM.fresh⟩
  subst e
  exact hM.dead.notFoot hM.own hg' (Or.inr (Or.inl ⟨i, _, hg, rfl⟩))

theorem OnMid.pure {xv : Value} {x : List Nat} {P S : List (List Nat)} {wr wz : World} {lv' : Value} {rows' : List Value} {L' : List (List Nat)} {more' : Bool} (h : OnMid w D lv X xv x P S wr lv' rows' L' more') (hz : Below wr.heap.size wr wz) :
    OnMid w D lv X xv x P S wz lv' rows' L' more' :=
  ⟨h.dead.pure hz, h.found, own_below h.own hz, h.keeps.trans (Keeps.of_pure hz _) (fun _ _ h => h), h.fresh⟩

/-- Behind the append of a symbol. -/
structure OnMid2 (w : World) (D : DeadP) (lv : Value) (X : Nat → Prop) (xv : Value) (x : List Nat) (P S : List (List Nat)) (s : Nat) (wz : World) (lv' : Value) (rows' : List Value) (L' : List (List Nat)) (g cap : Nat) : Prop where
  dead : DeadAt wz D lv' rows' L' false (fun b => X b ∨ b = g)
  found : RuleP.Found D.most (onP P x S) L' false
  own : wz.ownsRow D.B 3 1 (.slice (some ⟨g, 0, none⟩) (x.length + 1) cap) (x.length + 1) ((ints (x ++ [s])).map (Value.int .i64))
  old : xv = .slice (some ⟨g, 0, none⟩) x.length cap ∨ (w.heap.size ≤ g ∧ wz.ownsRow D.B 3 1 xv x.length ((ints x).map (Value.int .i64)))
  keeps : Keeps (fun b => Foot D lv b ∨ xv.ownBlock = some b) w wz
  fresh : ∀ g, lv'.ownBlock = some g → lv.ownBlock = some g ∨ w.heap.size ≤ g

theorem ints_snoc (x : List Nat) (s : Nat) : (ints x).map (Value.int .i64) ++ [.int .i64 (s : Int)] = (ints (x ++ [s])).map (Value.int .i64) := by simp [ints]

theorem OnMid.push {xv : Value} {x : List Nat} {P S : List (List Nat)} {s : Nat} {wp w3 : World} {lv' : Value} {rows' : List Value} {L' : List (List Nat)} {g cap : Nat} (h : OnMid w D lv X xv x P S wp lv' rows' L' false) (hxX : ∀ g, xv.ownBlock = some g → X g)
    (hown : w3.ownsRow D.B 3 1 (.slice (some ⟨g, 0, none⟩) (x.length + 1) cap) (x.length + 1) ((ints x).map (Value.int .i64) ++ [.int .i64 (s : Int)]))
    (hor : (xv = .slice (some ⟨g, 0, none⟩) x.length cap ∧ wp.grownBy w3 (some g)) ∨ (wp.heap.size ≤ g ∧ wp.grownBy w3 none)) : OnMid2 w D lv X xv x P S s w3 lv' rows' L' g cap := by
  have hs := h.keeps.size
  have hk : Keeps (fun b => xv.ownBlock = some b) wp w3 := by
    rcases hor with ⟨rfl, hg⟩ | ⟨_, hg⟩
    · exact Keeps.of_grown hg
    · exact (Keeps.of_grown hg).mono (fun b _ e => by cases e)
  have hd := h.dead.keeps hk (fun b hb => ⟨hxX b hb, (h.own.lt b hb).1, own_block h.own hb⟩)
  refine ⟨?_, h.found, by rw [← ints_snoc]; exact hown, ?_, h.keeps.trans (hk.mono (fun b _ e => Or.inr e)) (fun _ _ h => h), h.fresh⟩
  · rcases hor with ⟨rfl, hg⟩ | ⟨hge, hg⟩
    · exact hd.mono (fun b hb => by rcases hb with hb | rfl; exact Or.inl hb; exact Or.inl (hxX _ rfl))
    · -- nothing of the list lies in the new row
      have h2 := h.dead.mono (X' := fun b => X b ∨ b = g) (fun b hb => by rcases hb with hb | rfl; exact Or.inl hb; exact Or.inr hge)
      exact h2.keeps (Q := fun _ => False) ((Keeps.of_grown hg).mono (fun b _ e => by cases e)) (fun _ hf => hf.elim)
  · rcases hor with ⟨rfl, hg⟩ | ⟨hge, hg⟩
    · exact Or.inl rfl
    · exact Or.inr ⟨by omega, own_keeps h.own (Keeps.of_grown hg) (fun b _ e => by cases e)⟩

theorem OnMid2.pure {xv : Value} {x : List Nat} {P S : List (List Nat)} {s : Nat} {wz w' : World} {lv' : Value} {rows' : List Value} {L' : List (List Nat)} {g cap : Nat} (h : OnMid2 w D lv X xv x P S s wz lv' rows' L' g cap) (hz : Below wz.heap.size wz w') :
    OnMid2 w D lv X xv x P S s w' lv' rows' L' g cap :=
  ⟨h.dead.pure hz, h.found, own_below h.own hz, h.old.imp id (fun ⟨a, b⟩ => ⟨a, own_below b hz⟩), h.keeps.trans (Keeps.of_pure hz _) (fun _ _ h => h), h.fresh⟩

theorem OnMid2.next {xv : Value} {x : List Nat} {P S S' S2 : List (List Nat)} {s : Nat} {wz w' : World} {lv' : Value} {rows' : List Value} {L' : List (List Nat)} {g cap : Nat} {e : Ending} (h : OnMid2 w D lv X xv x P S s wz lv' rows' L' g cap) (hX : ∀ g, xv.ownBlock = some g → g < w.heap.size)
    (hp : OnPost wz D lv' (fun b => X b ∨ b = g) (.slice (some ⟨g, 0, none⟩) (x.length + 1) cap) (x ++ [s]) (onP P x S) S' e w') (hit : S2 = S ++ S'.map (s :: ·)) :
    ∃ (lv2 : Value) (rows2 : List Value) (L2 : List (List Nat)) (more2 : Bool), e = .returned (.bool (decide (S' ≠ []))) ∧ OnMid w D lv X xv x P S2 w' lv2 rows2 L2 more2 := by
  obtain ⟨lv2, rows2, L2, more2, he, hd, hf, ho, hk, hfr⟩ := hp
  have hs := h.keeps.size
  refine ⟨lv2, rows2, L2, more2, he, ⟨hd.mono (fun b hb => Or.inl (Or.inl hb)), by rw [hit, ← onP_hit]; exact hf, ?_, h.keeps.trans hk (fun b hb hQ => ?_), fun g' hg' => ?_⟩⟩
  · rcases h.old with rfl | ⟨h1, h2⟩
    · rw [← ints_snoc] at ho
      simp only [List.length_append, List.length_singleton] at ho
      exact own_front ho (by simp [ints])
    · refine own_keeps h2 hk (fun g' hg' hQ => ?_)
      rcases hQ with hQ | hQ
      · exact h.dead.notFoot h2 hg' hQ
      · have e' : g = g' := by simpa [Value.ownBlock] using hQ
        have := hX g' hg'
        omega
  · rcases hQ with hQ | hQ
    · rcases hQ with hQ | hQ | hQ
      · exact Or.inl (Or.inl hQ)
      · exact Or.inl (Or.inr (Or.inl hQ))
      · rcases h.fresh b hQ with h' | h'
        · exact Or.inl (Or.inr (Or.inr h'))
        · omega
    · have e' : g = b := by simpa [Value.ownBlock] using hQ
      subst e'
      rcases h.old with rfl | ⟨h1, _⟩
      · exact Or.inr rfl
      · omega
  · rcases hfr g' hg' with h' | h'
    · exact h.fresh g' h'
    · exact Or.inr (by omega)

theorem int_eq_cell {w : World} {A : Option Addr} {n i : Nat} {l : List Nat} (h : Sl w A n ((ints l).map (Value.int .i64))) (hi : i < n) : ∃ ad, A = some ad ∧ w.cell? (ad.add i) = some (.int .i64 ((l.getD i 0 : Nat) : Int)) := by
  have h' := h
  rw [ints_map] at h'
  obtain ⟨ad, x, e, hx, hc⟩ := h'.word_ hi
  refine ⟨ad, e, ?_⟩
  rw [List.getD_eq_getElem?_getD, hx]
  exact hc

/-- What the round reads. -/
theorem DeadAt.reads {more : Bool} (h : DeadAt w D lv rows L more X) (hD : DeadOk D) {ta wa : Addr} (hta : D.TA = some ta) (hwa : D.WA = some wa) {e i c : Nat} (he : e < D.t.length) (hi : i < D.W.length) (h1 : D.t.getD e 0 = c) (h2 : D.W.getD i 0 = c) :
    w.cell? ⟨D.db, 0, none⟩ = some (.int .i64 (D.k : Int)) ∧ w.cell? ⟨D.db, 1, none⟩ = some (.int .i64 (D.r : Int)) ∧ w.cell? ⟨D.db, 2, none⟩ = some (.slice (some ta) D.t.length D.tc) ∧ w.cell? ⟨D.db, 3, none⟩ = some (.slice (some wa) D.W.length D.wc) ∧
      w.cell? (ta.add e) = some (.int .i64 (c : Int)) ∧ w.cell? (wa.add i) = some (.int .i64 (c : Int)) := by
  obtain ⟨c0, c1, c2, c3, _⟩ := h.facts
  obtain ⟨ta', e1, hc1⟩ := int_eq_cell (h.tab hD) he
  obtain ⟨wa', e2, hc2⟩ := int_eq_cell (h.word hD) hi
  rw [hta] at c2 e1
  rw [hwa] at c3 e2
  cases e1
  cases e2
  rw [h1] at hc1
  rw [h2] at hc2
  exact ⟨c0, c1, c2, c3, hc1, hc2⟩

set_option maxRecDepth 100000 in
set_option maxHeartbeats 4000000 in
theorem on_loop (hD : DeadOk D) {i : Nat} (hi : i < D.W.length) (ih : OnC D (i + 1)) : OnC D i := by
  intro w lv rows L X XA xc u x P h hX hx hxX hxl hu hF
  obtain ⟨ab, ac, g, b, hav, hgi, hg, hm, hfm, hsd⟩ := h.markAt hi hu
  cases b with
  | true => exact on_dead h hD XA xc u i x P hx hi hu hF hav hg hm (hsd rfl)
  | false =>
    clear hsd
    obtain ⟨c0, c1, c2, c3, c4, c5, c6, c7, f6, f7⟩ := h.facts
    rw [hav] at c4
    have h1 : ((i : Int) == (D.W.length : Int)) = false := by simp; omega
    have hi' : ¬ i = D.W.length := by omega
    obtain ⟨c, hc⟩ : ∃ c, D.W.getD i 0 = c := ⟨_, rfl⟩
    obtain ⟨V, hV⟩ : ∃ V, D.W.drop (i + 1) = V := ⟨_, rfl⟩
    have hdrop : D.W.drop i = c :: V := by rw [drop_cons hi, hc, hV]
    rw [hdrop]
    have HH := Lib.hid h
    have HF := Lib.hid hF
    have HX := Lib.hid hX
    have HXX := Lib.hid hxX
    have HC := Lib.hid hc
    have HV := Lib.hid hV
    have HAV := Lib.hid hav
    have HGI := Lib.hid hgi
    have HDR := Lib.hid hdrop
    have hst : OnMid w D lv X (.slice XA x.length xc) x P [] w lv rows L false := ⟨h, by rw [onP_nil]; exact hF, hx, Keeps.refl _ _, fun g hg => Or.inl hg⟩
    have HST := Lib.hid hst
    clear h hF hav hgi hX hxX hc hV hdrop hst hx
    go_enter Tryz.func89, Tryz.ntmps89
    go_wp2_with fail
    go_loopw [9, 10] (fun av sv wr => ∃ (s : Nat) (lv' : Value) (rows' : List Value) (L' : List (List Nat)) (more' : Bool), s ≤ D.k ∧ sv = .int .i64 (s : Int) ∧ av = .bool (decide (solsTo D.k D.N D.t u c V s ≠ [])) ∧
        Hid (OnMid w D lv X (.slice XA x.length xc) x P (solsTo D.k D.N D.t u c V s) wr lv' rows' L' more')) (fun _ sv _ => D.k - (intOf sv).toNat)
    case atStart => exact ⟨0, lv, rows, L, false, Nat.zero_le _, rfl, by simp [solsTo], HST⟩
    case round =>
      obtain ⟨s, lv', rows', L', more', hs, rfl, rfl, hM⟩ := hrel
      clear HST c0 c1 c2 c3 c4 c5 c6 c7 f6 f7 hg hm hfm
      obtain ⟨d0, d1, d2, d3, d4, d5, d6, d7, e6, e7⟩ := hM.out.dead.facts
      have hk1 := hD.rule.k1
      have hk4 := hD.rule.k4
      by_cases he : more' = true ∨ s = D.k
      · obtain ⟨hE, hdec, hmore⟩ := mid_end HF.out hM.out hs he
        rw [hdec]
        obtain ⟨ab2, ac2, g2, b2, hav2, hgi2, hg2, hm2, hfm2, _⟩ := hE.dead.markAt hi hu
        rw [hav2] at d4
        have HE := Lib.hid hE
        cases hS : decide (sols D.k D.N D.t u (c :: V) ≠ []) with
        | true =>
          have hend := on_end (w' := (wr.setCell ⟨g2, u, none⟩ (.bool false)).drew) HE.out hi hu hgi2 false (fun h => by cases h) ((Below.refl _ _).drew)
          rw [hS] at hend
          have HEND := Lib.hid hend
          clear hend hE hdec hgi2 hS hav2 hmore
          have he' : (s < D.k ∧ more' = true) ∨ s = D.k := by
            rcases he with h | h
            · rcases Nat.lt_or_ge s D.k with h' | h'
              · exact Or.inl ⟨h', h⟩
              · exact Or.inr (by omega)
            · exact Or.inr h
          clear he
          rcases he' with ⟨hlt, rfl⟩ | rfl
          all_goals
            go_wp2_with fail
            go_region
            go_wp2_with fail
            go_ret
            exact HEND.out
        | false =>
          have hm0 : more' = false := by
            cases more' with
            | false => rfl
            | true => rw [hmore rfl] at hS; cases hS
          subst hm0
          obtain rfl : s = D.k := by rcases he with h | h; cases h; exact h
          have hend := on_end (w' := (wr.setCell ⟨g2, u, none⟩ (.bool true)).drew) HE.out hi hu hgi2 true (fun _ => by rw [HDR.out]; exact Decidable.not_not.1 (of_decide_eq_false hS)) ((Below.refl _ _).drew)
          rw [hS] at hend
          have HEND := Lib.hid hend
          clear hend hE hdec hgi2 hS hav2 hmore
          go_wp2_with fail
          go_region
          go_wp2_with fail
          go_ret
          exact HEND.out
      · have hlt : s < D.k := by rcases Nat.lt_or_ge s D.k with h | h; exact h; exact absurd (Or.inr (by omega)) he
        have hmf : more' = false := by cases more' with
          | false => rfl
          | true => exact absurd (Or.inl rfl) he
        subst hmf
        clear he
        have hNk := (nodes_div hD.rule).2
        have hNd := (nodes_div hD.rule).1
        change D.t.length = D.N * D.k at hNk
        change D.t.length / D.k = D.N at hNd
        have hN0 : 0 < D.N := by omega
        have hts := hD.small
        have hq1 : u * D.k + s < D.t.length := by
          rw [hNk]
          have : (u + 1) * D.k ≤ D.N * D.k := Nat.mul_le_mul_right _ hu
          rw [Nat.add_mul, Nat.one_mul] at this
          omega
        have hed : (u * D.k + s) % D.N < D.N := Nat.mod_lt _ hN0
        have hhit := solsTo_hit (k := D.k) (N := D.N) (t := D.t) (u := u) (c := c) (s := s) V
        have hmiss := solsTo_miss (k := D.k) (N := D.N) (t := D.t) (u := u) (c := c) (s := s) V
        obtain ⟨q, hq⟩ : ∃ q, u * D.k = q := ⟨_, rfl⟩
        have hqi : IntKind.i64.wrap ((u : Int) * (D.k : Int)) = (q : Int) := by
          rw [show (u : Int) * (D.k : Int) = (q : Int) by rw [← hq]; simp]
          exact IntWalk.i64_in _ (by omega)
        rw [hq] at hq1 hed hhit hmiss
        obtain ⟨e, hee⟩ : ∃ e, q + s = e := ⟨_, rfl⟩
        have hei : IntKind.i64.wrap ((q : Int) + (s : Int)) = (e : Int) := by
          rw [show (q : Int) + (s : Int) = (e : Int) by omega]
          exact IntWalk.i64_in _ (by omega)
        rw [hee] at hq1 hed hhit hmiss
        clear hq hee hNk
        obtain ⟨ta, hta, htc⟩ := int_eq_cell (hM.out.dead.tab hD) hq1
        obtain ⟨wa, hwa, hwc⟩ := int_eq_cell (hM.out.dead.word hD) hi
        rw [HC.out] at hwc
        rw [hta] at d2
        rw [hwa] at d3
        by_cases hhc : D.t.getD e 0 = c
        · have hhit := hhit hhc
          have hWl := hD.len
          have hbox : (wr.drew.alloc (.cells #[.int .i64 (s : Int)] 3)).cell? ⟨wr.heap.size, 0, none⟩ = some (.int .i64 (s : Int)) := by
            have h0 := heap_new wr.drew (.cells #[.int .i64 (s : Int)] 3)
            exact (cell_of_row _ wr.heap.size 0 _ _ _ h0).trans rfl
          have hN := hM.out.pure ((Below.refl _ _).drew)
          have hNa := hN.pure ((Below.refl _ _).alloc (Nat.le_refl _) (.cells #[.int .i64 (s : Int)] 3))
          have HN := Lib.hid hN
          have HNa := Lib.hid hNa
          have HBOX := Lib.hid hbox
          have HHIT := Lib.hid hhit
          have HNODES := Lib.hid (fun (wz : World) => nodes_c wz (k := D.k) (r := D.r) (A := some ta) (n := D.t.length) (c := D.tc) hk1 (by omega))
          rw [hNd] at HNODES
          unfold ruleV at HNODES
          have HIH := Lib.hid (fun (wz : World) (g cap : Nat) (h : OnMid2 w D lv X (.slice XA x.length xc) x P (solsTo D.k D.N D.t u c V s) s wz lv' rows' L' g cap) => ih wz lv' rows' L' (fun b => X b ∨ b = g) (some ⟨g, 0, none⟩) cap (e % D.N) (x ++ [s]) _ h.dead
            (fun b hb => by rcases hb with hb | rfl; exact Nat.lt_of_lt_of_le (HX.out b hb) h.keeps.size; exact (h.own.lt _ rfl).2) (by rw [List.length_append]; exact h.own) (fun g' hg' => Or.inr (by simpa [Value.ownBlock] using hg'.symm)) (by simp; omega) hed h.found)
          rw [HV.out] at HIH
          simp only [List.length_append, List.length_singleton] at HIH
          obtain ⟨b0, hb0⟩ : ∃ b0, decide (sols D.k D.N D.t (e % D.N) V ≠ []) = b0 := ⟨_, rfl⟩
          obtain ⟨a0, ha0⟩ : ∃ a0, decide (solsTo D.k D.N D.t u c V s ≠ []) = a0 := ⟨_, rfl⟩
          have HNX := Lib.hid (fun (wz : World) (g cap : Nat) (h : OnMid2 w D lv X (.slice XA x.length xc) x P (solsTo D.k D.N D.t u c V s) s wz lv' rows' L' g cap) (e6 : Ending) (w4 : World) (hp : OnPost wz D lv' (fun b => X b ∨ b = g) (.slice (some ⟨g, 0, none⟩) (x.length + 1) cap) (x ++ [s]) (onP P x (solsTo D.k D.N D.t u c V s)) (sols D.k D.N D.t (e % D.N) V) e6 w4) =>
            (by have := h.next (fun g0 hg0 => HX.out g0 (HXX.out g0 hg0)) hp hhit; rw [hb0] at this; exact this : ∃ (lv2 : Value) (rows2 : List Value) (L2 : List (List Nat)) (more2 : Bool), e6 = .returned (.bool b0) ∧ OnMid w D lv X (.slice XA x.length xc) x P (solsTo D.k D.N D.t u c V (s + 1)) w4 lv2 rows2 L2 more2))
          have hnext : decide (solsTo D.k D.N D.t u c V (s + 1) ≠ []) = (b0 || a0) := by
            rw [hhit]
            cases b0 with
            | true => exact (any_hit rfl (of_decide_eq_true hb0)).symm
            | false => rw [← any_miss (S := solsTo D.k D.N D.t u c V s) rfl (Decidable.not_not.1 (of_decide_eq_false hb0))]; rw [ha0]; rfl
          have HNEXT := Lib.hid hnext
          rw [ha0]
          have HRD := Lib.hid (fun (wz : World) (lv2 : Value) (rows2 : List Value) (L2 : List (List Nat)) (more2 : Bool) (X2 : Nat → Prop) (h : DeadAt wz D lv2 rows2 L2 more2 X2) => h.reads hD hta hwa hq1 hi hhc HC.out)
          obtain ⟨y0, y1, y2, y3, y4, y5⟩ := HRD.out wr.drew _ _ _ _ _ hN.dead
          obtain ⟨x0, x1, x2, x3, x4, x5⟩ := HRD.out (wr.drew.alloc (.cells #[.int .i64 (s : Int)] 3)) _ _ _ _ _ hNa.dead
          clear hbox hN hNa hhit hmiss htc hwc d2 d3 hhc hta hwa hb0 ha0 hnext
          have s1 : IntKind.i64.wrap ((i : Int) + 1) = (i : Int) + 1 := IntWalk.i64_in _ (by have := hD.len; omega)
          have n0 : ¬ D.N = 0 := by omega
          have n1 : ¬ ((D.N : Int) = 0) := by omega
          have n2 : ((D.N : Int) == 0) = false := by simp; omega
          have n3 : IntKind.i64.wrap ((e : Int).tmod (D.N : Int)) = ((e % D.N : Nat) : Int) := by
            rw [show (e : Int).tmod (D.N : Int) = ((e % D.N : Nat) : Int) from rfl]
            have hml : e % D.N ≤ e := Nat.mod_le _ _
            generalize e % D.N = z at hml
            exact IntWalk.i64_in _ (by omega)
          go_wp2_with fail
          go_region_held3 (fun w' => w'.cell? ⟨D.db, 0, none⟩ = some (.int .i64 (D.k : Int)) ∧ w'.cell? ⟨D.db, 1, none⟩ = some (.int .i64 (D.r : Int)) ∧ w'.cell? ⟨D.db, 2, none⟩ = some (.slice (some ta) D.t.length D.tc) ∧ w'.cell? ⟨D.db, 3, none⟩ = some (.slice (some wa) D.W.length D.wc) ∧
              w'.cell? (ta.add e) = some (.int .i64 (c : Int)) ∧ w'.cell? (wa.add i) = some (.int .i64 (c : Int)))
            (first | (refine ⟨?_, ?_, ?_, ?_, ?_, ?_⟩ <;> assumption) | go_keep)
            (first
              | (go_at_call 88
                 refine (HNODES.out _).mono ?_
                 rintro e5 wN ⟨rfl, hbN⟩
                 first
                   | (have hM2 := OnMid2.pure hM2 hbN
                      obtain ⟨z0, z1, z2, z3, z4, z5⟩ := HRD.out wN _ _ _ _ _ hM2.dead)
                   | (have hNN := HN.out.pure hbN
                      obtain ⟨z0, z1, z2, z3, z4, z5⟩ := HRD.out wN _ _ _ _ _ hNN.dead)
                   | (have hNN := HNa.out.pure hbN
                      have hcN := cell_later hbN HBOX.out
                      obtain ⟨z0, z1, z2, z3, z4, z5⟩ := HRD.out wN _ _ _ _ _ hNN.dead))
              | (go_at_call 89
                 refine (HIH.out _ _ _ hM2).mono ?_
                 rintro e6 w4 hpost
                 obtain ⟨lv2, rows2, L2, more2, rfl, hM4⟩ := HNX.out _ _ _ hM2 _ _ hpost
                 obtain ⟨t0, t1, t2, t3, t4, t5⟩ := HRD.out w4 _ _ _ _ _ hM4.dead)
              | (refine step_push3 ?_ (.tmp 96) (.tmp 98) 22 rfl tInts (base := D.B) (v := .slice XA x.length xc) (n := x.length) (xs := (ints x).map (Value.int .i64)) ?_ rfl _ _ rfl (.int .i64 (s : Int)) ?_ rfl ?_ ?_ ?_ ?_
                 · rfl
                 · first | exact HNa.out.own | exact hNN.own | exact hNN.own.alloc _
                 · first | exact HBOX.out | exact hcN | simp
                 · (simp only [maxLen]; omega)
                 · omega
                 · first | exact HNa.out.dead.old.size | exact hNN.dead.old.size | exact Nat.le_succ_of_le hNN.dead.old.size | (rw [World.size_alloc]; exact Nat.le_succ_of_le hNN.dead.old.size)
                 intro g3 cap3 w3 hown3 hor hlt3
                 first
                   | (have hM2 := OnMid.push (s := s) HNa.out HXX.out hown3 hor)
                   | (have hM2 := OnMid.push (s := s) hNN HXX.out hown3 hor)
                   | (have hM2 := OnMid.push (s := s) (hNN.pure ((Below.refl _ _).alloc (Nat.le_refl _) _)) HXX.out hown3 hor)
                 obtain ⟨v0, v1, v2, v3, v4, v5⟩ := HRD.out w3 _ _ _ _ _ hM2.dead
                 clear hown3 hor))
          have HM4 := Lib.hid hM4
          clear hM4 hpost hM2 t0 t1 t2 t3 t4 t5 z0 z1 z2 z3 z4 z5 v0 v1 v2 v3 v4 v5 x0 x1 x2 x3 x4 x5 y0 y1 y2 y3 y4 y5 HIH HRD HNX
          cases b0 with
          | true =>
            go_wp2_with fail
            exact ⟨⟨s + 1, lv2, rows2, L2, more2, by omega, by go_num, by rw [HNEXT.out]; rfl, HM4⟩, by simp [intOf]; omega⟩
          | false =>
            go_wp2_with fail
            exact ⟨⟨s + 1, lv2, rows2, L2, more2, by omega, by go_num, by rw [HNEXT.out]; rfl, HM4⟩, by simp [intOf]; omega⟩
        · have hmiss := hmiss hhc
          have hne : ((D.t.getD e 0 : Nat) : Int) ≠ (c : Int) := by omega
          obtain ⟨y, hy⟩ : ∃ y, D.t.getD e 0 = y := ⟨_, rfl⟩
          rw [hy] at htc hhc hne
          have hM2 := hM.out
          rw [← hmiss] at hM2
          have HM2 := Lib.hid (fun (wz : World) (hz : Below wr.heap.size wr wz) => (⟨hM2.dead.pure hz, hM2.found, own_below hM2.own hz, hM2.keeps.trans (Keeps.of_pure hz _) (fun _ _ h => h), hM2.fresh⟩ : OnMid w D lv X (.slice XA x.length xc) x P (solsTo D.k D.N D.t u c V (s + 1)) wz lv' rows' L' false))
          rw [← hmiss]
          have hne2 : ((y : Int) == (c : Int)) = false := by simpa using hne
          clear hM2 hmiss hhit hy hM
          go_wp2_with fail
          go_region
          go_wp2_with fail
          exact ⟨⟨s + 1, lv', rows', L', false, by omega, by go_num, rfl, Lib.hid (HM2.out _ ((Below.refl _ _).drew))⟩, by simp [intOf]; omega⟩
end Go.Proofs.YthilnpfpllplaaaGreatDoor
