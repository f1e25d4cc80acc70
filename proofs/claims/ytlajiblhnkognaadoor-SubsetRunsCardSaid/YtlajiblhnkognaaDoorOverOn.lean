/- What the search among preimages adds: overlap's on. Condition: the search lies in memory as DeadAt says. -/
import Derived.Test.YtlajiblhnkognaaDoorDead
import Derived.Test.YtlajiblhnkognaaDoorPush3
import Derived.Deep.RegionHeld3
import Derived.Deep.RegionLaw
import Derived.StillTailTactics
namespace Go.Proofs.YtlajiblhnkognaaDoor
open Go.RowKit RuleP

/-- What a call of the search leaves. -/
def OnPost (w : World) (D : DeadP) (lv : Value) (X : Nat → Prop) (xv : Value) (x : List Nat) (P S : List (List Nat)) (e : Ending) (w' : World) : Prop :=
  ∃ (lv' : Value) (rows' : List Value) (L' : List (List Nat)) (more' : Bool), e = .returned (.bool (decide (S ≠ []))) ∧ DeadAt w' D lv' rows' L' more' X ∧ RuleP.Found D.most (onP P x S) L' more' ∧
    w'.ownsRow D.B 3 1 xv x.length ((ints x).map (Value.int .i64)) ∧ Keeps (fun b => Foot D lv b ∨ xv.ownBlock = some b) w w' ∧ (∀ g, lv'.ownBlock = some g → lv.ownBlock = some g ∨ w.heap.size ≤ g)

variable {w : World} {D : DeadP} {lv : Value} {rows : List Value} {L : List (List Nat)} {X : Nat → Prop}

theorem sols_nil (k N : Nat) (t : List Nat) (u : Nat) : sols k N t u [] = [[]] := by simp [sols]
theorem onP_leaf (P : List (List Nat)) (x : List Nat) : onP P x [[]] = P ++ [x] := by simp [onP]

set_option maxRecDepth 100000 in
set_option maxHeartbeats 1000000 in
theorem on_full (h : DeadAt w D lv rows L false X) (_ : DeadOk D) (XA : Option Addr) (xc u : Nat) (x : List Nat) (P : List (List Nat)) (hx : w.ownsRow D.B 3 1 (.slice XA x.length xc) x.length ((ints x).map (Value.int .i64)))
    (hF : RuleP.Found D.most P L false) (hlt : ¬ L.length < D.most) :
    Calls Tryd.prog 67 #[.pointer (some ⟨D.db, 0, none⟩), .slice XA x.length xc, .int .i64 (u : Int), .int .i64 (D.W.length : Int)] w (OnPost w D lv X (.slice XA x.length xc) x P (sols D.k D.N D.t u (D.W.drop D.W.length))) := by
  have hs : Hid (sols D.k D.N D.t u (D.W.drop D.W.length) = [[]]) := Lib.hid (by rw [List.drop_length]; exact sols_nil _ _ _ _)
  rw [hs.out]
  obtain ⟨A, c, rfl, hlc, _⟩ := own_slice h.lst
  obtain ⟨c0, c1, c2, c3, c4, c5, c6, c7, f6, f7⟩ := h.facts
  have h1 : ((D.W.length : Int) == (D.W.length : Int)) = true := by simp
  have h2 : decide (L.length < D.most) = false := decide_eq_false hlt
  have hP := Lib.hid (hF.full hlt x)
  have hW := Lib.hid (h.full.pure ((Below.refl _ _).drew))
  have hk : Keeps (fun b => b = D.db) w (w.setCell ⟨D.db, 7, none⟩ (.bool true)).drew := (Keeps.of_setCell w ⟨D.db, 7, none⟩ (.bool true)).trans (Keeps.of_pure ((Below.refl _ _).drew) _) (fun _ _ h => h)
  have hO := Lib.hid (own_keeps hx hk (fun g hg e => by
    subst e
    exact own_ne_blk hx h.blk (by decide) hg))
  have HK := Lib.hid hk
  clear hk
  clear hF hlt hs
  go_enter Tryd.func67, Tryd.ntmps67
  go_wp2_with fail
  go_region
  go_wp2_with fail
  go_ret
  exact ⟨_, rows, L, true, rfl, hW.out, by rw [onP_leaf]; exact hP.out, hO.out, HK.out.mono (fun b _ e => Or.inl (Or.inl e)), fun g hg => Or.inl hg⟩

theorem leaf_end {w1 w3 : World} {g cap : Nat} {xv v : Value} {x : List Nat} {P : List (List Nat)} (h : DeadAt w D lv rows L false X) (hX : ∀ b, X b → b < w.heap.size) (hb : Below w.heap.size w w1)
    (hc : w1.ownsRow w.heap.size 3 1 v x.length ((ints x).map (Value.int .i64))) (hk : Keeps (fun b => lv.ownBlock = some b) w1 w3) (hown : w3.ownsRow D.B 22 1 (.slice (some ⟨g, 0, none⟩) (L.length + 1) cap) (L.length + 1) (rows ++ [v]))
    (hg : lv.ownBlock = some g ∨ w1.heap.size ≤ g) (hx : w.ownsRow D.B 3 1 xv x.length ((ints x).map (Value.int .i64))) (hP : RuleP.Found D.most (P ++ [x]) (L ++ [x]) false) :
    OnPost w D lv X xv x P [[]] (.returned (.bool true)) (w3.setCell ⟨D.db, 6, none⟩ (.slice (some ⟨g, 0, none⟩) (L.length + 1) cap)) := by
  have h1 := h.pure hb
  have hB : D.B ≤ w.heap.size := h.old.size
  have hnew : ∀ g, v.ownBlock = some g → ∀ u ∈ rows, u.ownBlock ≠ some g := fun g' hg' u hu e => by
    obtain ⟨j, hj⟩ := List.getElem?_of_mem hu
    have hjl : j < L.length := by have := (List.getElem?_eq_some_iff.1 hj).1; have := h.lst.1; simp at this; omega
    obtain ⟨u', e1, e2, _⟩ := h.el j _ (List.getElem?_eq_getElem hjl)
    rw [hj] at e1
    cases e1
    have := (e2.lt g' e).2
    have := (hc.lt g' hg').1
    omega
  have hd := h1.put (own_base hc hB) (fun g' hg' hx' => by have := (hc.lt g' hg').1; have := hX g' hx'; omega) hnew hown hk
  have hk0 : Keeps (fun b => Foot D lv b ∨ xv.ownBlock = some b) w (w3.setCell ⟨D.db, 6, none⟩ (.slice (some ⟨g, 0, none⟩) (L.length + 1) cap)) :=
    ((Keeps.of_pure hb (fun b => Foot D lv b ∨ xv.ownBlock = some b)).trans (hk.mono (fun b _ e => Or.inl (Or.inr (Or.inr e)))) (fun _ _ h => h)).trans ((Keeps.of_setCell w3 _ _).mono (fun b _ e => Or.inl (Or.inl e))) (fun _ _ h => h)
  refine ⟨_, _, _, _, rfl, hd, by rw [onP_leaf]; exact hP, ?_, hk0, fun g' hg' => ?_⟩
  · have hx1 := own_keeps (own_below hx hb) hk (fun g' hg' e => own_ne_own (own_below hx hb) h1.lst (by decide) hg' e)
    refine own_keeps hx1 (Keeps.of_setCell w3 _ _) (fun g' hg' e => ?_)
    have e' : g' = D.db := e
    subst e'
    exact h.notFoot hx hg' (Or.inl rfl)
  · have e' : g = g' := by simpa [Value.ownBlock] using hg'
    subst e'
    exact hg.imp id (fun h => Nat.le_trans hb.size h)

set_option maxRecDepth 100000 in
set_option maxHeartbeats 4000000 in
theorem on_put (h : DeadAt w D lv rows L false X) (hD : DeadOk D) (hX : ∀ b, X b → b < w.heap.size) (XA : Option Addr) (xc u : Nat) (x : List Nat) (P : List (List Nat)) (hx : w.ownsRow D.B 3 1 (.slice XA x.length xc) x.length ((ints x).map (Value.int .i64)))
    (hxl : x.length ≤ 1000) (hF : RuleP.Found D.most P L false) (hlt : L.length < D.most) :
    Calls Tryd.prog 67 #[.pointer (some ⟨D.db, 0, none⟩), .slice XA x.length xc, .int .i64 (u : Int), .int .i64 (D.W.length : Int)] w (OnPost w D lv X (.slice XA x.length xc) x P (sols D.k D.N D.t u (D.W.drop D.W.length))) := by
  have hs : Hid (sols D.k D.N D.t u (D.W.drop D.W.length) = [[]]) := Lib.hid (by rw [List.drop_length]; exact sols_nil _ _ _ _)
  rw [hs.out]
  obtain ⟨A, c, rfl, hlc, _⟩ := own_slice h.lst
  obtain ⟨c0, c1, c2, c3, c4, c5, c6, c7, f6, f7⟩ := h.facts
  have h1 : ((D.W.length : Int) == (D.W.length : Int)) = true := by simp
  have h2 : decide (L.length < D.most) = true := decide_eq_true hlt
  have hL : L.length ≤ 256 := by have := hD.most; omega
  have hP := Lib.hid (hF.put hlt x)
  have hA := h.pure ((Below.refl _ _).drew)
  have hAA := Lib.hid hA
  have hxd := own_below hx ((Below.refl _ _).drew)
  have HX := Lib.hid hX
  have hh := h
  clear hF hlt hs hX h
  go_enter Tryd.func67, Tryd.ntmps67
  go_wp2_with fail
  go_region
  go_wp2_with fail
  go_region_law (first
    | (go_simp
       go_at_call 75
       refine (clone_c _ XA x.length xc _ (ints_one _) (by omega) (Sl.of_own (own_below hxd ((Below.refl _ _).drew)))).mono ?_
       rintro e w1 ⟨C, cc, rfl, hc1, hb1⟩
       have hA1 := (hAA.out.pure ((Below.refl _ _).drew)).pure hb1
       have e6 := hA1.facts.2.2.2.2.2.2.1
       have hz1 := hA1.lt
       dsimp only)
    | (refine step_push3 ?_ (.tmp 33) (.tmp 36) 40 rfl tIntss (base := D.B) (v := .slice A L.length c) (n := L.length) (xs := rows) ?_ rfl ⟨w1.heap.size, 0, none⟩ 1 rfl (.slice C x.length cc) ?_ rfl ?_ ?_ ?_ ?_
       · rfl
       · exact hA1.lst.alloc _
       · simp
       · (simp only [maxLen]; omega)
       · omega
       · (rw [World.size_alloc]; exact Nat.le_succ_of_le hA1.old.size)
       intro g cap w3 hown3 hor hlt3
       obtain ⟨hk3, hg3⟩ := push3_keeps hor
       obtain ⟨d6, g6, z3⟩ := hA1.pushed hk3
       clear hor))
  all_goals
    have hbw := (((Below.refl w.heap.size w).drew).drew).trans hb1
    have HEND := Lib.hid (leaf_end hh HX.out hbw hc1 hk3 hown3 hg3 hx hP.out)
    clear d6 g6 z3 hown3 hk3 hg3 hc1 hb1 hA1 e6 hz1
    go_wp2_with fail
    go_ret
    exact HEND.out
end Go.Proofs.YtlajiblhnkognaaDoor
