/- The automaton of the subsets: subset.Walk. Condition: the rule's table reads from memory; the error variables hold what E says. errors.As at a *subset.found: the hit, and the miss. After the kit's worked proof of errors.As at a concrete target. Condition: the variable that As reads, the target's cell. errors.As at a *subset.found, along Faults: false. Condition: the error reads from memory. Whether every word has a preimage: subset.Onto. Condition: the rule's table reads from memory; the error variables hold what E says. -/
import Derived.Test.YtlajiblhnkognaaDoorSubTell
import Derived.Test.YtlajiblhnkognaaDoorAs
import Derived.LaidEql
import Derived.Stop.Asserts
import Derived.RowKitTokens
namespace Go.Proofs.YtlajiblhnkognaaDoor
open Go.RowKit BagP RuleP SubP

/-- The block holds an automaton. -/
def AutoAt (w : World) (g : Nat) (x0 x1 : Value) : Prop := w.heap[g]? = some (.cells #[x0, x1] 42 (0, 0))
theorem AutoAt.facts {w : World} {g : Nat} {x0 x1 : Value} (h : AutoAt w g x0 x1) : w.cell? ⟨g, 0, none⟩ = some x0 ∧ w.cell? ⟨g, 1, none⟩ = some x1 ∧ w.frozen? ⟨g, 0, none⟩ = false ∧ w.frozen? ⟨g, 1, none⟩ = false :=
  ⟨by rw [cell_of_row w g _ _ _ _ h]; rfl, by rw [cell_of_row w g _ _ _ _ h]; rfl, frozen_of_row _ _ 0 _ _ h, frozen_of_row _ _ 1 _ _ h⟩
theorem AutoAt.set2 {w : World} {g : Nat} {x0 x1 : Value} (h : AutoAt w g x0 x1) (u0 u1 : Value) : AutoAt ((w.setCell ⟨g, 0, none⟩ u0).setCell ⟨g, 1, none⟩ u1) g u0 u1 := by
  have h1 := heap_setCell_same w g 0 _ _ u0 h
  exact heap_setCell_same _ g 1 _ _ u1 h1
theorem AutoAt.below {w w' : World} {g B : Nat} {x0 x1 : Value} (h : AutoAt w g x0 x1) (hb : Below B w w') (hg : g < B) : AutoAt w' g x0 x1 := (hb.block g hg).trans h

set_option maxRecDepth 100000 in
set_option maxHeartbeats 2000000 in
/-- The walk of what is no small rule. -/
theorem all_bad (w : World) (E : Nat → Addr) (hE : Errs w E) (K R : Int) (A : Option Addr) (n c wb : Nat) (T : List Int) (stop : Bool) (hT : Sl w A n (T.map (Value.int .i64))) (hm : n ≤ 9223372036854775807) (hw : Walk0 w wb K R A n c stop) (tl : Tale) (h : small K R T = some tl) :
    Calls Tryd.prog 28 #[.pointer (some ⟨wb, 0, none⟩)] w fun e w' => ∃ v, e = .returned v ∧ ErrV w' E (some (tl.1, (sSubset, 0) :: tl.2)) v ∧ Below w.heap.size w w' := by
  have hND := overNodes_c w E hE K R A n c T hT hm
  have hs : smallO K R T = some (tl.1, (sOver, 0) :: tl.2) := by unfold smallO under; rw [h]
  rw [hs, if_neg (by simp)] at hND
  have HND := Lib.hid hND
  unfold ruleV at HND
  have f : w.cell? ⟨wb, 0, none⟩ = some (.int .i64 K) ∧ w.cell? ⟨wb, 1, none⟩ = some (.int .i64 R) ∧ w.cell? ⟨wb, 2, none⟩ = some (.slice A n c) := by
    refine ⟨?_, ?_, ?_⟩ <;> rw [cell_of_row w wb _ _ _ _ hw] <;> rfl
  obtain ⟨c0, c1, c2⟩ := f
  obtain ⟨en, l⟩ := tl
  clear hND hs h hT hE hw
  go_enter Tryd.func28, Tryd.ntmps28
  go_wp2_with fail
  refine (HND.out).mono ?_
  rintro e w1 ⟨v, rfl, hv, hb1⟩
  have hv' : ErrIs w1 E en ((sOver, 0) :: l) v := hv
  obtain ⟨u, p, rfl⟩ := hv'.iface
  have HU := Lib.hid (unwrap_c w1 E en sOver 0 l _ hv')
  clear HND c0 c1 c2 hv hv'
  go_wp2_with fail
  refine (HU.out).mono ?_
  rintro e w2 ⟨v2, rfl, hv2, rfl⟩
  have HUN := Lib.hid (under_c w1 E sSubset 0 (some (en, l)) v2 hv2)
  clear HU hv2
  go_wp2_with fail
  refine (HUN.out).mono ?_
  rintro e w3 ⟨v3, rfl, hv3, hb3⟩
  go_wp2_with fail
  go_ret
  exact ⟨_, rfl, hv3, hb1.trans (hb3.mono hb1.size)⟩

/-- Without a stop there is no orphan. -/
theorem fin_go_or_over {k N : Nat} {t : List Nat} (hN : 0 < N) : (∃ S, fin k N t false = .go S []) ∨ fin k N t false = .over := by
  cases h : fin k N t false with
  | go S row => exact .inl ⟨S, by rw [(fin_inv hN h).1]⟩
  | orphan x =>
    obtain ⟨i, c, S, row, P, Q, _, _, _, h1⟩ := round_orphan hN h
    have := (sym_orphan h1).2.1
    cases this
  | over => exact .inr rfl

def autoV (K : Int) (v : Value) : Value := .agg #[.int .i64 K, v]
set_option maxRecDepth 100000 in
set_option maxHeartbeats 2000000 in
theorem walk_bad (w : World) (E : Nat → Addr) (hE : Errs w E) (hEt : ErrT w) (hA : Apart12 E) (hB : ErrBlk w E) (K R : Int) (A : Option Addr) (n c : Nat) (T : List Int) (hT : Sl w A n (T.map (Value.int .i64))) (hm : n ≤ 9223372036854775807) (tl : Tale) (h : small K R T = some tl) :
    Calls Tryd.prog 15 #[ruleV K R A n c] w fun e w' => ∃ v, e = .returned (.tuple #[autoV 0 (.slice none 0 0), v]) ∧ ErrV w' E (some (tl.1, (sSubset, 0) :: tl.2)) v ∧ Below w.heap.size w w' := by
  have hb1 := (Below.refl w.heap.size w).alloc (Nat.le_refl _) (.cells #[.int .i64 K, .int .i64 R, .slice A n c] 24)
  have hb2 := hb1.alloc (by simp) (.cells #[.int .i64 0, .slice none 0 0] 42)
  have hb3 := hb2.alloc (by simp; omega) (.cells #[.int .i64 K, .int .i64 R, .slice A n c, .pointer none, .slice none 0 0, .slice none 0 0, .bool false] 65)
  obtain ⟨w2, hw2⟩ : ∃ w2, (w.alloc (.cells #[.int .i64 K, .int .i64 R, .slice A n c] 24)).alloc (.cells #[.int .i64 0, .slice none 0 0] 42) = w2 := ⟨_, rfl⟩
  rw [hw2] at hb2 hb3
  have hz2 : w2.heap.size = w.heap.size + 2 := by rw [← hw2]; simp
  have ha2 : w2.heap[w.heap.size + 1]? = some (.cells #[.int .i64 0, .slice none 0 0] 42 (0, 0)) := by
    rw [← hw2]
    have := heap_new (w.alloc (.cells #[.int .i64 K, .int .i64 R, .slice A n c] 24)) (.cells #[.int .i64 0, .slice none 0 0] 42)
    simpa using this
  have hw0 : Walk0 (w2.alloc (.cells #[.int .i64 K, .int .i64 R, .slice A n c, .pointer none, .slice none 0 0, .slice none 0 0, .bool false] 65)) w2.heap.size K R A n c false := heap_new _ _
  have HAL := Lib.hid (all_bad _ E (hE.below hb3) K R A n c w2.heap.size T false (hT.below hb3) hm hw0 tl h)
  have HSM := Lib.hid (small_ok K R T tl h)
  have HER := Lib.hid (fun (wz : World) (hz : Below w.heap.size w wz) => (⟨hE.below hz, hEt.below hz, hB.below hz⟩ : _ ∧ _ ∧ _))
  have HB3 := Lib.hid hb3
  have HA2 := Lib.hid ha2
  rw [hz2] at HAL
  have HW2 := Lib.hid hw2
  clear hb1 hb2 hb3 hw0 ha2 hE hEt hB hT h hw2
  unfold ruleV
  go_enter Tryd.func15, Tryd.ntmps15
  go_wp2_with fail
  rw [HW2.out]
  refine (HAL.out).mono ?_
  rintro e w4 ⟨v, rfl, hv, hb4⟩
  clear HAL
  have hb4' := HB3.out.trans (hb4.mono HB3.out.size)
  have hv4 : ErrIs w4 E tl.1 ((sSubset, 0) :: tl.2) v := hv
  obtain ⟨u, p, rfl⟩ := hv4.iface
  obtain ⟨he4, ht4, hbk4⟩ := HER.out w4 hb4'
  have HTD := Lib.hid (told_c w4 E he4 ht4 hA hbk4 tl.1 HSM.out.1 HSM.out.2 sSubset 0 tl.2 _ hv4)
  have HB4 := Lib.hid hb4'
  have HZ := Lib.hid hb4
  clear hv hv4 he4 ht4 hbk4 hb4 hb4' HER HSM
  go_wp2_with fail
  refine (HTD.out).mono ?_
  rintro e w5 ⟨v5, rfl, hv5, hb5⟩
  clear HTD
  have e5 : toldT sSubset tl.1 ((sSubset, 0) :: tl.2) = (sSubset, 0) :: tl.2 := if_neg (fun h => absurd h.2 (by decide))
  rw [e5] at hv5
  have hz5 : w.heap.size + 1 < (w2.alloc (.cells #[.int .i64 K, .int .i64 R, .slice A n c, .pointer none, .slice none 0 0, .slice none 0 0, .bool false] 65)).heap.size := by rw [World.size_alloc, ← HW2.out]; simp
  have hl2 : w.heap.size + 1 < w2.heap.size := by rw [← HW2.out]; simp
  have ha5 : w5.heap[w.heap.size + 1]? = some (.cells #[.int .i64 0, .slice none 0 0] 42 (0, 0)) :=
    (hb5.block _ (Nat.lt_of_lt_of_le hz5 HZ.out.size)).trans ((HZ.out.block _ hz5).trans ((Below.heap_alloc w2 _ _ hl2).trans HA2.out))
  obtain ⟨d0, d1, f0, f1⟩ := AutoAt.facts ha5
  have HA6 := Lib.hid (AutoAt.set2 ha5 (.int .i64 0) (.slice none 0 0))
  have hb6 := HB4.out.trans (hb5.mono HB4.out.size)
  have HV : Hid (ErrV ((w5.setCell ⟨w.heap.size + 1, 0, none⟩ (.int .i64 0)).setCell ⟨w.heap.size + 1, 1, none⟩ (.slice none 0 0)) E (some (tl.1, (sSubset, 0) :: tl.2)) v5) := Lib.hid (
    ErrIs.keeps' ((Keeps.of_setCell w5 ⟨w.heap.size + 1, 0, none⟩ (.int .i64 0)).trans (Keeps.of_setCell _ ⟨w.heap.size + 1, 1, none⟩ (.slice none 0 0)) (fun _ _ h => h)) (fun k cs hk e => by
      rw [show k = w.heap.size + 1 from hk, ha5] at e
      injection e with e
      injection e with _ e
      exact absurd e (by decide)) hv5)
  have HBE := Lib.hid ((hb6.setCell (p := ⟨w.heap.size + 1, 0, none⟩) (Nat.le_succ _) (.int .i64 0)).setCell (p := ⟨w.heap.size + 1, 1, none⟩) (Nat.le_succ _) (.slice none 0 0))
  clear hv5 hb5 hb6 ha5 hz5 hl2 e5 HZ HB4
  go_wp2_with fail
  obtain ⟨d0, d1, _, _⟩ := HA6.out.facts
  exact bodyPost_ret (v := .tuple #[autoV 0 (.slice none 0 0), v5]) (by simp [results, Tryd.results15, go_sem, autoV, d0, d1]) rfl ⟨_, rfl, HV.out, HBE.out⟩

/-- What the walk of a small rule answers. -/
def WalkPost (w : World) (E : Nat → Addr) (k r : Nat) (t : List Nat) (e : Ending) (w' : World) : Prop :=
  (∀ S, fin k (k ^ (2 * r)) t false = .go S [] → ∃ nv nr, e = .returned (.tuple #[autoV (k : Int) nv, .nilIface]) ∧ RowsAt w' w.heap.size nv nr S.next (fun _ => False) ∧ Below w.heap.size w w') ∧
  (fin k (k ^ (2 * r)) t false = .over → ∃ v, e = .returned (.tuple #[autoV 0 (.slice none 0 0), v]) ∧ ErrV w' E (some (4, [(sSubset, 0)])) v ∧ Below w.heap.size w w')

set_option maxRecDepth 100000 in
set_option maxHeartbeats 2000000 in
theorem walk_good (w : World) (E : Nat → Addr) (hE : Errs w E) (hEt : ErrT w) (hA : Apart12 E) (hB : ErrBlk w E) (k r : Nat) (A : Option Addr) (n c : Nat) (t : List Nat) (hT : Sl w A n ((ints t).map (Value.int .i64))) (hr : IsRule k r t) (h256 : t.length ≤ 256) :
    Calls Tryd.prog 15 #[ruleV (k : Int) (r : Int) A n c] w (WalkPost w E k r t) := by
  have hn : t.length = n := by simpa [ints] using hT.1
  subst hn
  have hb1 := (Below.refl w.heap.size w).alloc (Nat.le_refl _) (.cells #[.int .i64 (k : Int), .int .i64 (r : Int), .slice A t.length c] 24)
  have hb2 := hb1.alloc (by simp) (.cells #[.int .i64 0, .slice none 0 0] 42)
  obtain ⟨w2, hw2⟩ : ∃ w2, (w.alloc (.cells #[.int .i64 (k : Int), .int .i64 (r : Int), .slice A t.length c] 24)).alloc (.cells #[.int .i64 0, .slice none 0 0] 42) = w2 := ⟨_, rfl⟩
  rw [hw2] at hb2
  have hz2 : w2.heap.size = w.heap.size + 2 := by rw [← hw2]; simp
  have ha2 : AutoAt w2 (w.heap.size + 1) (.int .i64 0) (.slice none 0 0) := by
    unfold AutoAt
    rw [← hw2]
    have := heap_new (w.alloc (.cells #[.int .i64 (k : Int), .int .i64 (r : Int), .slice A t.length c] 24)) (.cells #[.int .i64 0, .slice none 0 0] 42)
    simpa using this
  have hr2 : RuleAt w2 w.heap.size (.int .i64 (k : Int)) (.int .i64 (r : Int)) (.slice A t.length c) := by
    rw [← hw2]; exact (RuleAt.new w _ _ _).alloc _
  have hw0 : Walk0 (w2.alloc (.cells #[.int .i64 (k : Int), .int .i64 (r : Int), .slice A t.length c, .pointer none, .slice none 0 0, .slice none 0 0, .bool false] 65)) w2.heap.size (k : Int) (r : Int) A t.length c false := heap_new _ _
  have HAL := Lib.hid (all_c w2 k r t A c w2.heap.size false hw0 hr h256 (hT.below hb2) ((Below.refl _ _).alloc (Nat.le_refl _) _) (Nat.le_refl _) (hE.below hb2))
  have HFO := Lib.hid (fin_go_or_over (k := k) (N := k ^ (2 * r)) (t := t) (show 0 < k ^ (2 * r) from Nat.pow_pos hr.k1))
  have HER := Lib.hid (fun (wz : World) (hz : Below w.heap.size w wz) => (⟨hE.below hz, hEt.below hz, hB.below hz⟩ : _ ∧ _ ∧ _))
  have HB2 := Lib.hid hb2
  have HA2 := Lib.hid ha2
  have HR2 := Lib.hid hr2
  have HZ2 := Lib.hid hz2
  rw [hz2] at HAL
  have HW2 := Lib.hid hw2
  clear hb1 hb2 hw0 ha2 hr2 hE hEt hB hT hw2 hz2 hr h256
  unfold ruleV
  go_enter Tryd.func15, Tryd.ntmps15
  go_wp2_with fail
  rw [HW2.out]
  refine (HAL.out).mono ?_
  clear HAL
  rintro e w4 hp
  unfold AllPost at hp
  rcases HFO.out with ⟨S, hS⟩ | hS
  · rw [hS] at hp
    have HS := Lib.hid hS
    obtain ⟨bp, nv, wv, nr, ws, rfl, hwk⟩ := hp
    obtain ⟨NA, nc, rfl, _, _⟩ := own_slice hwk.nx.lst
    have hb4 : Below w2.heap.size w2 w4 := hwk.old
    obtain ⟨c0, c1, c2, c3, c4, c5, c6, f4, f5⟩ := hwk.facts
    rw [show (WalkP.wb ⟨w2, k, r, t, A, c, w.heap.size + 2, bp, false⟩) = w.heap.size + 2 from rfl] at c0 c1 c2 c3 c4 c5 c6 f4 f5
    have hz := HZ2.out
    have hr4 := (HR2.out.below hb4 (by omega)).facts.1
    have ha4 := HA2.out.below hb4 (by omega)
    obtain ⟨d0, d1, f0, f1⟩ := ha4.facts
    have HA4 := Lib.hid ha4
    have HWK := Lib.hid hwk
    have HB4 := Lib.hid (HB2.out.trans (hb4.mono HB2.out.size))
    clear c0 c1 c2 c3 c5 c6 f4 f5 hwk hb4 ha4 hz hS
    have HA6 := Lib.hid (HA4.out.set2 (.int .i64 (k : Int)) (.slice NA S.next.length nc))
    have hblk : ∀ b, b = (⟨w.heap.size + 1, 0, none⟩ : Addr).block → w4.heap[b]? = some (.cells #[.int .i64 0, .slice none 0 0] 42 (0, 0)) := fun b e => by rw [show b = w.heap.size + 1 from e]; exact HA4.out
    have HN6 := Lib.hid (HWK.out.nx.keeps ((Keeps.of_setCell w4 ⟨w.heap.size + 1, 0, none⟩ (.int .i64 (k : Int))).trans (Keeps.of_setCell _ ⟨w.heap.size + 1, 1, none⟩ (.slice NA S.next.length nc)) (fun _ _ h => h))
      (fun b hb => HWK.out.nx.not_lst (hblk b hb) (by decide)) (fun b hb => HWK.out.nx.not_el (hblk b hb) (by decide)))
    have HB6 := Lib.hid ((HB4.out.setCell (p := ⟨w.heap.size + 1, 0, none⟩) (Nat.le_succ _) (.int .i64 (k : Int))).setCell (p := ⟨w.heap.size + 1, 1, none⟩) (Nat.le_succ _) (.slice NA S.next.length nc))
    clear HWK HA4 HB4 hblk
    go_wp2_with fail
    go_region
    go_wp2_with fail
    obtain ⟨d0, d1, _, _⟩ := HA6.out.facts
    have hdr := (Below.refl ((w4.setCell ⟨w.heap.size + 1, 0, none⟩ (.int .i64 (k : Int))).setCell ⟨w.heap.size + 1, 1, none⟩ (.slice NA S.next.length nc)).heap.size ((w4.setCell ⟨w.heap.size + 1, 0, none⟩ (.int .i64 (k : Int))).setCell ⟨w.heap.size + 1, 1, none⟩ (.slice NA S.next.length nc))).drew
    refine bodyPost_ret (v := .tuple #[autoV (k : Int) (.slice NA S.next.length nc), .nilIface]) (by simp [results, Tryd.results15, go_sem, autoV, d0, d1]) rfl ⟨fun S' hS' => ?_, fun h => ?_⟩
    · rw [HS.out] at hS'
      injection hS' with e _
      subst e
      exact ⟨(.slice NA S.next.length nc), nr, rfl, (HN6.out.pure hdr).base (Nat.le_trans (Nat.le_add_right _ 2) (Nat.le_of_eq HZ2.out.symm)), HB6.out.trans (hdr.mono HB6.out.size)⟩
    · rw [HS.out] at h
      cases h
  · rw [hS] at hp
    have HS := Lib.hid hS
    obtain ⟨b, rfl, he4, hb4⟩ := hp
    have hb4' := HB2.out.trans (hb4.mono HB2.out.size)
    obtain ⟨q1, q2, q3⟩ := HER.out w4 hb4'
    have HTD := Lib.hid (told_c w4 E q1 q2 hA q3 4 (by decide) (by decide) sBag 0 [] _ he4)
    have hz := HZ2.out
    have ha4 := HA2.out.below hb4 (by omega)
    have HA4 := Lib.hid ha4
    have HB4 := Lib.hid hb4'
    have hl4 : w.heap.size + 1 < w4.heap.size := by have := hb4.size; omega
    clear he4 hb4 hb4' q1 q2 q3 ha4 hS hz
    unfold errV at *
    go_wp2_with fail
    refine (HTD.out).mono ?_
    rintro e w5 ⟨v5, rfl, hv5, hb5⟩
    clear HTD
    have e5 : toldT sBag 4 [(sBag, 0)] = [(sSubset, 0)] := if_pos ⟨rfl, rfl⟩
    rw [e5] at hv5
    have ha5 := HA4.out.below hb5 hl4
    obtain ⟨d0, d1, f0, f1⟩ := AutoAt.facts ha5
    have HA6 := Lib.hid (AutoAt.set2 ha5 (.int .i64 0) (.slice none 0 0))
    have hb6 := HB4.out.trans (hb5.mono HB4.out.size)
    have HV : Hid (ErrV ((w5.setCell ⟨w.heap.size + 1, 0, none⟩ (.int .i64 0)).setCell ⟨w.heap.size + 1, 1, none⟩ (.slice none 0 0)) E (some (4, [(sSubset, 0)])) v5) := Lib.hid (
      ErrIs.keeps' ((Keeps.of_setCell w5 ⟨w.heap.size + 1, 0, none⟩ (.int .i64 0)).trans (Keeps.of_setCell _ ⟨w.heap.size + 1, 1, none⟩ (.slice none 0 0)) (fun _ _ h => h)) (fun k cs hk e => by
        rw [show k = w.heap.size + 1 from hk, show w5.heap[w.heap.size + 1]? = _ from ha5] at e
        injection e with e
        injection e with _ e
        exact absurd e (by decide)) hv5)
    have HBE := Lib.hid ((hb6.setCell (p := ⟨w.heap.size + 1, 0, none⟩) (Nat.le_succ _) (.int .i64 0)).setCell (p := ⟨w.heap.size + 1, 1, none⟩) (Nat.le_succ _) (.slice none 0 0))
    clear hv5 hb5 hb6 ha5 e5 HB4 hl4
    go_wp2_with fail
    obtain ⟨d0, d1, _, _⟩ := HA6.out.facts
    exact bodyPost_ret (v := .tuple #[autoV 0 (.slice none 0 0), v5]) (by simp [results, Tryd.results15, go_sem, autoV, d0, d1]) rfl ⟨fun S hS => (by rw [HS.out] at hS; cases hS), fun _ => ⟨_, rfl, HV.out, HBE.out⟩⟩
end Go.Proofs.YtlajiblhnkognaaDoor

namespace Go.Proofs.YtlajiblhnkognaaDoor
open Go.RowKit Go.Extern.Stop Go.Stop Go.Extern

/-! ### CLOSED FACTS ON THE MODEL's ENTRIES FOR internal/reflectlite, at this program's types: 25: *p.E · 27: **p.E · 23: error · 45: reflectlite's rtype · 1: how many package-level variables the dump has -/
theorem AsF.valueOf27 (t : Addr) (w : World) : (ReflectliteValue.unpack (.iface 69 (.pointer (some t)))).run Tryd.prog w
    = .ok (.agg #[.pointer (some ⟨13, 69, none⟩), .pointer (some ⟨w.heap.size, 0, none⟩), .int .u64 150]) (w.alloc (.cells #[.pointer (some t)] 69)) := by kernel_rfl
theorem AsF.type27 (a : Addr) (w : World) : (ReflectliteValue.methodAny (ReflectliteValue.valueError "reflectlite.Value.Type" 0) (fun t _ _ _ => ReflectliteType.toType t) #[.agg #[.pointer (some ⟨13, 69, none⟩), .pointer (some a), .int .u64 150]]).run Tryd.prog w
    = .ok (.iface 147 (.agg #[.pointer (some ⟨13, 69, none⟩)])) w := by kernel_rfl
theorem AsF.methodKind (h : Value) (w : World) : (Go.method 300 147 (.agg #[h]) "Kind").run Tryd.prog w = .ok (108, h) w := by kernel_rfl
theorem AsF.kind27 (w : World) : ((ReflectliteType.abiMethod fun t => (fun a : Nat => Value.int IntKind.u8 (a : Int)) <$> Rtype.kind t) #[.pointer (some ⟨13, 69, none⟩)]).run Tryd.prog w = .ok (.int .u8 22) w := by kernel_rfl
theorem AsF.kind25 (w : World) : ((ReflectliteType.abiMethod fun t => (fun a : Nat => Value.int IntKind.u8 (a : Int)) <$> Rtype.kind t) #[.pointer (some ⟨13, 67, none⟩)]).run Tryd.prog w = .ok (.int .u8 22) w := by kernel_rfl

/-! ### THE ENTRIES THAT READ OR WRITE MEMORY: laws with a premise on the cell (after Derived/Lib/ReflectliteSlice.lean's manner: each unfolding a lemma of its own, by rfl) -/
theorem AsF.parts27 (a : Addr) (w : World) : (ReflectliteValue.parts (.agg #[.pointer (some ⟨13, 69, none⟩), .pointer (some a), .int .u64 150])).run Tryd.prog w = .ok (some (69, a, 150)) w := by kernel_rfl
/-- (Value).IsNil at the Value of a **p.E that is not nil. -/
theorem AsF.isNil27 (a p : Addr) (W : World) (ha : W.cell? a = some (.pointer (some p))) :
    (ReflectliteValue.method (ReflectliteValue.valueError "reflectlite.Value.IsNil" 0) ReflectliteValue.isNil #[.agg #[.pointer (some ⟨13, 69, none⟩), .pointer (some a), .int .u64 150]]).run Tryd.prog W = .ok (.bool false) W := by
  rw [rlm]
  simp only [Sem.run_bind, AsF.parts27, Result.andThen]
  simp [ReflectliteValue.isNil, loadVar, isAgg, underlying, Tryd.underlying69, ha, Result.andThen]

theorem AsF.methodElem (h : Value) (w : World) : (Go.method 300 147 (.agg #[h]) "Elem").run Tryd.prog w = .ok (120, .agg #[h]) w := by kernel_rfl
theorem AsF.methodImplements (h : Value) (w : World) : (Go.method 300 147 (.agg #[h]) "Implements").run Tryd.prog w = .ok (121, .agg #[h]) w := by kernel_rfl
theorem AsF.methodAssignableTo (h : Value) (w : World) : (Go.method 300 147 (.agg #[h]) "AssignableTo").run Tryd.prog w = .ok (118, .agg #[h]) w := by kernel_rfl
theorem AsF.elem27 (w : World) : (ReflectliteType.method ReflectliteType.elem #[.agg #[.pointer (some ⟨13, 69, none⟩)]]).run Tryd.prog w = .ok (.iface 147 (.agg #[.pointer (some ⟨13, 67, none⟩)])) w := by kernel_rfl
theorem AsF.implements25 (w : World) : (ReflectliteType.relation "Implements" ReflectliteType.implements_ #[.agg #[.pointer (some ⟨13, 67, none⟩)], .iface 147 (.agg #[.pointer (some ⟨13, 28, none⟩)])]).run Tryd.prog w = .ok (.bool true) w := by kernel_rfl
theorem AsF.typeOf25 (v : Value) (w : World) : (ReflectliteType.typeOf #[.iface 67 v]).run Tryd.prog w = .ok (.iface 147 (.agg #[.pointer (some ⟨13, 67, none⟩)])) w := by kernel_rfl
theorem AsF.assignable25 (w : World) : (ReflectliteType.relation "AssignableTo" ReflectliteType.assignableTo #[.agg #[.pointer (some ⟨13, 67, none⟩)], .iface 147 (.agg #[.pointer (some ⟨13, 67, none⟩)])]).run Tryd.prog w = .ok (.bool true) w := by kernel_rfl
theorem AsF.valueOf25 (e : Addr) (w : World) : (ReflectliteValue.unpack (.iface 67 (.pointer (some e)))).run Tryd.prog w
    = .ok (.agg #[.pointer (some ⟨13, 67, none⟩), .pointer (some ⟨w.heap.size, 0, none⟩), .int .u64 150]) (w.alloc (.cells #[.pointer (some e)] 67)) := by kernel_rfl

theorem AsF.elemOf27 (w : World) : (Rtype.elem? 69).run Tryd.prog w = .ok (some 67) w := by kernel_rfl
theorem AsF.mk25 (p : Addr) (w : World) : (ReflectliteValue.mk 67 p ReflectliteValue.flagAddr).run Tryd.prog w = .ok (.agg #[.pointer (some ⟨13, 67, none⟩), .pointer (some p), .int .u64 406]) w := by kernel_rfl
/-- (Value).Elem at the Value of a **p.E that is not nil: the Value of the *p.E variable that it points to, addressable. -/
theorem AsF.elemV27 (a p : Addr) (W : World) (ha : W.cell? a = some (.pointer (some p))) :
    (ReflectliteValue.method (ReflectliteValue.valueError "reflectlite.Value.Elem" 0) ReflectliteValue.elem #[.agg #[.pointer (some ⟨13, 69, none⟩), .pointer (some a), .int .u64 150]]).run Tryd.prog W
      = .ok (.agg #[.pointer (some ⟨13, 67, none⟩), .pointer (some p), .int .u64 406]) W := by
  rw [rlm]
  simp only [Sem.run_bind, AsF.parts27, Result.andThen]
  simp [ReflectliteValue.elem, loadVar, isAgg, underlying, Tryd.underlying69, ha, Result.andThen, AsF.elemOf27, AsF.mk25]
theorem AsF.parts25a (a : Addr) (w : World) : (ReflectliteValue.parts (.agg #[.pointer (some ⟨13, 67, none⟩), .pointer (some a), .int .u64 406])).run Tryd.prog w = .ok (some (67, a, 406)) w := by kernel_rfl
theorem AsF.parts25 (a : Addr) (w : World) : (ReflectliteValue.parts (.agg #[.pointer (some ⟨13, 67, none⟩), .pointer (some a), .int .u64 150])).run Tryd.prog w = .ok (some (67, a, 150)) w := by kernel_rfl
theorem AsF.direct25 (w : World) : (Rtype.directlyAssignable 67 67).run Tryd.prog w = .ok true w := by kernel_rfl
theorem AsF.size25 (w : World) : (sizeOf 67).run Tryd.prog w = .ok 1 w := by kernel_rfl
/-- (Value).Set: the *p.E variable at 'ta' gets what the Value's own variable 'b' holds. -/
theorem AsF.set25 (ta b e : Addr) (old : Value) (W : World) (hb : W.cell? b = some (.pointer (some e))) (ht : W.cell? ta = some old) (hf : W.frozen? ta = false) :
    (ReflectliteValue.set #[.agg #[.pointer (some ⟨13, 67, none⟩), .pointer (some ta), .int .u64 406], .agg #[.pointer (some ⟨13, 67, none⟩), .pointer (some b), .int .u64 150]]).run Tryd.prog W
      = .ok (.tuple #[]) (W.setCell ta (.pointer (some e))) := by
  rw [rls]
  simp only [Sem.run_bind, AsF.parts25a, AsF.parts25, Result.andThen]
  simp [ReflectliteValue.flagAddr, loadVar, isAgg, underlying, Tryd.underlying67, hb, Result.andThen, AsF.direct25, storeVar, Value.cells, storeCells, Addr.add]
  rw [run_store Tryd.prog W ta _ _ (by rfl)]
  simp [ht, hf]

set_option maxHeartbeats 4000000 in
theorem asF_hit (e t : Addr) (old : Value) (w : World) (hg : w.cell? ⟨0, 0, none⟩ = some (.iface 147 (.agg #[.pointer (some ⟨13, 28, none⟩)]))) (ht0 : w.cell? t = some old) (hf0 : w.frozen? t = false) :
    Calls Tryd.prog 29 #[.iface 67 (.pointer (some e)), .iface 69 (.pointer (some t))] w fun ev w' => ev = .returned (.bool true) ∧ w' = ((((w.alloc (.cells #[.pointer (some t)] 69)).alloc (.cells #[.pointer (some ⟨13, 69, none⟩), .pointer (some ⟨w.heap.size, 0, none⟩), .int .u64 150] 103)).alloc (.cells #[.pointer (some ⟨13, 69, none⟩), .pointer (some ⟨w.heap.size, 0, none⟩), .int .u64 150] 103)).alloc (.cells #[.pointer (some e)] 67)).setCell t (.pointer (some e)) := by
  have h6 := @run_callFunc_extern Tryd.prog 50 _ (fun args => ReflectliteValue.unpack (args.getD 0 (.tuple #[]))) Tryd.func50 (by kernel_rfl) (by kernel_rfl) (by kernel_rfl) (by kernel_rfl)
  have h7 := @run_callFunc_extern Tryd.prog 51 _ (ReflectliteValue.methodAny (ReflectliteValue.valueError "reflectlite.Value.Type" 0) (fun t _ _ _ => ReflectliteType.toType t)) Tryd.func51 (by kernel_rfl) (by kernel_rfl) (by kernel_rfl) (by kernel_rfl)
  have h8 := @run_callFunc_extern Tryd.prog 52 _ (ReflectliteValue.method (ReflectliteValue.valueError "reflectlite.Value.IsNil" 0) ReflectliteValue.isNil) Tryd.func52 (by kernel_rfl) (by kernel_rfl) (by kernel_rfl) (by kernel_rfl)
  have h27 := @run_callFunc_extern Tryd.prog 108 _ (ReflectliteType.abiMethod fun t => do pure (.int .u8 (← Rtype.kind t))) Tryd.func108 (by kernel_rfl) (by kernel_rfl) (by kernel_rfl) (by kernel_rfl)
  have h37 := @run_callFunc_extern Tryd.prog 120 _ (ReflectliteType.method ReflectliteType.elem) Tryd.func120 (by kernel_rfl) (by kernel_rfl) (by kernel_rfl) (by kernel_rfl)
  have h38 := @run_callFunc_extern Tryd.prog 121 _ (ReflectliteType.relation "Implements" ReflectliteType.implements_) Tryd.func121 (by kernel_rfl) (by kernel_rfl) (by kernel_rfl) (by kernel_rfl)
  have h10 := @run_callFunc_extern Tryd.prog 61 _ ReflectliteType.typeOf Tryd.func61 (by kernel_rfl) (by kernel_rfl) (by kernel_rfl) (by kernel_rfl)
  have h35 := @run_callFunc_extern Tryd.prog 118 _ (ReflectliteType.relation "AssignableTo" ReflectliteType.assignableTo) Tryd.func118 (by kernel_rfl) (by kernel_rfl) (by kernel_rfl) (by kernel_rfl)
  have h11 := @run_callFunc_extern Tryd.prog 76 _ (ReflectliteValue.method (ReflectliteValue.valueError "reflectlite.Value.Elem" 0) ReflectliteValue.elem) Tryd.func76 (by kernel_rfl) (by kernel_rfl) (by kernel_rfl) (by kernel_rfl)
  have h12 := @run_callFunc_extern Tryd.prog 77 _ ReflectliteValue.set Tryd.func77 (by kernel_rfl) (by kernel_rfl) (by kernel_rfl) (by kernel_rfl)
  have tO := AsF.typeOf25
  have mA := AsF.methodAssignableTo
  have a25 := AsF.assignable25
  have v25 := AsF.valueOf25
  have f6 := AsF.valueOf27
  have f7 := AsF.type27
  have mK := AsF.methodKind
  have mE := AsF.methodElem
  have mI := AsF.methodImplements
  have k27 := AsF.kind27
  have k25 := AsF.kind25
  have e27 := AsF.elem27
  have i25 := AsF.implements25
  have n8 := AsF.isNil27 ⟨w.heap.size, 0, none⟩ t ((w.alloc (.cells #[.pointer (some t)] 69)).alloc (.cells #[.pointer (some ⟨13, 69, none⟩), .pointer (some ⟨w.heap.size, 0, none⟩), .int .u64 150] 103)) (by simp)
  have hlt : 0 < w.heap.size := World.block_lt_of_cell? _ _ hg
  have hg2 : ((w.alloc (.cells #[.pointer (some t)] 69)).alloc (.cells #[.pointer (some ⟨13, 69, none⟩), .pointer (some ⟨w.heap.size, 0, none⟩), .int .u64 150] 103)).cell? ⟨0, 0, none⟩ = some (.iface 147 (.agg #[.pointer (some ⟨13, 28, none⟩)])) := by
    rw [World.cell?_alloc_lt _ _ ⟨0, 0, none⟩ (by simp <;> omega), World.cell?_alloc_lt _ _ ⟨0, 0, none⟩ hlt]; exact hg
  have htl : t.block < w.heap.size := by
    rcases Nat.lt_or_ge t.block w.heap.size with h | h
    · exact h
    · simp [World.cell?, Array.getElem?_eq_none h] at ht0
  have el := AsF.elemV27 ⟨w.heap.size, 0, none⟩ t (((w.alloc (.cells #[.pointer (some t)] 69)).alloc (.cells #[.pointer (some ⟨13, 69, none⟩), .pointer (some ⟨w.heap.size, 0, none⟩), .int .u64 150] 103)).alloc (.cells #[.pointer (some ⟨13, 69, none⟩), .pointer (some ⟨w.heap.size, 0, none⟩), .int .u64 150] 103)) (by rw [World.cell?_alloc_lt _ _ ⟨w.heap.size, 0, none⟩ (by simp; omega)]; simp)
  have st := AsF.set25 t ⟨w.heap.size + 1 + 1 + 1, 0, none⟩ e old ((((w.alloc (.cells #[.pointer (some t)] 69)).alloc (.cells #[.pointer (some ⟨13, 69, none⟩), .pointer (some ⟨w.heap.size, 0, none⟩), .int .u64 150] 103)).alloc (.cells #[.pointer (some ⟨13, 69, none⟩), .pointer (some ⟨w.heap.size, 0, none⟩), .int .u64 150] 103)).alloc (.cells #[.pointer (some e)] 67))
    (by rw [World.cell?_alloc_at _ _ _ _ (by simp)]; rfl)
    (by rw [World.cell?_alloc_lt _ _ t (by simp; omega), World.cell?_alloc_lt _ _ t (by simp; omega), World.cell?_alloc_lt _ _ t (by simp; omega), World.cell?_alloc_lt _ _ t htl]; exact ht0)
    (by rw [World.frozen?_alloc_old _ _ t (by simp; omega), World.frozen?_alloc_old _ _ t (by simp; omega), World.frozen?_alloc_old _ _ t (by simp; omega), World.frozen?_alloc_old _ _ t (Nat.ne_of_lt htl)]; exact hf0)
  go_enter Tryd.func29, Tryd.ntmps29
  go_wp2
  refine wp_loop_rounds 1 ?_
  rw [rounds_succ]
  go_wp2
  go_ret
  exact ⟨rfl, rfl⟩

end Go.Proofs.YtlajiblhnkognaaDoor

namespace Go.Proofs.YtlajiblhnkognaaDoor
open Go.RowKit Go.Extern.Stop Go.Stop Go.Extern

theorem AsF.typeOfFault (v : Value) (w : World) : (ReflectliteType.typeOf #[.iface 82 v]).run Tryd.prog w = .ok (.iface 147 (.agg #[.pointer (some ⟨13, 82, none⟩)])) w := by kernel_rfl
theorem AsF.notFault (w : World) : (ReflectliteType.relation "AssignableTo" ReflectliteType.assignableTo #[.agg #[.pointer (some ⟨13, 82, none⟩)], .iface 147 (.agg #[.pointer (some ⟨13, 67, none⟩)])]).run Tryd.prog w = .ok (.bool false) w := by kernel_rfl
theorem AsF.notString (w : World) : (ReflectliteType.relation "AssignableTo" ReflectliteType.assignableTo #[.agg #[.pointer (some ⟨13, 167, none⟩)], .iface 147 (.agg #[.pointer (some ⟨13, 67, none⟩)])]).run Tryd.prog w = .ok (.bool false) w := by kernel_rfl
theorem noAsE (v : Value) (xT : TypeId) (w : World) : (Instr.typeAssert (.iface 167 v) xT 151 true).run Tryd.prog w = .ok (.tuple #[.nilIface, .bool false]) w := run_typeAssert_lacksB Tryd.underlying151 (by kernel_rfl) (by kernel_rfl) v xT w
theorem noAsF (v : Value) (xT : TypeId) (w : World) : (Instr.typeAssert (.iface 82 v) xT 151 true).run Tryd.prog w = .ok (.tuple #[.nilIface, .bool false]) w := run_typeAssert_lacksB Tryd.underlying151 (by kernel_rfl) (by kernel_rfl) v xT w

set_option maxRecDepth 1000000 in
/-- Along Faults to an error variable's error: none is one. -/
theorem asF_chain (w : World) (E : Nat → Addr) (n : Nat) (l : List (ByteArray × Int)) (v t c0 c1 c2 : Value) (h : ErrIs w E n l v) :
    Calls Tryd.prog 53 #[v, t, .agg #[c0, c1, c2], .iface 147 (.agg #[.pointer (some ⟨13, 67, none⟩)])] w fun e w' => e = .returned (.bool false) ∧ Below w.heap.size w w' := by
  have h10 := @run_callFunc_extern Tryd.prog 61 _ ReflectliteType.typeOf Tryd.func61 (by kernel_rfl) (by kernel_rfl) (by kernel_rfl) (by kernel_rfl)
  have h35 := @run_callFunc_extern Tryd.prog 118 _ (ReflectliteType.relation "AssignableTo" ReflectliteType.assignableTo) Tryd.func118 (by kernel_rfl) (by kernel_rfl) (by kernel_rfl) (by kernel_rfl)
  have tF := AsF.typeOfFault
  have tE := is_typeOf
  have aF := AsF.notFault
  have aE := AsF.notString
  have mA := AsF.methodAssignableTo
  have nE := noAsE
  have nF := noAsF
  have uF := hasUnwrapF
  have uE := noUnwrapE
  have sE := noUnwrapsE
  have mU := methodUnwrapF
  go_enter Tryd.func53, Tryd.ntmps53
  go_wp2
  go_loopw [0] (fun v wl => Hid (Below w.heap.size w wl) ∧ ∃ l, ErrIs wl E n l v) (fun v wl => errLen wl E n v)
  case atStart => exact ⟨Lib.hid ((Below.refl _ _).alloc (Nat.le_refl _) _), l, h.below ((Below.refl _ _).alloc (Nat.le_refl _) _)⟩
  case round =>
    clear h
    obtain ⟨hbw, l, h⟩ := hrel
    cases l with
    | nil =>
      obtain rfl := h
      go_wp2
      go_ret
      exact ⟨rfl, hbw.out⟩
    | cons x l =>
      obtain ⟨op, at'⟩ := x
      have hlen0 := errLen_eq h
      obtain ⟨b, v', rfl, hb, h1⟩ := h
      have hlen := errLen_eq h1
      obtain ⟨u1, p1, rfl⟩ := h1.iface
      have hcell := (blk_cells hb).2.2.1
      have H1 := Lib.hid h1
      have HL := Lib.hid hlen
      have HL0 := Lib.hid hlen0
      clear h1 hb hlen hlen0
      unfold errV at *
      go_wp2
      exact ⟨⟨hbw, l, H1.out⟩, by show errLen wr E n (.iface u1 p1) < _; rw [HL.out, HL0.out]; simp⟩
set_option maxHeartbeats 4000000 in
theorem asF_miss (w : World) (E : Nat → Addr) (n : Nat) (l : List (ByteArray × Int)) (v : Value) (h : ErrIs w E n l v) (t : Addr) (hg : w.cell? ⟨0, 0, none⟩ = some (.iface 147 (.agg #[.pointer (some ⟨13, 28, none⟩)]))) :
    Calls Tryd.prog 29 #[v, .iface 69 (.pointer (some t))] w fun ev w' => ev = .returned (.bool false) ∧ Below w.heap.size w w' := by
  have h6 := @run_callFunc_extern Tryd.prog 50 _ (fun args => ReflectliteValue.unpack (args.getD 0 (.tuple #[]))) Tryd.func50 (by kernel_rfl) (by kernel_rfl) (by kernel_rfl) (by kernel_rfl)
  have h7 := @run_callFunc_extern Tryd.prog 51 _ (ReflectliteValue.methodAny (ReflectliteValue.valueError "reflectlite.Value.Type" 0) (fun t _ _ _ => ReflectliteType.toType t)) Tryd.func51 (by kernel_rfl) (by kernel_rfl) (by kernel_rfl) (by kernel_rfl)
  have h8 := @run_callFunc_extern Tryd.prog 52 _ (ReflectliteValue.method (ReflectliteValue.valueError "reflectlite.Value.IsNil" 0) ReflectliteValue.isNil) Tryd.func52 (by kernel_rfl) (by kernel_rfl) (by kernel_rfl) (by kernel_rfl)
  have h27 := @run_callFunc_extern Tryd.prog 108 _ (ReflectliteType.abiMethod fun t => do pure (.int .u8 (← Rtype.kind t))) Tryd.func108 (by kernel_rfl) (by kernel_rfl) (by kernel_rfl) (by kernel_rfl)
  have h37 := @run_callFunc_extern Tryd.prog 120 _ (ReflectliteType.method ReflectliteType.elem) Tryd.func120 (by kernel_rfl) (by kernel_rfl) (by kernel_rfl) (by kernel_rfl)
  have h38 := @run_callFunc_extern Tryd.prog 121 _ (ReflectliteType.relation "Implements" ReflectliteType.implements_) Tryd.func121 (by kernel_rfl) (by kernel_rfl) (by kernel_rfl) (by kernel_rfl)
  have h10 := @run_callFunc_extern Tryd.prog 61 _ ReflectliteType.typeOf Tryd.func61 (by kernel_rfl) (by kernel_rfl) (by kernel_rfl) (by kernel_rfl)
  have h35 := @run_callFunc_extern Tryd.prog 118 _ (ReflectliteType.relation "AssignableTo" ReflectliteType.assignableTo) Tryd.func118 (by kernel_rfl) (by kernel_rfl) (by kernel_rfl) (by kernel_rfl)
  have h11 := @run_callFunc_extern Tryd.prog 76 _ (ReflectliteValue.method (ReflectliteValue.valueError "reflectlite.Value.Elem" 0) ReflectliteValue.elem) Tryd.func76 (by kernel_rfl) (by kernel_rfl) (by kernel_rfl) (by kernel_rfl)
  have h12 := @run_callFunc_extern Tryd.prog 77 _ ReflectliteValue.set Tryd.func77 (by kernel_rfl) (by kernel_rfl) (by kernel_rfl) (by kernel_rfl)
  have tO := AsF.typeOf25
  have mA := AsF.methodAssignableTo
  have a25 := AsF.assignable25
  have v25 := AsF.valueOf25
  have f6 := AsF.valueOf27
  have f7 := AsF.type27
  have mK := AsF.methodKind
  have mE := AsF.methodElem
  have mI := AsF.methodImplements
  have k27 := AsF.kind27
  have k25 := AsF.kind25
  have e27 := AsF.elem27
  have i25 := AsF.implements25
  have n8 := AsF.isNil27 ⟨w.heap.size, 0, none⟩ t ((w.alloc (.cells #[.pointer (some t)] 69)).alloc (.cells #[.pointer (some ⟨13, 69, none⟩), .pointer (some ⟨w.heap.size, 0, none⟩), .int .u64 150] 103)) (by simp)
  have hlt : 0 < w.heap.size := World.block_lt_of_cell? _ _ hg
  have hg2 : ((w.alloc (.cells #[.pointer (some t)] 69)).alloc (.cells #[.pointer (some ⟨13, 69, none⟩), .pointer (some ⟨w.heap.size, 0, none⟩), .int .u64 150] 103)).cell? ⟨0, 0, none⟩ = some (.iface 147 (.agg #[.pointer (some ⟨13, 28, none⟩)])) := by
    rw [World.cell?_alloc_lt _ _ ⟨0, 0, none⟩ (by simp <;> omega), World.cell?_alloc_lt _ _ ⟨0, 0, none⟩ hlt]; exact hg
  obtain ⟨u1, p1, rfl⟩ := h.iface
  have hb2 := ((Below.refl w.heap.size w).alloc (Nat.le_refl _) (.cells #[.pointer (some t)] 69)).alloc (by simp) (.cells #[.pointer (some ⟨13, 69, none⟩), .pointer (some ⟨w.heap.size, 0, none⟩), .int .u64 150] 103)
  have HC := Lib.hid (fun t' => asF_chain _ E n l (.iface u1 p1) t' (.pointer (some ⟨13, 69, none⟩)) (.pointer (some ⟨w.heap.size, 0, none⟩)) (.int .u64 150) (h.below hb2))
  have HB2 := Lib.hid hb2
  clear h hb2
  go_enter Tryd.func29, Tryd.ntmps29
  go_wp2_with (go_at_call 53; refine (HC.out _).mono ?_; rintro e w' ⟨rfl, hb⟩)
  go_ret
  exact ⟨rfl, HB2.out.trans (hb.mono HB2.out.size)⟩
end Go.Proofs.YtlajiblhnkognaaDoor

namespace Go.Proofs.YtlajiblhnkognaaDoor
open Go.RowKit BagP RuleP SubP

/-- errors.As finds what was found at once. -/
theorem as_found (w : World) (b g : Nat) (old : Value) {T : TypeId} (hT : ErrT w) (hg : w.heap[g]? = some (.cells #[old] T (0, 0))) :
    Calls Tryd.prog 29 #[foundV b, .iface 69 (.pointer (some ⟨g, 0, none⟩))] w fun e w' => e = .returned (.bool true) ∧ Keeps (fun k => k = g) w w' ∧ w'.heap[g]? = some (.cells #[.pointer (some ⟨b, 0, none⟩)] T (0, 0)) := by
  have hlt : g < w.heap.size := (Array.getElem?_eq_some_iff.1 hg).1
  refine (asF_hit ⟨b, 0, none⟩ ⟨g, 0, none⟩ old w hT (by rw [cell_of_row w g _ _ _ _ hg]; rfl) (frozen_of_row _ _ 0 _ _ hg)).mono ?_
  rintro e w' ⟨rfl, rfl⟩
  obtain ⟨w4, hw4⟩ : ∃ w4, (((w.alloc (.cells #[.pointer (some ⟨g, 0, none⟩)] 69)).alloc (.cells #[.pointer (some ⟨13, 69, none⟩), .pointer (some ⟨w.heap.size, 0, none⟩), .int .u64 150] 103)).alloc (.cells #[.pointer (some ⟨13, 69, none⟩), .pointer (some ⟨w.heap.size, 0, none⟩), .int .u64 150] 103)).alloc (.cells #[.pointer (some ⟨b, 0, none⟩)] 67) = w4 := ⟨_, rfl⟩
  have hb4 : Below w.heap.size w w4 := by
    rw [← hw4]
    exact ((((Below.refl _ _).alloc (Nat.le_refl _) _).alloc (by simp) _).alloc (by simp; omega) _).alloc (by simp; omega) _
  rw [hw4]
  have hg4 := (hb4.block g hlt).trans hg
  exact ⟨rfl, (Keeps.of_pure hb4 _).trans (Keeps.of_setCell w4 ⟨g, 0, none⟩ _) (fun _ _ h => h), heap_setCell_same w4 g 0 _ _ _ hg4⟩

/-- What Onto of a small rule answers. -/
def OntoPost (w : World) (E : Nat → Addr) (k r : Nat) (t : List Nat) (e : Ending) (w' : World) : Prop :=
  (∀ S, fin k (k ^ (2 * r)) t true = .go S [] → e = .returned (.tuple #[.bool true, .slice none 0 0, .nilIface]) ∧ Below w.heap.size w w') ∧
  (∀ x, fin k (k ^ (2 * r)) t true = .orphan x → ∃ v, e = .returned (.tuple #[.bool false, v, .nilIface]) ∧ w'.ownsRow w.heap.size 3 1 v x.length ((ints x).map (Value.int .i64)) ∧ Below w.heap.size w w') ∧
  (fin k (k ^ (2 * r)) t true = .over → ∃ v, e = .returned (.tuple #[.bool false, .slice none 0 0, v]) ∧ ErrV w' E (some (4, [(sSubset, 0)])) v ∧ Below w.heap.size w w')

set_option maxRecDepth 100000 in
set_option maxHeartbeats 2000000 in
theorem onto_bad (w : World) (E : Nat → Addr) (hE : Errs w E) (hEt : ErrT w) (hA : Apart12 E) (hB : ErrBlk w E) (K R : Int) (A : Option Addr) (n c : Nat) (T : List Int) (hT : Sl w A n (T.map (Value.int .i64))) (hm : n ≤ 9223372036854775807) (tl : Tale) (h : small K R T = some tl) :
    Calls Tryd.prog 10 #[ruleV K R A n c] w fun e w' => ∃ v, e = .returned (.tuple #[.bool false, .slice none 0 0, v]) ∧ ErrV w' E (some (tl.1, (sSubset, 0) :: tl.2)) v ∧ Below w.heap.size w w' := by
  have hb1 := (Below.refl w.heap.size w).alloc (Nat.le_refl _) (.cells #[.int .i64 K, .int .i64 R, .slice A n c] 24)
  have hb3 := hb1.alloc (by simp) (.cells #[.int .i64 K, .int .i64 R, .slice A n c, .pointer none, .slice none 0 0, .slice none 0 0, .bool true] 65)
  obtain ⟨w2, hw2⟩ : ∃ w2, w.alloc (.cells #[.int .i64 K, .int .i64 R, .slice A n c] 24) = w2 := ⟨_, rfl⟩
  rw [hw2] at hb3
  have hz2 : w2.heap.size = w.heap.size + 1 := by rw [← hw2]; simp
  have hw0 : Walk0 (w2.alloc (.cells #[.int .i64 K, .int .i64 R, .slice A n c, .pointer none, .slice none 0 0, .slice none 0 0, .bool true] 65)) w2.heap.size K R A n c true := heap_new _ _
  have HAL := Lib.hid (all_bad _ E (hE.below hb3) K R A n c w2.heap.size T true (hT.below hb3) hm hw0 tl h)
  have HSM := Lib.hid (small_ok K R T tl h)
  have HER := Lib.hid (fun (wz : World) (hz : Below w.heap.size w wz) => (⟨hE.below hz, hEt.below hz, hB.below hz⟩ : _ ∧ _ ∧ _))
  have HB3 := Lib.hid hb3
  rw [hz2] at HAL
  have HW2 := Lib.hid hw2
  clear hb1 hb3 hw0 hE hEt hB hT h hw2 hz2
  unfold ruleV
  go_enter Tryd.func10, Tryd.ntmps10
  go_wp2_with fail
  rw [HW2.out]
  refine (HAL.out).mono ?_
  rintro e w4 ⟨v, rfl, hv, hb4⟩
  clear HAL
  have hb4' := HB3.out.trans (hb4.mono HB3.out.size)
  have hv4 : ErrIs w4 E tl.1 ((sSubset, 0) :: tl.2) v := hv
  obtain ⟨u, p, rfl⟩ := hv4.iface
  have hba := (Below.refl w4.heap.size w4).alloc (Nat.le_refl _) (.cells #[.pointer none] 67)
  have hb5 := hb4'.trans (hba.mono hb4'.size)
  have HMS := Lib.hid (asF_miss _ E tl.1 _ _ (hv4.below hba) ⟨w4.heap.size, 0, none⟩ (HER.out _ hb5).2.1)
  have HV4 := Lib.hid (hv4.below hba)
  have HB5 := Lib.hid hb5
  clear hv hv4 hb4 hb4' hba hb5
  go_wp2_with fail
  refine (HMS.out).mono ?_
  rintro e w6 ⟨rfl, hb6⟩
  clear HMS
  have hb6' := HB5.out.trans (hb6.mono HB5.out.size)
  obtain ⟨q1, q2, q3⟩ := HER.out w6 hb6'
  have HTD := Lib.hid (told_c w6 E q1 q2 hA q3 tl.1 HSM.out.1 HSM.out.2 sSubset 0 tl.2 _ (HV4.out.below hb6))
  have HB6 := Lib.hid hb6'
  clear hb6 hb6' q1 q2 q3 HV4 HB5
  go_wp2_with fail
  refine (HTD.out).mono ?_
  rintro e w7 ⟨v7, rfl, hv7, hb7⟩
  clear HTD
  have e7 : toldT sSubset tl.1 ((sSubset, 0) :: tl.2) = (sSubset, 0) :: tl.2 := if_neg (fun h => absurd h.2 (by decide))
  rw [e7] at hv7
  have HV7 := Lib.hid hv7
  have HB7 := Lib.hid (HB6.out.trans (hb7.mono HB6.out.size))
  clear hv7 hb7 e7
  go_wp2_with fail
  go_ret3
  exact ⟨_, rfl, HV7.out, HB7.out⟩

set_option maxRecDepth 100000 in
set_option maxHeartbeats 4000000 in
theorem onto_good (w : World) (E : Nat → Addr) (hE : Errs w E) (hEt : ErrT w) (hA : Apart12 E) (hB : ErrBlk w E) (k r : Nat) (A : Option Addr) (n c : Nat) (t : List Nat) (hT : Sl w A n ((ints t).map (Value.int .i64))) (hr : IsRule k r t) (h256 : t.length ≤ 256) :
    Calls Tryd.prog 10 #[ruleV (k : Int) (r : Int) A n c] w (OntoPost w E k r t) := by
  have hn : t.length = n := by simpa [ints] using hT.1
  subst hn
  have hb2 := (Below.refl w.heap.size w).alloc (Nat.le_refl _) (.cells #[.int .i64 (k : Int), .int .i64 (r : Int), .slice A t.length c] 24)
  obtain ⟨w2, hw2⟩ : ∃ w2, w.alloc (.cells #[.int .i64 (k : Int), .int .i64 (r : Int), .slice A t.length c] 24) = w2 := ⟨_, rfl⟩
  rw [hw2] at hb2
  have hz2 : w2.heap.size = w.heap.size + 1 := by rw [← hw2]; simp
  have hw0 : Walk0 (w2.alloc (.cells #[.int .i64 (k : Int), .int .i64 (r : Int), .slice A t.length c, .pointer none, .slice none 0 0, .slice none 0 0, .bool true] 65)) w2.heap.size (k : Int) (r : Int) A t.length c true := heap_new _ _
  have HAL := Lib.hid (all_c w2 k r t A c w2.heap.size true hw0 hr h256 (hT.below hb2) ((Below.refl _ _).alloc (Nat.le_refl _) _) (Nat.le_refl _) (hE.below hb2))
  have HN0 := Lib.hid (show 0 < k ^ (2 * r) from Nat.pow_pos hr.k1)
  have HER := Lib.hid (fun (wz : World) (hz : Below w.heap.size w wz) => (⟨hE.below hz, hEt.below hz, hB.below hz⟩ : _ ∧ _ ∧ _))
  have HB2 := Lib.hid hb2
  have HZ2 := Lib.hid hz2
  rw [hz2] at HAL
  have HW2 := Lib.hid hw2
  clear hb2 hw0 hE hEt hB hT hw2 hz2 hr h256
  unfold ruleV
  go_enter Tryd.func10, Tryd.ntmps10
  go_wp2_with fail
  rw [HW2.out]
  refine (HAL.out).mono ?_
  clear HAL
  rintro e w4 hp
  unfold AllPost at hp
  obtain ⟨o, ho⟩ : ∃ o, fin k (k ^ (2 * r)) t true = o := ⟨_, rfl⟩
  rw [ho] at hp
  have HO := Lib.hid ho
  cases o with
  | go S row =>
    clear ho
    obtain ⟨bp, nv, wv, nr, ws, rfl, hwk⟩ := hp
    have HB4 := Lib.hid (HB2.out.trans (Below.mono hwk.old (show w.heap.size ≤ w2.heap.size from HB2.out.size)))
    clear hwk
    go_wp2_with fail
    refine (as_nil _ _).mono ?_
    rintro e w5 ⟨rfl, rfl⟩
    go_wp2_with fail
    go_ret3
    refine ⟨fun S' _ => ⟨rfl, HB4.out.alloc HB4.out.size _⟩, fun x hx => ?_, fun hx => ?_⟩
    · rw [HO.out] at hx; cases hx
    · rw [HO.out] at hx; cases hx
  | orphan x =>
    clear ho
    obtain ⟨b, rfl, hf, hb4⟩ := hp
    obtain ⟨xv, hb0, hown, hble⟩ := hf
    have hba := (Below.refl w4.heap.size w4).alloc (Nat.le_refl _) (.cells #[.pointer none] 67)
    have hblt : b < w4.heap.size := (Array.getElem?_eq_some_iff.1 hb0).1
    have hb4' := HB2.out.trans (hb4.mono HB2.out.size)
    have hb5 := hb4'.trans (hba.mono hb4'.size)
    have HAF := Lib.hid (as_found _ b w4.heap.size (.pointer none) (HER.out _ hb5).2.1 (heap_new w4 (.cells #[.pointer none] 67)))
    have HB0 := Lib.hid ((hba.block _ hblt).trans hb0)
    have HOW := Lib.hid (own_below hown hba)
    have HOL := Lib.hid (fun g' (hg' : xv.ownBlock = some g') => (hown.lt g' hg').2)
    have HB4 := Lib.hid hb4'
    have HB5 := Lib.hid hb5
    have HZ4 := Lib.hid (show w2.heap.size ≤ w4.heap.size from hb4.size)
    clear hb0 hown hba hb4 hb4' hb5
    unfold foundV at *
    go_wp2_with fail
    refine (HAF.out).mono ?_
    rintro e w6 ⟨rfl, hk6, hg6⟩
    clear HAF
    have c0 : w6.cell? ⟨w4.heap.size, 0, none⟩ = some (.pointer (some ⟨b, 0, none⟩)) := by rw [cell_of_row w6 _ _ _ _ _ hg6]; rfl
    have hb6 : w6.heap[b]? = some (.cells #[xv] 71 (0, 0)) := (hk6.block b (Nat.lt_of_lt_of_le hblt (by rw [World.size_alloc]; exact Nat.le_succ _)) (fun h => by omega)).trans HB0.out
    have c1 : w6.cell? ⟨b, 0, none⟩ = some xv := by rw [cell_of_row w6 _ _ _ _ _ hb6]; rfl
    have HO6 := Lib.hid (own_base (own_keeps HOW.out hk6 (fun g' hg' h => by have := HOL.out g' hg'; omega)) HB2.out.size)
    have HB6 := Lib.hid (HB5.out.trans (hk6.below HB5.out.size (fun k hk => by rw [hk]; exact HB4.out.size)))
    clear hk6 hg6 hb6 HB0 HOW HOL HB5 hble hblt
    go_wp2_with fail
    go_region
    go_wp2_with fail
    go_ret3
    have hdr := (Below.refl w6.heap.size w6).drew
    refine ⟨fun S' hx => ?_, fun x' hx => ?_, fun hx => ?_⟩
    · rw [HO.out] at hx; cases hx
    · rw [HO.out] at hx
      injection hx with hx
      subst hx
      exact ⟨xv, rfl, own_below HO6.out hdr, HB6.out.trans (hdr.mono HB6.out.size)⟩
    · rw [HO.out] at hx; cases hx
  | over =>
    clear ho
    obtain ⟨b, rfl, he4, hb4⟩ := hp
    have hb4' := HB2.out.trans (hb4.mono HB2.out.size)
    have hba := (Below.refl w4.heap.size w4).alloc (Nat.le_refl _) (.cells #[.pointer none] 67)
    have hb5 := hb4'.trans (hba.mono hb4'.size)
    have HMS := Lib.hid (asF_miss _ E 4 _ _ (he4.below hba) ⟨w4.heap.size, 0, none⟩ (HER.out _ hb5).2.1)
    have HV4 := Lib.hid (he4.below hba)
    have HB5 := Lib.hid hb5
    clear he4 hb4 hb4' hba hb5
    unfold errV at *
    go_wp2_with fail
    refine (HMS.out).mono ?_
    rintro e w6 ⟨rfl, hb6⟩
    clear HMS
    have hb6' := HB5.out.trans (hb6.mono HB5.out.size)
    obtain ⟨q1, q2, q3⟩ := HER.out w6 hb6'
    have HTD := Lib.hid (told_c w6 E q1 q2 hA q3 4 (by decide) (by decide) sBag 0 [] _ (HV4.out.below hb6))
    have HB6 := Lib.hid hb6'
    clear hb6 hb6' q1 q2 q3 HV4 HB5
    unfold errV at *
    go_wp2_with fail
    refine (HTD.out).mono ?_
    rintro e w7 ⟨v7, rfl, hv7, hb7⟩
    clear HTD
    have e7 : toldT sBag 4 [(sBag, 0)] = [(sSubset, 0)] := if_pos ⟨rfl, rfl⟩
    rw [e7] at hv7
    have HV7 := Lib.hid hv7
    have HB7 := Lib.hid (HB6.out.trans (hb7.mono HB6.out.size))
    clear hv7 hb7 e7
    go_wp2_with fail
    go_ret3
    refine ⟨fun S' hx => ?_, fun x' hx => ?_, fun hx => ⟨_, rfl, HV7.out, HB7.out⟩⟩
    · rw [HO.out] at hx; cases hx
    · rw [HO.out] at hx; cases hx
end Go.Proofs.YtlajiblhnkognaaDoor
