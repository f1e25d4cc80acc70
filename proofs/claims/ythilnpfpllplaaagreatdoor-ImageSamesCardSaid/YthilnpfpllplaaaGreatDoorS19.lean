/- Whether every word has a preimage, of any rule: the two texts' answers, as one function of the rule. Condition: the rule's table reads from memory; the error variables hold what E says. The laws' helper awake of chapter 10: it returns true. Condition: the error variables hold what E says. Automata held against each other: edenraw.Autos. Condition: the lists read from memory. The sets of states, in the order of their finding: subset.Sets. Condition: the rule's table reads from memory; the error variables hold what E says. The document's automaton of the subsets: edenref10.Walk. Condition: the rule's table reads from memory. The document's sets of states: edenref10.Sets. Condition: the rule's table reads from memory. The automaton and the sets, of any rule: the two texts' answers, as functions of the rule. Condition: the rule's table reads from memory; the error variables hold what E says. -/
import Derived.Test.YthilnpfpllplaaaGreatDoorS7
import Derived.Test.YthilnpfpllplaaaGreatDoorS8
import Derived.Test.YthilnpfpllplaaaGreatDoorS9
import Derived.Test.YthilnpfpllplaaaGreatDoorS16
import Derived.Test.YthilnpfpllplaaaGreatDoorS18
namespace Go.Proofs.YthilnpfpllplaaaGreatDoor
open Go.RowKit BagP RuleP SubP

theorem toNat_ints (l : List Nat) : (ints l).map Int.toNat = l := by
  unfold ints
  rw [List.map_map]
  conv => rhs; rw [← List.map_id l]
  exact List.map_congr_left fun x _ => by simp
theorem small_none' {K R : Int} {T : List Int} (h : small K R T = none) : ∃ (k r : Nat) (t : List Nat), K = (k : Int) ∧ R = (r : Int) ∧ T = ints t ∧ IsRule k r t ∧ t.length ≤ 256 := by
  unfold small at h
  split at h
  · cases h
  · rename_i hc
    split at h
    · cases h
    · rename_i h2
      obtain ⟨k, r, t, rfl, rfl, rfl, hr⟩ := check_none hc
      exact ⟨k, r, t, rfl, rfl, rfl, hr, by rw [ints_len] at h2; omega⟩
end Go.Proofs.YthilnpfpllplaaaGreatDoor

namespace Go.Proofs.YthilnpfpllplaaaGreatDoor
open Go.RowKit RuleP SubP

end Go.Proofs.YthilnpfpllplaaaGreatDoor

namespace Go.Proofs.YthilnpfpllplaaaGreatDoor
open Go.RowKit RuleP

theorem RowsAt.list {w : World} {B lc : Nat} {LA : Option Addr} {rows : List Value} {L : List (List Int)} {X : Nat → Prop} (h : RowsAt w B (.slice LA L.length lc) rows L X) : ListAt w LA L.length L :=
  ⟨rows, Sl.of_own h.lst, rfl, fun j l hj => by
    obtain ⟨v, h1, h2, _⟩ := h.el j l hj
    obtain ⟨P, c, rfl, h3, h4⟩ := own_slice h2
    exact ⟨P, c, h1, by unfold maxLen at h4; omega, Sl.of_own h2⟩⟩

set_option maxRecDepth 100000 in
set_option maxHeartbeats 1000000 in
theorem autos_same (w : World) (K : Int) (A B : Option Addr) (n c d : Nat) (L : List (List Int)) (hA : ListAt w A n L) (hB : ListAt w B n L) (hn : n ≤ 9223372036854775807) :
    Calls Tryz.prog 22 #[autoV K (.slice A n c), autoV K (.slice B n d)] w fun e w' => e = .returned (.bool true) ∧ Below w.heap.size w w' := by
  have hb1 := (Below.refl w.heap.size w).alloc (Nat.le_refl _) (.cells #[.int .i64 K, .slice A n c] 50)
  have hb2 := hb1.alloc (by simp) (.cells #[.int .i64 K, .slice B n d] 50)
  obtain ⟨w2, hw2⟩ : ∃ w2, (w.alloc (.cells #[.int .i64 K, .slice A n c] 50)).alloc (.cells #[.int .i64 K, .slice B n d] 50) = w2 := ⟨_, rfl⟩
  have ha1 : AutoAt (w.alloc (.cells #[.int .i64 K, .slice A n c] 50)) w.heap.size (.int .i64 K) (.slice A n c) := heap_new w (.cells #[.int .i64 K, .slice A n c] 50)
  have ha2 : AutoAt w2 w.heap.size (.int .i64 K) (.slice A n c) := by
    rw [← hw2]
    exact ha1.below ((Below.refl _ _).alloc (Nat.le_refl _) _) (by simp)
  have hb2' : AutoAt w2 (w.heap.size + 1) (.int .i64 K) (.slice B n d) := by
    rw [← hw2]
    have := heap_new (w.alloc (.cells #[.int .i64 K, .slice A n c] 50)) (.cells #[.int .i64 K, .slice B n d] 50)
    unfold AutoAt
    simpa using this
  rw [hw2] at hb2
  obtain ⟨x0, x1, _, _⟩ := ha2.facts
  obtain ⟨y0, y1, _, _⟩ := hb2'.facts
  have HLS := Lib.hid (lists_same w2 A B n c d L (hA.keep hb2) (hB.keep hb2) hn)
  have HB := Lib.hid hb2
  have HW := Lib.hid hw2
  have hkk : (K == K) = true := by simp
  clear hb1 hb2 ha1 ha2 hb2' hA hB hw2
  unfold autoV
  go_enter Tryz.func22, Tryz.ntmps22
  go_wp2_with fail
  rw [HW.out]
  refine (HLS.out).mono ?_
  rintro e w3 ⟨rfl, hb3⟩
  go_wp2_with fail
  go_ret
  exact ⟨rfl, HB.out.trans (hb3.mono HB.out.size)⟩
end Go.Proofs.YthilnpfpllplaaaGreatDoor

namespace Go.Proofs.YthilnpfpllplaaaGreatDoor
open Go.RowKit BagP RuleP SubP

/-- The sets as lists of numbers. -/
def setsL (S : St) : List (List Int) := S.sets.map fun B => ints (nodesOf B)
theorem fin_ok {k N : Nat} {t : List Nat} {stop : Bool} {S : St} {row : List Int} (hN : 0 < N) (h : fin k N t stop = .go S row) : (∀ B ∈ S.sets, B.length = N) ∧ S.sets.length ≤ 4096 := by
  unfold fin at h
  obtain ⟨_, j, hI, _⟩ := Inv.round hN h
  exact ⟨hI.ok, hI.big⟩
/-- A list of lists, one place stored. -/
theorem RowsAt.stored {w : World} {B g n c i : Nat} {rows : List Value} {L : List (List Int)} {X : Nat → Prop} (h : RowsAt w B (.slice (some ⟨g, 0, none⟩) n c) rows L X) {v : Value} {l : List Int} (hi : i < L.length)
    (hv : w.ownsRow B 3 1 v l.length (l.map (Value.int .i64))) (hX : ∀ g', v.ownBlock = some g' → ¬ X g') (hnew : ∀ g', v.ownBlock = some g' → ∀ u ∈ rows, u.ownBlock ≠ some g') :
    RowsAt (w.setCell ⟨g, i, none⟩ v) B (.slice (some ⟨g, 0, none⟩) n c) (rows.set i v) (L.set i l) X := by
  have hrl := h.len
  have hn : n = L.length := by
    obtain ⟨A, c', e, _, _⟩ := own_slice h.lst
    cases e
    rfl
  subst hn
  have hk := Keeps.of_setCell w ⟨g, i, none⟩ v
  have hne : ∀ {m : Nat} {u : Value} {xs : List Value}, w.ownsRow B 3 1 u m xs → ∀ g', u.ownBlock = some g' → ¬ g' = g := fun ho g' hg e => own_ne_own ho h.lst (by decide) hg (by rw [e]; rfl)
  refine RowsAt.mk' (by rw [List.length_set]; exact (h.lst.stored i v).1) (fun j l' hj => ?_) (fun a b u u' g' hab hu hu' hg hg' => ?_)
  · by_cases hji : i = j
    · subst hji
      rw [List.getElem?_set_self hi] at hj
      cases hj
      exact ⟨v, List.getElem?_set_self (by omega), own_keeps hv hk (hne hv), hX⟩
    · rw [List.getElem?_set_ne hji] at hj
      obtain ⟨u, h1, h2, h3⟩ := h.el j l' hj
      exact ⟨u, by rw [List.getElem?_set_ne hji]; exact h1, own_keeps h2 hk (hne h2), h3⟩
  · by_cases ha : i = a
    · subst ha
      have hb : i ≠ b := hab
      have hlt : i < rows.length := by omega
      rw [List.getElem?_set_self hlt] at hu
      cases hu
      rw [List.getElem?_set_ne hb] at hu'
      exact hnew g' hg u' (List.mem_of_getElem? hu') hg'
    · rw [List.getElem?_set_ne ha] at hu
      by_cases hb : i = b
      · subst hb
        have hlt : i < rows.length := by omega
        rw [List.getElem?_set_self hlt] at hu'
        cases hu'
        exact hnew g' hg' u (List.mem_of_getElem? hu) hg
      · rw [List.getElem?_set_ne hb] at hu'
        exact h.far a b u u' g' hab hu hu' hg hg'
/-- A made list of lists: all empty. -/
theorem RowsAt.made (w : World) (n : Nat) (hn : n ≤ maxLen) : RowsAt (w.alloc (.cells (madeCells #[.slice none 0 0] n) 22)) w.heap.size (.slice (some ⟨w.heap.size, 0, none⟩) n n) (List.replicate n (.slice none 0 0)) (List.replicate n []) (fun _ => False) := by
  have h := World.ownsRow_lit (base := w.heap.size) (e := 22) (size := 1) w (madeCells #[.slice none 0 0] n) n (Nat.le_refl _) hn (by rw [size_madeCells]; simp)
  rw [toList_madeCells_one] at h
  refine RowsAt.mk' (by rw [List.length_replicate]; exact h) (fun j l hj => ?_) (fun a b u u' g' _ hu _ hg => ?_)
  · rw [List.getElem?_replicate] at hj
    split at hj
    · rename_i hlt
      cases hj
      exact ⟨.slice none 0 0, by rw [List.getElem?_replicate, if_pos hlt], ⟨rfl, .inl ⟨rfl, rfl⟩⟩, fun g hg => by cases hg⟩
    · cases hj
  · rw [List.getElem?_replicate] at hu
    split at hu
    · cases hu; cases hg
    · cases hu
theorem fill_rows {L : List (List Int)} {n j : Nat} (hn : L.length = n) (hj : j < n) {l : List Int} (h : L[j]? = some l) : (L.take j ++ List.replicate (n - j) []).set j l = L.take (j + 1) ++ List.replicate (n - (j + 1)) [] := by
  have hl : (L.take j).length = j := by rw [List.length_take]; omega
  rw [List.set_append_right _ _ (by omega), hl, Nat.sub_self, show n - j = (n - (j + 1)) + 1 by omega, List.replicate_succ, List.set_cons_zero, List.take_add_one, h]
  simp

end Go.Proofs.YthilnpfpllplaaaGreatDoor

namespace Go.Proofs.YthilnpfpllplaaaGreatDoor
open Go.RowKit BagP RuleP SubP

/-- An automaton and an error beside it, both written. -/
def setPair (w : World) (g h : Nat) (x0 x1 y0 y1 y2 : Value) : World :=
  ((((w.setCell ⟨g, 0, none⟩ x0).setCell ⟨g, 1, none⟩ x1).setCell ⟨h, 0, none⟩ y0).setCell ⟨h, 1, none⟩ y1).setCell ⟨h, 2, none⟩ y2
theorem keeps_pair (w : World) (g h : Nat) (x0 x1 y0 y1 y2 : Value) : Keeps (fun b => b = g ∨ b = h) w (setPair w g h x0 x1 y0 y1 y2) :=
  (((Keeps.of_setCell w ⟨g, 0, none⟩ x0).trans (Keeps.of_setCell _ ⟨g, 1, none⟩ x1) (fun _ _ h => h)).mono (O' := fun b => b = g ∨ b = h) (fun _ _ e => .inl e)).trans ((keeps_set3 _ h y0 y1 y2).mono (O' := fun b => b = g ∨ b = h) (fun _ _ e => .inr e)) (fun _ _ h => h)
theorem below_pair {w0 w : World} {B g h : Nat} (hb : Below B w0 w) (hg : B ≤ g) (hh : B ≤ h) (x0 x1 y0 y1 y2 : Value) : Below B w0 (setPair w g h x0 x1 y0 y1 y2) :=
  below_set3 ((hb.setCell (p := ⟨g, 0, none⟩) hg x0).setCell (p := ⟨g, 1, none⟩) hg x1) hh y0 y1 y2
theorem pair_facts {w : World} {g h : Nat} {a0 a1 b0 b1 b2 : Value} (ha : AutoAt w g a0 a1) (hw : WantAt w h b0 b1 b2) (hne : g ≠ h) (x0 x1 y0 y1 y2 : Value) :
    AutoAt (setPair w g h x0 x1 y0 y1 y2) g x0 x1 ∧ WantAt (setPair w g h x0 x1 y0 y1 y2) h y0 y1 y2 := by
  have h1 := ha.set2 x0 x1
  have h2 : WantAt ((w.setCell ⟨g, 0, none⟩ x0).setCell ⟨g, 1, none⟩ x1) h b0 b1 b2 := by
    have hk := (Keeps.of_setCell w ⟨g, 0, none⟩ x0).trans (Keeps.of_setCell _ ⟨g, 1, none⟩ x1) (fun _ _ h => h)
    exact (hk.block h (Array.getElem?_eq_some_iff.1 hw).1 (fun e => hne (show h = g from e).symm)).trans hw
  refine ⟨?_, h2.set3 y0 y1 y2⟩
  have hk := keeps_set3 ((w.setCell ⟨g, 0, none⟩ x0).setCell ⟨g, 1, none⟩ x1) h y0 y1 y2
  exact (hk.block g (Array.getElem?_eq_some_iff.1 h1).1 hne).trans h1

set_option maxRecDepth 100000 in
set_option maxHeartbeats 2000000 in
theorem refWalk_bad (w : World) (K R : Int) (A : Option Addr) (n c : Nat) (T : List Int) (hT : Sl w A n (T.map (Value.int .i64))) (hm : n ≤ 9223372036854775807) (tl : Tale) (hbad : small K R T = some tl) :
    Calls Tryz.prog 74 #[ruleV K R A n c] w fun e w' => ∃ (N : Nat) (A1 : Option Addr) (n1 c1 : Nat) (A2 : Option Addr) (n2 c2 : Nat), e = .returned (.tuple #[autoV 0 (.slice none 0 0), .agg #[.int .i64 (N : Int), .slice A1 n1 c1, .slice A2 n2 c2]]) ∧
      WantB w' w.heap.size (some (tl.1, (sSubset, 0) :: tl.2)) (.agg #[.int .i64 (N : Int), .slice A1 n1 c1, .slice A2 n2 c2]) ∧ Below w.heap.size w w' := by
  have hsmall : under sSubset 0 (small K R T) = some (tl.1, (sSubset, 0) :: tl.2) := by unfold under; rw [hbad]
  have hr0 := ((RuleAt.new w (.int .i64 K) (.int .i64 R) (.slice A n c)).alloc (.cells #[.int .i64 0, .slice none 0 0] 50)).alloc (.cells #[.int .i64 0, .slice none 0 0, .slice none 0 0] 34)
  have hw0 := WantAt.new ((w.alloc (.cells #[.int .i64 K, .int .i64 R, .slice A n c] 24)).alloc (.cells #[.int .i64 0, .slice none 0 0] 50)) (.int .i64 0) (.slice none 0 0) (.slice none 0 0)
  rw [World.size_alloc, World.size_alloc] at hw0
  change WantAt _ (w.heap.size + 2) _ _ _ at hw0
  have ha0 : AutoAt (((w.alloc (.cells #[.int .i64 K, .int .i64 R, .slice A n c] 24)).alloc (.cells #[.int .i64 0, .slice none 0 0] 50)).alloc (.cells #[.int .i64 0, .slice none 0 0, .slice none 0 0] 34)) (w.heap.size + 1) (.int .i64 0) (.slice none 0 0) := by
    have h1 : AutoAt ((w.alloc (.cells #[.int .i64 K, .int .i64 R, .slice A n c] 24)).alloc (.cells #[.int .i64 0, .slice none 0 0] 50)) (w.heap.size + 1) (.int .i64 0) (.slice none 0 0) := by
      unfold AutoAt
      have := heap_new (w.alloc (.cells #[.int .i64 K, .int .i64 R, .slice A n c] 24)) (.cells #[.int .i64 0, .slice none 0 0] 50)
      simpa using this
    exact h1.below ((Below.refl _ _).alloc (Nat.le_refl _) _) (by simp)
  have hb0 := (((Below.refl w.heap.size w).alloc (Nat.le_refl _) (.cells #[.int .i64 K, .int .i64 R, .slice A n c] 24)).alloc (by simp) (.cells #[.int .i64 0, .slice none 0 0] 50)).alloc (by simp; omega) (.cells #[.int .i64 0, .slice none 0 0, .slice none 0 0] 34)
  have hT0 := hT.below hb0
  obtain ⟨wx, hwx⟩ : ∃ wx, ((w.alloc (.cells #[.int .i64 K, .int .i64 R, .slice A n c] 24)).alloc (.cells #[.int .i64 0, .slice none 0 0] 50)).alloc (.cells #[.int .i64 0, .slice none 0 0, .slice none 0 0] 34) = wx := ⟨_, rfl⟩
  have hsx : wx.heap.size = w.heap.size + 3 := by rw [← hwx]; simp
  have HWX := Lib.hid hwx
  rw [hwx] at hr0 hw0 hb0 hT0 ha0
  have HA0 := Lib.hid ha0
  clear ha0
  have HC := Lib.hid (refFault_c wx sSubset K R A n c T hT0 hm)
  have HW0 := Lib.hid hw0
  have HB0 := Lib.hid hb0
  have HR0 := Lib.hid hr0
  have HT0 := Lib.hid hT0
  obtain ⟨r0, r1, r2, _⟩ := hr0.facts
  clear hw0 hb0 hT hT0 hr0 hwx
  unfold ruleV at *
  go_enter Tryz.func74, Tryz.ntmps74
  go_wp2_with fail
  rw [HWX.out]
  refine (HC.out).mono ?_
  rintro e w1 ⟨N, A1, n1, c1, A2, n2, c2, rfl, hu, hb1⟩
  rw [hsmall] at hu
  have hw1 := HW0.out.below hb1 (by omega)
  have hr1 := HR0.out.below hb1 (by omega)
  have ha1 := HA0.out.below hb1 (by omega)
  have ha2 : AutoAt (w1.alloc (.cells #[.int .i64 (N : Int), .slice A1 n1 c1, .slice A2 n2 c2] 34)) (w.heap.size + 1) (.int .i64 0) (.slice none 0 0) := ha1.below ((Below.refl w1.heap.size w1).alloc (Nat.le_refl _) _) (by have := hb1.size; omega)
  have hw2 := hw1.alloc (.cells #[.int .i64 (N : Int), .slice A1 n1 c1, .slice A2 n2 c2] 34)
  have hr2 := hr1.alloc (.cells #[.int .i64 (N : Int), .slice A1 n1 c1, .slice A2 n2 c2] 34)
  have hv2 := WantAt.new w1 (.int .i64 (N : Int)) (.slice A1 n1 c1) (.slice A2 n2 c2)
  have hb2 := (HB0.out.trans (hb1.mono HB0.out.size)).alloc (by have := HB0.out.size; have := hb1.size; omega) (.cells #[.int .i64 (N : Int), .slice A1 n1 c1, .slice A2 n2 c2] 34)
  have hu2 := hu.below ((Below.refl w1.heap.size w1).alloc (Nat.le_refl _) (.cells #[.int .i64 (N : Int), .slice A1 n1 c1, .slice A2 n2 c2] 34))
  have ht2 := HT0.out.below (pure_trans hb1 ((Below.refl w1.heap.size w1).alloc (Nat.le_refl _) (.cells #[.int .i64 (N : Int), .slice A1 n1 c1, .slice A2 n2 c2] 34)))
  obtain ⟨wy, hwy⟩ : ∃ wy, w1.alloc (.cells #[.int .i64 (N : Int), .slice A1 n1 c1, .slice A2 n2 c2] 34) = wy := ⟨_, rfl⟩
  have HWY := Lib.hid hwy
  have hsy : w1.heap.size < wy.heap.size := by rw [← hwy]; simp
  have hs1 := hb1.size
  rw [hwy] at hw2 hr2 hv2 hb2 hu2 ht2 ha2
  have HA2 := Lib.hid ha2
  clear ha1 ha2
  obtain ⟨ge, hge⟩ : ∃ ge, w1.heap.size = ge := ⟨_, rfl⟩
  have HGE := Lib.hid hge
  rw [hge] at hv2 hs1 hsy
  have HBAD := Lib.hid (errBad_c wy N A1 n1 c1 A2 n2 c2)
  have HW2 := Lib.hid hw2
  have HR2 := Lib.hid hr2
  have HV2 := Lib.hid hv2
  have HB2 := Lib.hid hb2
  have HU2 := Lib.hid hu2
  have HT2 := Lib.hid ht2
  obtain ⟨v0, v1, v2, _⟩ := hv2.facts
  clear hw1 hr1 hw2 hr2 hv2 hb2 hu2 ht2 hu hb1 hwy r0 r1 r2 hge
  have hN := HU2.out.num
  have ht := (small_ok K R T tl hbad).1
  have hNz : decide (N ≠ 0) = true := decide_eq_true (by simp only [tnum] at hN; omega)
  rw [hNz] at HBAD
  clear hN ht hNz hbad hsmall
  go_wp2_with fail
  rw [HWY.out, HGE.out]
  refine (HBAD.out).mono ?_
  rintro e w3 ⟨rfl, hb3⟩
  have k0 := cell_later hb3 v0
  have k1 := cell_later hb3 v1
  have k2 := cell_later hb3 v2
  have hw3 := HW2.out.below hb3 (by omega)
  have ha3 : AutoAt w3 (w.heap.size + 1) (.int .i64 0) (.slice none 0 0) := (HA2.out).below hb3 (by omega)
  obtain ⟨d0, d1, d2, f0, f1, f2⟩ := hw3.facts
  obtain ⟨g0, g1, h0, h1⟩ := ha3.facts
  have HU := Lib.hid (((HU2.out.below hb3).keeps (keeps_pair w3 (w.heap.size + 1) (w.heap.size + 2) (.int .i64 0) (.slice none 0 0) (.int .i64 (N : Int)) (.slice A1 n1 c1) (.slice A2 n2 c2)) (fun b hb => by rcases hb with rfl | rfl <;> omega)).base (base' := w.heap.size) (by omega))
  have HB := Lib.hid (below_pair (HB2.out.trans (hb3.mono HB2.out.size)) (g := w.heap.size + 1) (h := w.heap.size + 2) (by omega) (by omega) (.int .i64 0) (.slice none 0 0) (.int .i64 (N : Int)) (.slice A1 n1 c1) (.slice A2 n2 c2))
  have HPF := Lib.hid (pair_facts ha3 hw3 (by omega) (.int .i64 0) (.slice none 0 0) (.int .i64 (N : Int)) (.slice A1 n1 c1) (.slice A2 n2 c2))
  have HW := Lib.hid (show ((((w3.setCell ⟨w.heap.size + 1, 0, none⟩ (.int .i64 0)).setCell ⟨w.heap.size + 1, 1, none⟩ (.slice none 0 0)).setCell ⟨w.heap.size + 2, 0, none⟩ (.int .i64 (N : Int))).setCell ⟨w.heap.size + 2, 1, none⟩ (.slice A1 n1 c1)).setCell ⟨w.heap.size + 2, 2, none⟩ (.slice A2 n2 c2) = setPair w3 (w.heap.size + 1) (w.heap.size + 2) (.int .i64 0) (.slice none 0 0) (.int .i64 (N : Int)) (.slice A1 n1 c1) (.slice A2 n2 c2) from rfl)
  clear v0 v1 v2 hb3 hw3 ha3
  go_wp2_with fail
  go_region
  go_wp2_with fail
  rw [HW.out]
  obtain ⟨⟨g0, g1, _, _⟩, d0, d1, d2, _⟩ := (⟨HPF.out.1.facts, HPF.out.2.facts⟩ : _ ∧ _)
  obtain ⟨W, hW⟩ : ∃ W, setPair w3 (w.heap.size + 1) (w.heap.size + 2) (.int .i64 0) (.slice none 0 0) (.int .i64 (N : Int)) (.slice A1 n1 c1) (.slice A2 n2 c2) = W := ⟨_, rfl⟩
  have HUW := HU.out
  have HBW := HB.out
  rw [hW] at g0 g1 d0 d1 d2 HUW HBW
  rw [hW]
  have hdr := (Below.refl W.heap.size W).drew
  exact bodyPost_ret (v := .tuple #[autoV 0 (.slice none 0 0), .agg #[.int .i64 (N : Int), .slice A1 n1 c1, .slice A2 n2 c2]]) (by simp [results, Tryz.results74, go_sem, autoV, g0, g1, d0, d1, d2]) rfl ⟨N, A1, n1, c1, A2, n2, c2, rfl, HUW.below hdr, HBW.trans (hdr.mono HBW.size)⟩
/-- What the document's Walk answers of a small rule. -/
def RefWalkPost (w : World) (k r : Nat) (t : List Nat) (e : Ending) (w' : World) : Prop :=
  (∀ S, fin k (k ^ (2 * r)) t false = .go S [] → ∃ nv nr, e = .returned (.tuple #[autoV (k : Int) nv, .agg #[.int .i64 0, .slice none 0 0, .slice none 0 0]]) ∧ RowsAt w' w.heap.size nv nr S.next (fun _ => False) ∧ Below w.heap.size w w') ∧
  (fin k (k ^ (2 * r)) t false = .over → ∃ (N : Nat) (A1 : Option Addr) (n1 c1 : Nat) (A2 : Option Addr) (n2 c2 : Nat), e = .returned (.tuple #[autoV 0 (.slice none 0 0), .agg #[.int .i64 (N : Int), .slice A1 n1 c1, .slice A2 n2 c2]]) ∧
      WantB w' w.heap.size (some (4, [(sSubset, 0)])) (.agg #[.int .i64 (N : Int), .slice A1 n1 c1, .slice A2 n2 c2]) ∧ Below w.heap.size w w')

set_option maxRecDepth 100000 in
set_option maxHeartbeats 2000000 in
theorem refWalk_good (w : World) (k r : Nat) (A : Option Addr) (n c : Nat) (t : List Nat) (hT : Sl w A n ((ints t).map (Value.int .i64))) (hr : IsRule k r t) (h256 : t.length ≤ 256) :
    Calls Tryz.prog 74 #[ruleV (k : Int) (r : Int) A n c] w (RefWalkPost w k r t) := by
  obtain ⟨K, hK⟩ : ∃ K : Int, (k : Int) = K := ⟨_, rfl⟩
  obtain ⟨R, hR⟩ : ∃ R : Int, (r : Int) = R := ⟨_, rfl⟩
  obtain ⟨T, hTT⟩ : ∃ T : List Int, ints t = T := ⟨_, rfl⟩
  have hm : n ≤ 9223372036854775807 := by have : t.length = n := by simpa [ints] using hT.1
                                          omega
  have hsmall : under sSubset 0 (small K R T) = none := by rw [← hK, ← hR, ← hTT, small_rule hr h256]; rfl
  rw [hK, hR]
  rw [hTT] at hT
  have HKR := Lib.hid (⟨hK, hR, hTT⟩ : _ ∧ _ ∧ _)
  have HRU := Lib.hid hr
  have H256 := Lib.hid h256
  clear hK hR hTT hr h256
  have hr0 := ((RuleAt.new w (.int .i64 K) (.int .i64 R) (.slice A n c)).alloc (.cells #[.int .i64 0, .slice none 0 0] 50)).alloc (.cells #[.int .i64 0, .slice none 0 0, .slice none 0 0] 34)
  have hw0 := WantAt.new ((w.alloc (.cells #[.int .i64 K, .int .i64 R, .slice A n c] 24)).alloc (.cells #[.int .i64 0, .slice none 0 0] 50)) (.int .i64 0) (.slice none 0 0) (.slice none 0 0)
  rw [World.size_alloc, World.size_alloc] at hw0
  change WantAt _ (w.heap.size + 2) _ _ _ at hw0
  have ha0 : AutoAt (((w.alloc (.cells #[.int .i64 K, .int .i64 R, .slice A n c] 24)).alloc (.cells #[.int .i64 0, .slice none 0 0] 50)).alloc (.cells #[.int .i64 0, .slice none 0 0, .slice none 0 0] 34)) (w.heap.size + 1) (.int .i64 0) (.slice none 0 0) := by
    have h1 : AutoAt ((w.alloc (.cells #[.int .i64 K, .int .i64 R, .slice A n c] 24)).alloc (.cells #[.int .i64 0, .slice none 0 0] 50)) (w.heap.size + 1) (.int .i64 0) (.slice none 0 0) := by
      unfold AutoAt
      have := heap_new (w.alloc (.cells #[.int .i64 K, .int .i64 R, .slice A n c] 24)) (.cells #[.int .i64 0, .slice none 0 0] 50)
      simpa using this
    exact h1.below ((Below.refl _ _).alloc (Nat.le_refl _) _) (by simp)
  have hb0 := (((Below.refl w.heap.size w).alloc (Nat.le_refl _) (.cells #[.int .i64 K, .int .i64 R, .slice A n c] 24)).alloc (by simp) (.cells #[.int .i64 0, .slice none 0 0] 50)).alloc (by simp; omega) (.cells #[.int .i64 0, .slice none 0 0, .slice none 0 0] 34)
  have hT0 := hT.below hb0
  obtain ⟨wx, hwx⟩ : ∃ wx, ((w.alloc (.cells #[.int .i64 K, .int .i64 R, .slice A n c] 24)).alloc (.cells #[.int .i64 0, .slice none 0 0] 50)).alloc (.cells #[.int .i64 0, .slice none 0 0, .slice none 0 0] 34) = wx := ⟨_, rfl⟩
  have hsx : wx.heap.size = w.heap.size + 3 := by rw [← hwx]; simp
  have HWX := Lib.hid hwx
  rw [hwx] at hr0 hw0 hb0 hT0 ha0
  have HA0 := Lib.hid ha0
  clear ha0
  have HC := Lib.hid (refFault_c wx sSubset K R A n c T hT0 hm)
  have HW0 := Lib.hid hw0
  have HB0 := Lib.hid hb0
  have HR0 := Lib.hid hr0
  have HT0 := Lib.hid hT0
  obtain ⟨r0, r1, r2, _⟩ := hr0.facts
  clear hw0 hb0 hT hT0 hr0 hwx
  unfold ruleV at *
  go_enter Tryz.func74, Tryz.ntmps74
  go_wp2_with fail
  rw [HWX.out]
  refine (HC.out).mono ?_
  rintro e w1 ⟨N, A1, n1, c1, A2, n2, c2, rfl, hu, hb1⟩
  rw [hsmall] at hu
  have hw1 := HW0.out.below hb1 (by omega)
  have hr1 := HR0.out.below hb1 (by omega)
  have ha1 := HA0.out.below hb1 (by omega)
  have ha2 : AutoAt (w1.alloc (.cells #[.int .i64 (N : Int), .slice A1 n1 c1, .slice A2 n2 c2] 34)) (w.heap.size + 1) (.int .i64 0) (.slice none 0 0) := ha1.below ((Below.refl w1.heap.size w1).alloc (Nat.le_refl _) _) (by have := hb1.size; omega)
  have hw2 := hw1.alloc (.cells #[.int .i64 (N : Int), .slice A1 n1 c1, .slice A2 n2 c2] 34)
  have hr2 := hr1.alloc (.cells #[.int .i64 (N : Int), .slice A1 n1 c1, .slice A2 n2 c2] 34)
  have hv2 := WantAt.new w1 (.int .i64 (N : Int)) (.slice A1 n1 c1) (.slice A2 n2 c2)
  have hb2 := (HB0.out.trans (hb1.mono HB0.out.size)).alloc (by have := HB0.out.size; have := hb1.size; omega) (.cells #[.int .i64 (N : Int), .slice A1 n1 c1, .slice A2 n2 c2] 34)
  have hu2 := hu.below ((Below.refl w1.heap.size w1).alloc (Nat.le_refl _) (.cells #[.int .i64 (N : Int), .slice A1 n1 c1, .slice A2 n2 c2] 34))
  have ht2 := HT0.out.below (pure_trans hb1 ((Below.refl w1.heap.size w1).alloc (Nat.le_refl _) (.cells #[.int .i64 (N : Int), .slice A1 n1 c1, .slice A2 n2 c2] 34)))
  obtain ⟨wy, hwy⟩ : ∃ wy, w1.alloc (.cells #[.int .i64 (N : Int), .slice A1 n1 c1, .slice A2 n2 c2] 34) = wy := ⟨_, rfl⟩
  have HWY := Lib.hid hwy
  have hsy : w1.heap.size < wy.heap.size := by rw [← hwy]; simp
  have hs1 := hb1.size
  rw [hwy] at hw2 hr2 hv2 hb2 hu2 ht2 ha2
  have HA2 := Lib.hid ha2
  clear ha1 ha2
  obtain ⟨ge, hge⟩ : ∃ ge, w1.heap.size = ge := ⟨_, rfl⟩
  have HGE := Lib.hid hge
  rw [hge] at hv2 hs1 hsy
  have HBAD := Lib.hid (errBad_c wy N A1 n1 c1 A2 n2 c2)
  have HW2 := Lib.hid hw2
  have HR2 := Lib.hid hr2
  have HV2 := Lib.hid hv2
  have HB2 := Lib.hid hb2
  have HU2 := Lib.hid hu2
  have HT2 := Lib.hid ht2
  obtain ⟨v0, v1, v2, _⟩ := hv2.facts
  clear hw1 hr1 hw2 hr2 hv2 hb2 hu2 ht2 hu hb1 hwy r0 r1 r2 hge
  have hN := HU2.out.num
  obtain rfl : N = 0 := hN
  obtain ⟨rfl, rfl, rfl, rfl, rfl, rfl⟩ : A1 = none ∧ n1 = 0 ∧ c1 = 0 ∧ A2 = none ∧ n2 = 0 ∧ c2 = 0 := by
    have e := HU2.out.none_eq
    simp at e
    obtain ⟨⟨q1, q2, q3⟩, q4, q5, q6⟩ := e
    exact ⟨q1, q2, q3, q4, q5, q6⟩
  rw [show decide ((0 : Nat) ≠ 0) = false from rfl, show ((0 : Nat) : Int) = 0 from rfl] at HBAD
  rw [show ((0 : Nat) : Int) = 0 from rfl] at HWY v0
  clear hsmall HU2 HV2
  go_wp2_with fail
  rw [HWY.out, HGE.out]
  refine (HBAD.out).mono ?_
  rintro e w3 ⟨rfl, hb3⟩
  clear HBAD v0 v1 v2
  have hr3 := HR2.out.below hb3 (by omega)
  obtain ⟨r0, r1, r2, _⟩ := hr3.facts
  have HGO := go_c w3 k r t A n c false (by rw [HKR.out.2.2]; exact HT2.out.below hb3) HRU.out H256.out
  unfold ruleV at HGO
  rw [HKR.out.1, HKR.out.2.1] at HGO
  have HG := Lib.hid HGO
  have HW3 := Lib.hid (HW2.out.below hb3 (by omega))
  have HA3 := Lib.hid (HA2.out.below hb3 (by omega))
  have HR3 := Lib.hid hr3
  have HB3 := Lib.hid (HB2.out.trans (hb3.mono HB2.out.size))
  have hs3 : w.heap.size + 2 < w3.heap.size := by have := hb3.size; omega
  have HFO := Lib.hid (fin_go_or_over (k := k) (N := k ^ (2 * r)) (t := t) (show 0 < k ^ (2 * r) from Nat.pow_pos HRU.out.k1))
  clear hb3 hr3 HGO HR2 HT2 HW2 HA2 HB2 HWY HWX
  go_wp2_with fail
  refine (HG.out).mono ?_
  rintro e w4 ⟨gb, sv, nv, fv, yv, ov, has, over, rfl, hg, hb4, p1, p2, p3⟩
  clear HG r0 r1 r2 p2
  have hw4 := HW3.out.below hb4 hs3
  have ha4 := HA3.out.below hb4 (by omega)
  have hr4 := HR3.out.below hb4 (by omega)
  have hb4' := HB3.out.trans (hb4.mono HB3.out.size)
  obtain ⟨r0, r1, r2, _⟩ := hr4.facts
  have c1 : w4.cell? ⟨gb, 1, none⟩ = some nv := by rw [cell_of_row w4 gb _ _ _ _ hg]; rfl
  have c6 : w4.cell? ⟨gb, 6, none⟩ = some (.bool over) := by rw [cell_of_row w4 gb _ _ _ _ hg]; rfl
  obtain ⟨d0, d1, d2, f0, f1, f2⟩ := hw4.facts
  obtain ⟨g0, g1, h0, h1⟩ := ha4.facts
  have HW4 := Lib.hid hw4
  have HA4 := Lib.hid ha4
  have HB4 := Lib.hid hb4'
  have hs4 : w.heap.size + 2 < w4.heap.size := Nat.lt_of_lt_of_le hs3 hb4.size
  rcases HFO.out with ⟨S, hS⟩ | hS
  · obtain ⟨rfl, _, sr, nr, _, hnx⟩ := p1 S hS
    have HS := Lib.hid hS
    obtain ⟨NA, nc, rfl, _, _⟩ := own_slice hnx.lst
    have HPF := Lib.hid (pair_facts ha4 hw4 (by omega) (.int .i64 K) (.slice NA S.next.length nc) (.int .i64 0) (.slice none 0 0) (.slice none 0 0))
    have HBE := Lib.hid (below_pair hb4' (g := w.heap.size + 1) (h := w.heap.size + 2) (by omega) (by omega) (.int .i64 K) (.slice NA S.next.length nc) (.int .i64 0) (.slice none 0 0) (.slice none 0 0))
    have HN := Lib.hid ((hnx.keeps (keeps_pair w4 (w.heap.size + 1) (w.heap.size + 2) (.int .i64 K) (.slice NA S.next.length nc) (.int .i64 0) (.slice none 0 0) (.slice none 0 0))
      (fun b hb => hb.elim (fun e => e ▸ hnx.not_lst ha4 (by decide)) (fun e => e ▸ hnx.not_lst hw4 (by decide)))
      (fun b hb => hb.elim (fun e => e ▸ hnx.not_el ha4 (by decide)) (fun e => e ▸ hnx.not_el hw4 (by decide)))).base HB3.out.size)
    have HW := Lib.hid (show ((((w4.setCell ⟨w.heap.size + 1, 0, none⟩ (.int .i64 K)).setCell ⟨w.heap.size + 1, 1, none⟩ (.slice NA S.next.length nc)).setCell ⟨w.heap.size + 2, 0, none⟩ (.int .i64 0)).setCell ⟨w.heap.size + 2, 1, none⟩ (.slice none 0 0)).setCell ⟨w.heap.size + 2, 2, none⟩ (.slice none 0 0) = setPair w4 (w.heap.size + 1) (w.heap.size + 2) (.int .i64 K) (.slice NA S.next.length nc) (.int .i64 0) (.slice none 0 0) (.slice none 0 0) from rfl)
    clear p1 p3 hS hw4 ha4 hr4 hb4 hb4' hg hnx
    go_wp2_with fail
    go_region
    go_wp2_with fail
    rw [HW.out]
    obtain ⟨⟨g0, g1, _, _⟩, d0, d1, d2, _⟩ := (⟨HPF.out.1.facts, HPF.out.2.facts⟩ : _ ∧ _)
    obtain ⟨W, hW⟩ : ∃ W, setPair w4 (w.heap.size + 1) (w.heap.size + 2) (.int .i64 K) (.slice NA S.next.length nc) (.int .i64 0) (.slice none 0 0) (.slice none 0 0) = W := ⟨_, rfl⟩
    have HNW := HN.out
    have HBW := HBE.out
    rw [hW] at g0 g1 d0 d1 d2 HNW HBW
    rw [hW]
    have hdr := (Below.refl W.heap.size W).drew
    refine bodyPost_ret (v := .tuple #[autoV K (.slice NA S.next.length nc), .agg #[.int .i64 0, .slice none 0 0, .slice none 0 0]]) (by simp [results, Tryz.results74, go_sem, autoV, g0, g1, d0, d1, d2]) rfl ⟨fun S' h => ?_, fun h => (by rw [HS.out] at h; cases h)⟩
    rw [HS.out] at h
    injection h with h _
    subst h
    exact ⟨_, nr, by rw [HKR.out.1], HNW.pure hdr, HBW.trans (hdr.mono HBW.size)⟩
  · obtain ⟨rfl, _⟩ := p3 hS
    have HS := Lib.hid hS
    have HNW := Lib.hid (newB_c w4 sSubset 0 4)
    clear p1 p3 hS hw4 ha4 hr4 hb4 hb4' hg
    unfold sSubset at *
    go_wp2_with fail
    refine (HNW.out).mono ?_
    rintro e w5 ⟨A1, n1, c1, A2, n2, c2, rfl, hu, hb5⟩
    have hw5 := HW4.out.below hb5 hs4
    have ha5 := HA4.out.below hb5 (by omega)
    obtain ⟨d0, d1, d2, f0, f1, f2⟩ := hw5.facts
    obtain ⟨g0, g1, h0, h1⟩ := ha5.facts
    have HU := Lib.hid ((hu.keeps (keeps_pair w5 (w.heap.size + 1) (w.heap.size + 2) (.int .i64 0) (.slice none 0 0) (.int .i64 4) (.slice A1 n1 c1) (.slice A2 n2 c2)) (fun b hb => by rcases hb with rfl | rfl <;> omega)).base (base' := w.heap.size) HB4.out.size)
    have HBE := Lib.hid (below_pair (HB4.out.trans (hb5.mono HB4.out.size)) (g := w.heap.size + 1) (h := w.heap.size + 2) (by omega) (by omega) (.int .i64 0) (.slice none 0 0) (.int .i64 4) (.slice A1 n1 c1) (.slice A2 n2 c2))
    have HPF := Lib.hid (pair_facts ha5 hw5 (by omega) (.int .i64 0) (.slice none 0 0) (.int .i64 4) (.slice A1 n1 c1) (.slice A2 n2 c2))
    have HW := Lib.hid (show ((((w5.setCell ⟨w.heap.size + 1, 0, none⟩ (.int .i64 0)).setCell ⟨w.heap.size + 1, 1, none⟩ (.slice none 0 0)).setCell ⟨w.heap.size + 2, 0, none⟩ (.int .i64 4)).setCell ⟨w.heap.size + 2, 1, none⟩ (.slice A1 n1 c1)).setCell ⟨w.heap.size + 2, 2, none⟩ (.slice A2 n2 c2) = setPair w5 (w.heap.size + 1) (w.heap.size + 2) (.int .i64 0) (.slice none 0 0) (.int .i64 4) (.slice A1 n1 c1) (.slice A2 n2 c2) from rfl)
    clear hu hb5 c6 hw5 ha5
    go_wp2_with fail
    rw [HW.out]
    obtain ⟨⟨g0, g1, _, _⟩, d0, d1, d2, _⟩ := (⟨HPF.out.1.facts, HPF.out.2.facts⟩ : _ ∧ _)
    obtain ⟨W, hW⟩ : ∃ W, setPair w5 (w.heap.size + 1) (w.heap.size + 2) (.int .i64 0) (.slice none 0 0) (.int .i64 4) (.slice A1 n1 c1) (.slice A2 n2 c2) = W := ⟨_, rfl⟩
    have HUW := HU.out
    have HBW := HBE.out
    rw [hW] at g0 g1 d0 d1 d2 HUW HBW
    rw [hW]
    exact bodyPost_ret (v := .tuple #[autoV 0 (.slice none 0 0), .agg #[.int .i64 4, .slice A1 n1 c1, .slice A2 n2 c2]]) (by simp [results, Tryz.results74, go_sem, autoV, g0, g1, d0, d1, d2]) rfl ⟨fun S h => (by rw [HS.out] at h; cases h), fun _ => ⟨4, A1, n1, c1, A2, n2, c2, rfl, HUW, HBW⟩⟩
end Go.Proofs.YthilnpfpllplaaaGreatDoor

namespace Go.Proofs.YthilnpfpllplaaaGreatDoor
open Go.RowKit BagP RuleP SubP

end Go.Proofs.YthilnpfpllplaaaGreatDoor

namespace Go.Proofs.YthilnpfpllplaaaGreatDoor
open Go.RowKit BagP RuleP SubP

/-- What Walk and Sets answer: the alphabet, the rows, the sets, the error. -/
def walkF (K R : Int) (T : List Int) : Int × List (List Int) × List (List Int) × Option Tale :=
  match small K R T with
  | some tl => (0, [], [], some (tl.1, (sSubset, 0) :: tl.2))
  | none => match fin K.toNat (K.toNat ^ (2 * R.toNat)) (T.map Int.toNat) false with
    | .go S _ => (K, S.next, setsL S, none)
    | .orphan _ => (0, [], [], none)
    | .over => (0, [], [], some (4, [(sSubset, 0)]))
theorem walkF_bad {K R : Int} {T : List Int} {tl : Tale} (h : small K R T = some tl) : walkF K R T = (0, [], [], some (tl.1, (sSubset, 0) :: tl.2)) := by unfold walkF; rw [h]
theorem walkF_good {k r : Nat} {t : List Nat} {o : Out} (hr : IsRule k r t) (h256 : t.length ≤ 256) (h : fin k (k ^ (2 * r)) t false = o) :
    walkF (k : Int) (r : Int) (ints t) = match (generalizing := false) o with
    | .go S _ => ((k : Int), S.next, setsL S, none)
    | .orphan _ => (0, [], [], none)
    | .over => (0, [], [], some (4, [(sSubset, 0)])) := by
  unfold walkF
  rw [small_rule hr h256, Int.toNat_natCast, Int.toNat_natCast, toNat_ints, h]
theorem walkF_cases (K R : Int) (T : List Int) : (∃ tl, small K R T = some tl) ∨ (∃ (k r : Nat) (t : List Nat) (S : St), K = (k : Int) ∧ R = (r : Int) ∧ T = ints t ∧ IsRule k r t ∧ t.length ≤ 256 ∧ fin k (k ^ (2 * r)) t false = .go S []) ∨
    (∃ (k r : Nat) (t : List Nat), K = (k : Int) ∧ R = (r : Int) ∧ T = ints t ∧ IsRule k r t ∧ t.length ≤ 256 ∧ fin k (k ^ (2 * r)) t false = .over) := by
  cases hs : small K R T with
  | some tl => exact .inl ⟨tl, rfl⟩
  | none =>
    obtain ⟨k, r, t, rfl, rfl, rfl, hr, hl⟩ := small_none' hs
    rcases fin_go_or_over (k := k) (N := k ^ (2 * r)) (t := t) (Nat.pow_pos hr.k1) with ⟨S, h⟩ | h
    · exact .inr (.inl ⟨k, r, t, S, rfl, rfl, rfl, hr, hl, h⟩)
    · exact .inr (.inr ⟨k, r, t, rfl, rfl, rfl, hr, hl, h⟩)
theorem walkF_ok (K R : Int) (T : List Int) : TaleOk (walkF K R T).2.2.2 := by
  rcases walkF_cases K R T with ⟨tl, h⟩ | ⟨k, r, t, S, rfl, rfl, rfl, hr, hl, h⟩ | ⟨k, r, t, rfl, rfl, rfl, hr, hl, h⟩
  · rw [walkF_bad h]
    intro x hx
    cases hx
    exact small_ok K R T tl h
  · rw [walkF_good hr hl h]
    intro x hx
    cases hx
  · rw [walkF_good hr hl h]
    intro x hx
    cases hx
    exact ⟨by decide, by decide⟩

theorem walk_u (w : World) (E : Nat → Addr) (hE : Errs w E) (hEt : ErrT w) (hA : Apart12 E) (hB : ErrBlk w E) (K R : Int) (A : Option Addr) (n c : Nat) (T : List Int) (hT : Sl w A n (T.map (Value.int .i64))) (hm : n ≤ 9223372036854775807) :
    Calls Tryz.prog 70 #[ruleV K R A n c] w fun e w' => ∃ (C : Option Addr) (cc : Nat) (rows : List Value) (v : Value), e = .returned (.tuple #[autoV (walkF K R T).1 (.slice C (walkF K R T).2.1.length cc), v]) ∧
      RowsAt w' w.heap.size (.slice C (walkF K R T).2.1.length cc) rows (walkF K R T).2.1 (fun _ => False) ∧ ErrV w' E (walkF K R T).2.2.2 v ∧ Below w.heap.size w w' := by
  rcases walkF_cases K R T with ⟨tl, h⟩ | ⟨k, r, t, S, rfl, rfl, rfl, hr, hl, h⟩ | ⟨k, r, t, rfl, rfl, rfl, hr, hl, h⟩
  · rw [walkF_bad h]
    refine (walk_bad w E hE hEt hA hB K R A n c T hT hm tl h).mono ?_
    rintro e w' ⟨v, rfl, hv, hb⟩
    exact ⟨none, 0, [], v, rfl, RowsAt.nil _ _ _, hv, hb⟩
  · rw [walkF_good hr hl h]
    refine (walk_good w E hE hEt hA hB k r A n c t hT hr hl).mono ?_
    rintro e w' ⟨h1, _⟩
    obtain ⟨nv, nr, rfl, hR, hb⟩ := h1 S h
    obtain ⟨C, cc, rfl, _, _⟩ := own_slice hR.lst
    exact ⟨C, cc, nr, .nilIface, rfl, hR, rfl, hb⟩
  · rw [walkF_good hr hl h]
    refine (walk_good w E hE hEt hA hB k r A n c t hT hr hl).mono ?_
    rintro e w' ⟨_, h2⟩
    obtain ⟨v, rfl, hv, hb⟩ := h2 h
    exact ⟨none, 0, [], v, rfl, RowsAt.nil _ _ _, hv, hb⟩
end Go.Proofs.YthilnpfpllplaaaGreatDoor
