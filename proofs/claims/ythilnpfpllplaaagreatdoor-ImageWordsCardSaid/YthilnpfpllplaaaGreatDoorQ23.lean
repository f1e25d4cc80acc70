/- edenref10.Walk for any rule, the error's lists its own. Condition: the table reads from memory. edenref11.walked, the walk (not clean yet). Condition: the table reads from memory. edenref11.Least of what is no small rule. Condition: the table reads from memory. edenref11.Least of a small rule. Condition: the table reads from memory. edenref11.Least for any rule. Condition: the table reads from memory. What the cards of this seat share: the witness's world, and what the arguments' readings give. No condition. A rule handed as an argument, opened: its three cells. The reach of lists that came in: their capacity, in bytes. No condition. Cards of rows that list errors.errorType (a type's handle): the witness's world, and what the condition gives a walk. No condition. -/
import Derived.Test.YthilnpfpllplaaaGreatDoorCards
import Derived.Test.YthilnpfpllplaaaGreatDoorTie
import Derived.ProofKit
import Derived.OpenShut
import Derived.LaidMore
import Derived.SevenTiedAt
import Derived.Lib.SmallJoins
import Derived.SizedLaws
import Derived.LaidHandle
import Derived.LaidSub
import Derived.Lay
import Derived.Test.YthilnpfpllplaaaGreatDoorQ1
import Derived.Test.YthilnpfpllplaaaGreatDoorQ2
import Derived.Test.YthilnpfpllplaaaGreatDoorQ11
import Derived.Test.YthilnpfpllplaaaGreatDoorQ19
import Derived.Test.YthilnpfpllplaaaGreatDoorQ22
namespace Go.Proofs.YthilnpfpllplaaaGreatDoor
open Go.RowKit BagP RuleP SubP

theorem refWalk_b (w : World) (K R : Int) (A : Option Addr) (n c : Nat) (T : List Int) (hT : Sl w A n (T.map (Value.int .i64))) (hm : n ≤ 9223372036854775807) :
    Calls Tryz.prog 74 #[ruleV K R A n c] w fun e w' => ∃ (C : Option Addr) (cc : Nat) (rows : List Value) (N : Nat) (A1 : Option Addr) (n1 c1 : Nat) (A2 : Option Addr) (n2 c2 : Nat),
      e = .returned (.tuple #[autoV (walkF K R T).1 (.slice C (walkF K R T).2.1.length cc), .agg #[.int .i64 (N : Int), .slice A1 n1 c1, .slice A2 n2 c2]]) ∧
      RowsAt w' w.heap.size (.slice C (walkF K R T).2.1.length cc) rows (walkF K R T).2.1 (fun _ => False) ∧ WantB w' w.heap.size (walkF K R T).2.2.2 (.agg #[.int .i64 (N : Int), .slice A1 n1 c1, .slice A2 n2 c2]) ∧ Below w.heap.size w w' := by
  rcases walkF_cases K R T with ⟨tl, h⟩ | ⟨k, r, t, S, rfl, rfl, rfl, hr, hl, h⟩ | ⟨k, r, t, rfl, rfl, rfl, hr, hl, h⟩
  · rw [walkF_bad h]
    refine (refWalk_bad w K R A n c T hT hm tl h).mono ?_
    rintro e w' ⟨N, A1, n1, c1, A2, n2, c2, rfl, hv, hb⟩
    exact ⟨none, 0, [], N, A1, n1, c1, A2, n2, c2, rfl, RowsAt.nil _ _ _, hv, hb⟩
  · rw [walkF_good hr hl h]
    refine (refWalk_good w k r A n c t hT hr hl).mono ?_
    rintro e w' ⟨h1, _⟩
    obtain ⟨nv, nr, rfl, hR, hb⟩ := h1 S h
    obtain ⟨C, cc, rfl, _, _⟩ := own_slice hR.lst
    exact ⟨C, cc, nr, 0, none, 0, 0, none, 0, 0, rfl, hR, WantB.zero _ _, hb⟩
  · rw [walkF_good hr hl h]
    refine (refWalk_good w k r A n c t hT hr hl).mono ?_
    rintro e w' ⟨_, h2⟩
    obtain ⟨N, A1, n1, c1, A2, n2, c2, rfl, hv, hb⟩ := h2 h
    exact ⟨none, 0, [], N, A1, n1, c1, A2, n2, c2, rfl, RowsAt.nil _ _ _, hv, hb⟩
theorem check_short {K R : Int} {T : List Int} {tl : Tale} (h : check K R T = some tl) : tl.2.length = 1 := by
  unfold check at h
  split at h
  · cases h; rfl
  split at h
  · cases h; rfl
  split at h
  · cases h; rfl
  split at h
  · cases h; rfl
  · cases h
theorem small_short {K R : Int} {T : List Int} {tl : Tale} (h : small K R T = some tl) : tl.2.length = 1 := by
  unfold small at h
  split at h
  · rename_i t ht
    cases h
    exact check_short ht
  · split at h
    · cases h; rfl
    · cases h
/-- A told error is a short one. -/
theorem walkF_short (K R : Int) (T : List Int) : ∀ x, (walkF K R T).2.2.2 = some x → x.2.length ≤ 100 := by
  rcases walkF_cases K R T with ⟨tl, h⟩ | ⟨k, r, t, S, rfl, rfl, rfl, hr, hl, h⟩ | ⟨k, r, t, rfl, rfl, rfl, hr, hl, h⟩
  · rw [walkF_bad h]
    intro x hx
    cases hx
    have := small_short h
    simp
    omega
  · rw [walkF_good hr hl h]
    intro x hx
    cases hx
  · rw [walkF_good hr hl h]
    intro x hx
    cases hx
    simp
end Go.Proofs.YthilnpfpllplaaaGreatDoor

namespace Go.Proofs.YthilnpfpllplaaaGreatDoor
open Go.RowKit BagP RuleP SubP

theorem cell_set {w : World} {p q : Addr} {u v : Value} (h : w.cell? p = some v) (hne : p.block ≠ q.block) : (w.setCell q u).cell? p = some v := (Keeps.of_setCell w q u).cell h hne

set_option maxRecDepth 100000 in
set_option maxHeartbeats 1000000 in
theorem walked_c (w : World) (at' K R : Int) (A : Option Addr) (n c : Nat) (T : List Int) (hT : Sl w A n (T.map (Value.int .i64))) (hm : n ≤ 9223372036854775807) :
    Calls Tryz.prog 39 #[.int .i64 at', ruleV K R A n c] w fun e w' => ∃ (C : Option Addr) (cc : Nat) (rows : List Value) (N : Nat) (A1 : Option Addr) (n1 c1 : Nat) (A2 : Option Addr) (n2 c2 : Nat),
      e = .returned (.tuple #[autoV (walkF K R T).1 (.slice C (walkF K R T).2.1.length cc), .agg #[.int .i64 (N : Int), .slice A1 n1 c1, .slice A2 n2 c2]]) ∧
      RowsAt w' w.heap.size (.slice C (walkF K R T).2.1.length cc) rows (walkF K R T).2.1 (fun _ => False) ∧ WantB w' w.heap.size (under sImage at' (walkF K R T).2.2.2) (.agg #[.int .i64 (N : Int), .slice A1 n1 c1, .slice A2 n2 c2]) ∧ Below w.heap.size w w' := by
  have hb0 := (((Below.refl w.heap.size w).alloc (Nat.le_refl _) (.cells #[.int .i64 K, .int .i64 R, .slice A n c] 24)).alloc (by simp) (.cells #[.int .i64 0, .slice none 0 0] 50)).alloc (by simp; omega) (.cells #[.int .i64 0, .slice none 0 0, .slice none 0 0] 34)
  obtain ⟨wx, hwx⟩ : ∃ wx, ((w.alloc (.cells #[.int .i64 K, .int .i64 R, .slice A n c] 24)).alloc (.cells #[.int .i64 0, .slice none 0 0] 50)).alloc (.cells #[.int .i64 0, .slice none 0 0, .slice none 0 0] 34) = wx := ⟨_, rfl⟩
  have ha0 : AutoAt wx (w.heap.size + 1) (.int .i64 0) (.slice none 0 0) := by
    have h1 : AutoAt ((w.alloc (.cells #[.int .i64 K, .int .i64 R, .slice A n c] 24)).alloc (.cells #[.int .i64 0, .slice none 0 0] 50)) (w.heap.size + 1) (.int .i64 0) (.slice none 0 0) := by
      unfold AutoAt
      have := heap_new (w.alloc (.cells #[.int .i64 K, .int .i64 R, .slice A n c] 24)) (.cells #[.int .i64 0, .slice none 0 0] 50)
      simpa using this
    rw [← hwx]
    exact h1.below ((Below.refl _ _).alloc (Nat.le_refl _) _) (by simp)
  have hw0 := WantAt.new ((w.alloc (.cells #[.int .i64 K, .int .i64 R, .slice A n c] 24)).alloc (.cells #[.int .i64 0, .slice none 0 0] 50)) (.int .i64 0) (.slice none 0 0) (.slice none 0 0)
  rw [World.size_alloc, World.size_alloc] at hw0
  change WantAt _ (w.heap.size + 2) _ _ _ at hw0
  have hsx : wx.heap.size = w.heap.size + 3 := by rw [← hwx]; simp
  rw [hwx] at hw0 hb0
  have hwk := refWalk_b wx K R A n c T (hT.below hb0) hm
  have hto := walkF_ok K R T
  have hsh := walkF_short K R T
  obtain ⟨q, hq⟩ : ∃ q, walkF K R T = q := ⟨_, rfl⟩
  obtain ⟨kk, L, L2, tt⟩ := q
  rw [hq] at hwk hto hsh
  rw [hq]
  dsimp only at hwk hto hsh
  dsimp only
  unfold ruleV autoV at hwk
  have HWK := Lib.hid hwk
  have HWX := Lib.hid hwx
  have HTO := Lib.hid hto
  have HSH := Lib.hid hsh
  have HA0 := Lib.hid ha0
  have HW0 := Lib.hid hw0
  have HB0 := Lib.hid hb0
  have HSX := Lib.hid hsx
  clear hwk hwx hto hsh ha0 hw0 hb0 hsx hq hT
  unfold ruleV
  go_enter Tryz.func39, Tryz.ntmps39
  go_wp2_with fail
  rw [HWX.out]
  refine (HWK.out).mono ?_
  rintro e w1 ⟨C, cc, rows, N, A1, n1, c1, A2, n2, c2, rfl, hR, hu, hb1⟩
  clear HWK
  have hs1 := hb1.size
  have hsx := HSX.out
  have hw1 := HW0.out.below hb1 (by omega)
  have ha1 := HA0.out.below hb1 (by omega)
  have hA2 := heap_new w1 (.cells #[.int .i64 kk, .slice C L.length cc] 50)
  have hb12 := (Below.refl w1.heap.size w1).alloc (Nat.le_refl _) (.cells #[.int .i64 kk, .slice C L.length cc] 50)
  have hE3 := WantAt.new (w1.alloc (.cells #[.int .i64 kk, .slice C L.length cc] 50)) (.int .i64 (N : Int)) (.slice A1 n1 c1) (.slice A2 n2 c2)
  have hb23 := (Below.refl (w1.alloc (.cells #[.int .i64 kk, .slice C L.length cc] 50)).heap.size (w1.alloc (.cells #[.int .i64 kk, .slice C L.length cc] 50))).alloc (Nat.le_refl _) (.cells #[.int .i64 (N : Int), .slice A1 n1 c1, .slice A2 n2 c2] 34)
  have hA3 : AutoAt _ w1.heap.size (.int .i64 kk) (.slice C L.length cc) := (show AutoAt _ w1.heap.size (.int .i64 kk) (.slice C L.length cc) from hA2).below hb23 (by simp)
  have hb13 := hb12.trans (hb23.mono hb12.size)
  rw [World.size_alloc] at hE3
  obtain ⟨w3, hw3⟩ : ∃ w3, (w1.alloc (.cells #[.int .i64 kk, .slice C L.length cc] 50)).alloc (.cells #[.int .i64 (N : Int), .slice A1 n1 c1, .slice A2 n2 c2] 34) = w3 := ⟨_, rfl⟩
  rw [hw3] at hE3 hA3 hb13
  have hu3 := (hu.below hb13).below (Below.refl w3.heap.size w3).drew
  have HUN := Lib.hid (rawUnder_c w3.drew sImage at' wx.heap.size tt N A1 n1 c1 A2 n2 c2 hu3 HTO.out (fun x hx => Nat.le_trans (HSH.out x hx) (by decide)))
  have HR3 := Lib.hid (hR.pure hb13)
  obtain ⟨k0, k1, _, _⟩ := hA3.facts
  obtain ⟨k2, k3, k4, _, _, _⟩ := hE3.facts
  have hW3 := hw1.below hb13 (by omega)
  have hT3 := ha1.below hb13 (by omega)
  have HW3 := Lib.hid hW3
  have HT3 := Lib.hid hT3
  have HB3 := Lib.hid (HB0.out.trans ((hb1.trans (hb13.mono hb1.size)).mono HB0.out.size))
  have HQ3 := Lib.hid hw3
  have hz3 : w1.heap.size ≤ w3.heap.size := hb13.size
  obtain ⟨ga, hga⟩ : ∃ ga, w1.heap.size = ga := ⟨_, rfl⟩
  have hga1 : w.heap.size + 3 ≤ ga := by omega
  rw [hga] at k0 k1 k2 k3 k4 hz3
  have HGA := Lib.hid hga
  clear hu hu3 hb13 hb12 hb23 hA2 hA3 hE3 hR hw3 hW3 hT3 hw1 ha1 hs1 hsx hb1 hga
  go_wp2_with fail
  rw [HQ3.out, HGA.out]
  go_region_held3 (fun w' => w'.cell? ⟨ga, 0, none⟩ = some (.int .i64 kk) ∧ w'.cell? ⟨ga, 1, none⟩ = some (.slice C L.length cc) ∧ w'.cell? ⟨ga + 1, 0, none⟩ = some (.int .i64 (N : Int)) ∧ w'.cell? ⟨ga + 1, 1, none⟩ = some (.slice A1 n1 c1) ∧ w'.cell? ⟨ga + 1, 2, none⟩ = some (.slice A2 n2 c2))
    (first | go_keep | exact ⟨cell_set (cell_set x0 (by simp; omega)) (by simp; omega), cell_set (cell_set x1 (by simp; omega)) (by simp; omega), cell_set (cell_set x2 (by simp; omega)) (by simp; omega), cell_set (cell_set x3 (by simp; omega)) (by simp; omega), cell_set (cell_set x4 (by simp; omega)) (by simp; omega)⟩ | exact ⟨cell_set (cell_set (cell_set (cell_set (cell_set x0 (by simp; omega)) (by simp; omega)) (by simp; omega)) (by simp; omega)) (by simp; omega), cell_set (cell_set (cell_set (cell_set (cell_set x1 (by simp; omega)) (by simp; omega)) (by simp; omega)) (by simp; omega)) (by simp; omega), cell_set (cell_set (cell_set (cell_set (cell_set x2 (by simp; omega)) (by simp; omega)) (by simp; omega)) (by simp; omega)) (by simp; omega), cell_set (cell_set (cell_set (cell_set (cell_set x3 (by simp; omega)) (by simp; omega)) (by simp; omega)) (by simp; omega)) (by simp; omega), cell_set (cell_set (cell_set (cell_set (cell_set x4 (by simp; omega)) (by simp; omega)) (by simp; omega)) (by simp; omega)) (by simp; omega)⟩)
    (first
      | (go_at_call 75
         refine (HUN.out).mono ?_
         rintro e w5 ⟨N', A1', n1', c1', A2', n2', c2', rfl, hu5, hb5⟩
         have hbz := (Below.refl w3.heap.size w3).drew.trans hb5
         have x0 := cell_later hbz k0
         have x1 := cell_later hbz k1
         have x2 := cell_later hbz k2
         have x3 := cell_later hbz k3
         have x4 := cell_later hbz k4
         have hT5 := HT3.out.below hbz (by omega)
         have hW5 := HW3.out.below hbz (by omega)
         obtain ⟨g0, g1, h0, h1⟩ := hT5.facts
         obtain ⟨d0, d1, d2, f0, f1, f2⟩ := hW5.facts)
      | fail)
  have hs5 := hbz.size
  have HU := Lib.hid ((hu5.keeps (keeps_pair w5 (w.heap.size + 1) (w.heap.size + 2) (.int .i64 kk) (.slice C L.length cc) (.int .i64 (N' : Int)) (.slice A1' n1' c1') (.slice A2' n2' c2')) (fun b hb => by
    have h1 : w3.heap.size ≤ w3.drew.heap.size := Nat.le_refl _
    rcases hb with rfl | rfl <;> omega)).base (base' := w.heap.size) (by have h1 : w3.heap.size ≤ w3.drew.heap.size := Nat.le_refl _; omega))
  have HB := Lib.hid (below_pair (HB3.out.trans (hbz.mono HB3.out.size)) (g := w.heap.size + 1) (h := w.heap.size + 2) (by omega) (by omega) (.int .i64 kk) (.slice C L.length cc) (.int .i64 (N' : Int)) (.slice A1' n1' c1') (.slice A2' n2' c2'))
  have HPF := Lib.hid (pair_facts hT5 hW5 (by omega) (.int .i64 kk) (.slice C L.length cc) (.int .i64 (N' : Int)) (.slice A1' n1' c1') (.slice A2' n2' c2'))
  have hR5 := HR3.out.pure hbz
  have hq1 : w5.heap[w.heap.size + 1]? = some (.cells #[.int .i64 0, .slice none 0 0] 50 (0, 0)) := hT5
  have hq2 : w5.heap[w.heap.size + 2]? = some (.cells #[.int .i64 0, .slice none 0 0, .slice none 0 0] 34 (0, 0)) := hW5
  have HRR := Lib.hid ((hR5.keeps (keeps_pair w5 (w.heap.size + 1) (w.heap.size + 2) (.int .i64 kk) (.slice C L.length cc) (.int .i64 (N' : Int)) (.slice A1' n1' c1') (.slice A2' n2' c2'))
    (fun b hb => by
      rcases hb with rfl | rfl
      · exact hR5.not_lst hq1 (by decide)
      · exact hR5.not_lst hq2 (by decide))
    (fun b hb => by
      rcases hb with rfl | rfl
      · exact hR5.not_el hq1 (by decide)
      · exact hR5.not_el hq2 (by decide))).base (B' := w.heap.size) (by have := HSX.out; omega))
  have HW := Lib.hid (show ((((w5.setCell ⟨w.heap.size + 1, 0, none⟩ (.int .i64 kk)).setCell ⟨w.heap.size + 1, 1, none⟩ (.slice C L.length cc)).setCell ⟨w.heap.size + 1 + 1, 0, none⟩ (.int .i64 (N' : Int))).setCell ⟨w.heap.size + 1 + 1, 1, none⟩ (.slice A1' n1' c1')).setCell ⟨w.heap.size + 1 + 1, 2, none⟩ (.slice A2' n2' c2') = setPair w5 (w.heap.size + 1) (w.heap.size + 2) (.int .i64 kk) (.slice C L.length cc) (.int .i64 (N' : Int)) (.slice A1' n1' c1') (.slice A2' n2' c2') from rfl)
  clear hu5 hb5 hbz x0 x1 x2 x3 x4 hT5 hW5 hR5 hq1 hq2 g0 g1 h0 h1 d0 d1 d2 f0 f1 f2
  go_wp2_with fail
  rw [HW.out]
  obtain ⟨⟨g0, g1, _, _⟩, d0, d1, d2, _⟩ := (⟨HPF.out.1.facts, HPF.out.2.facts⟩ : _ ∧ _)
  obtain ⟨W, hW⟩ : ∃ W, setPair w5 (w.heap.size + 1) (w.heap.size + 2) (.int .i64 kk) (.slice C L.length cc) (.int .i64 (N' : Int)) (.slice A1' n1' c1') (.slice A2' n2' c2') = W := ⟨_, rfl⟩
  have HUW := HU.out
  have HBW := HB.out
  have HRW := HRR.out
  rw [hW] at g0 g1 d0 d1 d2 HUW HBW HRW
  rw [hW]
  exact bodyPost_ret (v := .tuple #[autoV kk (.slice C L.length cc), .agg #[.int .i64 (N' : Int), .slice A1' n1' c1', .slice A2' n2' c2']]) (by simp [results, Tryz.results39, go_sem, autoV, g0, g1, d0, d1, d2]) rfl ⟨C, cc, rows, N', A1', n1', c1', A2', n2', c2', rfl, HRW, HUW, HBW⟩
end Go.Proofs.YthilnpfpllplaaaGreatDoor

namespace Go.Proofs.YthilnpfpllplaaaGreatDoor
open Go.RowKit BagP RuleP SubP

set_option maxRecDepth 100000 in
set_option maxHeartbeats 1000000 in
theorem refLeast_bad (w : World) (K R : Int) (A : Option Addr) (n c : Nat) (T : List Int) (hT : Sl w A n (T.map (Value.int .i64))) (hm : n ≤ 9223372036854775807) (tl : Tale) (hbad : walkF K R T = (0, [], [], some tl)) :
    Calls Tryz.prog 21 #[ruleV K R A n c] w fun e w' => ∃ (N : Nat) (A1 : Option Addr) (n1 c1 : Nat) (A2 : Option Addr) (n2 c2 : Nat),
      e = .returned (.tuple #[autoV 0 (.slice none 0 0), .agg #[.int .i64 (N : Int), .slice A1 n1 c1, .slice A2 n2 c2]]) ∧
      WantB w' w.heap.size (some (tl.1, (sImage, 0) :: tl.2)) (.agg #[.int .i64 (N : Int), .slice A1 n1 c1, .slice A2 n2 c2]) ∧ Below w.heap.size w w' := by
  have hb0 := (((Below.refl w.heap.size w).alloc (Nat.le_refl _) (.cells #[.int .i64 K, .int .i64 R, .slice A n c] 24)).alloc (by simp) (.cells #[.int .i64 0, .slice none 0 0] 50)).alloc (by simp; omega) (.cells #[.int .i64 0, .slice none 0 0, .slice none 0 0] 34)
  obtain ⟨wx, hwx⟩ : ∃ wx, ((w.alloc (.cells #[.int .i64 K, .int .i64 R, .slice A n c] 24)).alloc (.cells #[.int .i64 0, .slice none 0 0] 50)).alloc (.cells #[.int .i64 0, .slice none 0 0, .slice none 0 0] 34) = wx := ⟨_, rfl⟩
  have ha0 : AutoAt wx (w.heap.size + 1) (.int .i64 0) (.slice none 0 0) := by
    have h1 : AutoAt ((w.alloc (.cells #[.int .i64 K, .int .i64 R, .slice A n c] 24)).alloc (.cells #[.int .i64 0, .slice none 0 0] 50)) (w.heap.size + 1) (.int .i64 0) (.slice none 0 0) := by
      unfold AutoAt
      have := heap_new (w.alloc (.cells #[.int .i64 K, .int .i64 R, .slice A n c] 24)) (.cells #[.int .i64 0, .slice none 0 0] 50)
      simpa using this
    rw [← hwx]
    exact h1.below ((Below.refl _ _).alloc (Nat.le_refl _) _) (by simp)
  have hw0 := WantAt.new ((w.alloc (.cells #[.int .i64 K, .int .i64 R, .slice A n c] 24)).alloc (.cells #[.int .i64 0, .slice none 0 0] 50)) (.int .i64 0) (.slice none 0 0) (.slice none 0 0)
  rw [World.size_alloc, World.size_alloc] at hw0
  change WantAt _ (w.heap.size + 2) _ _ _ at hw0
  have hsx : wx.heap.size = w.heap.size + 3 := by rw [← hwx]; simp
  rw [hwx] at hw0 hb0
  have hwk := walked_c wx 0 K R A n c T (hT.below hb0) hm
  rw [hbad] at hwk
  dsimp only [under] at hwk
  have hto := under_ok (op := sImage) (i := 0) (walkF_ok K R T)
  rw [hbad] at hto
  unfold ruleV autoV at hwk
  have HWK := Lib.hid hwk
  have HWX := Lib.hid hwx
  have HTO := Lib.hid hto
  have HA0 := Lib.hid ha0
  have HW0 := Lib.hid hw0
  have HB0 := Lib.hid hb0
  have HSX := Lib.hid hsx
  clear hwk hwx hto ha0 hw0 hb0 hsx hT hbad
  unfold ruleV
  go_enter Tryz.func21, Tryz.ntmps21
  go_wp2_with fail
  rw [HWX.out]
  refine (HWK.out).mono ?_
  rintro e w1 ⟨C, cc, rows, N, A1, n1, c1, A2, n2, c2, rfl, _, hu, hb1⟩
  clear HWK
  have hs1 := hb1.size
  have hsx := HSX.out
  have hw1 := HW0.out.below hb1 (by omega)
  have ha1 := HA0.out.below hb1 (by omega)
  have hA2 := heap_new w1 (.cells #[.int .i64 0, .slice C 0 cc] 50)
  have hb12 := (Below.refl w1.heap.size w1).alloc (Nat.le_refl _) (.cells #[.int .i64 0, .slice C 0 cc] 50)
  have hE3 := WantAt.new (w1.alloc (.cells #[.int .i64 0, .slice C 0 cc] 50)) (.int .i64 (N : Int)) (.slice A1 n1 c1) (.slice A2 n2 c2)
  have hb23 := (Below.refl (w1.alloc (.cells #[.int .i64 0, .slice C 0 cc] 50)).heap.size (w1.alloc (.cells #[.int .i64 0, .slice C 0 cc] 50))).alloc (Nat.le_refl _) (.cells #[.int .i64 (N : Int), .slice A1 n1 c1, .slice A2 n2 c2] 34)
  have hA3 : AutoAt _ w1.heap.size (.int .i64 0) (.slice C 0 cc) := (show AutoAt _ w1.heap.size (.int .i64 0) (.slice C 0 cc) from hA2).below hb23 (by simp)
  have hb13 := hb12.trans (hb23.mono hb12.size)
  rw [World.size_alloc] at hE3
  obtain ⟨w3, hw3⟩ : ∃ w3, (w1.alloc (.cells #[.int .i64 0, .slice C 0 cc] 50)).alloc (.cells #[.int .i64 (N : Int), .slice A1 n1 c1, .slice A2 n2 c2] 34) = w3 := ⟨_, rfl⟩
  rw [hw3] at hE3 hA3 hb13
  have HUN := Lib.hid (errBad_c w3 N A1 n1 c1 A2 n2 c2)
  have hN := hu.num
  have ht := (HTO.out _ rfl).1
  have hNz : decide (N ≠ 0) = true := decide_eq_true (by simp only [tnum] at hN; simp only at ht; omega)
  rw [hNz] at HUN
  have HU3 := Lib.hid (hu.below hb13)
  obtain ⟨k0, k1, _, _⟩ := hA3.facts
  obtain ⟨k2, k3, k4, _, _, _⟩ := hE3.facts
  have hW3 := hw1.below hb13 (by omega)
  have hT3 := ha1.below hb13 (by omega)
  have HW3 := Lib.hid hW3
  have HT3 := Lib.hid hT3
  have HB3 := Lib.hid (HB0.out.trans ((hb1.trans (hb13.mono hb1.size)).mono HB0.out.size))
  have HQ3 := Lib.hid hw3
  have hz3 : w1.heap.size ≤ w3.heap.size := hb13.size
  obtain ⟨ga, hga⟩ : ∃ ga, w1.heap.size = ga := ⟨_, rfl⟩
  have hga1 : w.heap.size + 3 ≤ ga := by omega
  rw [hga] at k0 k1 k2 k3 k4 hz3
  have HGA := Lib.hid hga
  clear hu hb13 hb12 hb23 hA2 hA3 hE3 hw3 hN ht hNz hW3 hT3 hw1 ha1 hs1 hsx hb1 hga
  go_wp2_with fail
  rw [HQ3.out, HGA.out]
  refine (HUN.out).mono ?_
  rintro e w5 ⟨rfl, hb5⟩
  have x2 := cell_later hb5 k2
  have x3 := cell_later hb5 k3
  have x4 := cell_later hb5 k4
  have hT5 := HT3.out.below hb5 (by omega)
  have hW5 := HW3.out.below hb5 (by omega)
  obtain ⟨g0, g1, h0, h1⟩ := hT5.facts
  obtain ⟨d0, d1, d2, f0, f1, f2⟩ := hW5.facts
  have hs5 := hb5.size
  have hu5 := HU3.out.below hb5
  have HU := Lib.hid ((hu5.keeps (keeps_pair w5 (w.heap.size + 1) (w.heap.size + 2) (.int .i64 0) (.slice none 0 0) (.int .i64 (N : Int)) (.slice A1 n1 c1) (.slice A2 n2 c2)) (fun b hb => by
    have h1 := HSX.out
    rcases hb with rfl | rfl <;> omega)).base (base' := w.heap.size) (by have h1 := HSX.out; omega))
  have HB := Lib.hid (below_pair (HB3.out.trans (hb5.mono HB3.out.size)) (g := w.heap.size + 1) (h := w.heap.size + 2) (by omega) (by omega) (.int .i64 0) (.slice none 0 0) (.int .i64 (N : Int)) (.slice A1 n1 c1) (.slice A2 n2 c2))
  have HPF := Lib.hid (pair_facts hT5 hW5 (by omega) (.int .i64 0) (.slice none 0 0) (.int .i64 (N : Int)) (.slice A1 n1 c1) (.slice A2 n2 c2))
  have HW := Lib.hid (show ((((w5.setCell ⟨w.heap.size + 1, 0, none⟩ (.int .i64 0)).setCell ⟨w.heap.size + 1, 1, none⟩ (.slice none 0 0)).setCell ⟨w.heap.size + 2, 0, none⟩ (.int .i64 (N : Int))).setCell ⟨w.heap.size + 2, 1, none⟩ (.slice A1 n1 c1)).setCell ⟨w.heap.size + 2, 2, none⟩ (.slice A2 n2 c2) = setPair w5 (w.heap.size + 1) (w.heap.size + 2) (.int .i64 0) (.slice none 0 0) (.int .i64 (N : Int)) (.slice A1 n1 c1) (.slice A2 n2 c2) from rfl)
  clear k0 k1 k2 k3 k4 hT5 hW5 hu5 hb5
  go_wp2_with fail
  go_region
  go_wp2_with fail
  rw [HW.out]
  obtain ⟨⟨g0, g1, _, _⟩, d0, d1, d2, _⟩ := (⟨HPF.out.1.facts, HPF.out.2.facts⟩ : _ ∧ _)
  obtain ⟨W, hW⟩ : ∃ W, setPair w5 (w.heap.size + 1) (w.heap.size + 2) (.int .i64 0) (.slice none 0 0) (.int .i64 (N : Int)) (.slice A1 n1 c1) (.slice A2 n2 c2) = W := ⟨_, rfl⟩
  have HUW := HU.out
  have HBW := HB.out
  rw [hW] at g0 g1 d0 d1 d2 HUW HBW
  rw [hW]
  have hdr := (Below.refl W.heap.size W).drew
  exact bodyPost_ret (v := .tuple #[autoV 0 (.slice none 0 0), .agg #[.int .i64 (N : Int), .slice A1 n1 c1, .slice A2 n2 c2]]) (by simp [results, Tryz.results21, go_sem, autoV, g0, g1, d0, d1, d2]) rfl ⟨N, A1, n1, c1, A2, n2, c2, rfl, HUW.below hdr, HBW.trans (hdr.mono HBW.size)⟩
end Go.Proofs.YthilnpfpllplaaaGreatDoor

namespace Go.Proofs.YthilnpfpllplaaaGreatDoor
open Go.RowKit BagP RuleP SubP

set_option maxRecDepth 100000 in
set_option maxHeartbeats 1000000 in
theorem refLeast_good (w : World) (k r : Nat) (A : Option Addr) (n c : Nat) (t : List Nat) (hT : Sl w A n ((ints t).map (Value.int .i64))) (hm : n ≤ 9223372036854775807) (hr : IsRule k r t) (h256 : t.length ≤ 256) (S : St) (h : fin k (k ^ (2 * r)) t false = .go S []) :
    Calls Tryz.prog 21 #[ruleV (k : Int) (r : Int) A n c] w fun e w' => ∃ nv nr, e = .returned (.tuple #[autoV (k : Int) nv, .agg #[.int .i64 0, .slice none 0 0, .slice none 0 0]]) ∧ RowsAt w' w.heap.size nv nr (leastA k S.next) (fun _ => False) ∧ Below w.heap.size w w' := by
  have hb0 := (((Below.refl w.heap.size w).alloc (Nat.le_refl _) (.cells #[.int .i64 (k : Int), .int .i64 (r : Int), .slice A n c] 24)).alloc (by simp) (.cells #[.int .i64 0, .slice none 0 0] 50)).alloc (by simp; omega) (.cells #[.int .i64 0, .slice none 0 0, .slice none 0 0] 34)
  obtain ⟨wx, hwx⟩ : ∃ wx, ((w.alloc (.cells #[.int .i64 (k : Int), .int .i64 (r : Int), .slice A n c] 24)).alloc (.cells #[.int .i64 0, .slice none 0 0] 50)).alloc (.cells #[.int .i64 0, .slice none 0 0, .slice none 0 0] 34) = wx := ⟨_, rfl⟩
  have ha0 : AutoAt wx (w.heap.size + 1) (.int .i64 0) (.slice none 0 0) := by
    have h1 : AutoAt ((w.alloc (.cells #[.int .i64 (k : Int), .int .i64 (r : Int), .slice A n c] 24)).alloc (.cells #[.int .i64 0, .slice none 0 0] 50)) (w.heap.size + 1) (.int .i64 0) (.slice none 0 0) := by
      unfold AutoAt
      have := heap_new (w.alloc (.cells #[.int .i64 (k : Int), .int .i64 (r : Int), .slice A n c] 24)) (.cells #[.int .i64 0, .slice none 0 0] 50)
      simpa using this
    rw [← hwx]
    exact h1.below ((Below.refl _ _).alloc (Nat.le_refl _) _) (by simp)
  have hw0 := WantAt.new ((w.alloc (.cells #[.int .i64 (k : Int), .int .i64 (r : Int), .slice A n c] 24)).alloc (.cells #[.int .i64 0, .slice none 0 0] 50)) (.int .i64 0) (.slice none 0 0) (.slice none 0 0)
  rw [World.size_alloc, World.size_alloc] at hw0
  change WantAt _ (w.heap.size + 2) _ _ _ at hw0
  have hsx : wx.heap.size = w.heap.size + 3 := by rw [← hwx]; simp
  rw [hwx] at hw0 hb0
  have hwk := walked_c wx 0 (k : Int) (r : Int) A n c (ints t) (hT.below hb0) hm
  rw [walkF_good hr h256 h] at hwk
  dsimp only [under] at hwk
  have hN0 : 0 < k ^ (2 * r) := Nat.pow_pos hr.k1
  have hnl := (fin_inv hN0 h).2.1
  have hbg := (fin_ok hN0 h).2
  have HAU := Lib.hid (fin_rows hN0 h).auto
  have HBG := Lib.hid (show S.next.length ≤ 4096 by omega)
  have HK := Lib.hid (⟨hr.k1, hr.k4⟩ : _ ∧ _)
  unfold ruleV autoV at hwk
  have HWK := Lib.hid hwk
  have HWX := Lib.hid hwx
  have HA0 := Lib.hid ha0
  have HW0 := Lib.hid hw0
  have HB0 := Lib.hid hb0
  have HSX := Lib.hid hsx
  clear hwk hwx ha0 hw0 hb0 hsx hT hr h256 h hN0 hnl hbg
  unfold ruleV
  go_enter Tryz.func21, Tryz.ntmps21
  go_wp2_with fail
  rw [HWX.out]
  refine (HWK.out).mono ?_
  rintro e w1 ⟨C, cc, rows, N, A1, n1, c1, A2, n2, c2, rfl, hR, hu, hb1⟩
  have hz : Value.agg #[.int .i64 (N : Int), .slice A1 n1 c1, .slice A2 n2 c2] = .agg #[.int .i64 0, .slice none 0 0, .slice none 0 0] := hu.none_eq
  rw [hz]
  clear HWK hz hu
  have hs1 := hb1.size
  have hsx := HSX.out
  have hw1 := HW0.out.below hb1 (by omega)
  have ha1 := HA0.out.below hb1 (by omega)
  have hb12 := (Below.refl w1.heap.size w1).alloc (Nat.le_refl _) (.cells #[.int .i64 (k : Int), .slice C S.next.length cc] 50)
  have hb23 := (Below.refl (w1.alloc (.cells #[.int .i64 (k : Int), .slice C S.next.length cc] 50)).heap.size (w1.alloc (.cells #[.int .i64 (k : Int), .slice C S.next.length cc] 50))).alloc (Nat.le_refl _) (.cells #[.int .i64 0, .slice none 0 0, .slice none 0 0] 34)
  have hA2 := heap_new w1 (.cells #[.int .i64 (k : Int), .slice C S.next.length cc] 50)
  have hA3 : AutoAt _ w1.heap.size (.int .i64 (k : Int)) (.slice C S.next.length cc) := (show AutoAt _ w1.heap.size (.int .i64 (k : Int)) (.slice C S.next.length cc) from hA2).below hb23 (by simp)
  have hb13 := hb12.trans (hb23.mono hb12.size)
  obtain ⟨w3, hw3⟩ : ∃ w3, (w1.alloc (.cells #[.int .i64 (k : Int), .slice C S.next.length cc] 50)).alloc (.cells #[.int .i64 0, .slice none 0 0, .slice none 0 0] 34) = w3 := ⟨_, rfl⟩
  rw [hw3] at hA3 hb13
  have hbd : Calls Tryz.prog 40 #[.agg #[.int .i64 0, .slice none 0 0, .slice none 0 0]] w3 fun e w' => e = .returned (.bool false) ∧ Below w3.heap.size w3 w' := errBad_c w3 0 none 0 0 none 0 0
  have HUN := Lib.hid hbd
  clear hbd
  have HR3 := Lib.hid (hR.pure hb13)
  have HA3 := Lib.hid hA3
  have HW3 := Lib.hid (hw1.below hb13 (by omega))
  have HT3 := Lib.hid (ha1.below hb13 (by omega))
  have HB3 := Lib.hid (HB0.out.trans ((hb1.trans (hb13.mono hb1.size)).mono HB0.out.size))
  have HQ3 := Lib.hid hw3
  have hga1 : w.heap.size + 3 ≤ w1.heap.size := by omega
  have hga3 : w1.heap.size < w3.heap.size := (Array.getElem?_eq_some_iff.1 hA3).1
  clear hb13 hb12 hb23 hA2 hA3 hR hw3 hw1 ha1 hs1 hsx hb1
  go_wp2_with fail
  rw [HQ3.out]
  refine (HUN.out).mono ?_
  rintro e w5 ⟨rfl, hb5⟩
  have hA5 := HA3.out.below hb5 (by omega)
  obtain ⟨k0, k1, _, _⟩ := hA5.facts
  have hR5 := HR3.out.pure hb5
  have hfo := fold_c classes_c w5 k S.next.length cc C S.next rfl HAU.out hR5.list HK.out.1 HK.out.2 HBG.out
  unfold autoV at hfo
  have HFO := Lib.hid hfo
  have HB5 := Lib.hid hb5
  clear hA5 hR5 hfo hb5
  go_wp2_with fail
  refine (HFO.out).mono ?_
  rintro e w6 ⟨nv, nr, rfl, hR6, hb6⟩
  obtain ⟨NB, nb, rfl, _, _⟩ := own_slice hR6.lst
  obtain ⟨m, hm'⟩ : ∃ m, (leastA k S.next).length = m := ⟨_, rfl⟩
  rw [hm'] at hR6
  rw [hm']
  have hb36 := HB5.out.trans (hb6.mono HB5.out.size)
  have hT5 := HT3.out.below hb36 (by omega)
  have hW5 := HW3.out.below hb36 (by omega)
  obtain ⟨g0, g1, h0, h1⟩ := hT5.facts
  obtain ⟨d0, d1, d2, f0, f1, f2⟩ := hW5.facts
  have hs6 := HB5.out.size
  have HB := Lib.hid (below_pair (HB3.out.trans (hb36.mono HB3.out.size)) (g := w.heap.size + 1) (h := w.heap.size + 2) (by omega) (by omega) (.int .i64 (k : Int)) (.slice NB m nb) (.int .i64 0) (.slice none 0 0) (.slice none 0 0))
  have HPF := Lib.hid (pair_facts hT5 hW5 (by omega) (.int .i64 (k : Int)) (.slice NB m nb) (.int .i64 0) (.slice none 0 0) (.slice none 0 0))
  have hq1 : w6.heap[w.heap.size + 1]? = some (.cells #[.int .i64 0, .slice none 0 0] 50 (0, 0)) := hT5
  have hq2 : w6.heap[w.heap.size + 2]? = some (.cells #[.int .i64 0, .slice none 0 0, .slice none 0 0] 34 (0, 0)) := hW5
  have HRR := Lib.hid ((hR6.keeps (keeps_pair w6 (w.heap.size + 1) (w.heap.size + 2) (.int .i64 (k : Int)) (.slice NB m nb) (.int .i64 0) (.slice none 0 0) (.slice none 0 0))
    (fun b hb => by
      rcases hb with rfl | rfl
      · exact hR6.not_lst hq1 (by decide)
      · exact hR6.not_lst hq2 (by decide))
    (fun b hb => by
      rcases hb with rfl | rfl
      · exact hR6.not_el hq1 (by decide)
      · exact hR6.not_el hq2 (by decide))).base (B' := w.heap.size) (by omega))
  have HW := Lib.hid (show ((((w6.setCell ⟨w.heap.size + 1, 0, none⟩ (.int .i64 (k : Int))).setCell ⟨w.heap.size + 1, 1, none⟩ (.slice NB m nb)).setCell ⟨w.heap.size + 2, 0, none⟩ (.int .i64 0)).setCell ⟨w.heap.size + 2, 1, none⟩ (.slice none 0 0)).setCell ⟨w.heap.size + 2, 2, none⟩ (.slice none 0 0) = setPair w6 (w.heap.size + 1) (w.heap.size + 2) (.int .i64 (k : Int)) (.slice NB m nb) (.int .i64 0) (.slice none 0 0) (.slice none 0 0) from rfl)
  clear hT5 hW5 hR6 hq1 hq2 hb36 hb6 hm' k0 k1
  go_wp2_with fail
  rw [HW.out]
  obtain ⟨⟨g0, g1, _, _⟩, d0, d1, d2, _⟩ := (⟨HPF.out.1.facts, HPF.out.2.facts⟩ : _ ∧ _)
  obtain ⟨W, hW⟩ : ∃ W, setPair w6 (w.heap.size + 1) (w.heap.size + 2) (.int .i64 (k : Int)) (.slice NB m nb) (.int .i64 0) (.slice none 0 0) (.slice none 0 0) = W := ⟨_, rfl⟩
  have HBW := HB.out
  have HRW := HRR.out
  rw [hW] at g0 g1 d0 d1 d2 HBW HRW
  rw [hW]
  exact bodyPost_ret (v := .tuple #[autoV (k : Int) (.slice NB m nb), .agg #[.int .i64 0, .slice none 0 0, .slice none 0 0]]) (by simp [results, Tryz.results21, go_sem, autoV, g0, g1, d0, d1, d2]) rfl ⟨_, nr, rfl, HRW, HBW⟩
end Go.Proofs.YthilnpfpllplaaaGreatDoor

namespace Go.Proofs.YthilnpfpllplaaaGreatDoor
open Go.RowKit BagP RuleP SubP

theorem refLeast_u (w : World) (K R : Int) (A : Option Addr) (n c : Nat) (T : List Int) (hT : Sl w A n (T.map (Value.int .i64))) (hm : n ≤ 9223372036854775807) :
    Calls Tryz.prog 21 #[ruleV K R A n c] w fun e w' => ∃ (C : Option Addr) (cc : Nat) (rows : List Value) (N : Nat) (A1 : Option Addr) (n1 c1 : Nat) (A2 : Option Addr) (n2 c2 : Nat),
      e = .returned (.tuple #[autoV (ofF 0 K R T).1 (.slice C (ofF 0 K R T).2.1.length cc), .agg #[.int .i64 (N : Int), .slice A1 n1 c1, .slice A2 n2 c2]]) ∧
      RowsAt w' w.heap.size (.slice C (ofF 0 K R T).2.1.length cc) rows (ofF 0 K R T).2.1 (fun _ => False) ∧ WantB w' w.heap.size (ofF 0 K R T).2.2 (.agg #[.int .i64 (N : Int), .slice A1 n1 c1, .slice A2 n2 c2]) ∧ Below w.heap.size w w' := by
  have hbad : ∀ tl, walkF K R T = (0, [], [], some tl) → Calls Tryz.prog 21 #[ruleV K R A n c] w fun e w' => ∃ (C : Option Addr) (cc : Nat) (rows : List Value) (N : Nat) (A1 : Option Addr) (n1 c1 : Nat) (A2 : Option Addr) (n2 c2 : Nat),
      e = .returned (.tuple #[autoV (ofF 0 K R T).1 (.slice C (ofF 0 K R T).2.1.length cc), .agg #[.int .i64 (N : Int), .slice A1 n1 c1, .slice A2 n2 c2]]) ∧
      RowsAt w' w.heap.size (.slice C (ofF 0 K R T).2.1.length cc) rows (ofF 0 K R T).2.1 (fun _ => False) ∧ WantB w' w.heap.size (ofF 0 K R T).2.2 (.agg #[.int .i64 (N : Int), .slice A1 n1 c1, .slice A2 n2 c2]) ∧ Below w.heap.size w w' := fun tl h => by
    rw [ofF_bad h]
    refine (refLeast_bad w K R A n c T hT hm tl h).mono ?_
    rintro e w' ⟨N, A1, n1, c1, A2, n2, c2, rfl, hv, hb⟩
    exact ⟨none, 0, [], N, A1, n1, c1, A2, n2, c2, rfl, RowsAt.nil _ _ _, hv, hb⟩
  rcases walkF_cases K R T with ⟨tl, h⟩ | ⟨k, r, t, S, rfl, rfl, rfl, hr, hl, h⟩ | ⟨k, r, t, rfl, rfl, rfl, hr, hl, h⟩
  · exact hbad _ (walkF_bad h)
  · rw [ofF_good hr hl h]
    refine (refLeast_good w k r A n c t hT hm hr hl S h).mono ?_
    rintro e w' ⟨nv, nr, rfl, hR, hb⟩
    obtain ⟨C, cc, rfl, _, _⟩ := own_slice hR.lst
    exact ⟨C, cc, nr, 0, none, 0, 0, none, 0, 0, rfl, hR, WantB.zero _ _, hb⟩
  · exact hbad (4, [(sSubset, 0)]) (by rw [walkF_good hr hl h])
end Go.Proofs.YthilnpfpllplaaaGreatDoor

namespace Go.Proofs.YthilnpfpllplaaaGreatDoor
open Go.ChangeShapes Go.WideShapes Go.ChangeAt Go.RowKit

theorem own : ownKnob Tryz.prog.godebug = none := by kernel_rfl
theorem laidOut : laidOutB Tryz.prog = true := by kernel_rfl
theorem cellsInt : Tryz.prog.cellsOf 3 = 1 := by kernel_rfl

set_option maxRecDepth 100000 in
/-- A slice of numbers that came in, nil or not: its cells, its reading behind a call that writes to nothing that was there. -/
theorem open_sl {H : Type} {enc : TypeId × Value → H} {W : World} {base : Nat} {v : Value} {d : DataW H} {p : List MemPlace} (hval : Value.okWide Tryz.prog W .any base 22 v)
    (h : DataW.Trod enc Tryz.prog W 0 (fun _ => true) true 22 v d p) :
    ∃ (A : Option Addr) (n c : Nat) (xs : List Int), v = .slice A n c ∧ n ≤ c ∧ c ≤ maxLen ∧ Sl W A n (xs.map (Value.int .i64)) ∧ (∀ x ∈ xs, (Lit.int .i64 x).wf = true) := by
  obtain ⟨a0, len, cap, rfl⟩ := okWide_slice Tryz.underlying22 hval
  obtain ⟨fuel, hf⟩ := h
  rcases open_ints Tryz.underlying22 Tryz.underlying3 cellsInt hf with ⟨hcs, _⟩ | ⟨a, len', cap', zs, hcs, _, hl, hm, hz, _, hcell, hwz⟩
  · simp [Value.cells] at hcs
    obtain ⟨rfl, rfl, rfl⟩ := hcs
    exact ⟨none, 0, 0, [], rfl, Nat.le_refl _, Nat.zero_le _, Sl.nil _ _, fun x hx => by simp at hx⟩
  · simp [Value.cells] at hcs
    obtain ⟨rfl, rfl, rfl⟩ := hcs
    simp only [if_true] at hz
    refine ⟨some a, len, cap, zs.take len, rfl, hl, hm, ⟨by simp; omega, fun k u hu => ?_⟩, fun x hx => hwz x (List.mem_of_mem_take hx)⟩
    have hk : k < len := by
      have := (List.getElem?_eq_some_iff.1 hu).1
      simp at this
      omega
    refine ⟨a, rfl, ?_⟩
    rw [hcell k (by omega)]
    rw [List.getElem?_map, List.getElem?_take, if_pos hk] at hu
    rw [List.getD_eq_getElem?_getD]
    cases hz : zs[k]? with
    | none => rw [hz] at hu; cases hu
    | some z => rw [hz] at hu; exact hu

/-- No parameter of these types wants a stand-in. -/
theorem noStandIn (l : List TypeId) (hall : (l.all fun u => !Tryz.prog.wantsStandIn u) = true) {ps : Array TypeId} (hp : ps.toList = l) (j : Nat) (t : TypeId) (ht : ps[j]? = some t) : Tryz.prog.wantsStandIn t = false := by
  have hm : t ∈ l := by rw [← hp]; exact Array.mem_toList_iff.2 (Array.mem_of_getElem? ht)
  simpa using List.all_eq_true.1 hall t hm

end Go.Proofs.YthilnpfpllplaaaGreatDoor

namespace Go.Proofs.YthilnpfpllplaaaGreatDoor
open Go.ChangeShapes Go.WideShapes Go.ChangeAt Go.RowKit Go.Joins
set_option linter.all false
set_option maxRecDepth 10000

theorem open_rule {H : Type} {enc : TypeId × Value → H} {W : World} {base : Nat} {v : Value} {d : DataW H} {p : List MemPlace} (hval : Value.okWide Tryz.prog W .any base 24 v)
    (h : DataW.Trod enc Tryz.prog W 0 (fun _ => true) true 24 v d p) :
    ∃ (K R : Int) (A : Option Addr) (n c : Nat) (xs : List Int), v = .agg #[.int .i64 K, .int .i64 R, .slice A n c] ∧ n ≤ c ∧ c ≤ maxLen ∧ Sl W A n (xs.map (Value.int .i64)) ∧ (∀ x ∈ xs, (Lit.int .i64 x).wf = true) := by
  obtain ⟨c0, c1, c2, y0, y1, y2, m, rfl, rfl, rfl, hy0, hy1, hy2⟩ := open_agg3 Tryz.underlying24 (by kernel_rfl) (by kernel_rfl) hval h
  obtain ⟨K, e0, _, _⟩ := DataW.trod_int Tryz.underlying3 hy0
  obtain ⟨R, e1, _, _⟩ := DataW.trod_int Tryz.underlying3 hy1
  simp at e0 e1
  subst e0 e1
  rcases open_ints Tryz.underlying22 Tryz.underlying3 cellsInt hy2 with ⟨hcs, _⟩ | ⟨a, len', cap', zs, hcs, _, hl, hm, hz, _, hcell, hwz⟩
  · simp at hcs
    subst hcs
    exact ⟨K, R, none, 0, 0, [], rfl, Nat.le_refl _, Nat.zero_le _, Sl.nil _ _, fun x hx => by simp at hx⟩
  · simp at hcs
    subst hcs
    simp only [if_true] at hz
    refine ⟨K, R, some a, len', cap', zs.take len', rfl, hl, hm, ⟨by simp; omega, fun k u hu => ?_⟩, fun x hx => hwz x (List.mem_of_mem_take hx)⟩
    have hk : k < len' := by
      have := (List.getElem?_eq_some_iff.1 hu).1
      simp at this
      omega
    refine ⟨a, rfl, ?_⟩
    rw [hcell k (by omega)]
    rw [List.getElem?_map, List.getElem?_take, if_pos hk] at hu
    rw [List.getD_eq_getElem?_getD]
    cases hz : zs[k]? with
    | none => rw [hz] at hu; cases hu
    | some z => rw [hz] at hu; exact hu
end Go.Proofs.YthilnpfpllplaaaGreatDoor

namespace Go.Proofs.YthilnpfpllplaaaGreatDoor
open Go.ChangeShapes Go.WideShapes Go.ChangeAt Go.RowKit Go.Joins
set_option linter.all false
set_option maxRecDepth 10000

theorem bytesInt : Tryz.prog.bytesOf 3 = 8 := by kernel_rfl
theorem reach_n {H : Type} {P : Program} {ts : List TypeId} {ds : List (DataW H)} (h : (DataW.weightsEach P ts ds).all (· ≤ reachBytes) = true) {j : Nat} {t : TypeId} {d : DataW H} (ht : ts[j]? = some t) (hd : ds[j]? = some d) : ∀ n ∈ d.weights P t, n ≤ 140737488351232 := fun n hn =>
  of_decide_eq_true (List.all_eq_true.1 h n (DataW.weights_mem_each ht hd n hn))

theorem sized_cells {H : Type} {enc : TypeId × Value → H} {W : World} {fuel : Nat} {A : Option Addr} {n c : Nat} {x : DataW H × List MemPlace} (h : DataW.trod enc Tryz.prog W 0 (fun _ => true) true fuel 22 [.slice A n c] = some x)
    (hw : ∀ m ∈ x.1.weights Tryz.prog 22, m ≤ 140737488351232) : c * 8 ≤ 140737488351232 := by
  rcases open_ints Tryz.underlying22 Tryz.underlying3 cellsInt h with ⟨hcs, _⟩ | ⟨a, len', cap', zs, hcs, _, hl, hm, hz, hx, hcell, hwz⟩
  · simp at hcs
    obtain ⟨_, _, rfl⟩ := hcs
    omega
  · simp at hcs
    obtain ⟨_, rfl, rfl⟩ := hcs
    simp only [if_true] at hz
    subst hx
    have := hw (((lits (H := H) .i64 (zs.take n)).length + (lits (H := H) .i64 (zs.drop n)).length) * Tryz.prog.bytesOf 3) (by simp [DataW.weights, Tryz.underlying22])
    rw [bytesInt] at this
    simp only [lits, List.length_map, List.length_take, List.length_drop] at this
    omega
theorem sized_sl {H : Type} {enc : TypeId × Value → H} {W : World} {A : Option Addr} {n c : Nat} {d : DataW H} {p : List MemPlace} (h : DataW.Trod enc Tryz.prog W 0 (fun _ => true) true 22 (.slice A n c) d p)
    (hw : ∀ m ∈ d.weights Tryz.prog 22, m ≤ 140737488351232) : c * 8 ≤ 140737488351232 := by
  obtain ⟨fuel, hf⟩ := h
  exact sized_cells hf hw
theorem sized_rule {H : Type} {enc : TypeId × Value → H} {W : World} {base : Nat} {K R : Int} {A : Option Addr} {n c : Nat} {d : DataW H} {p : List MemPlace} (hval : Value.okWide Tryz.prog W .any base 24 (.agg #[.int .i64 K, .int .i64 R, .slice A n c]))
    (h : DataW.Trod enc Tryz.prog W 0 (fun _ => true) true 24 (.agg #[.int .i64 K, .int .i64 R, .slice A n c]) d p)
    (hw : ∀ m ∈ d.weights Tryz.prog 24, m ≤ 140737488351232) : c * 8 ≤ 140737488351232 := by
  obtain ⟨c0, c1, c2, y0, y1, y2, m, hv, rfl, rfl, hy0, hy1, hy2⟩ := open_agg3 Tryz.underlying24 (by kernel_rfl) (by kernel_rfl) hval h
  injection hv with hv
  injection hv with hv
  injection hv with e0 hv
  injection hv with e1 hv
  injection hv with e2 hv
  subst e2
  exact sized_cells hy2 (fun m hm => hw m (by simp [DataW.weights, Tryz.underlying24, DataW.weightsEach]; right; right; exact hm))
end Go.Proofs.YthilnpfpllplaaaGreatDoor

namespace Go.Proofs.YthilnpfpllplaaaGreatDoor
open Go.ChangeShapes Go.WideShapes Go.ChangeAt Go.RowKit

def handleRow : String × DataW Unit := ("errors.errorType", .iface "internal/reflectlite.rtype" (.agg [.ptr (.lit (.string [101, 114, 114, 111, 114]))]))
noncomputable def handled (os : Os) : World :=
  let w0 := World.holding Tryz.prog os ⟨#[], #[], []⟩
  { w0 with heap := w0.heap.modify 12 fun
      | .cells _ t frozen => .cells #[.iface 161 (.agg #[.pointer (some ⟨13, 29, none⟩)])] t frozen
      | o => o }
def plainOf (laid : List (String × DataW Unit)) : List (String × DataW Unit) := laid.filter fun x => x.2.handleName?.isNone
noncomputable def laidAllH (os : Os) (laid : List (String × DataW Unit)) : World := (handled os).layVars Tryz.prog (plainOf laid)
theorem laidAllH_os (os : Os) (laid : List (String × DataW Unit)) : (laidAllH os laid).os = os := World.layVars_os _ _ _
theorem laidMetH_allH {os : Os} {laid : List (String × DataW Unit)} (args : Array Value)
    (hf : (handled os).layFits Tryz.prog (plainOf laid) [] = true)
    (hi : (handled os).layIfaces Tryz.prog (plainOf laid) (laidAllH os laid) = true)
    (hh : (laid.filter fun x => x.2.handleName?.isSome).all (handleAtB Tryz.prog (laidAllH os laid)) = true) :
    laidMetH Tryz.prog laid ((laidAllH os laid).forCall (fun _ _ => 0) ⟨#[], args, []⟩).memory := by
  have e1 : ((plainOf laid).filter fun x => ((plainOf laid).map (·.1)).contains x.1) = plainOf laid := List.filter_eq_self.2 fun x hx => List.contains_iff_mem.2 (List.mem_map.2 ⟨x, hx, rfl⟩)
  have e2 : ((plainOf laid).filter fun x => !((plainOf laid).map (·.1)).contains x.1) = [] := List.filter_eq_nil_iff.2 fun x hx => by rw [List.contains_iff_mem.2 (List.mem_map.2 ⟨x, hx, rfl⟩)]; simp
  have h : laidMet Tryz.prog (plainOf laid) (laidAllH os laid) := laidMet_layVars (w0 := handled os) ((plainOf laid).map (·.1)) [] (by rw [e1]; rfl) (by rw [e1]; exact hf) (by rw [e1]; exact hi) (by rw [e2]; exact LaidIn.none)
  have h2 : laidMetH Tryz.prog laid (laidAllH os laid) := laidMetH_of_parts h hh
  exact laidMetH.of_heap (by simp [World.memory, World.forCall, Input.heap]) h2

theorem rtypeCut : (Tryz.prog.cutTypes.find? (·.1 == "internal/reflectlite.rtype")).map (·.2) = some 161 := by kernel_rfl
theorem oneErrorRow : ((List.range Tryz.prog.types.size).filter fun t => Tryz.prog.rowNamed t [101, 114, 114, 111, 114]) = [29] := by kernel_rfl
theorem errT_of {W : World} {l : List (String × DataW Unit)} (h : laidMetH Tryz.prog l W) (hl : (l.filter fun x => x.2.handleName?.isSome) = [handleRow]) : ErrT W := by
  have h' := (laidMetH_iff.1 h).2
  rw [hl] at h'
  obtain ⟨name, u, ty, e1, e2, e3, e4, e5⟩ := h' _ (List.mem_singleton.2 rfl)
  have en : name = [101, 114, 114, 111, 114] := (Option.some.inj e1).symm
  subst en
  obtain rfl := Option.some.inj (rtypeCut.symm.trans e2)
  have hm : ty ∈ (List.range Tryz.prog.types.size).filter fun t => Tryz.prog.rowNamed t [101, 114, 114, 111, 114] := List.mem_filter.2 ⟨List.mem_range.2 e3, e4⟩
  rw [oneErrorRow] at hm
  obtain rfl := List.mem_singleton.1 hm
  have hh : typeHandle Tryz.prog 29 = .pointer (some ⟨13, 29, none⟩) := by kernel_rfl
  rw [hh] at e5
  have et : Tryz.prog.globalNamed "errors.errorType" = some 12 := by kernel_rfl
  simpa [ErrT] using World.var?_cell et e5 0
end Go.Proofs.YthilnpfpllplaaaGreatDoor
