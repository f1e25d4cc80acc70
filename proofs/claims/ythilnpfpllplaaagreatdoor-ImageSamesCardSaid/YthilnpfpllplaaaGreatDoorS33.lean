/- edenref10.Walk for any rule, the error's lists its own. Condition: the table reads from memory. edenref11.walked, the walk (not clean yet). Condition: the table reads from memory. edenref11.Least of what is no small rule. Condition: the table reads from memory. edenref11.Least of a small rule. Condition: the table reads from memory. edenref11.Least for any rule. Condition: the table reads from memory. -/
import Derived.Test.YthilnpfpllplaaaGreatDoorS24
import Derived.Test.YthilnpfpllplaaaGreatDoorS32
namespace Go.Proofs.YthilnpfpllplaaaGreatDoor
open Go.RowKit BagP RuleP SubP

theorem refWalk_b (w : World) (K R : Int) (A : Option Addr) (n c : Nat) (T : List Int) (hT : Sl w A n (T.map (Value.int .i64))) (hm : n ≤ 9223372036854775807) :
    Calls Tryz.prog 74 #[ruleV K R A n c] w fun e w' => ∃ (C : Option Addr) (cc : Nat) (rows : List Value) (N : Nat) (A1 : Option Addr) (n1 c1 : Nat) (A2 : Option Addr) (n2 c2 : Nat),
      e = .returned (.tuple #[autoV (walkF K R T).1 (.slice C (walkF K R T).2.1.length cc), .agg #[.int .i64 (N : Int), .slice A1 n1 c1, .slice A2 n2 c2]]) ∧
      RowsAt w' w.heap.size (.slice C (walkF K R T).2.1.length cc) rows (walkF K R T).2.1 (fun _ => False) ∧ WantB w' w.heap.size (walkF K R T).2.2.2 (.agg #[.int .i64 (N : Int), .slice A1 n1 c1, .slice A2 n2 c2]) ∧ Below w.heap.size w w' := by
  rcases walkF_cases K R T with ⟨tl, h⟩ | ⟨k, r, t, S, rfl, rfl, rfl, hr, hl, h⟩ | ⟨k, r, t, rfl, rfl, rfl, hr, hl, h⟩
  · rw [walkF_bad h]
    refine (refWalk_bad w K R A n c T hT hm tl h).mono ?_
    rintro e w' ⟨N, A1, n1, c1, A2, n2, c2, rfl, hv, hb⟩
    exact ⟨none, 0, [], N, A1, n1, c1, A2, n2, c2, rfl, RowsAt.nil _ _ _, hv, hb⟩
  · rw [walkF_good hr hl h]
    refine (refWalk_good w k r A n c t hT hr hl).mono ?_
    rintro e w' ⟨h1, _⟩
    obtain ⟨nv, nr, rfl, hR, hb⟩ := h1 S h
    obtain ⟨C, cc, rfl, _, _⟩ := own_slice hR.lst
    exact ⟨C, cc, nr, 0, none, 0, 0, none, 0, 0, rfl, hR, WantB.zero _ _, hb⟩
  · rw [walkF_good hr hl h]
    refine (refWalk_good w k r A n c t hT hr hl).mono ?_
    rintro e w' ⟨_, h2⟩
    obtain ⟨N, A1, n1, c1, A2, n2, c2, rfl, hv, hb⟩ := h2 h
    exact ⟨none, 0, [], N, A1, n1, c1, A2, n2, c2, rfl, RowsAt.nil _ _ _, hv, hb⟩
theorem check_short {K R : Int} {T : List Int} {tl : Tale} (h : check K R T = some tl) : tl.2.length = 1 := by
  unfold check at h
  split at h
  · cases h; rfl
  split at h
  · cases h; rfl
  split at h
  · cases h; rfl
  split at h
  · cases h; rfl
  · cases h
theorem small_short {K R : Int} {T : List Int} {tl : Tale} (h : small K R T = some tl) : tl.2.length = 1 := by
  unfold small at h
  split at h
  · rename_i t ht
    cases h
    exact check_short ht
  · split at h
    · cases h; rfl
    · cases h
/-- A told error is a short one. -/
theorem walkF_short (K R : Int) (T : List Int) : ∀ x, (walkF K R T).2.2.2 = some x → x.2.length ≤ 100 := by
  rcases walkF_cases K R T with ⟨tl, h⟩ | ⟨k, r, t, S, rfl, rfl, rfl, hr, hl, h⟩ | ⟨k, r, t, rfl, rfl, rfl, hr, hl, h⟩
  · rw [walkF_bad h]
    intro x hx
    cases hx
    have := small_short h
    simp
    omega
  · rw [walkF_good hr hl h]
    intro x hx
    cases hx
  · rw [walkF_good hr hl h]
    intro x hx
    cases hx
    simp
end Go.Proofs.YthilnpfpllplaaaGreatDoor

namespace Go.Proofs.YthilnpfpllplaaaGreatDoor
open Go.RowKit BagP RuleP SubP

theorem cell_set {w : World} {p q : Addr} {u v : Value} (h : w.cell? p = some v) (hne : p.block ≠ q.block) : (w.setCell q u).cell? p = some v := (Keeps.of_setCell w q u).cell h hne

set_option maxRecDepth 100000 in
set_option maxHeartbeats 1000000 in
theorem walked_c (w : World) (at' K R : Int) (A : Option Addr) (n c : Nat) (T : List Int) (hT : Sl w A n (T.map (Value.int .i64))) (hm : n ≤ 9223372036854775807) :
    Calls Tryz.prog 39 #[.int .i64 at', ruleV K R A n c] w fun e w' => ∃ (C : Option Addr) (cc : Nat) (rows : List Value) (N : Nat) (A1 : Option Addr) (n1 c1 : Nat) (A2 : Option Addr) (n2 c2 : Nat),
      e = .returned (.tuple #[autoV (walkF K R T).1 (.slice C (walkF K R T).2.1.length cc), .agg #[.int .i64 (N : Int), .slice A1 n1 c1, .slice A2 n2 c2]]) ∧
      RowsAt w' w.heap.size (.slice C (walkF K R T).2.1.length cc) rows (walkF K R T).2.1 (fun _ => False) ∧ WantB w' w.heap.size (under sImage at' (walkF K R T).2.2.2) (.agg #[.int .i64 (N : Int), .slice A1 n1 c1, .slice A2 n2 c2]) ∧ Below w.heap.size w w' := by
  have hb0 := (((Below.refl w.heap.size w).alloc (Nat.le_refl _) (.cells #[.int .i64 K, .int .i64 R, .slice A n c] 24)).alloc (by simp) (.cells #[.int .i64 0, .slice none 0 0] 50)).alloc (by simp; omega) (.cells #[.int .i64 0, .slice none 0 0, .slice none 0 0] 34)
  obtain ⟨wx, hwx⟩ : ∃ wx, ((w.alloc (.cells #[.int .i64 K, .int .i64 R, .slice A n c] 24)).alloc (.cells #[.int .i64 0, .slice none 0 0] 50)).alloc (.cells #[.int .i64 0, .slice none 0 0, .slice none 0 0] 34) = wx := ⟨_, rfl⟩
  have ha0 : AutoAt wx (w.heap.size + 1) (.int .i64 0) (.slice none 0 0) := by
    have h1 : AutoAt ((w.alloc (.cells #[.int .i64 K, .int .i64 R, .slice A n c] 24)).alloc (.cells #[.int .i64 0, .slice none 0 0] 50)) (w.heap.size + 1) (.int .i64 0) (.slice none 0 0) := by
      unfold AutoAt
      have := heap_new (w.alloc (.cells #[.int .i64 K, .int .i64 R, .slice A n c] 24)) (.cells #[.int .i64 0, .slice none 0 0] 50)
      simpa using this
    rw [← hwx]
    exact h1.below ((Below.refl _ _).alloc (Nat.le_refl _) _) (by simp)
  have hw0 := WantAt.new ((w.alloc (.cells #[.int .i64 K, .int .i64 R, .slice A n c] 24)).alloc (.cells #[.int .i64 0, .slice none 0 0] 50)) (.int .i64 0) (.slice none 0 0) (.slice none 0 0)
  rw [World.size_alloc, World.size_alloc] at hw0
  change WantAt _ (w.heap.size + 2) _ _ _ at hw0
  have hsx : wx.heap.size = w.heap.size + 3 := by rw [← hwx]; simp
  rw [hwx] at hw0 hb0
  have hwk := refWalk_b wx K R A n c T (hT.below hb0) hm
  have hto := walkF_ok K R T
  have hsh := walkF_short K R T
  obtain ⟨q, hq⟩ : ∃ q, walkF K R T = q := ⟨_, rfl⟩
  obtain ⟨kk, L, L2, tt⟩ := q
  rw [hq] at hwk hto hsh
  rw [hq]
  dsimp only at hwk hto hsh
  dsimp only
  unfold ruleV autoV at hwk
  have HWK := Lib.hid hwk
  have HWX := Lib.hid hwx
  have HTO := Lib.hid hto
  have HSH := Lib.hid hsh
  have HA0 := Lib.hid ha0
  have HW0 := Lib.hid hw0
  have HB0 := Lib.hid hb0
  have HSX := Lib.hid hsx
  clear hwk hwx hto hsh ha0 hw0 hb0 hsx hq hT
  unfold ruleV
  go_enter Tryz.func39, Tryz.ntmps39
  go_wp2_with fail
  rw [HWX.out]
  refine (HWK.out).mono ?_
  rintro e w1 ⟨C, cc, rows, N, A1, n1, c1, A2, n2, c2, rfl, hR, hu, hb1⟩
  clear HWK
  have hs1 := hb1.size
  have hsx := HSX.out
  have hw1 := HW0.out.below hb1 (by omega)
  have ha1 := HA0.out.below hb1 (by omega)
  have hA2 := heap_new w1 (.cells #[.int .i64 kk, .slice C L.length cc] 50)
  have hb12 := (Below.refl w1.heap.size w1).alloc (Nat.le_refl _) (.cells #[.int .i64 kk, .slice C L.length cc] 50)
  have hE3 := WantAt.new (w1.alloc (.cells #[.int .i64 kk, .slice C L.length cc] 50)) (.int .i64 (N : Int)) (.slice A1 n1 c1) (.slice A2 n2 c2)
  have hb23 := (Below.refl (w1.alloc (.cells #[.int .i64 kk, .slice C L.length cc] 50)).heap.size (w1.alloc (.cells #[.int .i64 kk, .slice C L.length cc] 50))).alloc (Nat.le_refl _) (.cells #[.int .i64 (N : Int), .slice A1 n1 c1, .slice A2 n2 c2] 34)
  have hA3 : AutoAt _ w1.heap.size (.int .i64 kk) (.slice C L.length cc) := (show AutoAt _ w1.heap.size (.int .i64 kk) (.slice C L.length cc) from hA2).below hb23 (by simp)
  have hb13 := hb12.trans (hb23.mono hb12.size)
  rw [World.size_alloc] at hE3
  obtain ⟨w3, hw3⟩ : ∃ w3, (w1.alloc (.cells #[.int .i64 kk, .slice C L.length cc] 50)).alloc (.cells #[.int .i64 (N : Int), .slice A1 n1 c1, .slice A2 n2 c2] 34) = w3 := ⟨_, rfl⟩
  rw [hw3] at hE3 hA3 hb13
  have hu3 := (hu.below hb13).below (Below.refl w3.heap.size w3).drew
  have HUN := Lib.hid (rawUnder_c w3.drew sImage at' wx.heap.size tt N A1 n1 c1 A2 n2 c2 hu3 HTO.out (fun x hx => Nat.le_trans (HSH.out x hx) (by decide)))
  have HR3 := Lib.hid (hR.pure hb13)
  obtain ⟨k0, k1, _, _⟩ := hA3.facts
  obtain ⟨k2, k3, k4, _, _, _⟩ := hE3.facts
  have hW3 := hw1.below hb13 (by omega)
  have hT3 := ha1.below hb13 (by omega)
  have HW3 := Lib.hid hW3
  have HT3 := Lib.hid hT3
  have HB3 := Lib.hid (HB0.out.trans ((hb1.trans (hb13.mono hb1.size)).mono HB0.out.size))
  have HQ3 := Lib.hid hw3
  have hz3 : w1.heap.size ≤ w3.heap.size := hb13.size
  obtain ⟨ga, hga⟩ : ∃ ga, w1.heap.size = ga := ⟨_, rfl⟩
  have hga1 : w.heap.size + 3 ≤ ga := by omega
  rw [hga] at k0 k1 k2 k3 k4 hz3
  have HGA := Lib.hid hga
  clear hu hu3 hb13 hb12 hb23 hA2 hA3 hE3 hR hw3 hW3 hT3 hw1 ha1 hs1 hsx hb1 hga
  go_wp2_with fail
  rw [HQ3.out, HGA.out]
  go_region_held3 (fun w' => w'.cell? ⟨ga, 0, none⟩ = some (.int .i64 kk) ∧ w'.cell? ⟨ga, 1, none⟩ = some (.slice C L.length cc) ∧ w'.cell? ⟨ga + 1, 0, none⟩ = some (.int .i64 (N : Int)) ∧ w'.cell? ⟨ga + 1, 1, none⟩ = some (.slice A1 n1 c1) ∧ w'.cell? ⟨ga + 1, 2, none⟩ = some (.slice A2 n2 c2))
    (first | go_keep | exact ⟨cell_set (cell_set x0 (by simp; omega)) (by simp; omega), cell_set (cell_set x1 (by simp; omega)) (by simp; omega), cell_set (cell_set x2 (by simp; omega)) (by simp; omega), cell_set (cell_set x3 (by simp; omega)) (by simp; omega), cell_set (cell_set x4 (by simp; omega)) (by simp; omega)⟩ | exact ⟨cell_set (cell_set (cell_set (cell_set (cell_set x0 (by simp; omega)) (by simp; omega)) (by simp; omega)) (by simp; omega)) (by simp; omega), cell_set (cell_set (cell_set (cell_set (cell_set x1 (by simp; omega)) (by simp; omega)) (by simp; omega)) (by simp; omega)) (by simp; omega), cell_set (cell_set (cell_set (cell_set (cell_set x2 (by simp; omega)) (by simp; omega)) (by simp; omega)) (by simp; omega)) (by simp; omega), cell_set (cell_set (cell_set (cell_set (cell_set x3 (by simp; omega)) (by simp; omega)) (by simp; omega)) (by simp; omega)) (by simp; omega), cell_set (cell_set (cell_set (cell_set (cell_set x4 (by simp; omega)) (by simp; omega)) (by simp; omega)) (by simp; omega)) (by simp; omega)⟩)
    (first
      | (go_at_call 75
         refine (HUN.out).mono ?_
         rintro e w5 ⟨N', A1', n1', c1', A2', n2', c2', rfl, hu5, hb5⟩
         have hbz := (Below.refl w3.heap.size w3).drew.trans hb5
         have x0 := cell_later hbz k0
         have x1 := cell_later hbz k1
         have x2 := cell_later hbz k2
         have x3 := cell_later hbz k3
         have x4 := cell_later hbz k4
         have hT5 := HT3.out.below hbz (by omega)
         have hW5 := HW3.out.below hbz (by omega)
         obtain ⟨g0, g1, h0, h1⟩ := hT5.facts
         obtain ⟨d0, d1, d2, f0, f1, f2⟩ := hW5.facts)
      | fail)
  have hs5 := hbz.size
  have HU := Lib.hid ((hu5.keeps (keeps_pair w5 (w.heap.size + 1) (w.heap.size + 2) (.int .i64 kk) (.slice C L.length cc) (.int .i64 (N' : Int)) (.slice A1' n1' c1') (.slice A2' n2' c2')) (fun b hb => by
    have h1 : w3.heap.size ≤ w3.drew.heap.size := Nat.le_refl _
    rcases hb with rfl | rfl <;> omega)).base (base' := w.heap.size) (by have h1 : w3.heap.size ≤ w3.drew.heap.size := Nat.le_refl _; omega))
  have HB := Lib.hid (below_pair (HB3.out.trans (hbz.mono HB3.out.size)) (g := w.heap.size + 1) (h := w.heap.size + 2) (by omega) (by omega) (.int .i64 kk) (.slice C L.length cc) (.int .i64 (N' : Int)) (.slice A1' n1' c1') (.slice A2' n2' c2'))
  have HPF := Lib.hid (pair_facts hT5 hW5 (by omega) (.int .i64 kk) (.slice C L.length cc) (.int .i64 (N' : Int)) (.slice A1' n1' c1') (.slice A2' n2' c2'))
  have hR5 := HR3.out.pure hbz
  have hq1 : w5.heap[w.heap.size + 1]? = some (.cells #[.int .i64 0, .slice none 0 0] 50 (0, 0)) := hT5
  have hq2 : w5.heap[w.heap.size + 2]? = some (.cells #[.int .i64 0, .slice none 0 0, .slice none 0 0] 34 (0, 0)) := hW5
  have HRR := Lib.hid ((hR5.keeps (keeps_pair w5 (w.heap.size + 1) (w.heap.size + 2) (.int .i64 kk) (.slice C L.length cc) (.int .i64 (N' : Int)) (.slice A1' n1' c1') (.slice A2' n2' c2'))
    (fun b hb => by
      rcases hb with rfl | rfl
      · exact hR5.not_lst hq1 (by decide)
      · exact hR5.not_lst hq2 (by decide))
    (fun b hb => by
      rcases hb with rfl | rfl
      · exact hR5.not_el hq1 (by decide)
      · exact hR5.not_el hq2 (by decide))).base (B' := w.heap.size) (by have := HSX.out; omega))
  have HW := Lib.hid (show ((((w5.setCell ⟨w.heap.size + 1, 0, none⟩ (.int .i64 kk)).setCell ⟨w.heap.size + 1, 1, none⟩ (.slice C L.length cc)).setCell ⟨w.heap.size + 1 + 1, 0, none⟩ (.int .i64 (N' : Int))).setCell ⟨w.heap.size + 1 + 1, 1, none⟩ (.slice A1' n1' c1')).setCell ⟨w.heap.size + 1 + 1, 2, none⟩ (.slice A2' n2' c2') = setPair w5 (w.heap.size + 1) (w.heap.size + 2) (.int .i64 kk) (.slice C L.length cc) (.int .i64 (N' : Int)) (.slice A1' n1' c1') (.slice A2' n2' c2') from rfl)
  clear hu5 hb5 hbz x0 x1 x2 x3 x4 hT5 hW5 hR5 hq1 hq2 g0 g1 h0 h1 d0 d1 d2 f0 f1 f2
  go_wp2_with fail
  rw [HW.out]
  obtain ⟨⟨g0, g1, _, _⟩, d0, d1, d2, _⟩ := (⟨HPF.out.1.facts, HPF.out.2.facts⟩ : _ ∧ _)
  obtain ⟨W, hW⟩ : ∃ W, setPair w5 (w.heap.size + 1) (w.heap.size + 2) (.int .i64 kk) (.slice C L.length cc) (.int .i64 (N' : Int)) (.slice A1' n1' c1') (.slice A2' n2' c2') = W := ⟨_, rfl⟩
  have HUW := HU.out
  have HBW := HB.out
  have HRW := HRR.out
  rw [hW] at g0 g1 d0 d1 d2 HUW HBW HRW
  rw [hW]
  exact bodyPost_ret (v := .tuple #[autoV kk (.slice C L.length cc), .agg #[.int .i64 (N' : Int), .slice A1' n1' c1', .slice A2' n2' c2']]) (by simp [results, Tryz.results39, go_sem, autoV, g0, g1, d0, d1, d2]) rfl ⟨C, cc, rows, N', A1', n1', c1', A2', n2', c2', rfl, HRW, HUW, HBW⟩
end Go.Proofs.YthilnpfpllplaaaGreatDoor

namespace Go.Proofs.YthilnpfpllplaaaGreatDoor
open Go.RowKit BagP RuleP SubP

end Go.Proofs.YthilnpfpllplaaaGreatDoor

namespace Go.Proofs.YthilnpfpllplaaaGreatDoor
open Go.RowKit BagP RuleP SubP

end Go.Proofs.YthilnpfpllplaaaGreatDoor

namespace Go.Proofs.YthilnpfpllplaaaGreatDoor
open Go.RowKit BagP RuleP SubP

end Go.Proofs.YthilnpfpllplaaaGreatDoor
