/- What a rule's table says of a window: forms.symbol; and the closures that forms.made calls. Condition: the tables and the window read from memory. slices.Equal and slices.Reverse of numbers; the closures that read a window from its end and that lay noughts outside. Condition: the lists read from memory. slices.Sort of ints, laid off the shelf: the numbers sorted in their own block, at whatever length. Condition: the cells hold the numbers. slices.Sorted(slices.Values(p)) of ints: new memory that holds the numbers of p, sorted. Condition: the slice reads from memory. -/
import Derived.Laws.CopyOwn
import Derived.Shelf.SortM.Plain
import Derived.Shelf.SortM.SortNone
import Derived.RangeFuncNested
import Derived.RangeFuncBound
import Derived.RangeFuncCalls
import Derived.RangeFuncLeaves
import Derived.RangeFuncBox
import Derived.RangeFuncWrites
import Derived.Shelf.Abstract
import Derived.WalkKit
import Derived.OwnWalkIn
import Derived.TacticsInMore
import Derived.LoopNIn
import Derived.LoopIn
import Derived.Maps.AppendAt
import Derived.Sort.OwnSortedInts
import Derived.Test.YtedmmmlahpmmoaaGreatDoorV5
import Derived.Test.YtedmmmlahpmmoaaGreatDoorV6
import Derived.Test.YtedmmmlahpmmoaaGreatDoorV8
import Derived.Test.YtedmmmlahpmmoaaGreatDoorV18
namespace Go.Proofs.YtedmmmlahpmmoaaGreatDoor
open Go.RowKit RuleP

set_option maxRecDepth 100000 in
set_option maxHeartbeats 1000000 in
theorem symbol_c (w : World) (k r : Nat) (A B : Option Addr) (n c m d : Nat) (t v : List Nat) (hr : IsRule k r t) (hv : ∀ x ∈ v, x < k) (hvl : v.length = 2 * r + 1) (hT : Sl w A n ((ints t).map (Value.int .i64))) (hW : Sl w B m ((ints v).map (Value.int .i64))) :
    Calls Tryz.prog 96 #[ruleV k r A n c, .slice B m d] w fun e w' => e = .returned (.int .i64 ((sy k t v : Nat) : Int)) ∧ Below w.heap.size w w' := by
  have hl : v.length = m := by simpa [ints] using hW.1
  have hlt : t.length = n := by simpa [ints] using hT.1
  have hn := hr.le
  have hk1 := hr.k1
  have hk4 := hr.k4
  have hr3 := hr.r3
  rw [hlt] at hn
  have hb0 := (Below.refl w.heap.size w).alloc (Nat.le_refl _) (.cells #[.int .i64 (k : Int), .int .i64 (r : Int), .slice A n c] 24)
  have hT1 := hT.below hb0
  have hW1 := hW.below hb0
  have hwl := wval_lt hv
  rw [hvl, ← hr.len, hlt] at hwl
  obtain ⟨Y, hY⟩ : ∃ Y, sy k t v = Y := ⟨_, rfl⟩
  rw [hY]
  have hY' : t.getD (wval k v) 0 = Y := hY
  have HY := Lib.hid hY'
  clear hY hY'
  have HL := Lib.hid hl
  have HV := Lib.hid hv
  have hm7 : m ≤ 7 := by omega
  have HB := Lib.hid hb0
  clear hl hlt hr hv hvl hT hW
  rw [ints_map] at hT1 hW1
  unfold ruleV at *
  go_enter Tryz.func96, Tryz.ntmps96
  go_wp2_with fail
  go_loop [5, 10] (fun nv i => ∃ j : Nat, j ≤ m ∧ i = .int .i64 (j : Int) ∧ nv = .int .i64 ((wval k (v.take j) : Nat) : Int)) (fun _ i => m - (intOf i).toNat)
  case atStart => exact ⟨0, Nat.zero_le _, rfl, by simp [wval_nil]⟩
  case round =>
    obtain ⟨j, hj, rfl, rfl⟩ := hrel
    by_cases hlt : j < m
    · obtain ⟨adw, x, rfl, hxj, hcx⟩ := hW1.word_ hlt
      have hxk : x < k := HV.out x (List.mem_of_getElem? hxj)
      have hs : wval k (v.take (j + 1)) = wval k (v.take j) * k + x := by
        rw [List.take_add_one, hxj]; exact wval_snoc _ _ _
      have hle : wval k (v.take (j + 1)) ≤ 16384 := by
        have h1 := wval_lt (k := k) (w := v.take (j + 1)) (fun y hy => HV.out y (List.mem_of_mem_take hy))
        have h2 : k ^ (v.take (j + 1)).length ≤ 4 ^ 7 := Nat.le_trans (Nat.pow_le_pow_left hk4 _) (Nat.pow_le_pow_right (by decide) (by rw [List.length_take]; omega))
        have h3 : 4 ^ 7 = 16384 := by decide
        omega
      obtain ⟨ρ, hρ⟩ : ∃ ρ, wval k (v.take j) = ρ := ⟨_, rfl⟩
      obtain ⟨σ, hσ⟩ : ∃ σ, wval k (v.take (j + 1)) = σ := ⟨_, rfl⟩
      rw [hρ, hσ] at hs
      rw [hσ] at hle
      rw [hρ]
      have hQ : (ρ : Int) * (k : Int) = ((ρ * k : Nat) : Int) := by simp
      obtain ⟨Q, hQQ⟩ : ∃ Q, ρ * k = Q := ⟨_, rfl⟩
      rw [hQQ] at hQ hs
      have hQl : Q ≤ 16384 := by omega
      have hsum : Hid ((Q : Int) + (x : Int) = (σ : Int)) := Lib.hid (by omega)
      have HS := Lib.hid hσ
      clear hs hρ hσ hQQ hxj
      go_wp2_with fail
      exact ⟨⟨j + 1, by omega, by go_num, by rw [HS.out, ← hsum.out]⟩, by simp [intOf]; omega⟩
    · obtain rfl : j = m := by omega
      have htk : v.take j = v := List.take_of_length_le (by rw [HL.out]; exact Nat.le_refl _)
      rw [htk]
      obtain ⟨adt, y, rfl, hyt, hcy⟩ := hT1.word_ hwl
      have hget : Hid (Y = y) := Lib.hid (by rw [← HY.out, List.getD_eq_getElem?_getD, hyt]; rfl)
      obtain ⟨ρ, hρ⟩ : ∃ ρ, wval k v = ρ := ⟨_, rfl⟩
      rw [hρ] at hwl hcy ⊢
      clear htk hyt hρ
      go_wp2_with fail
      go_ret
      exact ⟨by rw [hget.out]; rfl, HB.out⟩

/-- A part of a window in memory. -/
theorem sl_win {w : World} {g n : Nat} {v : List Nat} (h : Sl w (some ⟨g, 0, none⟩) n ((ints v).map (Value.int .i64))) {i m : Nat} (hi : i + m ≤ n) : Sl w (some ⟨g, i, none⟩) m ((ints (win v i m)).map (Value.int .i64)) := by
  have hl : v.length = n := by simpa [ints] using h.1
  refine ⟨by rw [List.length_map, ints_len, win_len (by omega)], fun j u hj => ?_⟩
  have e : ((ints (win v i m)).map (Value.int .i64)) = (((ints v).map (Value.int .i64)).drop i).take m := by simp [win, ints, List.map_drop, List.map_take]
  rw [e] at hj
  have hc := sl_part h hi _ rfl j u hj
  refine ⟨_, rfl, ?_⟩
  have e2 : ((⟨g, 0, none⟩ : Addr).add i).add j = (⟨g, i, none⟩ : Addr).add j := by
    congr 1
    by_cases h0 : i = 0
    · subst h0; rfl
    · simp [Addr.add, h0]
  rw [e2] at hc
  exact hc

set_option maxRecDepth 100000 in
set_option maxHeartbeats 1000000 in
theorem widened1_c (w : World) (g gr gd k r d : Nat) (A : Option Addr) (n c : Nat) (t v : List Nat) (hr : IsRule k r t) (hd3 : r + d ≤ 3) (hv : ∀ x ∈ v, x < k) (hT : Sl w A n ((ints t).map (Value.int .i64))) (hR : RuleAt w gr (.int .i64 (k : Int)) (.int .i64 (r : Int)) (.slice A n c)) (hd : w.cell? ⟨gd, 0, none⟩ = some (.int .i64 (d : Int)))
    (hV : Sl w (some ⟨g, 0, none⟩) (2 * (r + d) + 1) ((ints v).map (Value.int .i64))) :
    Calls Tryz.prog 95 #[.slice (some ⟨g, 0, none⟩) (2 * (r + d) + 1) (2 * (r + d) + 1), .pointer (some ⟨gr, 0, none⟩), .pointer (some ⟨gd, 0, none⟩)] w fun e w' => e = .returned (.int .i64 ((sy k t (win v d (2 * r + 1)) : Nat) : Int)) ∧ Below w.heap.size w w' := by
  have hvl : v.length = 2 * (r + d) + 1 := by simpa [ints] using hV.1
  have hwl : (win v d (2 * r + 1)).length = 2 * r + 1 := win_len (by omega)
  have hsw := sl_win hV (show d + (2 * r + 1) ≤ 2 * (r + d) + 1 by omega)
  have hsy := symbol_c w.drew k r A (some ⟨g, d, none⟩) n c (2 * r + 1) (2 * (r + d) + 1 - d) t (win v d (2 * r + 1)) hr (win_sym hv _ _) hwl hT hsw
  clear hvl hwl hsw
  obtain ⟨L, hL⟩ : ∃ L, 2 * (r + d) + 1 = L := ⟨_, rfl⟩
  obtain ⟨m, hm⟩ : ∃ m, 2 * r + 1 = m := ⟨_, rfl⟩
  obtain ⟨H, hH⟩ : ∃ H, L - d = H := ⟨_, rfl⟩
  rw [hL, hm] at hsy
  rw [hL, hm]
  have hmh : m = H - d := by omega
  rw [hmh] at hsy
  obtain ⟨Y, hY⟩ : ∃ Y, sy k t (win v d m) = Y := ⟨_, rfl⟩
  rw [hmh] at hY
  rw [hmh, hY]
  rw [hY] at hsy
  unfold ruleV at hsy
  have HS := Lib.hid hsy
  have hn1 : ¬ L = d := by omega
  have s0 : (0 : Int) ≤ (d : Int) := by omega
  have s1 : IntKind.i64.wrap ((L : Int) - (d : Int)) = (H : Int) := by rw [IntWalk.i64_in _ (by omega)]; omega
  have s2 : (d : Int) ≤ (H : Int) := by omega
  have s3 : (H : Int) ≤ (L : Int) := by omega
  obtain ⟨r0, r1, r2, _⟩ := hR.facts
  clear hsy hY hL hm hH hmh hV hT hR hr hv
  go_enter Tryz.func95, Tryz.ntmps95
  go_wp2_with fail
  go_region_held3 (fun w' => w'.cell? ⟨gr, 0, none⟩ = some (.int .i64 (k : Int)) ∧ w'.cell? ⟨gr, 1, none⟩ = some (.int .i64 (r : Int)) ∧ w'.cell? ⟨gr, 2, none⟩ = some (.slice A n c) ∧ w'.cell? ⟨gd, 0, none⟩ = some (.int .i64 (d : Int)))
    (first | go_keep)
    (first
      | (go_at_call 96
         refine (HS.out).mono ?_
         rintro e w2 ⟨rfl, hb2⟩
         have x0 := cell_later hb2 r0
         have x1 := cell_later hb2 r1
         have x2 := cell_later hb2 r2
         have x3 := cell_later hb2 hd))
  go_wp2_with fail
  go_ret
  exact ⟨rfl, (Below.refl w.heap.size w).drew.trans hb2⟩

end Go.Proofs.YtedmmmlahpmmoaaGreatDoor

namespace Go.Proofs.YtedmmmlahpmmoaaGreatDoor
open Go.RowKit RuleP

set_option maxRecDepth 100000 in
theorem equal_c (w : World) (A1 A2 : Option Addr) (n1 n2 c1 c2 : Nat) (xs ys : List Int) (h1 : Sl w A1 n1 (xs.map (Value.int .i64))) (h2 : Sl w A2 n2 (ys.map (Value.int .i64)))
    (m1 : n1 ≤ 9223372036854775807) (m2 : n2 ≤ 9223372036854775807) :
    Calls Tryz.prog 24 #[.slice A1 n1 c1, .slice A2 n2 c2] w fun e w' => e = .returned (.bool (decide (xs = ys))) ∧ Below w.heap.size w w' := by
  have l1 : xs.length = n1 := by simpa using h1.1
  have l2 : ys.length = n2 := by simpa using h2.1
  by_cases hn : n1 = n2
  · subst hn
    have hne : ((n1 : Int) != (n1 : Int)) = false := by simp
    have H1 := Lib.hid l1
    have H2 := Lib.hid l2
    clear l1 l2
    go_enter Tryz.func24, Tryz.ntmps24
    go_wp2_with fail
    go_loopw [13] (fun i wr => ∃ k q : Nat, k ≤ n1 ∧ i = .int .i64 k ∧ wr = w.drewN q ∧ xs.take k = ys.take k) (fun i _ => n1 - (intOf i).toNat)
    case atStart => exact ⟨0, 0, Nat.zero_le _, rfl, rfl, rfl⟩
    case round =>
      obtain ⟨k, q, hk, rfl, rfl, ht⟩ := hrel
      have HT := Lib.hid ht
      clear ht
      by_cases hlt : k < n1
      · obtain ⟨a1, x1, rfl, hx1, hc1⟩ := h1.int_ hlt
        obtain ⟨a2, x2, rfl, hx2, hc2⟩ := h2.int_ hlt
        have HX1 := Lib.hid hx1
        have HX2 := Lib.hid hx2
        clear hx1 hx2
        by_cases e : x1 = x2
        · have t1 : (x1 != x2) = false := by simp [e]
          have E := Lib.hid e
          clear e
          go_wp2_with (go_quiet (fail))
          exact ⟨⟨k + 1, _, by omega, by go_num, rfl, by rw [List.take_add_one, List.take_add_one, HT.out, HX1.out, HX2.out, E.out]⟩, by simp [intOf]; omega⟩
        · have t1 : (x1 != x2) = true := by simp [e]
          have hne2 : xs ≠ ys := by
            intro he; subst he
            have := HX1.out.symm.trans HX2.out
            simp at this; exact e this
          have E := Lib.hid hne2
          clear e hne2
          go_wp2_with (go_quiet (fail))
          go_ret
          exact ⟨by simp [E.out], by rw [World.drewN_drewN]; exact pure_drewN w _⟩
      · have he : xs = ys := by
          have := HT.out
          rwa [List.take_of_length_le (by have := H1.out; omega), List.take_of_length_le (by have := H2.out; omega)] at this
        have E := Lib.hid he
        clear he
        go_wp2_with fail
        go_ret
        exact ⟨by simp [E.out], pure_drewN w _⟩
  · have hne : ((n1 : Int) != (n2 : Int)) = true := by simp; omega
    have hne2 : xs ≠ ys := by rintro rfl; omega
    clear l1 l2 hn
    have E := Lib.hid hne2
    clear hne2
    go_enter Tryz.func24, Tryz.ntmps24
    go_wp2_with fail
    go_ret
    exact ⟨by simp [E.out], Below.refl _ _⟩

/-- The outer i places on both sides turned about. -/
def rvL (xs : List Int) (i : Nat) : List Int := (List.range xs.length).map fun p => if p < i ∨ xs.length - i ≤ p then xs.getD (xs.length - 1 - p) 0 else xs.getD p 0
theorem rvL_len (xs : List Int) (i : Nat) : (rvL xs i).length = xs.length := by simp [rvL]
theorem rvL_at {xs : List Int} {i p : Nat} (h : p < xs.length) : (rvL xs i)[p]? = some (if p < i ∨ xs.length - i ≤ p then xs.getD (xs.length - 1 - p) 0 else xs.getD p 0) := by
  unfold rvL
  rw [List.getElem?_map, List.getElem?_range h]
  rfl
theorem rvL_zero (xs : List Int) : rvL xs 0 = xs := by
  apply List.ext_getElem?
  intro p
  by_cases hp : p < xs.length
  · rw [rvL_at hp, if_neg (by omega), List.getD_eq_getElem?_getD, List.getElem?_eq_getElem hp]
    rfl
  · rw [List.getElem?_eq_none (by rw [rvL_len]; omega), List.getElem?_eq_none (by omega)]
theorem rvL_step {xs : List Int} {i : Nat} (h : 2 * i + 1 < xs.length) : ((rvL xs i).set i (xs.getD (xs.length - 1 - i) 0)).set (xs.length - 1 - i) (xs.getD i 0) = rvL xs (i + 1) := by
  apply List.ext_getElem?
  intro p
  by_cases hp : p < xs.length
  · rw [List.getElem?_set, List.getElem?_set, rvL_at hp, rvL_at hp]
    by_cases h1 : xs.length - 1 - i = p
    · rw [if_pos h1, if_pos (by rw [List.length_set, rvL_len]; omega), if_pos (by omega)]
      congr 2
      omega
    · rw [if_neg h1]
      by_cases h2 : i = p
      · rw [if_pos h2, if_pos (by rw [rvL_len]; omega), if_pos (by omega)]
        congr 2
        omega
      · rw [if_neg h2]
        by_cases h3 : p < i ∨ xs.length - i ≤ p
        · rw [if_pos h3, if_pos (by omega)]
        · rw [if_neg h3, if_neg (by omega)]
  · rw [List.getElem?_eq_none (by rw [List.length_set, List.length_set, rvL_len]; omega), List.getElem?_eq_none (by rw [rvL_len]; omega)]
theorem rvL_all {xs : List Int} {i : Nat} (h : xs.length ≤ 2 * i + 1) : rvL xs i = xs.reverse := by
  apply List.ext_getElem?
  intro p
  by_cases hp : p < xs.length
  · rw [rvL_at hp, List.getElem?_reverse hp]
    have e : xs[xs.length - 1 - p]? = some (xs.getD (xs.length - 1 - p) 0) := by
      rw [List.getD_eq_getElem?_getD, List.getElem?_eq_getElem (by omega)]
      rfl
    rw [e]
    by_cases h3 : p < i ∨ xs.length - i ≤ p
    · rw [if_pos h3]
    · rw [if_neg h3, show xs.length - 1 - p = p by omega]
  · rw [List.getElem?_eq_none (by rw [rvL_len]; omega), List.getElem?_eq_none (by rw [List.length_reverse]; omega)]

set_option maxRecDepth 100000 in
set_option maxHeartbeats 1000000 in
/-- A list of the call's own, turned about in place. -/
theorem reverse_c (w : World) (B g n cp : Nat) (xs : List Int) (h : w.ownsRow B 3 1 (.slice (some ⟨g, 0, none⟩) n cp) n (xs.map (Value.int .i64))) (hn : n ≤ 1000000) :
    Calls Tryz.prog 93 #[.slice (some ⟨g, 0, none⟩) n cp] w fun e w' => e = .returned (.tuple #[]) ∧ w'.ownsRow B 3 1 (.slice (some ⟨g, 0, none⟩) n cp) n (xs.reverse.map (Value.int .i64)) ∧ Keeps (fun b => b = g) w w' := by
  have hl : xs.length = n := by simpa using h.1
  have HL := Lib.hid hl
  clear hl
  go_enter Tryz.func93, Tryz.ntmps93
  go_wp2_with fail
  go_loopw [2, 3] (fun iv jv wr => ∃ (i : Nat) (z : Int), i ≤ n ∧ 2 * i ≤ n ∧ iv = .int .i64 (i : Int) ∧ jv = .int .i64 z ∧ Hid (z = (n : Int) - 1 - (i : Int)) ∧ wr.ownsRow B 3 1 (.slice (some ⟨g, 0, none⟩) n cp) n ((rvL xs i).map (Value.int .i64)) ∧ Hid (Keeps (fun b => b = g) w wr)) (fun iv _ _ => n - (intOf iv).toNat)
  case atStart => exact ⟨0, _, Nat.zero_le _, Nat.zero_le _, rfl, rfl, Lib.hid (by simp), by rw [rvL_zero]; exact h, Lib.hid (Keeps.refl _ _)⟩
  case round =>
    clear h
    obtain ⟨i, z, hi, hi2, rfl, rfl, hz, hown, hK⟩ := hrel
    by_cases hlt : 2 * i + 1 < n
    · obtain ⟨j, hj⟩ : ∃ j, n - 1 - i = j := ⟨_, rfl⟩
      have hzj : z = (j : Int) := by have := hz.out; omega
      subst hzj
      have hij : i < j := by omega
      have hjn : j < n := by omega
      have hst := rvL_step (xs := xs) (i := i) (by rw [HL.out]; exact hlt)
      rw [HL.out, hj] at hst
      obtain ⟨a, ha⟩ : ∃ a, xs.getD i 0 = a := ⟨_, rfl⟩
      obtain ⟨b, hb⟩ : ∃ b, xs.getD j 0 = b := ⟨_, rfl⟩
      rw [ha, hb] at hst
      have ca : wr.cell? ⟨g, i, none⟩ = some (.int .i64 a) := by rw [hown.cellAt i (by omega), List.getElem?_map, rvL_at (by rw [HL.out]; omega), if_neg (by rw [HL.out]; omega), ha]; rfl
      have cb : wr.cell? ⟨g, j, none⟩ = some (.int .i64 b) := by rw [hown.cellAt j (by omega), List.getElem?_map, rvL_at (by rw [HL.out]; omega), if_neg (by rw [HL.out]; omega), hb]; rfl
      have fa := hown.frozenAt i
      have fb := hown.frozenAt j
      have o1 := (hown.stored i (.int .i64 b)).1
      have o2 := (o1.stored j (.int .i64 a)).1
      rw [← List.map_set, ← List.map_set, hst] at o2
      have cb1 : (wr.setCell ⟨g, i, none⟩ (.int .i64 b)).cell? ⟨g, j, none⟩ = some (.int .i64 b) := by
        rw [o1.cellAt j (by omega), List.getElem?_set_ne (by omega), List.getElem?_map, rvL_at (by rw [HL.out]; omega), if_neg (by rw [HL.out]; omega), hb]; rfl
      have fb1 := o1.frozenAt j
      have hk2 := (hK.out.trans (Keeps.of_setCell wr ⟨g, i, none⟩ (.int .i64 b)) (fun _ _ h => h)).trans (Keeps.of_setCell (wr.setCell ⟨g, i, none⟩ (.int .i64 b)) ⟨g, j, none⟩ (.int .i64 a)) (fun _ _ h => h)
      have HO := Lib.hid o2
      have HK := Lib.hid hk2
      have HZ := Lib.hid (show (j : Int) - 1 = (n : Int) - 1 - ((i + 1 : Nat) : Int) by omega)
      have hij' : (i : Int) < (j : Int) := by omega
      have hjn' : (j : Int) < (n : Int) := by omega
      have hin' : (i : Int) < (n : Int) := by omega
      have hi0 : (0 : Int) ≤ (i : Int) := by omega
      have hj0 : (0 : Int) ≤ (j : Int) := by omega
      clear hst ha hb o1 o2 hk2 hown hK hz hj
      go_wp2_with fail
      go_region
      go_wp2_with fail
      exact ⟨⟨i + 1, _, by omega, by omega, by go_num, rfl, HZ, HO.out, Lib.hid (HK.out.trans (Keeps.of_pure ((Below.refl _ _).drew) (fun b => b = g)) (fun _ _ h => h))⟩, by simp [intOf]; omega⟩
    · have hni : ¬ (i : Int) < z := by have := hz.out; omega
      rw [rvL_all (by rw [HL.out]; omega), List.map_reverse] at hown
      go_wp2_with fail
      first | go_end0 | refine bodyPost_ret (results_none rfl _ _ _) rfl ?_
      exact ⟨rfl, hown, hK.out⟩

end Go.Proofs.YtedmmmlahpmmoaaGreatDoor

namespace Go.Proofs.YtedmmmlahpmmoaaGreatDoor
open Go.RowKit Go.Shelf Go.Sort
def sortL_ren : Go.Shelf.Ren := ⟨fun | 5 => 45 | 8 => 61 | 7 => 60 | 19 => 85 | 20 => 86 | 10 => 76 | 11 => 77 | 12 => 78 | 13 => 79 | 14 => 80 | 15 => 81 | 16 => 82 | 17 => 83 | 18 => 84 | 30 => 97 | 31 => 98 | 32 => 99 | 33 => 100 | 34 => 101 | 35 => 102 | 40 => 108 | n => n, fun | 23 => 22 | 25 => 3 | 3 => 3 | 32 => 114 | 22 => 22 | 0 => 0 | 44 => 132 | 46 => 134 | 4 => 4 | 36 => 124 | 35 => 123 | 41 => 129 | 5 => 5 | 9 => 9 | 53 => 150 | 57 => 154 | 63 => 161 | 64 => 162 | n => n, fun | n => n⟩
theorem sortL : Go.Proofs.SlLaysM.n5 Tryz.prog sortL_ren := {
  mixed := by kernel_rfl
  f5 := ⟨Tryz.f45.name, by decide, Tryz.func45.trans (congrArg some (by kernel_rfl))⟩
  f7 := ⟨Tryz.f60.name, by decide, Tryz.func60.trans (congrArg some (by kernel_rfl))⟩
  f8 := Tryz.func61.trans (congrArg some (by kernel_rfl))
  f10 := ⟨Tryz.f76.name, by decide, Tryz.func76.trans (congrArg some (by kernel_rfl))⟩
  f11 := ⟨Tryz.f77.name, by decide, Tryz.func77.trans (congrArg some (by kernel_rfl))⟩
  f12 := ⟨Tryz.f78.name, by decide, Tryz.func78.trans (congrArg some (by kernel_rfl))⟩
  f13 := ⟨Tryz.f79.name, by decide, Tryz.func79.trans (congrArg some (by kernel_rfl))⟩
  f14 := ⟨Tryz.f80.name, by decide, Tryz.func80.trans (congrArg some (by kernel_rfl))⟩
  f15 := ⟨Tryz.f81.name, by decide, Tryz.func81.trans (congrArg some (by kernel_rfl))⟩
  f16 := ⟨Tryz.f82.name, by decide, Tryz.func82.trans (congrArg some (by kernel_rfl))⟩
  f17 := ⟨Tryz.f83.name, by decide, Tryz.func83.trans (congrArg some (by kernel_rfl))⟩
  f18 := ⟨Tryz.f84.name, by decide, Tryz.func84.trans (congrArg some (by kernel_rfl))⟩
  f19 := Tryz.func85.trans (congrArg some (by kernel_rfl))
  f20 := Tryz.func86.trans (congrArg some (by kernel_rfl))
  f30 := ⟨Tryz.f97.name, by decide, Tryz.func97.trans (congrArg some (by kernel_rfl))⟩
  f31 := Tryz.func98.trans (congrArg some (by kernel_rfl))
  f32 := Tryz.func99.trans (congrArg some (by kernel_rfl))
  f33 := ⟨Tryz.f100.name, by decide, Tryz.func100.trans (congrArg some (by kernel_rfl))⟩
  f34 := ⟨Tryz.f101.name, by decide, Tryz.func101.trans (congrArg some (by kernel_rfl))⟩
  f35 := ⟨Tryz.f102.name, by decide, Tryz.func102.trans (congrArg some (by kernel_rfl))⟩
  f40 := ⟨Tryz.f108.name, by decide, Tryz.func108.trans (congrArg some (by kernel_rfl))⟩
  t0 := Tryz.underlying0
  a0 := Tryz.isAgg0
  z0 := Tryz.sizeOf0
  v0 := Tryz.zeroValue0
  t3 := Tryz.underlying3
  a3 := Tryz.isAgg3
  z3 := Tryz.sizeOf3
  v3 := Tryz.zeroValue3
  t4 := Tryz.underlying4
  a4 := Tryz.isAgg4
  z4 := Tryz.sizeOf4
  v4 := Tryz.zeroValue4
  t5 := Tryz.underlying5
  a5 := Tryz.isAgg5
  z5 := Tryz.sizeOf5
  v5 := Tryz.zeroValue5
  t9 := Tryz.underlying9
  a9 := Tryz.isAgg9
  z9 := Tryz.sizeOf9
  v9 := Tryz.zeroValue9
  t22 := Tryz.underlying22
  a22 := Tryz.isAgg22
  z22 := Tryz.sizeOf22
  v22 := Tryz.zeroValue22
  t23 := Tryz.underlying22
  a23 := Tryz.isAgg22
  z23 := Tryz.sizeOf22
  v23 := Tryz.zeroValue22
  t25 := Tryz.underlying3
  a25 := Tryz.isAgg3
  z25 := Tryz.sizeOf3
  v25 := Tryz.zeroValue3
  t32 := Tryz.underlying114
  a32 := Tryz.isAgg114
  z32 := Tryz.sizeOf114
  v32 := Tryz.zeroValue114
  t35 := Tryz.underlying123
  a35 := Tryz.isAgg123
  z35 := Tryz.sizeOf123
  v35 := Tryz.zeroValue123
  t36 := Tryz.underlying124
  a36 := Tryz.isAgg124
  z36 := Tryz.sizeOf124
  v36 := Tryz.zeroValue124
  t41 := Tryz.underlying129
  a41 := Tryz.isAgg129
  z41 := Tryz.sizeOf129
  v41 := Tryz.zeroValue129
  t44 := Tryz.underlying132
  a44 := Tryz.isAgg132
  z44 := Tryz.sizeOf132
  v44 := Tryz.zeroValue132
  t46 := Tryz.underlying134
  a46 := Tryz.isAgg134
  z46 := Tryz.sizeOf134
  v46 := Tryz.zeroValue134
  t53 := Tryz.underlying150
  a53 := Tryz.isAgg150
  z53 := Tryz.sizeOf150
  v53 := Tryz.zeroValue150
  t57 := Tryz.underlying154
  a57 := Tryz.isAgg154
  z57 := Tryz.sizeOf154
  v57 := Tryz.zeroValue154
  t63 := Tryz.underlying161
  a63 := Tryz.isAgg161
  z63 := Tryz.sizeOf161
  v63 := Tryz.zeroValue161
  t64 := Tryz.underlying162
  a64 := Tryz.isAgg162
  z64 := Tryz.sizeOf162
  v64 := Tryz.zeroValue162 }
theorem sort_c (w : World) (blk off cap : Nat) (zs : List Int) (hH : Holds (Value.int .i64) w blk off zs.toArray) (hblk : blk < w.heap.size) (hsz : zs.length < 4611686018427387904) :
    Calls Tryz.prog 45 #[.slice (some ⟨blk, off, none⟩) zs.length cap] w fun e w' =>
      e = .returned (.tuple #[]) ∧ ∃ n os, w' = grow (putRow (Value.int .i64) (Sort.ahead w n) blk off (zs.mergeSort fun x y => decide (x ≤ y)).toArray) os := AnyM.slices_Sort_int sortL blk off cap zs w hH hblk hsz
theorem sortNil_c (w : World) (p : Option Addr) (cap : Nat) :
    Calls Tryz.prog 45 #[.slice p 0 cap] w fun e w' => e = .returned (.tuple #[]) ∧ w' = w := AnyM.slices_Sort_int_none sortL p cap w
end Go.Proofs.YtedmmmlahpmmoaaGreatDoor

namespace Go.Proofs.YtedmmmlahpmmoaaGreatDoor
open Go.RowKit Go.Shelf Go.Sort Go.Maps

attribute [local go_sem] Oper.semAt_some

set_option maxRecDepth 100000 in
set_option maxHeartbeats 2000000 in
theorem vals1_in (F : Fence) (n : Nat) (hf : F.fn 107) (hro : F.round = none) (hn : 1 ≤ n) (l Bs n₀ len cap : Nat) (ad : Addr) (zs : List Int) (hz : zs.length = len) (hlen : len * 8 ≤ 140737488351232) (hb : ad.block < n₀) (J Jx : List Int → World → Prop)
    (hY : ∀ pre x W, J pre W → pre.length < len → YieldAt F (n - 1) Tryz.prog l #[.int .i64 x] W fun e W' =>
      (e = .returned (.bool true) ∧ J (pre ++ [x]) W' ∧ Below n₀ W W') ∨ (e = .returned (.bool false) ∧ Jx (pre ++ [x]) W'))
    (W : World) (hBs : W.cell? ⟨Bs, 0, none⟩ = some (.slice (some ad) len cap)) (hc : ∀ j, j < len → W.cell? (ad.add j) = some (.int .i64 (zs[j]?.getD 0))) (h0 : J [] W) :
    CallsIn F n Tryz.prog 107 #[.func (.yield l) #[] #[], .pointer (some ⟨Bs, 0, none⟩)] W fun e W' => (∃ v, e = .returned v) ∧
      ((∃ ys, ys = zs ∧ J ys W') ∨ (∃ pre, True ∧ Jx pre W')) := by
  refine callsIn_of_wp Tryz.func107 rfl hf ?_ hro
  simp only [Tryz.ntmps107, List.size_toArray, List.length_cons, List.length_nil, Nat.reduceAdd, Nat.reduceSub, Array.replicate_succ, Array.replicate_zero, List.push_toArray, List.append_toArray, List.nil_append, List.cons_append]
  have HZ := Lib.hid hz
  clear hz
  gi_wp2
  gi_loopw [7] (fun i wr => ∃ k : Nat, k ≤ len ∧ i = .int .i64 k ∧ J (zs.take k) wr ∧ Below n₀ W wr)
    (fun i _ => len - (intOf i).toNat)
  case atStart => exact ⟨0, Nat.zero_le _, rfl, h0, Below.refl _ _⟩
  case round =>
    obtain ⟨k, hk, rfl, hJs, hnx⟩ := hrel
    by_cases hlt : k < len
    · have hcx : wr.cell? (ad.add k) = some (.int .i64 (zs[k]?.getD 0)) := (hnx.cell (p := ad.add k) (by rw [block_of_add]; exact hb)).trans (hc k hlt)
      have hx : zs.take (k + 1) = zs.take k ++ [zs[k]?.getD 0] := by
        rw [List.take_add_one]
        have : k < zs.length := by rw [HZ.out]; exact hlt
        rw [List.getElem?_eq_getElem this]
        rfl
      obtain ⟨fn, tmps, assign, body, hy, hR⟩ := hY _ (zs[k]?.getD 0) wr hJs (by rw [List.length_take, HZ.out]; omega)
      rw [← hx] at hR
      clear hx
      gi_wp2
      refine hR.mono ?_
      rintro e W3 (⟨rfl, hJ3, hk3⟩ | ⟨rfl, hJx3⟩)
      · gi_wp2
        go_roundw
        case rel => exact ⟨k + 1, by omega, by simp, hJ3, hnx.trans hk3⟩
        case measure => simp [intOf]; omega
      · gi_wp2
        refine bodyPost_ret (results_none rfl _ _ _) rfl ?_
        exact ⟨⟨_, rfl⟩, .inr ⟨_, trivial, hJx3⟩⟩
    · obtain rfl : k = len := by omega
      rw [List.take_of_length_le (by rw [HZ.out]; exact Nat.le_refl _)] at hJs
      gi_wp2
      go_end0
      exact ⟨⟨_, rfl⟩, .inl ⟨_, rfl, hJs⟩⟩

set_option maxRecDepth 100000 in
set_option maxHeartbeats 1000000 in
theorem vals_nil_in (F : Fence) (n : Nat) (hf : F.fn 107) (hro : F.round = none) (l Bs : Nat) (J : List Int → World → Prop) (W : World) (A : Option Addr) (cap : Nat) (hBs : W.cell? ⟨Bs, 0, none⟩ = some (.slice A 0 cap)) (h0 : J [] W) :
    CallsIn F n Tryz.prog 107 #[.func (.yield l) #[] #[], .pointer (some ⟨Bs, 0, none⟩)] W fun e W' => (∃ v, e = .returned v) ∧ J [] W' := by
  refine callsIn_of_wp Tryz.func107 rfl hf ?_ hro
  simp only [Tryz.ntmps107, List.size_toArray, List.length_cons, List.length_nil, Nat.reduceAdd, Nat.reduceSub, Array.replicate_succ, Array.replicate_zero, List.push_toArray, List.append_toArray, List.nil_append, List.cons_append]
  gi_wp2
  gi_loopw [7] (fun i wr => i = .int .i64 0 ∧ J [] wr) (fun _ _ => 0)
  case atStart => exact ⟨rfl, h0⟩
  case round =>
    obtain ⟨rfl, hJs⟩ := hrel
    gi_wp2
    go_end0
    exact ⟨⟨_, rfl⟩, hJs⟩

set_option maxHeartbeats 1000000 in
theorem values_in (F : Fence) (n : Nat) (hf : F.fn 92) (hro : F.round = none) (a : Option Addr) (len cap : Nat) (w : World) :
    CallsIn F n Tryz.prog 92 #[.slice a len cap] w fun e w' => e = .returned (.func (.func 107) #[] #[.pointer (some ⟨w.heap.size, 0, none⟩)]) ∧ w' = w.alloc (.cells #[.slice a len cap] 22) := by
  refine callsIn_of_wp Tryz.func92 rfl hf ?_ hro
  simp only [Tryz.ntmps92, List.size_toArray, List.length_cons, List.length_nil, Nat.reduceAdd, Nat.reduceSub, Array.replicate_succ, Array.replicate_zero, List.push_toArray, List.append_toArray, List.nil_append, List.cons_append]
  gi_wp2
  go_ret
  exact ⟨rfl, rfl⟩

/-- What slices.Values hands back gives all, in order. -/
theorem vals_stops (F : Fence) (n : Nat) (hf : F.fn 107) (hro : F.round = none) (hn : 1 ≤ n) (Bs : Nat) (A : Option Addr) (len cap : Nat) (zs : List Int) (w : World) (hz : Sl w A len (zs.map (Value.int .i64))) (hlen : len * 8 ≤ 140737488351232) (hBs : Bs < w.heap.size)
    (hc : w.cell? ⟨Bs, 0, none⟩ = some (.slice A len cap)) (n₀ : Nat) (hA : ∀ ad, A = some ad → 0 < len → ad.block < n₀) :
    SeqStopsK F n Tryz.prog 107 #[.pointer (some ⟨Bs, 0, none⟩)] (fun x : Int => #[Value.int .i64 x]) (Below n₀) (fun ys => ys = zs)
      (fun _ => True) zs.length w := fun l J Jx W hW _ _ hY h0 => by
  have hl : zs.length = len := by simpa using hz.1
  have hc' := (hW.cell (p := ⟨Bs, 0, none⟩) hBs).trans hc
  rcases Nat.eq_zero_or_pos len with h00 | h00
  · subst h00
    have hzs : zs = [] := List.eq_nil_of_length_eq_zero hl
    refine (vals_nil_in F n hf hro l Bs J W A cap hc' h0).mono fun e W' ⟨he, hj⟩ => ⟨he, .inl ⟨_, ?_, hj⟩⟩
    exact hzs.symm
  · obtain ⟨ad, x, rfl, hx⟩ := hz.int_ h00
    exact vals1_in F n hf hro hn l Bs n₀ len cap ad zs hl hlen (hA ad rfl h00) J Jx (by rw [hl] at hY; exact hY) W hc' (fun j hj => by
      obtain ⟨ad', y, e, hy, hcy⟩ := hz.int_ hj
      cases e
      rw [hy]
      exact (hW.cell (p := ad.add j) (World.block_lt_of_cell? _ _ hcy)).trans hcy) h0

theorem infoInt : (Tryz.prog.info? 3).map (fun i => (i.zero, i.size, i.bytes)) = some (some (.int .i64 0), 1, 8) := by kernel_rfl

set_option maxRecDepth 100000 in
set_option maxHeartbeats 2000000 in
theorem appendVals_in (n : Nat) (hn : 3 ≤ n) (w : World) (Bs : Nat) (A : Option Addr) (len cap : Nat) (zs : List Int) (hz : Sl w A len (zs.map (Value.int .i64))) (hlen : len * 8 ≤ 140737488351232) (hBs : Bs < w.heap.size)
    (hc : w.cell? ⟨Bs, 0, none⟩ = some (.slice A len cap)) :
    CallsIn Fence.wide n Tryz.prog 111 #[.slice none 0 0, .func (.func 107) #[] #[.pointer (some ⟨Bs, 0, none⟩)]] w fun e W' =>
      ∃ v, e = .returned v ∧ W'.ownsRow w.heap.size 3 1 v zs.length (zs.map (Value.int .i64)) ∧ Below w.heap.size w W' := by
  have hl : zs.length = len := by simpa using hz.1
  obtain ⟨i0, hi, hz0, hz1, hz2⟩ := info_parts infoInt
  refine callsIn_of_wp_marks Tryz.func111 rfl trivial ?_ rfl
  simp only [Tryz.ntmps111, List.size_toArray, List.length_cons, List.length_nil, Nat.reduceAdd, Nat.reduceSub, Array.replicate_succ, Array.replicate_zero, List.push_toArray, List.append_toArray, List.nil_append, List.cons_append]
  have hBs' : Bs < (w.alloc (.cells #[.slice none 0 0] 22)).heap.size := by simp; omega
  have hB0 : Below w.heap.size w (w.alloc (.cells #[.slice none 0 0] 22)) := (Below.refl _ w).alloc (Nat.le_refl _) _
  have hz' := hz.below hB0
  have hc' := (hB0.cell (p := ⟨Bs, 0, none⟩) hBs).trans hc
  have bO := Boxed.new w 22 (.slice none 0 0)
  have HLT := Lib.hid (fun (ad : Addr) (e : A = some ad) (h0 : 0 < len) => (show ad.block < w.heap.size by
      obtain ⟨ad', x, e', _, hcx⟩ := hz.int_ h0
      rw [e] at e'; cases e'
      have := World.block_lt_of_cell? _ _ hcx
      rwa [block_of_add] at this))
  clear hz hc
  gi_wp2
  refine wpIn_rangeFunc_ownG (F := Fence.wide) rfl (by omega) (gf := 107) (lb := #[.pointer (some ⟨Bs, 0, none⟩)]) rfl trivial (enters_of Tryz.func107 (by kernel_rfl) rfl)
    (vals_stops Fence.wide (n - 1) trivial rfl (by omega) Bs A len cap zs _ hz' hlen hBs' hc' w.heap.size HLT.out) belowK_t (belowK_b (by simp)) (Below.refl _ _) (fun _ => rfl)
    (fun (pre : List Int) W => (∃ v, Boxed W w.heap.size 22 v ∧ W.ownsRow w.heap.size 3 1 v pre.length (pre.map (Value.int .i64)) ∧ True) ∧ Below w.heap.size w W)
    (fun _ _ _ => False)
    (OwnFrom.and (Own.from (holdsRow_own w.heap.size w.heap.size 22 3 1 (fun (pre : List Int) => pre.length) (fun (pre : List Int) => pre.map (Value.int .i64)) (fun _ _ => True)) _) (ownFrom_below (Nat.le_refl _) (by simp)))
    (fun _ _ _ _ _ hs _ _ => hs)
    ⟨⟨_, bO, World.ownsRow_nil _ _ _ _, trivial⟩, hB0⟩
    (fun x => { tmps := #[.slice none 0 0, .func (.func 107) #[] #[.pointer (some ⟨Bs, 0, none⟩)], .pointer (some ⟨w.heap.size, 0, none⟩), undef, .slice none 0 0, .int .i64 x, .func (.func 107) #[] #[.pointer (some ⟨Bs, 0, none⟩)], .int .i64 x, undef, undef, undef, undef, undef], defers := [] }) ?assign ?body ?done ?stop
  case assign =>
    intro l x W K hK
    gi_wp2
    exact hK
  case body =>
    rintro l pre x W ⟨⟨v, hv, hrow, _⟩, hB⟩ hlt
    have hcc := hv.cell
    rw [hl] at hlt
    gi_wp2_with (gi_at_builtin; refine wpListIn_append_own _ rfl _ _ 22 rfl w.heap.size 3 i0 (.int .i64 0) 1 8 Tryz.underlying22 hi hz0 hz1 hz2 rfl (by decide) _ _ _ rfl (hrow.alloc _) ⟨W.heap.size, 0, none⟩ 1 1 [.int .i64 x] rfl rfl (cell_one_new _ _ _) (by simp [Value.oneCell']) (by simp only [maxLen]; omega) (by omega) (by have := hB.size; simp; omega) ?_; intro v' w1 hown' hgrow _; obtain ⟨g', cap', rfl⟩ := ownsRow_succ hown'; obtain ⟨hv1, hv2, hr2, hk2, hb2⟩ := hv.appended (by decide) hrow hB.size (Nat.le_refl _) hown' hgrow; have hc1 := hv1.cell; have hf1 := hv1.frozen)
    exact ⟨hk2.from _, hb2, ⟨_, hv2, by simpa using hr2, trivial⟩, hB.trans hb2⟩
  case done =>
    rintro D ys W hD rfl ⟨⟨v, hv, hrow, _⟩, hB⟩ hK
    have hcc := hv.cell
    gi_wp2
    refine ⟨by simp, .inl ⟨_, _, rfl, run_takeDeferred hK, ?_⟩⟩
    exact ⟨_, results_tmp rfl _ _ _, v, rfl, ownsRow_putObj hrow _ hK rfl, hB.trans (belowK_b (w := w) (Nat.le_refl _) W D _ _ (by simp at hD; omega) hK rfl rfl)⟩
  case stop =>
    rintro D c pre W _ _ h _
    exact h.elim

set_option maxRecDepth 100000 in
set_option maxHeartbeats 2000000 in
theorem sortedVals_c (w : World) (Bs : Nat) (A : Option Addr) (len cap : Nat) (zs : List Int) (hz : Sl w A len (zs.map (Value.int .i64))) (hlen : len * 8 ≤ 140737488351232) (hBs : Bs < w.heap.size)
    (hc : w.cell? ⟨Bs, 0, none⟩ = some (.slice A len cap)) :
    Calls Tryz.prog 91 #[.func (.func 107) #[] #[.pointer (some ⟨Bs, 0, none⟩)]] w fun e W' =>
      ∃ C cc, e = .returned (.slice C len cc) ∧ W'.ownsRow w.heap.size 3 1 (.slice C len cc) len ((zs.mergeSort fun x y => decide (x ≤ y)).map (Value.int .i64)) ∧ Below w.heap.size w W' := by
  have hl : zs.length = len := by simpa using hz.1
  have hA := appendVals_in 3 (Nat.le_refl _) w Bs A len cap zs hz hlen hBs hc
  have hC : Calls Tryz.prog 106 #[.func (.func 107) #[] #[.pointer (some ⟨Bs, 0, none⟩)]] w fun e W' =>
      ∃ v, e = .returned v ∧ W'.ownsRow w.heap.size 3 1 v zs.length (zs.map (Value.int .i64)) ∧ Below w.heap.size w W' := by
    have HA := Lib.hid (callsIn_wide.1 hA)
    clear hz hc
    go_enter Tryz.func106, Tryz.ntmps106
    go_wp2_with fail
    refine (HA.out).mono ?_
    rintro e W' ⟨v, rfl, ho, hb⟩
    go_wp2_with fail
    go_ret
    exact ⟨_, rfl, ho, hb⟩
  have HC := Lib.hid hC
  clear hA hC hz hc
  go_enter Tryz.func91, Tryz.ntmps91
  go_wp2_with fail
  refine (HC.out).mono ?_
  rintro e W ⟨v, rfl, hrow, hb⟩
  rcases hrow.2 with ⟨rfl, hz0⟩ | ⟨gb, cap2, cur, rfl, hbase, hgb, r1, r2, r3, r4⟩
  · have hss : zs = [] := List.eq_nil_of_length_eq_zero hz0
    subst hss
    obtain rfl : len = 0 := hl.symm
    have HN := Lib.hid (sortNil_c W none 0)
    have HR := Lib.hid hrow
    clear hrow hz0 hl
    go_wp2_with fail
    refine (HN.out).mono ?_
    rintro e w' ⟨rfl, rfl⟩
    go_wp2_with fail
    go_ret
    exact ⟨none, 0, rfl, by have h := HR.out; rw [List.mergeSort_nil]; exact h, hb⟩
  · have hH : Holds (Value.int .i64) W gb 0 zs.toArray := holds_of_blockI hgb (by simpa using r4)
    have hgl : gb < W.heap.size := (Array.getElem?_eq_some_iff.1 hgb).1
    have HN := Lib.hid (sort_c W gb 0 cap2 zs hH hgl (by omega))
    have HF := Lib.hid (⟨hbase, hgb, r1, r2, r3⟩ : _ ∧ _ ∧ _ ∧ _ ∧ _)
    have HL := Lib.hid hl
    clear hrow hbase hgb r1 r2 r3 r4 hH hl
    go_wp2_with fail
    refine (HN.out).mono ?_
    rintro e w' ⟨rfl, nn, os, rfl⟩
    go_wp2_with fail
    go_ret
    have hbase := HF.out.1
    have ho := ownsRow_sortedI (ts := zs.mergeSort fun x y => decide (x ≤ y)) (n := nn) (os := os) (List.length_mergeSort _) HF.out.1 HF.out.2.1 HF.out.2.2.1 HF.out.2.2.2.1 HF.out.2.2.2.2
    rw [HL.out] at ho
    rw [HL.out]
    exact ⟨_, _, rfl, ho, hb.grown (grownBy_sortedI _) hb.size (fun j hj => by cases hj; exact hbase)⟩
end Go.Proofs.YtedmmmlahpmmoaaGreatDoor
