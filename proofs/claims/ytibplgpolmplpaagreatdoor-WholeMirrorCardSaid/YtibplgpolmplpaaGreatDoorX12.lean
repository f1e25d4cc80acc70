/- What a rule's table says of a window: forms.symbol; and the closures that forms.made calls. Condition: the tables and the window read from memory. slices.Equal and slices.Reverse of numbers; the closures that read a window from its end and that lay noughts outside. Condition: the lists read from memory. Rules out of rules: forms.wrong, check, widened, behind, inner. Condition: the tables read from memory; the error variables hold what E says. Rules out of rules: forms.Widen, Mirror, Compose, Shift of any input. Condition: the tables read from memory; the error variables hold what E says. The rule with the radius 1 at least: pairs.working. Condition: the table reads from memory; the error variables hold what E says. What a bag answers to any call, and how the document's sets (rising lists) lie beside the program's (words of bits): plain lists, no program. No condition. -/
import Derived.Laws.CopyOwn
import Derived.Test.YtibplgpolmplpaaGreatDoorX2
import Derived.Test.YtibplgpolmplpaaGreatDoorX3
import Derived.Test.YtibplgpolmplpaaGreatDoorX4
import Derived.Test.YtibplgpolmplpaaGreatDoorX6
import Derived.Test.YtibplgpolmplpaaGreatDoorX7
import Derived.Test.YtibplgpolmplpaaGreatDoorX11
namespace Go.Proofs.YtibplgpolmplpaaGreatDoor
open Go.RowKit RuleP

set_option maxRecDepth 100000 in
set_option maxHeartbeats 1000000 in
theorem symbol_c (w : World) (k r : Nat) (A B : Option Addr) (n c m d : Nat) (t v : List Nat) (hr : IsRule k r t) (hv : ∀ x ∈ v, x < k) (hvl : v.length = 2 * r + 1) (hT : Sl w A n ((ints t).map (Value.int .i64))) (hW : Sl w B m ((ints v).map (Value.int .i64))) :
    Calls Tryz.prog 66 #[ruleV k r A n c, .slice B m d] w fun e w' => e = .returned (.int .i64 ((sy k t v : Nat) : Int)) ∧ Below w.heap.size w w' := by
  have hl : v.length = m := by simpa [ints] using hW.1
  have hlt : t.length = n := by simpa [ints] using hT.1
  have hn := hr.le
  have hk1 := hr.k1
  have hk4 := hr.k4
  have hr3 := hr.r3
  rw [hlt] at hn
  have hb0 := (Below.refl w.heap.size w).alloc (Nat.le_refl _) (.cells #[.int .i64 (k : Int), .int .i64 (r : Int), .slice A n c] 24)
  have hT1 := hT.below hb0
  have hW1 := hW.below hb0
  have hwl := wval_lt hv
  rw [hvl, ← hr.len, hlt] at hwl
  obtain ⟨Y, hY⟩ : ∃ Y, sy k t v = Y := ⟨_, rfl⟩
  rw [hY]
  have hY' : t.getD (wval k v) 0 = Y := hY
  have HY := Lib.hid hY'
  clear hY hY'
  have HL := Lib.hid hl
  have HV := Lib.hid hv
  have hm7 : m ≤ 7 := by omega
  have HB := Lib.hid hb0
  clear hl hlt hr hv hvl hT hW
  rw [ints_map] at hT1 hW1
  unfold ruleV at *
  go_enter Tryz.func66, Tryz.ntmps66
  go_wp2_with fail
  go_loop [5, 10] (fun nv i => ∃ j : Nat, j ≤ m ∧ i = .int .i64 (j : Int) ∧ nv = .int .i64 ((wval k (v.take j) : Nat) : Int)) (fun _ i => m - (intOf i).toNat)
  case atStart => exact ⟨0, Nat.zero_le _, rfl, by simp [wval_nil]⟩
  case round =>
    obtain ⟨j, hj, rfl, rfl⟩ := hrel
    by_cases hlt : j < m
    · obtain ⟨adw, x, rfl, hxj, hcx⟩ := hW1.word_ hlt
      have hxk : x < k := HV.out x (List.mem_of_getElem? hxj)
      have hs : wval k (v.take (j + 1)) = wval k (v.take j) * k + x := by
        rw [List.take_add_one, hxj]; exact wval_snoc _ _ _
      have hle : wval k (v.take (j + 1)) ≤ 16384 := by
        have h1 := wval_lt (k := k) (w := v.take (j + 1)) (fun y hy => HV.out y (List.mem_of_mem_take hy))
        have h2 : k ^ (v.take (j + 1)).length ≤ 4 ^ 7 := Nat.le_trans (Nat.pow_le_pow_left hk4 _) (Nat.pow_le_pow_right (by decide) (by rw [List.length_take]; omega))
        have h3 : 4 ^ 7 = 16384 := by decide
        omega
      obtain ⟨ρ, hρ⟩ : ∃ ρ, wval k (v.take j) = ρ := ⟨_, rfl⟩
      obtain ⟨σ, hσ⟩ : ∃ σ, wval k (v.take (j + 1)) = σ := ⟨_, rfl⟩
      rw [hρ, hσ] at hs
      rw [hσ] at hle
      rw [hρ]
      have hQ : (ρ : Int) * (k : Int) = ((ρ * k : Nat) : Int) := by simp
      obtain ⟨Q, hQQ⟩ : ∃ Q, ρ * k = Q := ⟨_, rfl⟩
      rw [hQQ] at hQ hs
      have hQl : Q ≤ 16384 := by omega
      have hsum : Hid ((Q : Int) + (x : Int) = (σ : Int)) := Lib.hid (by omega)
      have HS := Lib.hid hσ
      clear hs hρ hσ hQQ hxj
      go_wp2_with fail
      exact ⟨⟨j + 1, by omega, by go_num, by rw [HS.out, ← hsum.out]⟩, by simp [intOf]; omega⟩
    · obtain rfl : j = m := by omega
      have htk : v.take j = v := List.take_of_length_le (by rw [HL.out]; exact Nat.le_refl _)
      rw [htk]
      obtain ⟨adt, y, rfl, hyt, hcy⟩ := hT1.word_ hwl
      have hget : Hid (Y = y) := Lib.hid (by rw [← HY.out, List.getD_eq_getElem?_getD, hyt]; rfl)
      obtain ⟨ρ, hρ⟩ : ∃ ρ, wval k v = ρ := ⟨_, rfl⟩
      rw [hρ] at hwl hcy ⊢
      clear htk hyt hρ
      go_wp2_with fail
      go_ret
      exact ⟨by rw [hget.out]; rfl, HB.out⟩

/-- A part of a window in memory. -/
theorem sl_win {w : World} {g n : Nat} {v : List Nat} (h : Sl w (some ⟨g, 0, none⟩) n ((ints v).map (Value.int .i64))) {i m : Nat} (hi : i + m ≤ n) : Sl w (some ⟨g, i, none⟩) m ((ints (win v i m)).map (Value.int .i64)) := by
  have hl : v.length = n := by simpa [ints] using h.1
  refine ⟨by rw [List.length_map, ints_len, win_len (by omega)], fun j u hj => ?_⟩
  have e : ((ints (win v i m)).map (Value.int .i64)) = (((ints v).map (Value.int .i64)).drop i).take m := by simp [win, ints, List.map_drop, List.map_take]
  rw [e] at hj
  have hc := sl_part h hi _ rfl j u hj
  refine ⟨_, rfl, ?_⟩
  have e2 : ((⟨g, 0, none⟩ : Addr).add i).add j = (⟨g, i, none⟩ : Addr).add j := by
    congr 1
    by_cases h0 : i = 0
    · subst h0; rfl
    · simp [Addr.add, h0]
  rw [e2] at hc
  exact hc

theorem addr_add (g i : Nat) : (⟨g, 0, none⟩ : Addr).add i = ⟨g, i, none⟩ := by
  by_cases h : i = 0
  · subst h; rfl
  · simp [Addr.add, h]
set_option maxRecDepth 100000 in
set_option maxHeartbeats 1000000 in
theorem widened1_c (w : World) (g gr gd k r d : Nat) (A : Option Addr) (n c : Nat) (t v : List Nat) (hr : IsRule k r t) (hd3 : r + d ≤ 3) (hv : ∀ x ∈ v, x < k) (hT : Sl w A n ((ints t).map (Value.int .i64))) (hR : RuleAt w gr (.int .i64 (k : Int)) (.int .i64 (r : Int)) (.slice A n c)) (hd : w.cell? ⟨gd, 0, none⟩ = some (.int .i64 (d : Int)))
    (hV : Sl w (some ⟨g, 0, none⟩) (2 * (r + d) + 1) ((ints v).map (Value.int .i64))) :
    Calls Tryz.prog 149 #[.slice (some ⟨g, 0, none⟩) (2 * (r + d) + 1) (2 * (r + d) + 1), .pointer (some ⟨gr, 0, none⟩), .pointer (some ⟨gd, 0, none⟩)] w fun e w' => e = .returned (.int .i64 ((sy k t (win v d (2 * r + 1)) : Nat) : Int)) ∧ Below w.heap.size w w' := by
  have hvl : v.length = 2 * (r + d) + 1 := by simpa [ints] using hV.1
  have hwl : (win v d (2 * r + 1)).length = 2 * r + 1 := win_len (by omega)
  have hsw := sl_win hV (show d + (2 * r + 1) ≤ 2 * (r + d) + 1 by omega)
  have hsy := symbol_c w.drew k r A (some ⟨g, d, none⟩) n c (2 * r + 1) (2 * (r + d) + 1 - d) t (win v d (2 * r + 1)) hr (win_sym hv _ _) hwl hT hsw
  clear hvl hwl hsw
  obtain ⟨L, hL⟩ : ∃ L, 2 * (r + d) + 1 = L := ⟨_, rfl⟩
  obtain ⟨m, hm⟩ : ∃ m, 2 * r + 1 = m := ⟨_, rfl⟩
  obtain ⟨H, hH⟩ : ∃ H, L - d = H := ⟨_, rfl⟩
  rw [hL, hm] at hsy
  rw [hL, hm]
  have hmh : m = H - d := by omega
  rw [hmh] at hsy
  obtain ⟨Y, hY⟩ : ∃ Y, sy k t (win v d m) = Y := ⟨_, rfl⟩
  rw [hmh] at hY
  rw [hmh, hY]
  rw [hY] at hsy
  unfold ruleV at hsy
  have HS := Lib.hid hsy
  have hn1 : ¬ L = d := by omega
  have s0 : (0 : Int) ≤ (d : Int) := by omega
  have s1 : IntKind.i64.wrap ((L : Int) - (d : Int)) = (H : Int) := by rw [IntWalk.i64_in _ (by omega)]; omega
  have s2 : (d : Int) ≤ (H : Int) := by omega
  have s3 : (H : Int) ≤ (L : Int) := by omega
  obtain ⟨r0, r1, r2, _⟩ := hR.facts
  clear hsy hY hL hm hH hmh hV hT hR hr hv
  go_enter Tryz.func149, Tryz.ntmps149
  go_wp2_with fail
  go_region_held3 (fun w' => w'.cell? ⟨gr, 0, none⟩ = some (.int .i64 (k : Int)) ∧ w'.cell? ⟨gr, 1, none⟩ = some (.int .i64 (r : Int)) ∧ w'.cell? ⟨gr, 2, none⟩ = some (.slice A n c) ∧ w'.cell? ⟨gd, 0, none⟩ = some (.int .i64 (d : Int)))
    (first | go_keep)
    (first
      | (go_at_call 66
         refine (HS.out).mono ?_
         rintro e w2 ⟨rfl, hb2⟩
         have x0 := cell_later hb2 r0
         have x1 := cell_later hb2 r1
         have x2 := cell_later hb2 r2
         have x3 := cell_later hb2 hd))
  go_wp2_with fail
  go_ret
  exact ⟨rfl, (Below.refl w.heap.size w).drew.trans hb2⟩

end Go.Proofs.YtibplgpolmplpaaGreatDoor

namespace Go.Proofs.YtibplgpolmplpaaGreatDoor
open Go.RowKit RuleP

/-- The outer i places on both sides turned about. -/
def rvL (xs : List Int) (i : Nat) : List Int := (List.range xs.length).map fun p => if p < i ∨ xs.length - i ≤ p then xs.getD (xs.length - 1 - p) 0 else xs.getD p 0
theorem rvL_len (xs : List Int) (i : Nat) : (rvL xs i).length = xs.length := by simp [rvL]
theorem rvL_at {xs : List Int} {i p : Nat} (h : p < xs.length) : (rvL xs i)[p]? = some (if p < i ∨ xs.length - i ≤ p then xs.getD (xs.length - 1 - p) 0 else xs.getD p 0) := by
  unfold rvL
  rw [List.getElem?_map, List.getElem?_range h]
  rfl
theorem rvL_zero (xs : List Int) : rvL xs 0 = xs := by
  apply List.ext_getElem?
  intro p
  by_cases hp : p < xs.length
  · rw [rvL_at hp, if_neg (by omega), List.getD_eq_getElem?_getD, List.getElem?_eq_getElem hp]
    rfl
  · rw [List.getElem?_eq_none (by rw [rvL_len]; omega), List.getElem?_eq_none (by omega)]
theorem rvL_step {xs : List Int} {i : Nat} (h : 2 * i + 1 < xs.length) : ((rvL xs i).set i (xs.getD (xs.length - 1 - i) 0)).set (xs.length - 1 - i) (xs.getD i 0) = rvL xs (i + 1) := by
  apply List.ext_getElem?
  intro p
  by_cases hp : p < xs.length
  · rw [List.getElem?_set, List.getElem?_set, rvL_at hp, rvL_at hp]
    by_cases h1 : xs.length - 1 - i = p
    · rw [if_pos h1, if_pos (by rw [List.length_set, rvL_len]; omega), if_pos (by omega)]
      congr 2
      omega
    · rw [if_neg h1]
      by_cases h2 : i = p
      · rw [if_pos h2, if_pos (by rw [rvL_len]; omega), if_pos (by omega)]
        congr 2
        omega
      · rw [if_neg h2]
        by_cases h3 : p < i ∨ xs.length - i ≤ p
        · rw [if_pos h3, if_pos (by omega)]
        · rw [if_neg h3, if_neg (by omega)]
  · rw [List.getElem?_eq_none (by rw [List.length_set, List.length_set, rvL_len]; omega), List.getElem?_eq_none (by rw [rvL_len]; omega)]
theorem rvL_all {xs : List Int} {i : Nat} (h : xs.length ≤ 2 * i + 1) : rvL xs i = xs.reverse := by
  apply List.ext_getElem?
  intro p
  by_cases hp : p < xs.length
  · rw [rvL_at hp, List.getElem?_reverse hp]
    have e : xs[xs.length - 1 - p]? = some (xs.getD (xs.length - 1 - p) 0) := by
      rw [List.getD_eq_getElem?_getD, List.getElem?_eq_getElem (by omega)]
      rfl
    rw [e]
    by_cases h3 : p < i ∨ xs.length - i ≤ p
    · rw [if_pos h3]
    · rw [if_neg h3, show xs.length - 1 - p = p by omega]
  · rw [List.getElem?_eq_none (by rw [rvL_len]; omega), List.getElem?_eq_none (by rw [List.length_reverse]; omega)]

set_option maxRecDepth 100000 in
set_option maxHeartbeats 1000000 in
/-- A list of the call's own, turned about in place. -/
theorem reverse_c (w : World) (B g n cp : Nat) (xs : List Int) (h : w.ownsRow B 3 1 (.slice (some ⟨g, 0, none⟩) n cp) n (xs.map (Value.int .i64))) (hn : n ≤ 1000000) :
    Calls Tryz.prog 65 #[.slice (some ⟨g, 0, none⟩) n cp] w fun e w' => e = .returned (.tuple #[]) ∧ w'.ownsRow B 3 1 (.slice (some ⟨g, 0, none⟩) n cp) n (xs.reverse.map (Value.int .i64)) ∧ Keeps (fun b => b = g) w w' := by
  have hl : xs.length = n := by simpa using h.1
  have HL := Lib.hid hl
  clear hl
  go_enter Tryz.func65, Tryz.ntmps65
  go_wp2_with fail
  go_loopw [2, 3] (fun iv jv wr => ∃ (i : Nat) (z : Int), i ≤ n ∧ 2 * i ≤ n ∧ iv = .int .i64 (i : Int) ∧ jv = .int .i64 z ∧ Hid (z = (n : Int) - 1 - (i : Int)) ∧ wr.ownsRow B 3 1 (.slice (some ⟨g, 0, none⟩) n cp) n ((rvL xs i).map (Value.int .i64)) ∧ Hid (Keeps (fun b => b = g) w wr)) (fun iv _ _ => n - (intOf iv).toNat)
  case atStart => exact ⟨0, _, Nat.zero_le _, Nat.zero_le _, rfl, rfl, Lib.hid (by simp), by rw [rvL_zero]; exact h, Lib.hid (Keeps.refl _ _)⟩
  case round =>
    clear h
    obtain ⟨i, z, hi, hi2, rfl, rfl, hz, hown, hK⟩ := hrel
    by_cases hlt : 2 * i + 1 < n
    · obtain ⟨j, hj⟩ : ∃ j, n - 1 - i = j := ⟨_, rfl⟩
      have hzj : z = (j : Int) := by have := hz.out; omega
      subst hzj
      have hij : i < j := by omega
      have hjn : j < n := by omega
      have hst := rvL_step (xs := xs) (i := i) (by rw [HL.out]; exact hlt)
      rw [HL.out, hj] at hst
      obtain ⟨a, ha⟩ : ∃ a, xs.getD i 0 = a := ⟨_, rfl⟩
      obtain ⟨b, hb⟩ : ∃ b, xs.getD j 0 = b := ⟨_, rfl⟩
      rw [ha, hb] at hst
      have ca : wr.cell? ⟨g, i, none⟩ = some (.int .i64 a) := by rw [hown.cellAt i (by omega), List.getElem?_map, rvL_at (by rw [HL.out]; omega), if_neg (by rw [HL.out]; omega), ha]; rfl
      have cb : wr.cell? ⟨g, j, none⟩ = some (.int .i64 b) := by rw [hown.cellAt j (by omega), List.getElem?_map, rvL_at (by rw [HL.out]; omega), if_neg (by rw [HL.out]; omega), hb]; rfl
      have fa := hown.frozenAt i
      have fb := hown.frozenAt j
      have o1 := (hown.stored i (.int .i64 b)).1
      have o2 := (o1.stored j (.int .i64 a)).1
      rw [← List.map_set, ← List.map_set, hst] at o2
      have cb1 : (wr.setCell ⟨g, i, none⟩ (.int .i64 b)).cell? ⟨g, j, none⟩ = some (.int .i64 b) := by
        rw [o1.cellAt j (by omega), List.getElem?_set_ne (by omega), List.getElem?_map, rvL_at (by rw [HL.out]; omega), if_neg (by rw [HL.out]; omega), hb]; rfl
      have fb1 := o1.frozenAt j
      have hk2 := (hK.out.trans (Keeps.of_setCell wr ⟨g, i, none⟩ (.int .i64 b)) (fun _ _ h => h)).trans (Keeps.of_setCell (wr.setCell ⟨g, i, none⟩ (.int .i64 b)) ⟨g, j, none⟩ (.int .i64 a)) (fun _ _ h => h)
      have HO := Lib.hid o2
      have HK := Lib.hid hk2
      have HZ := Lib.hid (show (j : Int) - 1 = (n : Int) - 1 - ((i + 1 : Nat) : Int) by omega)
      have hij' : (i : Int) < (j : Int) := by omega
      have hjn' : (j : Int) < (n : Int) := by omega
      have hin' : (i : Int) < (n : Int) := by omega
      have hi0 : (0 : Int) ≤ (i : Int) := by omega
      have hj0 : (0 : Int) ≤ (j : Int) := by omega
      clear hst ha hb o1 o2 hk2 hown hK hz hj
      go_wp2_with fail
      go_region
      go_wp2_with fail
      exact ⟨⟨i + 1, _, by omega, by omega, by go_num, rfl, HZ, HO.out, Lib.hid (HK.out.trans (Keeps.of_pure ((Below.refl _ _).drew) (fun b => b = g)) (fun _ _ h => h))⟩, by simp [intOf]; omega⟩
    · have hni : ¬ (i : Int) < z := by have := hz.out; omega
      rw [rvL_all (by rw [HL.out]; omega), List.map_reverse] at hown
      go_wp2_with fail
      first | go_end0 | refine bodyPost_ret (results_none rfl _ _ _) rfl ?_
      exact ⟨rfl, hown, hK.out⟩

set_option maxRecDepth 100000 in
theorem mirror1_c (w : World) (g gr k r : Nat) (A : Option Addr) (n c : Nat) (t v : List Nat) (hr : IsRule k r t) (hv : ∀ x ∈ v, x < k) (hT : Sl w A n ((ints t).map (Value.int .i64))) (hR : RuleAt w gr (.int .i64 (k : Int)) (.int .i64 (r : Int)) (.slice A n c))
    (hV : Sl w (some ⟨g, 0, none⟩) (2 * r + 1) ((ints v).map (Value.int .i64))) :
    Calls Tryz.prog 63 #[.slice (some ⟨g, 0, none⟩) (2 * r + 1) (2 * r + 1), .pointer (some ⟨gr, 0, none⟩)] w fun e w' => e = .returned (.int .i64 ((sy k t v.reverse : Nat) : Int)) ∧ Below w.heap.size w w' := by
  have hvl : v.length = 2 * r + 1 := by simpa [ints] using hV.1
  have h3 := hr.r3
  have HCL := Lib.hid (clone_c w (some ⟨g, 0, none⟩) (2 * r + 1) (2 * r + 1) _ (ints_one (q := .i64) (ints v)) (by omega) hV)
  have HSY := Lib.hid (fun (wz : World) (hz : Below w.heap.size w wz) (C : Option Addr) (cc : Nat) (hC : Sl wz C (2 * r + 1) ((ints v.reverse).map (Value.int .i64))) => symbol_c wz k r A C n c (2 * r + 1) cc t v.reverse hr (rev_sym hv) (by rw [List.length_reverse, hvl]) (hT.below hz) hC)
  have HRA := Lib.hid (fun (wz : World) (hz : Below w.heap.size w wz) => (hR.below hz hR.lt).facts)
  have HRE := Lib.hid (show (ints v).reverse = ints v.reverse by simp [ints])
  obtain ⟨L, hL⟩ : ∃ L, 2 * r + 1 = L := ⟨_, rfl⟩
  have hL1 : 0 < L := by omega
  have hL7 : L ≤ 7 := by omega
  rw [hL] at HCL HSY
  rw [hL]
  unfold ruleV at HSY
  clear hL hvl hT hR hr hV hv
  go_enter Tryz.func63, Tryz.ntmps63
  go_wp2_with fail
  refine (HCL.out).mono ?_
  rintro e w1 ⟨C, cc, rfl, hC, hb1⟩
  obtain ⟨g1, hg1⟩ : ∃ g1, C = some ⟨g1, 0, none⟩ := by
    rcases hC.2 with ⟨h, _⟩ | ⟨g1, cap, cur, h, _⟩
    · injection h with _ h _
      omega
    · injection h with h _ _
      exact ⟨g1, h⟩
  subst hg1
  have HRV := Lib.hid (reverse_c w1 w.heap.size g1 L cc (ints v) hC (by omega))
  have HB1 := Lib.hid hb1
  have HGE := Lib.hid (hC.lt g1 rfl).1
  clear hb1 hC
  go_wp2_with fail
  refine (HRV.out).mono ?_
  rintro e w2 ⟨rfl, hC2, hk2⟩
  rw [HRE.out] at hC2
  have HB2 := Lib.hid (HB1.out.trans (hk2.below HB1.out.size (fun b hb => by rw [show b = g1 from hb]; exact HGE.out)))
  have HS2 := Lib.hid (HSY.out w2 HB2.out (some ⟨g1, 0, none⟩) cc (Sl.of_own hC2))
  obtain ⟨r0, r1, r2, _⟩ := HRA.out w2 HB2.out
  clear hC2 hk2
  go_wp2_with fail
  refine (HS2.out).mono ?_
  rintro e w3 ⟨rfl, hb3⟩
  have HB3 := Lib.hid (pure_trans HB2.out hb3)
  clear hb3
  go_wp2_with fail
  go_ret
  exact ⟨rfl, HB3.out⟩
end Go.Proofs.YtibplgpolmplpaaGreatDoor

namespace Go.Proofs.YtibplgpolmplpaaGreatDoor
open Go.RowKit RuleP

def sForms : ByteArray := ⟨#[102, 111, 114, 109, 115]⟩
theorem formsWrong_c (w : World) (E : Nat → Addr) (hE : Errs w E) (at' : Int) (n : Nat) (h1 : 1 ≤ n) (h2 : n ≤ 11) :
    Calls Tryz.prog 69 #[.int .i64 at', .int .i64 (n : Int)] w fun e w' => e = .returned (errV w.heap.size) ∧ ErrIs w' E n [(sForms, at')] (errV w.heap.size) ∧ Below w.heap.size w w' := by
  have HE := Lib.hid hE
  clear hE
  go_enter Tryz.func69, Tryz.ntmps69
  go_wp2_with fail
  refine (new_c w E HE.out sForms at' n h1 h2).mono ?_
  rintro e w' ⟨rfl, rfl⟩
  go_wp2_with fail
  go_ret
  exact ⟨rfl, ⟨w.heap.size, _, rfl, heap_new _ _, rfl⟩, (Below.refl _ _).alloc (Nat.le_refl _) _⟩
/-- What forms tells of what is no rule. -/
def checkF (at' K R : Int) (T : List Int) : Option Tale := under sForms at' (check K R T)
theorem checkF_rule {k r : Nat} {t : List Nat} (at' : Int) (h : IsRule k r t) : checkF at' k r (ints t) = none := by
  unfold checkF
  rw [check_rule h]
  rfl
set_option maxRecDepth 100000 in
theorem formsCheck_c (w : World) (E : Nat → Addr) (hE : Errs w E) (at' K R : Int) (A : Option Addr) (n c : Nat) (T : List Int) (hT : Sl w A n (T.map (Value.int .i64))) (hm : n ≤ 9223372036854775807) :
    Calls Tryz.prog 61 #[.int .i64 at', ruleV K R A n c] w fun e w' => ∃ v, e = .returned v ∧ ErrV w' E (checkF at' K R T) v ∧ Below w.heap.size w w' := by
  have hb0 := (Below.refl w.heap.size w).alloc (Nat.le_refl _) (.cells #[.int .i64 K, .int .i64 R, .slice A n c] 24)
  have HS := Lib.hid (check_c _ E (hE.below hb0) K R A n c T (hT.below hb0) hm)
  have HB := Lib.hid hb0
  clear hb0 hT hE
  unfold ruleV at *
  go_enter Tryz.func61, Tryz.ntmps61
  go_wp2_with fail
  refine (HS.out).mono ?_
  rintro e w1 ⟨v, rfl, he, hb⟩
  have HU := Lib.hid (under_c w1 E sForms at' _ v he)
  have HB1 := Lib.hid (below_box hb)
  clear he hb
  go_wp2_with fail
  refine (HU.out).mono ?_
  rintro e w2 ⟨v', rfl, he, hb⟩
  have HE := Lib.hid he
  have HB2 := Lib.hid (HB1.out.trans (hb.mono HB1.out.size))
  clear he hb
  go_wp2_with fail
  go_ret
  exact ⟨_, rfl, HE.out, HB2.out⟩

/-- The answer is a rule whose table is new memory. -/
def NewRule (w : World) (k r : Nat) (t : List Nat) (e : Ending) (w' : World) : Prop :=
  ∃ g N, e = .returned (ruleV (k : Int) (r : Int) (some ⟨g, 0, none⟩) N N) ∧ w'.ownsRow w.heap.size 3 1 (.slice (some ⟨g, 0, none⟩) N N) N ((ints t).map (Value.int .i64)) ∧ Below w.heap.size w w'

set_option maxRecDepth 100000 in
set_option maxHeartbeats 1000000 in
theorem widened_c (w : World) (k r d q : Nat) (hq : r + d = q) (A : Option Addr) (n c : Nat) (t : List Nat) (hr : IsRule k r t) (h3 : q ≤ 3) (hT : Sl w A n ((ints t).map (Value.int .i64))) :
    Calls Tryz.prog 135 #[ruleV k r A n c, .int .i64 (q : Int)] w (NewRule w k q (wide k r d t)) := by
  have hb1 := (Below.refl w.heap.size w).alloc (Nat.le_refl _) (.cells #[.int .i64 (k : Int), .int .i64 (r : Int), .slice A n c] 24)
  have hb2 := hb1.alloc (by simp) (.cells #[.int .i64 0, .int .i64 0, .slice none 0 0] 24)
  have hb3 := hb2.alloc (by simp; omega) (.cells #[.int .i64 (d : Int)] 3)
  have hr1 := ((RuleAt.new w (.int .i64 (k : Int)) (.int .i64 (r : Int)) (.slice A n c)).alloc (.cells #[.int .i64 0, .int .i64 0, .slice none 0 0] 24)).alloc (.cells #[.int .i64 (d : Int)] 3)
  have hr2 := (RuleAt.new (w.alloc (.cells #[.int .i64 (k : Int), .int .i64 (r : Int), .slice A n c] 24)) (.int .i64 0) (.int .i64 0) (.slice none 0 0)).alloc (.cells #[.int .i64 (d : Int)] 3)
  have hd3 := heap_new ((w.alloc (.cells #[.int .i64 (k : Int), .int .i64 (r : Int), .slice A n c] 24)).alloc (.cells #[.int .i64 0, .int .i64 0, .slice none 0 0] 24)) (.cells #[.int .i64 (d : Int)] 3)
  simp only [World.size_alloc] at hr2 hd3
  obtain ⟨W, hW⟩ : ∃ W, ((w.alloc (.cells #[.int .i64 (k : Int), .int .i64 (r : Int), .slice A n c] 24)).alloc (.cells #[.int .i64 0, .int .i64 0, .slice none 0 0] 24)).alloc (.cells #[.int .i64 (d : Int)] 3) = W := ⟨_, rfl⟩
  have hWs : W.heap.size = w.heap.size + 3 := by rw [← hW]; simp
  rw [hW] at hr1 hr2 hb3
  have hd3' : W.heap[w.heap.size + 1 + 1]? = some (.cells #[.int .i64 (d : Int)] 3 (0, 0)) := by rw [← hW]; exact hd3
  have hmd := made2_c W k q 149 (.pointer (some ⟨w.heap.size, 0, none⟩)) (.pointer (some ⟨w.heap.size + 1 + 1, 0, none⟩)) (fun v => sy k t (win v d (2 * r + 1))) hr.k1 hr.k4 h3
    (fun v wz => run_enter Tryz.func149 (by kernel_rfl) (by kernel_rfl) _ _)
    (fun wz hz g v hl hs hV => by
      subst hq
      exact widened1_c wz g w.heap.size (w.heap.size + 1 + 1) k r d A n c t v hr h3 hs (hT.below (hb3.trans (hz.mono hb3.size))) (hr1.below hz (by omega)) (by
        have := (hz.block (w.heap.size + 1 + 1) (by omega)).trans hd3'
        rw [cell_of_row wz _ _ _ _ _ this]; rfl) hV)
  have HMD := Lib.hid hmd
  have hqr : (q : Int) - (r : Int) = (d : Int) := by omega
  have HQ := Lib.hid hq
  have HB3 := Lib.hid hb3
  have HR2 := Lib.hid hr2
  have HW := Lib.hid hW
  have HWS := Lib.hid hWs
  have hr3 := hr.r3
  clear hmd hb1 hb2 hb3 hr1 hr2 hd3 hd3' hW hWs hT hr hq
  unfold ruleV
  go_enter Tryz.func135, Tryz.ntmps135
  go_wp2_with fail
  rw [HW.out]
  refine (HMD.out).mono ?_
  rintro e w4 ⟨g, rfl, hT4, hb4⟩
  obtain ⟨N, hN⟩ : ∃ N, k ^ (2 * q + 1) = N := ⟨_, rfl⟩
  rw [hN] at hT4
  rw [hN]
  have hr4 := HR2.out.below hb4 (by rw [HWS.out]; omega)
  obtain ⟨d0, d1, d2, f0, f1, f2⟩ := hr4.facts
  have HR4 := Lib.hid (hr4.set3 (.int .i64 (k : Int)) (.int .i64 (q : Int)) (.slice (some ⟨g, 0, none⟩) N N))
  have hge := (hT4.lt g rfl).1
  rw [HWS.out] at hge
  have HT4 := Lib.hid (own_base (own_keeps hT4 (keeps_set3 w4 (w.heap.size + 1) (.int .i64 (k : Int)) (.int .i64 (q : Int)) (.slice (some ⟨g, 0, none⟩) N N)) (fun g' hg h => by simp [Value.ownBlock] at hg; rw [show g' = w.heap.size + 1 from h] at hg; omega)) (show w.heap.size ≤ W.heap.size by rw [HWS.out]; omega))
  have HB4 := Lib.hid (below_set3 (HB3.out.trans (hb4.mono HB3.out.size)) (show w.heap.size ≤ w.heap.size + 1 by omega) (.int .i64 (k : Int)) (.int .i64 (q : Int)) (.slice (some ⟨g, 0, none⟩) N N))
  have HWD := Lib.hid (show tab k (2 * q + 1) (fun v => sy k t (win v d (2 * r + 1))) = wide k r d t by rw [← HQ.out]; rfl)
  rw [HWD.out] at HT4
  unfold ruleV
  clear hT4 hb4 hr4 hN hge
  go_wp2_with fail
  obtain ⟨d0, d1, d2, f0, f1, f2⟩ := HR4.out.facts
  exact bodyPost_ret (v := .agg #[.int .i64 (k : Int), .int .i64 (q : Int), .slice (some ⟨g, 0, none⟩) N N]) (by simp [results, Tryz.results135, go_sem, d0, d1, d2]) rfl ⟨g, N, rfl, HT4.out, HB4.out⟩

end Go.Proofs.YtibplgpolmplpaaGreatDoor

namespace Go.Proofs.YtibplgpolmplpaaGreatDoor
open Go.RowKit RuleP

/-- The answer is a rule whose table is new memory, and an error or none. -/
def RuleRes (w : World) (E : Nat → Addr) (K R : Int) (T : List Int) (tl : Option Tale) (e : Ending) (w' : World) : Prop :=
  ∃ (C : Option Addr) (N cc : Nat) (v : Value), e = .returned (.tuple #[ruleV K R C N cc, v]) ∧ w'.ownsRow w.heap.size 3 1 (.slice C N cc) N (T.map (Value.int .i64)) ∧ ErrV w' E tl v ∧ Below w.heap.size w w'

/-- Behind the store of no rule beside an error. -/
theorem res_err {w0 w1 : World} {E : Nat → Addr} {g : Nat} {tl : Tale} {v x0 x1 x2 : Value} (hR : RuleAt w1 g x0 x1 x2) (he : ErrIs w1 E tl.1 tl.2 v) (hb : Below w0.heap.size w0 w1) (hg : w0.heap.size ≤ g) :
    RuleAt (((w1.setCell ⟨g, 0, none⟩ (.int .i64 0)).setCell ⟨g, 1, none⟩ (.int .i64 0)).setCell ⟨g, 2, none⟩ (.slice none 0 0)) g (.int .i64 0) (.int .i64 0) (.slice none 0 0) ∧
    RuleRes w0 E 0 0 [] (some tl) (.returned (.tuple #[ruleV 0 0 none 0 0, v])) (((w1.setCell ⟨g, 0, none⟩ (.int .i64 0)).setCell ⟨g, 1, none⟩ (.int .i64 0)).setCell ⟨g, 2, none⟩ (.slice none 0 0)) :=
  ⟨hR.set3 _ _ _, none, 0, 0, v, rfl, ⟨rfl, .inl ⟨rfl, rfl⟩⟩, ErrIs.set3 he hR _ _ _, below_set3 hb hg _ _ _⟩
/-- Behind the store of a rule. -/
theorem res_new {w0 w1 : World} {E : Nat → Addr} {B g gt N : Nat} {K R : Int} {T : List Int} {x0 x1 x2 : Value} (hR : RuleAt w1 g x0 x1 x2) (hT : w1.ownsRow B 3 1 (.slice (some ⟨gt, 0, none⟩) N N) N (T.map (Value.int .i64))) (hb : Below w0.heap.size w0 w1) (hg : w0.heap.size ≤ g) (hB : w0.heap.size ≤ B) :
    RuleAt (((w1.setCell ⟨g, 0, none⟩ (.int .i64 K)).setCell ⟨g, 1, none⟩ (.int .i64 R)).setCell ⟨g, 2, none⟩ (.slice (some ⟨gt, 0, none⟩) N N)) g (.int .i64 K) (.int .i64 R) (.slice (some ⟨gt, 0, none⟩) N N) ∧
    RuleRes w0 E K R T none (.returned (.tuple #[ruleV K R (some ⟨gt, 0, none⟩) N N, .nilIface])) (((w1.setCell ⟨g, 0, none⟩ (.int .i64 K)).setCell ⟨g, 1, none⟩ (.int .i64 R)).setCell ⟨g, 2, none⟩ (.slice (some ⟨gt, 0, none⟩) N N)) :=
  ⟨hR.set3 _ _ _, _, N, N, .nilIface, rfl, own_base (own_set3 hT hR (by decide) _ _ _) hB, rfl, below_set3 hb hg _ _ _⟩

set_option maxRecDepth 100000 in
set_option maxHeartbeats 1000000 in
theorem widen_good (w : World) (E : Nat → Addr) (hE : Errs w E) (k r : Nat) (A : Option Addr) (n c : Nat) (t : List Nat) (hr : IsRule k r t) (hT : Sl w A n ((ints t).map (Value.int .i64))) (d q : Nat) (hq : r + d = q) (h3 : q ≤ 3) :
    Calls Tryz.prog 124 #[ruleV k r A n c, .int .i64 (q : Int)] w (RuleRes w E k q (ints (wide k r d t)) none) := by
  have hn : t.length = n := by simpa [ints] using hT.1
  have hn16 := hr.le
  rw [hn] at hn16
  have hbW := (((Below.refl w.heap.size w).alloc (Nat.le_refl _) (.cells #[.int .i64 (k : Int), .int .i64 (r : Int), .slice A n c] 24)).alloc (by simp) (.cells #[.int .i64 0, .int .i64 0, .slice none 0 0] 24))
  have hr0 := ((RuleAt.new (w) (.int .i64 (k : Int)) (.int .i64 (r : Int)) (.slice A n c)).alloc (.cells #[.int .i64 0, .int .i64 0, .slice none 0 0] 24))
  have hr1 := (RuleAt.new (w.alloc (.cells #[.int .i64 (k : Int), .int .i64 (r : Int), .slice A n c] 24)) (.int .i64 0) (.int .i64 0) (.slice none 0 0))
  simp only [World.size_alloc] at hr1
  obtain ⟨W, hW⟩ : ∃ W, (w.alloc (.cells #[.int .i64 (k : Int), .int .i64 (r : Int), .slice A n c] 24)).alloc (.cells #[.int .i64 0, .int .i64 0, .slice none 0 0] 24) = W := ⟨_, rfl⟩
  have hWs : W.heap.size = w.heap.size + 2 := by rw [← hW]; simp
  rw [hW] at hbW hr0 hr1
  have HR0 := Lib.hid hr0
  obtain ⟨a0, b0, c0, _⟩ := hr0.facts
  have HR1 := Lib.hid hr1
  obtain ⟨a1, b1, c1, _⟩ := hr1.facts
  have HW := Lib.hid hW
  have HWS := Lib.hid hWs
  have HBW := Lib.hid hbW
  have hck := formsCheck_c W E (hE.below HBW.out) 0 (k : Int) (r : Int) A n c (ints t) (hT.below HBW.out) (by omega)
  rw [checkF_rule 0 hr] at hck
  have HC1 := Lib.hid hck
  have HTT := Lib.hid (fun (wz : World) (hz : Below W.heap.size W wz) => hT.below (HBW.out.trans (hz.mono HBW.out.size)))
  have HEE := Lib.hid (fun (wz : World) (hz : Below W.heap.size W wz) => hE.below (HBW.out.trans (hz.mono HBW.out.size)))
  have HRU := Lib.hid hr
  have hr3 := hr.r3
  clear hr0 hr1 hW hWs hbW hT hE hck hn hr
  unfold ruleV at *
  go_enter Tryz.func124, Tryz.ntmps124
  go_wp2_with fail
  rw [HW.out]
  refine (HC1.out).mono ?_
  rintro e w1 ⟨v1, rfl, he1, hb1⟩
  have he1' : v1 = .nilIface := he1
  clear he1
  subst he1'
  obtain ⟨a0, b0, c0, _⟩ := (HR0.out.below hb1 HR0.out.lt).facts
  have HWD := Lib.hid (widened_c w1 k r d q hq A n c t HRU.out h3 (HTT.out w1 hb1))
  have hq1 : (r : Int) ≤ (q : Int) := by omega
  have hq2 : (q : Int) ≤ 3 := by omega
  unfold ruleV at HWD
  clear hq h3
  go_wp2_with fail
  refine (HWD.out).mono ?_
  rintro e w2 ⟨g, N, rfl, hT2, hb2'⟩
  have hb2 := pure_trans hb1 hb2'
  have hge := Nat.le_trans HBW.out.size hb1.size
  clear hb2'
  have hrx := HR1.out.below hb2 HR1.out.lt
  obtain ⟨hRA, hRS⟩ := res_new (E := E) (K := (k : Int)) (R := (q : Int)) hrx hT2 (HBW.out.trans (hb2.mono HBW.out.size)) (show w.heap.size ≤ w.heap.size + 1 by omega) hge
  have HRA := Lib.hid hRA
  have HRS := Lib.hid hRS
  obtain ⟨d0, d1, d2, f0, f1, f2⟩ := hrx.facts
  clear hRA hRS hrx hT2
  unfold ruleV
  go_wp2_with fail
  obtain ⟨d0, d1, d2, _⟩ := HRA.out.facts
  exact bodyPost_ret (v := .tuple #[.agg #[.int .i64 (k : Int), .int .i64 (q : Int), .slice (some ⟨g, 0, none⟩) N N], .nilIface]) (by simp [results, Tryz.results124, go_sem, d0, d1, d2]) rfl HRS.out
set_option maxRecDepth 100000 in
set_option maxHeartbeats 1000000 in
theorem mirror_good (w : World) (E : Nat → Addr) (hE : Errs w E) (k r : Nat) (A : Option Addr) (n c : Nat) (t : List Nat) (hr : IsRule k r t) (hT : Sl w A n ((ints t).map (Value.int .i64))) :
    Calls Tryz.prog 22 #[ruleV k r A n c] w (RuleRes w E k r (ints (mir k r t)) none) := by
  have hn : t.length = n := by simpa [ints] using hT.1
  have hn16 := hr.le
  rw [hn] at hn16
  have hbW := (((Below.refl w.heap.size w).alloc (Nat.le_refl _) (.cells #[.int .i64 (k : Int), .int .i64 (r : Int), .slice A n c] 24)).alloc (by simp) (.cells #[.int .i64 0, .int .i64 0, .slice none 0 0] 24))
  have hr0 := ((RuleAt.new (w) (.int .i64 (k : Int)) (.int .i64 (r : Int)) (.slice A n c)).alloc (.cells #[.int .i64 0, .int .i64 0, .slice none 0 0] 24))
  have hr1 := (RuleAt.new (w.alloc (.cells #[.int .i64 (k : Int), .int .i64 (r : Int), .slice A n c] 24)) (.int .i64 0) (.int .i64 0) (.slice none 0 0))
  simp only [World.size_alloc] at hr1
  obtain ⟨W, hW⟩ : ∃ W, (w.alloc (.cells #[.int .i64 (k : Int), .int .i64 (r : Int), .slice A n c] 24)).alloc (.cells #[.int .i64 0, .int .i64 0, .slice none 0 0] 24) = W := ⟨_, rfl⟩
  have hWs : W.heap.size = w.heap.size + 2 := by rw [← hW]; simp
  rw [hW] at hbW hr0 hr1
  have HR0 := Lib.hid hr0
  obtain ⟨a0, b0, c0, _⟩ := hr0.facts
  have HR1 := Lib.hid hr1
  obtain ⟨a1, b1, c1, _⟩ := hr1.facts
  have HW := Lib.hid hW
  have HWS := Lib.hid hWs
  have HBW := Lib.hid hbW
  have hck := formsCheck_c W E (hE.below HBW.out) 0 (k : Int) (r : Int) A n c (ints t) (hT.below HBW.out) (by omega)
  rw [checkF_rule 0 hr] at hck
  have HC1 := Lib.hid hck
  have HTT := Lib.hid (fun (wz : World) (hz : Below W.heap.size W wz) => hT.below (HBW.out.trans (hz.mono HBW.out.size)))
  have HEE := Lib.hid (fun (wz : World) (hz : Below W.heap.size W wz) => hE.below (HBW.out.trans (hz.mono HBW.out.size)))
  have HRU := Lib.hid hr
  have hr3 := hr.r3
  clear hr0 hr1 hW hWs hbW hT hE hck hn hr
  unfold ruleV at *
  go_enter Tryz.func22, Tryz.ntmps22
  go_wp2_with fail
  rw [HW.out]
  refine (HC1.out).mono ?_
  rintro e w1 ⟨v1, rfl, he1, hb1⟩
  have he1' : v1 = .nilIface := he1
  clear he1
  subst he1'
  obtain ⟨a0, b0, c0, _⟩ := (HR0.out.below hb1 HR0.out.lt).facts
  have hmd := made1_c w1 k r 63 (.pointer (some ⟨w.heap.size, 0, none⟩)) (fun v => sy k t v.reverse) HRU.out.k1 HRU.out.k4 HRU.out.r3
    (fun v wz => run_enter Tryz.func63 (by kernel_rfl) (by kernel_rfl) _ _)
    (fun wz hz g v hl hs hV => mirror1_c wz g w.heap.size k r A n c t v HRU.out hs (HTT.out wz (pure_trans hb1 hz)) (HR0.out.below (pure_trans hb1 hz) HR0.out.lt) hV)
  have HMD := Lib.hid hmd
  clear hmd
  go_wp2_with fail
  refine (HMD.out).mono ?_
  rintro e w2 ⟨g, rfl, hT2, hb2'⟩
  obtain ⟨N, hN⟩ : ∃ N, k ^ (2 * r + 1) = N := ⟨_, rfl⟩
  rw [hN] at hT2
  rw [hN]
  rw [show tab k (2 * r + 1) (fun v => sy k t v.reverse) = mir k r t from rfl] at hT2
  have hb2 := pure_trans hb1 hb2'
  have hge := Nat.le_trans HBW.out.size hb1.size
  clear hb2' hN
  have hrx := HR1.out.below hb2 HR1.out.lt
  obtain ⟨hRA, hRS⟩ := res_new (E := E) (K := (k : Int)) (R := (r : Int)) hrx hT2 (HBW.out.trans (hb2.mono HBW.out.size)) (show w.heap.size ≤ w.heap.size + 1 by omega) hge
  have HRA := Lib.hid hRA
  have HRS := Lib.hid hRS
  obtain ⟨d0, d1, d2, f0, f1, f2⟩ := hrx.facts
  clear hRA hRS hrx hT2
  unfold ruleV
  go_wp2_with fail
  obtain ⟨d0, d1, d2, _⟩ := HRA.out.facts
  exact bodyPost_ret (v := .tuple #[.agg #[.int .i64 (k : Int), .int .i64 (r : Int), .slice (some ⟨g, 0, none⟩) N N], .nilIface]) (by simp [results, Tryz.results22, go_sem, d0, d1, d2]) rfl HRS.out
end Go.Proofs.YtibplgpolmplpaaGreatDoor

namespace Go.Proofs.YtibplgpolmplpaaGreatDoor
open Go.RowKit RuleP

/-- The rule that pairs works with. -/
def workR (r : Nat) : Nat := if r = 0 then 1 else r
def workT (k r : Nat) (t : List Nat) : List Nat := if r = 0 then wide k 0 1 t else t
theorem work_rule {k r : Nat} {t : List Nat} (hr : IsRule k r t) (h : t.length ≤ 256) : IsRule k (workR r) (workT k r t) ∧ (workT k r t).length ≤ 256 ∧ 0 < workR r := by
  unfold workR workT
  by_cases h0 : r = 0
  · subst h0
    rw [if_pos rfl, if_pos rfl]
    have h1 := wide_rule (d := 1) hr (by decide)
    refine ⟨h1, ?_, by decide⟩
    rw [h1.len]
    exact Nat.le_trans (Nat.pow_le_pow_left hr.k4 _) (by decide)
  · rw [if_neg h0, if_neg h0]
    exact ⟨hr, h, by omega⟩
/-- A rule that reads from memory, and no error. -/
def WorkRes (w : World) (k r : Nat) (t : List Nat) (e : Ending) (w' : World) : Prop :=
  ∃ (C : Option Addr) (n c : Nat), e = .returned (.tuple #[ruleV (k : Int) (r : Int) C n c, .nilIface]) ∧ Sl w' C n ((ints t).map (Value.int .i64)) ∧ Below w.heap.size w w'

set_option maxRecDepth 100000 in
set_option maxHeartbeats 1000000 in
theorem working_c (w : World) (E : Nat → Addr) (hE : Errs w E) (k r : Nat) (A : Option Addr) (n c : Nat) (t : List Nat) (hT : Sl w A n ((ints t).map (Value.int .i64))) (hr : IsRule k r t) (h256 : t.length ≤ 256) :
    Calls Tryz.prog 98 #[ruleV (k : Int) (r : Int) A n c] w (WorkRes w k (workR r) (workT k r t)) := by
  have hn : t.length = n := by simpa [ints] using hT.1
  have hb2 := ((Below.refl w.heap.size w).alloc (Nat.le_refl _) (.cells #[.int .i64 (k : Int), .int .i64 (r : Int), .slice A n c] 24)).alloc (by simp) (.cells #[.int .i64 0, .int .i64 0, .slice none 0 0] 24)
  have hr2 := (RuleAt.new w (.int .i64 (k : Int)) (.int .i64 (r : Int)) (.slice A n c)).alloc (.cells #[.int .i64 0, .int .i64 0, .slice none 0 0] 24)
  have hz2 := RuleAt.new (w.alloc (.cells #[.int .i64 (k : Int), .int .i64 (r : Int), .slice A n c] 24)) (.int .i64 0) (.int .i64 0) (.slice none 0 0)
  rw [World.size_alloc] at hz2
  obtain ⟨r0, r1, r2, _⟩ := hr2.facts
  obtain ⟨w2, hw2⟩ : ∃ w2, (w.alloc (.cells #[.int .i64 (k : Int), .int .i64 (r : Int), .slice A n c] 24)).alloc (.cells #[.int .i64 0, .int .i64 0, .slice none 0 0] 24) = w2 := ⟨_, rfl⟩
  rw [hw2] at hb2 hr2 hz2
  have hsm := small_c w2 E (hE.below hb2) (k : Int) (r : Int) A n c (ints t) (hT.below hb2) (by omega)
  rw [small_rule hr h256] at hsm
  have HS := Lib.hid hsm
  have HW2 := Lib.hid hw2
  have HB2 := Lib.hid hb2
  have HR2 := Lib.hid hr2
  have HZ2 := Lib.hid hz2
  have HT := Lib.hid (fun (wz : World) (hz : Below w.heap.size w wz) => hT.below hz)
  have HWI := Lib.hid (fun (wz : World) (hz : Below w.heap.size w wz) (h0 : r = 0) => widen_good wz E (hE.below hz) k r A n c t hr (hT.below hz) 1 1 (by omega) (by decide))
  clear hw2 hb2 hr2 hz2 hE hT hsm hr
  unfold ruleV at HS ⊢
  by_cases h0 : r = 0
  · have e1 : workR r = 1 := by unfold workR; rw [if_pos h0]
    have e2 : workT k r t = wide k 0 1 t := by unfold workT; rw [if_pos h0]
    rw [e1, e2]
    have HH0 := Lib.hid h0
    clear e1 e2 h0
    go_enter Tryz.func98, Tryz.ntmps98
    go_wp2_with fail
    rw [HW2.out]
    refine (HS.out).mono ?_
    rintro e w3 ⟨v, rfl, rfl, hb⟩
    have hr3 := HR2.out.below hb HR2.out.lt
    obtain ⟨r0, r1, r2, _⟩ := hr3.facts
    have hb3 := HB2.out.trans (hb.mono HB2.out.size)
    have hwi := HWI.out w3 hb3 HH0.out
    have HZ3 := Lib.hid (HZ2.out.below hb HZ2.out.lt)
    have HB3 := Lib.hid hb3
    obtain rfl := HH0.out
    unfold ruleV at hwi
    have HWX := Lib.hid hwi
    clear hb3 hwi hb hr3 HH0
    go_wp2_with fail
    refine (HWX.out).mono ?_
    rintro e w4 ⟨C, N, cc, v, rfl, ho, rfl, hb⟩
    unfold ruleV
    have hz4 := HZ3.out.below hb HZ3.out.lt
    obtain ⟨d0, d1, d2, f0, f1, f2⟩ := hz4.facts
    have hb4 := HB3.out.trans (hb.mono HB3.out.size)
    have hzz := hz4.set3 (.int .i64 (k : Int)) (.int .i64 1) (.slice C N cc)
    have HZZ := Lib.hid hzz
    have HO := Lib.hid (Sl.of_own (own_set3 ho hz4 (by decide) (.int .i64 (k : Int)) (.int .i64 1) (.slice C N cc)))
    have HBX := Lib.hid (below_set3 hb4 (show w.heap.size ≤ w.heap.size + 1 by omega) (.int .i64 (k : Int)) (.int .i64 1) (.slice C N cc))
    clear hz4 hb4 hzz ho hb HWX
    go_wp2_with fail
    obtain ⟨d0, d1, d2, _⟩ := HZZ.out.facts
    exact bodyPost_ret (v := .tuple #[.agg #[.int .i64 (k : Int), .int .i64 1, .slice C N cc], .nilIface]) (by simp [results, Tryz.results98, go_sem, d0, d1, d2]) rfl ⟨C, N, cc, rfl, HO.out, HBX.out⟩
  · have e1 : workR r = r := by unfold workR; rw [if_neg h0]
    have e2 : workT k r t = t := by unfold workT; rw [if_neg h0]
    rw [e1, e2]
    have h0' : ¬ (r : Int) = 0 := by omega
    clear e1 e2 h0 HWI
    go_enter Tryz.func98, Tryz.ntmps98
    go_wp2_with fail
    rw [HW2.out]
    refine (HS.out).mono ?_
    rintro e w3 ⟨v, rfl, rfl, hb⟩
    have hr3 := HR2.out.below hb HR2.out.lt
    have hz3 := HZ2.out.below hb HZ2.out.lt
    obtain ⟨r0, r1, r2, _⟩ := hr3.facts
    obtain ⟨d0, d1, d2, f0, f1, f2⟩ := hz3.facts
    have hb3 := HB2.out.trans (hb.mono HB2.out.size)
    have hbx := below_set3 hb3 (show w.heap.size ≤ w.heap.size + 1 by omega) (.int .i64 (k : Int)) (.int .i64 (r : Int)) (.slice A n c)
    have HT3 := Lib.hid (HT.out _ hbx)
    have HZZ := Lib.hid (hz3.set3 (.int .i64 (k : Int)) (.int .i64 (r : Int)) (.slice A n c))
    have HBX := Lib.hid hbx
    clear hr3 hz3 hb3 hbx hb
    go_wp2_with fail
    obtain ⟨d0, d1, d2, _⟩ := HZZ.out.facts
    exact bodyPost_ret (v := .tuple #[.agg #[.int .i64 (k : Int), .int .i64 (r : Int), .slice A n c], .nilIface]) (by simp [results, Tryz.results98, go_sem, d0, d1, d2]) rfl ⟨A, n, c, rfl, HT3.out, HBX.out⟩
end Go.Proofs.YtibplgpolmplpaaGreatDoor

namespace Go.Proofs.YtibplgpolmplpaaGreatDoor
open BagP RuleP
namespace BagR

/-- Of the first i numbers those that differ from the one ahead. -/
def dedTo (l : List Int) : Nat → List Int
  | 0 => []
  | i + 1 => dedTo l i ++ if i = 0 ∨ l.getD i 0 ≠ l.getD (i - 1) 0 then [l.getD i 0] else []
theorem dedTo_succ (l : List Int) (i : Nat) : dedTo l (i + 1) = dedTo l i ++ if i = 0 ∨ l.getD i 0 ≠ l.getD (i - 1) 0 then [l.getD i 0] else [] := rfl
theorem dedTo_len (l : List Int) : ∀ i, (dedTo l i).length ≤ i
  | 0 => Nat.le_refl _
  | i + 1 => by
    rw [dedTo_succ, List.length_append]
    have := dedTo_len l i
    split <;> simp <;> omega
theorem getD_in {l : List Int} {i : Nat} (h : i < l.length) : l[i]? = some (l.getD i 0) := by rw [List.getD_eq_getElem?_getD, List.getElem?_eq_getElem h]; rfl
theorem dedTo_mem {l : List Int} : ∀ {i : Nat}, i ≤ l.length → ∀ x, x ∈ dedTo l i ↔ x ∈ l.take i
  | 0, _, x => by simp [dedTo]
  | i + 1, h, x => by
    rw [dedTo_succ, List.take_add_one, getD_in (by omega), List.mem_append, List.mem_append, dedTo_mem (by omega)]
    by_cases hc : i = 0 ∨ l.getD i 0 ≠ l.getD (i - 1) 0
    · rw [if_pos hc]; simp
    · rw [if_neg hc]
      have h1 : l.getD i 0 = l.getD (i - 1) 0 := Classical.not_not.1 (fun e => hc (.inr e))
      have h0 : 0 < i := Nat.pos_of_ne_zero (fun e => hc (.inl e))
      have hm : l.getD (i - 1) 0 ∈ l.take i := List.mem_take_iff_getElem.2 ⟨i - 1, by omega, by rw [List.getD_eq_getElem?_getD, List.getElem?_eq_getElem (by omega)]; rfl⟩
      constructor
      · rintro (h | h)
        · exact .inl h
        · simp at h
      · rintro (h | h)
        · exact .inl h
        · have e : x = l.getD i 0 := by simpa using h
          rw [e, h1]
          exact .inl hm
theorem dedTo_rise {l : List Int} (hs : l.Pairwise (· ≤ ·)) : ∀ {i : Nat}, i ≤ l.length → (dedTo l i).Pairwise (· < ·) ∧ ∀ x ∈ dedTo l i, 0 < i → x ≤ l.getD (i - 1) 0
  | 0, _ => ⟨List.Pairwise.nil, fun x hx => by simp [dedTo] at hx⟩
  | i + 1, h => by
    obtain ⟨h1, h2⟩ := dedTo_rise hs (i := i) (by omega)
    have hle : ∀ j, j < i → l.getD j 0 ≤ l.getD i 0 := fun j hj => by
      have := List.pairwise_iff_getElem.1 hs j i (by omega) (by omega) hj
      rw [List.getD_eq_getElem?_getD, List.getD_eq_getElem?_getD, List.getElem?_eq_getElem (by omega), List.getElem?_eq_getElem (by omega)]
      exact this
    have hmx : ∀ x ∈ dedTo l i, x ≤ l.getD i 0 := fun x hx => by
      rcases Nat.eq_zero_or_pos i with rfl | h0
      · simp [dedTo] at hx
      · exact Int.le_trans (h2 x hx h0) (hle (i - 1) (by omega))
    rw [dedTo_succ]
    by_cases hc : i = 0 ∨ l.getD i 0 ≠ l.getD (i - 1) 0
    · rw [if_pos hc]
      refine ⟨List.pairwise_append.2 ⟨h1, List.pairwise_singleton .., fun x hx y hy => ?_⟩, fun x hx _ => ?_⟩
      · rw [List.mem_singleton.1 hy]
        rcases Nat.eq_zero_or_pos i with rfl | h0
        · simp [dedTo] at hx
        · have hne : l.getD i 0 ≠ l.getD (i - 1) 0 := hc.resolve_left (by omega)
          have a1 := h2 x hx h0
          have a2 := hle (i - 1) (by omega)
          omega
      · rcases List.mem_append.1 hx with hx | hx
        · exact hmx x hx
        · rw [List.mem_singleton.1 hx]; exact Int.le_refl _
    · rw [if_neg hc, List.append_nil]
      exact ⟨h1, fun x hx _ => hmx x hx⟩
/-- Two rising lists that name the same numbers are one. -/
theorem rise_ext : ∀ {a b : List Int}, a.Pairwise (· < ·) → b.Pairwise (· < ·) → (∀ x, x ∈ a ↔ x ∈ b) → a = b
  | [], [], _, _, _ => rfl
  | [], y :: _, _, _, h => absurd ((h y).2 (List.mem_cons_self ..)) (by simp)
  | x :: _, [], _, _, h => absurd ((h x).1 (List.mem_cons_self ..)) (by simp)
  | x :: a, y :: b, ha, hb, h => by
    rw [List.pairwise_cons] at ha hb
    have e : x = y := by
      rcases List.mem_cons.1 ((h x).1 (List.mem_cons_self ..)) with e | hx
      · exact e
      · rcases List.mem_cons.1 ((h y).2 (List.mem_cons_self ..)) with e | hy
        · exact e.symm
        · have := ha.1 y hy
          have := hb.1 x hx
          omega
    subst e
    rw [rise_ext ha.2 hb.2 fun z => ?_]
    constructor
    · intro hz
      rcases List.mem_cons.1 ((h z).1 (List.mem_cons_of_mem _ hz)) with e | hz'
      · have := ha.1 z hz; omega
      · exact hz'
    · intro hz
      rcases List.mem_cons.1 ((h z).2 (List.mem_cons_of_mem _ hz)) with e | hz'
      · have := hb.1 z hz; omega
      · exact hz'
/-- A set's words: as many as there must be, no bit of n or beyond. -/
structure Good (n : Nat) (l : List Nat) : Prop where
  len : l.length = wlen n
  ok : Ok64 l
  top : ∀ y, n ≤ y → BagP.hasB l y = false
def inS (S : List (List Nat)) (i : Int) : Prop := 0 ≤ i ∧ i < (S.length : Int)
instance (S : List (List Nat)) (i : Int) : Decidable (inS S i) := inferInstanceAs (Decidable (_ ∧ _))
/-- The sets are kept as they must be. -/
structure GoodS (n : Nat) (S : List (List Nat)) : Prop where
  good : ∀ l ∈ S, Good n l
  nd : S.Nodup
  big : S.length ≤ 4096
theorem GoodS.nil (n : Nat) : GoodS n [] := ⟨fun l hl => by simp at hl, List.nodup_nil, Nat.zero_le _⟩
theorem GoodS.at_ {n : Nat} {S : List (List Nat)} (h : GoodS n S) {i : Int} (hi : inS S i) : S[i.toNat]? = some (S.getD i.toNat []) ∧ Good n (S.getD i.toNat []) := by
  have h1 : i.toNat < S.length := by have := hi.1; have := hi.2; omega
  have e : S[i.toNat]? = some (S.getD i.toNat []) := by rw [List.getD_eq_getElem?_getD, List.getElem?_eq_getElem h1]; rfl
  exact ⟨e, h.good _ (List.mem_of_getElem? e)⟩
end BagR
end Go.Proofs.YtibplgpolmplpaaGreatDoor
