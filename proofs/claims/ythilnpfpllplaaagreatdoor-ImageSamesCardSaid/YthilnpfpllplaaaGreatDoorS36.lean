/- What a rule's table says of a window: forms.symbol; and the closures that forms.made calls. Condition: the tables and the window read from memory. slices.Equal and slices.Reverse of numbers; the closures that read a window from its end and that lay noughts outside. Condition: the lists read from memory. -/
import Derived.Laws.CopyOwn
import Derived.Test.YthilnpfpllplaaaGreatDoorS7
import Derived.Test.YthilnpfpllplaaaGreatDoorS8
import Derived.Test.YthilnpfpllplaaaGreatDoorS22
import Derived.Test.YthilnpfpllplaaaGreatDoorS35
namespace Go.Proofs.YthilnpfpllplaaaGreatDoor
open Go.RowKit RuleP

set_option maxRecDepth 100000 in
set_option maxHeartbeats 1000000 in
theorem symbol_c (w : World) (k r : Nat) (A B : Option Addr) (n c m d : Nat) (t v : List Nat) (hr : IsRule k r t) (hv : ∀ x ∈ v, x < k) (hvl : v.length = 2 * r + 1) (hT : Sl w A n ((ints t).map (Value.int .i64))) (hW : Sl w B m ((ints v).map (Value.int .i64))) :
    Calls Tryz.prog 92 #[ruleV k r A n c, .slice B m d] w fun e w' => e = .returned (.int .i64 ((sy k t v : Nat) : Int)) ∧ Below w.heap.size w w' := by
  have hl : v.length = m := by simpa [ints] using hW.1
  have hlt : t.length = n := by simpa [ints] using hT.1
  have hn := hr.le
  have hk1 := hr.k1
  have hk4 := hr.k4
  have hr3 := hr.r3
  rw [hlt] at hn
  have hb0 := (Below.refl w.heap.size w).alloc (Nat.le_refl _) (.cells #[.int .i64 (k : Int), .int .i64 (r : Int), .slice A n c] 24)
  have hT1 := hT.below hb0
  have hW1 := hW.below hb0
  have hwl := wval_lt hv
  rw [hvl, ← hr.len, hlt] at hwl
  obtain ⟨Y, hY⟩ : ∃ Y, sy k t v = Y := ⟨_, rfl⟩
  rw [hY]
  have hY' : t.getD (wval k v) 0 = Y := hY
  have HY := Lib.hid hY'
  clear hY hY'
  have HL := Lib.hid hl
  have HV := Lib.hid hv
  have hm7 : m ≤ 7 := by omega
  have HB := Lib.hid hb0
  clear hl hlt hr hv hvl hT hW
  rw [ints_map] at hT1 hW1
  unfold ruleV at *
  go_enter Tryz.func92, Tryz.ntmps92
  go_wp2_with fail
  go_loop [5, 10] (fun nv i => ∃ j : Nat, j ≤ m ∧ i = .int .i64 (j : Int) ∧ nv = .int .i64 ((wval k (v.take j) : Nat) : Int)) (fun _ i => m - (intOf i).toNat)
  case atStart => exact ⟨0, Nat.zero_le _, rfl, by simp [wval_nil]⟩
  case round =>
    obtain ⟨j, hj, rfl, rfl⟩ := hrel
    by_cases hlt : j < m
    · obtain ⟨adw, x, rfl, hxj, hcx⟩ := hW1.word_ hlt
      have hxk : x < k := HV.out x (List.mem_of_getElem? hxj)
      have hs : wval k (v.take (j + 1)) = wval k (v.take j) * k + x := by
        rw [List.take_add_one, hxj]; exact wval_snoc _ _ _
      have hle : wval k (v.take (j + 1)) ≤ 16384 := by
        have h1 := wval_lt (k := k) (w := v.take (j + 1)) (fun y hy => HV.out y (List.mem_of_mem_take hy))
        have h2 : k ^ (v.take (j + 1)).length ≤ 4 ^ 7 := Nat.le_trans (Nat.pow_le_pow_left hk4 _) (Nat.pow_le_pow_right (by decide) (by rw [List.length_take]; omega))
        have h3 : 4 ^ 7 = 16384 := by decide
        omega
      obtain ⟨ρ, hρ⟩ : ∃ ρ, wval k (v.take j) = ρ := ⟨_, rfl⟩
      obtain ⟨σ, hσ⟩ : ∃ σ, wval k (v.take (j + 1)) = σ := ⟨_, rfl⟩
      rw [hρ, hσ] at hs
      rw [hσ] at hle
      rw [hρ]
      have hQ : (ρ : Int) * (k : Int) = ((ρ * k : Nat) : Int) := by simp
      obtain ⟨Q, hQQ⟩ : ∃ Q, ρ * k = Q := ⟨_, rfl⟩
      rw [hQQ] at hQ hs
      have hQl : Q ≤ 16384 := by omega
      have hsum : Hid ((Q : Int) + (x : Int) = (σ : Int)) := Lib.hid (by omega)
      have HS := Lib.hid hσ
      clear hs hρ hσ hQQ hxj
      go_wp2_with fail
      exact ⟨⟨j + 1, by omega, by go_num, by rw [HS.out, ← hsum.out]⟩, by simp [intOf]; omega⟩
    · obtain rfl : j = m := by omega
      have htk : v.take j = v := List.take_of_length_le (by rw [HL.out]; exact Nat.le_refl _)
      rw [htk]
      obtain ⟨adt, y, rfl, hyt, hcy⟩ := hT1.word_ hwl
      have hget : Hid (Y = y) := Lib.hid (by rw [← HY.out, List.getD_eq_getElem?_getD, hyt]; rfl)
      obtain ⟨ρ, hρ⟩ : ∃ ρ, wval k v = ρ := ⟨_, rfl⟩
      rw [hρ] at hwl hcy ⊢
      clear htk hyt hρ
      go_wp2_with fail
      go_ret
      exact ⟨by rw [hget.out]; rfl, HB.out⟩

/-- A part of a window in memory. -/
theorem sl_win {w : World} {g n : Nat} {v : List Nat} (h : Sl w (some ⟨g, 0, none⟩) n ((ints v).map (Value.int .i64))) {i m : Nat} (hi : i + m ≤ n) : Sl w (some ⟨g, i, none⟩) m ((ints (win v i m)).map (Value.int .i64)) := by
  have hl : v.length = n := by simpa [ints] using h.1
  refine ⟨by rw [List.length_map, ints_len, win_len (by omega)], fun j u hj => ?_⟩
  have e : ((ints (win v i m)).map (Value.int .i64)) = (((ints v).map (Value.int .i64)).drop i).take m := by simp [win, ints, List.map_drop, List.map_take]
  rw [e] at hj
  have hc := sl_part h hi _ rfl j u hj
  refine ⟨_, rfl, ?_⟩
  have e2 : ((⟨g, 0, none⟩ : Addr).add i).add j = (⟨g, i, none⟩ : Addr).add j := by
    congr 1
    by_cases h0 : i = 0
    · subst h0; rfl
    · simp [Addr.add, h0]
  rw [e2] at hc
  exact hc

theorem addr_add (g i : Nat) : (⟨g, 0, none⟩ : Addr).add i = ⟨g, i, none⟩ := by
  by_cases h : i = 0
  · subst h; rfl
  · simp [Addr.add, h]
set_option maxRecDepth 100000 in
theorem shift1_c (w : World) (g n gr gd : Nat) (v : List Nat) (R D : Int) (p : Nat) (hp : R + D = (p : Int)) (hR : 0 ≤ R ∧ R ≤ 3) (hD : -3 ≤ D ∧ D ≤ 3) (hn : p < n) (hr : w.cell? ⟨gr, 0, none⟩ = some (.int .i64 R)) (hd : w.cell? ⟨gd, 0, none⟩ = some (.int .i64 D)) (hV : Sl w (some ⟨g, 0, none⟩) n ((ints v).map (Value.int .i64))) :
    Calls Tryz.prog 61 #[.slice (some ⟨g, 0, none⟩) n n, .pointer (some ⟨gr, 0, none⟩), .pointer (some ⟨gd, 0, none⟩)] w fun e w' => e = .returned (.int .i64 ((v.getD p 0 : Nat) : Int)) ∧ Below w.heap.size w w' := by
  rw [ints_map] at hV
  obtain ⟨ad, x, e, hx, hc⟩ := hV.word_ hn
  cases e
  have hg : v.getD p 0 = x := by rw [List.getD_eq_getElem?_getD, hx]; rfl
  rw [hg]
  rw [addr_add] at hc
  have hp0 : (0 : Int) ≤ (p : Int) := by omega
  have hp1 : (p : Int) < (n : Int) := by omega
  have hR1 := hR.1
  have hR2 := hR.2
  have hD1 := hD.1
  have hD2 := hD.2
  clear hg hx hV hR hD
  go_enter Tryz.func61, Tryz.ntmps61
  go_wp2_with fail
  go_ret
  exact ⟨rfl, Below.refl _ _⟩

set_option maxRecDepth 100000 in
set_option maxHeartbeats 1000000 in
theorem widened1_c (w : World) (g gr gd k r d : Nat) (A : Option Addr) (n c : Nat) (t v : List Nat) (hr : IsRule k r t) (hd3 : r + d ≤ 3) (hv : ∀ x ∈ v, x < k) (hT : Sl w A n ((ints t).map (Value.int .i64))) (hR : RuleAt w gr (.int .i64 (k : Int)) (.int .i64 (r : Int)) (.slice A n c)) (hd : w.cell? ⟨gd, 0, none⟩ = some (.int .i64 (d : Int)))
    (hV : Sl w (some ⟨g, 0, none⟩) (2 * (r + d) + 1) ((ints v).map (Value.int .i64))) :
    Calls Tryz.prog 91 #[.slice (some ⟨g, 0, none⟩) (2 * (r + d) + 1) (2 * (r + d) + 1), .pointer (some ⟨gr, 0, none⟩), .pointer (some ⟨gd, 0, none⟩)] w fun e w' => e = .returned (.int .i64 ((sy k t (win v d (2 * r + 1)) : Nat) : Int)) ∧ Below w.heap.size w w' := by
  have hvl : v.length = 2 * (r + d) + 1 := by simpa [ints] using hV.1
  have hwl : (win v d (2 * r + 1)).length = 2 * r + 1 := win_len (by omega)
  have hsw := sl_win hV (show d + (2 * r + 1) ≤ 2 * (r + d) + 1 by omega)
  have hsy := symbol_c w.drew k r A (some ⟨g, d, none⟩) n c (2 * r + 1) (2 * (r + d) + 1 - d) t (win v d (2 * r + 1)) hr (win_sym hv _ _) hwl hT hsw
  clear hvl hwl hsw
  obtain ⟨L, hL⟩ : ∃ L, 2 * (r + d) + 1 = L := ⟨_, rfl⟩
  obtain ⟨m, hm⟩ : ∃ m, 2 * r + 1 = m := ⟨_, rfl⟩
  obtain ⟨H, hH⟩ : ∃ H, L - d = H := ⟨_, rfl⟩
  rw [hL, hm] at hsy
  rw [hL, hm]
  have hmh : m = H - d := by omega
  rw [hmh] at hsy
  obtain ⟨Y, hY⟩ : ∃ Y, sy k t (win v d m) = Y := ⟨_, rfl⟩
  rw [hmh] at hY
  rw [hmh, hY]
  rw [hY] at hsy
  unfold ruleV at hsy
  have HS := Lib.hid hsy
  have hn1 : ¬ L = d := by omega
  have s0 : (0 : Int) ≤ (d : Int) := by omega
  have s1 : IntKind.i64.wrap ((L : Int) - (d : Int)) = (H : Int) := by rw [IntWalk.i64_in _ (by omega)]; omega
  have s2 : (d : Int) ≤ (H : Int) := by omega
  have s3 : (H : Int) ≤ (L : Int) := by omega
  obtain ⟨r0, r1, r2, _⟩ := hR.facts
  clear hsy hY hL hm hH hmh hV hT hR hr hv
  go_enter Tryz.func91, Tryz.ntmps91
  go_wp2_with fail
  go_region_held3 (fun w' => w'.cell? ⟨gr, 0, none⟩ = some (.int .i64 (k : Int)) ∧ w'.cell? ⟨gr, 1, none⟩ = some (.int .i64 (r : Int)) ∧ w'.cell? ⟨gr, 2, none⟩ = some (.slice A n c) ∧ w'.cell? ⟨gd, 0, none⟩ = some (.int .i64 (d : Int)))
    (first | go_keep)
    (first
      | (go_at_call 92
         refine (HS.out).mono ?_
         rintro e w2 ⟨rfl, hb2⟩
         have x0 := cell_later hb2 r0
         have x1 := cell_later hb2 r1
         have x2 := cell_later hb2 r2
         have x3 := cell_later hb2 hd))
  go_wp2_with fail
  go_ret
  exact ⟨rfl, (Below.refl w.heap.size w).drew.trans hb2⟩

set_option maxRecDepth 100000 in
set_option maxHeartbeats 1000000 in
theorem behind1_c (w : World) (E : Nat → Addr) (hE : Errs w E) (g ga gb k ra rb : Nat) (A B : Option Addr) (n c m d : Nat) (ta tb v : List Nat) (ha : IsRule k ra ta) (hb : IsRule k rb tb) (h3 : ra + rb ≤ 3) (hv : ∀ x ∈ v, x < k)
    (hTa : Sl w A n ((ints ta).map (Value.int .i64))) (hTb : Sl w B m ((ints tb).map (Value.int .i64))) (hRa : RuleAt w ga (.int .i64 (k : Int)) (.int .i64 (ra : Int)) (.slice A n c)) (hRb : RuleAt w gb (.int .i64 (k : Int)) (.int .i64 (rb : Int)) (.slice B m d))
    (hV : Sl w (some ⟨g, 0, none⟩) (2 * (ra + rb) + 1) ((ints v).map (Value.int .i64))) :
    Calls Tryz.prog 95 #[.slice (some ⟨g, 0, none⟩) (2 * (ra + rb) + 1) (2 * (ra + rb) + 1), .pointer (some ⟨gb, 0, none⟩), .pointer (some ⟨ga, 0, none⟩)] w fun e w' => e = .returned (.int .i64 ((sy k ta (image k rb tb v) : Nat) : Int)) ∧ Below w.heap.size w w' := by
  have hvl : v.length = 2 * (ra + rb) + 1 := by simpa [ints] using hV.1
  have hil : (image k rb tb v).length = 2 * ra + 1 := by rw [image_len, hvl]; omega
  have HST := Lib.hid (step_m w E hE k rb B (some ⟨g, 0, none⟩) m d (2 * (ra + rb) + 1) (2 * (ra + rb) + 1) (2 * ra + 1) tb v hb hv hTb hV (by omega) (by rw [hvl]; omega))
  have HSY := Lib.hid (fun (wz : World) (hz : Below w.heap.size w wz) (C : Option Addr) (cc : Nat) (hC : Sl wz C (2 * ra + 1) ((ints (image k rb tb v)).map (Value.int .i64))) => symbol_c wz k ra A C n c (2 * ra + 1) cc ta (image k rb tb v) ha (image_sym hb hv) hil (hTa.below hz) hC)
  have HRA := Lib.hid (fun (wz : World) (hz : Below w.heap.size w wz) => (hRa.below hz hRa.lt).facts)
  obtain ⟨r0, r1, r2, _⟩ := hRb.facts
  clear hvl hil hTa hTb hRa hRb hV hE ha hb hv
  obtain ⟨L, hL⟩ : ∃ L, 2 * (ra + rb) + 1 = L := ⟨_, rfl⟩
  rw [hL] at HST
  rw [hL]
  clear hL
  unfold ruleV at *
  go_enter Tryz.func95, Tryz.ntmps95
  go_wp2_with fail
  refine (HST.out).mono ?_
  rintro e w1 ⟨C, cc, rfl, hC, hb1⟩
  have HS2 := Lib.hid (HSY.out w1 hb1 C cc (Sl.of_own hC))
  obtain ⟨a0, a1, a2, _⟩ := HRA.out w1 hb1
  have HB1 := Lib.hid hb1
  clear hC hb1 r0 r1 r2
  go_wp2_with fail
  refine (HS2.out).mono ?_
  rintro e w2 ⟨rfl, hb2⟩
  have HB2 := Lib.hid (pure_trans HB1.out hb2)
  clear hb2
  go_wp2_with fail
  go_ret
  exact ⟨rfl, HB2.out⟩
end Go.Proofs.YthilnpfpllplaaaGreatDoor

namespace Go.Proofs.YthilnpfpllplaaaGreatDoor
open Go.RowKit RuleP

set_option maxRecDepth 100000 in
theorem equal_c (w : World) (A1 A2 : Option Addr) (n1 n2 c1 c2 : Nat) (xs ys : List Int) (h1 : Sl w A1 n1 (xs.map (Value.int .i64))) (h2 : Sl w A2 n2 (ys.map (Value.int .i64)))
    (m1 : n1 ≤ 9223372036854775807) (m2 : n2 ≤ 9223372036854775807) :
    Calls Tryz.prog 54 #[.slice A1 n1 c1, .slice A2 n2 c2] w fun e w' => e = .returned (.bool (decide (xs = ys))) ∧ Below w.heap.size w w' := by
  have l1 : xs.length = n1 := by simpa using h1.1
  have l2 : ys.length = n2 := by simpa using h2.1
  by_cases hn : n1 = n2
  · subst hn
    have hne : ((n1 : Int) != (n1 : Int)) = false := by simp
    have H1 := Lib.hid l1
    have H2 := Lib.hid l2
    clear l1 l2
    go_enter Tryz.func54, Tryz.ntmps54
    go_wp2_with fail
    go_loopw [13] (fun i wr => ∃ k q : Nat, k ≤ n1 ∧ i = .int .i64 k ∧ wr = w.drewN q ∧ xs.take k = ys.take k) (fun i _ => n1 - (intOf i).toNat)
    case atStart => exact ⟨0, 0, Nat.zero_le _, rfl, rfl, rfl⟩
    case round =>
      obtain ⟨k, q, hk, rfl, rfl, ht⟩ := hrel
      have HT := Lib.hid ht
      clear ht
      by_cases hlt : k < n1
      · obtain ⟨a1, x1, rfl, hx1, hc1⟩ := h1.int_ hlt
        obtain ⟨a2, x2, rfl, hx2, hc2⟩ := h2.int_ hlt
        have HX1 := Lib.hid hx1
        have HX2 := Lib.hid hx2
        clear hx1 hx2
        by_cases e : x1 = x2
        · have t1 : (x1 != x2) = false := by simp [e]
          have E := Lib.hid e
          clear e
          go_wp2_with (go_quiet (fail))
          exact ⟨⟨k + 1, _, by omega, by go_num, rfl, by rw [List.take_add_one, List.take_add_one, HT.out, HX1.out, HX2.out, E.out]⟩, by simp [intOf]; omega⟩
        · have t1 : (x1 != x2) = true := by simp [e]
          have hne2 : xs ≠ ys := by
            intro he; subst he
            have := HX1.out.symm.trans HX2.out
            simp at this; exact e this
          have E := Lib.hid hne2
          clear e hne2
          go_wp2_with (go_quiet (fail))
          go_ret
          exact ⟨by simp [E.out], by rw [World.drewN_drewN]; exact pure_drewN w _⟩
      · have he : xs = ys := by
          have := HT.out
          rwa [List.take_of_length_le (by have := H1.out; omega), List.take_of_length_le (by have := H2.out; omega)] at this
        have E := Lib.hid he
        clear he
        go_wp2_with fail
        go_ret
        exact ⟨by simp [E.out], pure_drewN w _⟩
  · have hne : ((n1 : Int) != (n2 : Int)) = true := by simp; omega
    have hne2 : xs ≠ ys := by rintro rfl; omega
    clear l1 l2 hn
    have E := Lib.hid hne2
    clear hne2
    go_enter Tryz.func54, Tryz.ntmps54
    go_wp2_with fail
    go_ret
    exact ⟨by simp [E.out], Below.refl _ _⟩

/-- A block's cells as a list. -/
theorem sl_of_blk {w : World} {g n : Nat} {cs : List Value} {t : TypeId} (h : w.heap[g]? = some (.cells cs.toArray t (0, 0))) (hn : cs.length = n) : Sl w (some ⟨g, 0, none⟩) n cs :=
  ⟨hn, fun j v hj => ⟨_, rfl, by rw [addr_add, cell_of_row w g j _ _ _ h]; simpa using hj⟩⟩

set_option maxRecDepth 100000 in
set_option maxHeartbeats 1000000 in
theorem inner1_c (w : World) (g gr k r q : Nat) (hq : r + 1 = q) (A : Option Addr) (n c : Nat) (t v : List Nat) (hr : IsRule k q t) (hv : ∀ x ∈ v, x < k) (hT : Sl w A n ((ints t).map (Value.int .i64))) (hR : RuleAt w gr (.int .i64 (k : Int)) (.int .i64 (q : Int)) (.slice A n c))
    (hV : Sl w (some ⟨g, 0, none⟩) (2 * r + 1) ((ints v).map (Value.int .i64))) :
    Calls Tryz.prog 93 #[.slice (some ⟨g, 0, none⟩) (2 * r + 1) (2 * r + 1), .pointer (some ⟨gr, 0, none⟩)] w fun e w' => e = .returned (.int .i64 ((sy k t (0 :: (v ++ [0])) : Nat) : Int)) ∧ Below w.heap.size w w' := by
  have hvl : v.length = 2 * r + 1 := by simpa [ints] using hV.1
  have h3 := hr.r3
  have HSY := Lib.hid (fun (wz : World) (hz : Below w.heap.size w wz) (hC : Sl wz (some ⟨w.heap.size, 0, none⟩) (2 * q + 1) ((ints (0 :: (v ++ [0]))).map (Value.int .i64))) => symbol_c wz k q A (some ⟨w.heap.size, 0, none⟩) n c (2 * q + 1) (2 * q + 1) t (0 :: (v ++ [0])) hr (out_sym hr.k1 hv) (by rw [out_len, hvl]; omega) (hT.below hz) hC)
  have HRA := Lib.hid (fun (wz : World) (hz : Below w.heap.size w wz) => (hR.below hz hR.lt).facts)
  obtain ⟨L, hL⟩ : ∃ L, 2 * r + 1 = L := ⟨_, rfl⟩
  obtain ⟨M, hM⟩ : ∃ M, 2 * q + 1 = M := ⟨_, rfl⟩
  rw [hL] at hV hvl
  rw [hM] at HSY
  rw [hL]
  have hLM : M = L + 2 := by omega
  have s1 : (L : Int) + 2 = (M : Int) := by omega
  have s2 : (1 : Int) ≤ (M : Int) := by omega
  have s3 : ¬ M = 1 := by omega
  have hmk := run_make_row' (P := Tryz.prog) 22 3 (.int .i64 0) 8 tInts.und tInts.info rfl .i64 .i64 M (by omega) (by omega) w
  have hb1 := (Below.refl w.heap.size w).alloc (Nat.le_refl _) (.cells (madeCells #[.int .i64 0] M) 3)
  have hblk : (w.alloc (.cells (madeCells #[.int .i64 0] M) 3)).heap[w.heap.size]? = some (.cells (List.replicate M (Value.int .i64 0)).toArray 3 (0, 0)) :=
    (heap_new w (.cells (madeCells #[.int .i64 0] M) 3)).trans (by rw [show (madeCells #[Value.int .i64 0] M) = (List.replicate M (Value.int .i64 0)).toArray by rw [← toList_madeCells_one]])
  have hsz : (Tryz.prog.info? 3).map (·.size) = some 1 := by rw [show (Tryz.prog.info? 3).map (·.size) = some 1 by kernel_rfl]
  have hV1 := hV.below hb1
  unfold ruleV at HSY
  have HLM := Lib.hid hLM
  have HVL := Lib.hid hvl
  have hML : M - 1 = L + 1 := by omega
  have hM9 : M ≤ 9 := by omega
  have HIL := Lib.hid (show ((ints v).map (Value.int .i64)).length = L by rw [List.length_map, ints_len, hvl])
  have HCS := Lib.hid (show splice (List.replicate M (Value.int .i64 0)) 1 ((ints v).map (Value.int .i64)) = (ints (0 :: (v ++ [0]))).map (Value.int .i64) by
    unfold splice
    rw [List.length_map, ints_len, hvl, hLM]
    rw [List.take_replicate, List.drop_replicate, show L + 2 - (1 + L) = 1 by omega, show min 1 (L + 2) = 1 by omega]
    simp [ints])
  have hmin : Nat.min L (L + 1) = L := Nat.min_eq_left (by omega)
  have HMIN := Lib.hid hmin
  have HONE := Lib.hid (ints_one (q := .i64) (ints v))
  have HBLK := Lib.hid hblk
  have HB1 := Lib.hid hb1
  have HV1 := Lib.hid hV1
  have HPOS := Lib.hid (show 0 < ((ints v).map (Value.int .i64)).length → (some ⟨w.heap.size, 1, none⟩ : Option Addr) = some ⟨w.heap.size, 1, none⟩ ∧ ∃ ad, (some ⟨g, 0, none⟩ : Option Addr) = some ad ∧ ∀ (j : Nat) u, ((ints v).map (Value.int .i64))[j]? = some u → (w.alloc (.cells (madeCells #[.int .i64 0] M) 3)).cell? (ad.add j) = some u from fun _ => ⟨rfl, _, rfl, fun j u hj => by
    obtain ⟨ad, e, hc⟩ := hV1.2 j u hj
    cases e
    exact hc⟩)
  have HFIT := Lib.hid (show 1 + ((ints v).map (Value.int .i64)).length ≤ (List.replicate M (Value.int .i64 0)).length by rw [HIL.out, List.length_replicate]; omega)
  clear hq hL hM hvl hT hR hr hLM hV hV1 hblk hb1 hv hmin
  go_enter Tryz.func93, Tryz.ntmps93
  go_wp2_with (refine wpList_copy_splice rfl (.tmp 10) (.tmp 11) 22 22 rfl 3 tInts.und hsz (some ⟨w.heap.size, 1, none⟩) (some ⟨g, 0, none⟩) (L + 1) (L + 1) L L rfl rfl w.heap.size 1 (List.replicate M (Value.int .i64 0)) 3 HBLK.out ((ints v).map (Value.int .i64)) (HIL.out.trans HMIN.out.symm) HPOS.out HFIT.out HONE.out w.heap.size w HB1.out (Nat.le_refl _) ?_; intro w2 hblk2 hb2; obtain ⟨r0, r1, r2, _⟩ := HRA.out w2 hb2)
  rw [HCS.out] at hblk2
  have hs2 := sl_of_blk hblk2.out (n := M) (by rw [List.length_map, ints_len, out_len]; have := HVL.out; have := HLM.out; omega)
  have HS2 := Lib.hid (HSY.out w2 hb2 hs2)
  have HB2 := Lib.hid hb2
  clear hs2 hblk2 hb2 hmk
  refine (HS2.out).mono ?_
  rintro e w3 ⟨rfl, hb3⟩
  have HB3 := Lib.hid (pure_trans HB2.out hb3)
  clear hb3
  go_wp2_with fail
  go_ret
  exact ⟨rfl, HB3.out⟩

end Go.Proofs.YthilnpfpllplaaaGreatDoor
