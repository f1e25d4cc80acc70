/- What a rule's table says of a window: forms.symbol; and the closures that forms.made calls. Condition: the tables and the window read from memory. slices.Equal and slices.Reverse of numbers; the closures that read a window from its end and that lay noughts outside. Condition: the lists read from memory. Errors told further: fault.Under, edenraw.Under, Err.Bad. Condition: the error reads from memory. What is asked of an error, kept beside other writes: edenraw.New, Err.Bad. Condition: the value reads from memory. -/
import Derived.Laws.CopyOwn
import Derived.Test.YtpllojpgpejfmaaGreatDoorF1
import Derived.Test.YtpllojpgpejfmaaGreatDoorF3
import Derived.Test.YtpllojpgpejfmaaGreatDoorF4
import Derived.Test.YtpllojpgpejfmaaGreatDoorF5
namespace Go.Proofs.YtpllojpgpejfmaaGreatDoor
open Go.RowKit RuleP

set_option maxRecDepth 100000 in
set_option maxHeartbeats 1000000 in
theorem symbol_c (w : World) (k r : Nat) (A B : Option Addr) (n c m d : Nat) (t v : List Nat) (hr : IsRule k r t) (hv : ∀ x ∈ v, x < k) (hvl : v.length = 2 * r + 1) (hT : Sl w A n ((ints t).map (Value.int .i64))) (hW : Sl w B m ((ints v).map (Value.int .i64))) :
    Calls Tryz.prog 42 #[ruleV k r A n c, .slice B m d] w fun e w' => e = .returned (.int .i64 ((sy k t v : Nat) : Int)) ∧ Below w.heap.size w w' := by
  have hl : v.length = m := by simpa [ints] using hW.1
  have hlt : t.length = n := by simpa [ints] using hT.1
  have hn := hr.le
  have hk1 := hr.k1
  have hk4 := hr.k4
  have hr3 := hr.r3
  rw [hlt] at hn
  have hb0 := (Below.refl w.heap.size w).alloc (Nat.le_refl _) (.cells #[.int .i64 (k : Int), .int .i64 (r : Int), .slice A n c] 26)
  have hT1 := hT.below hb0
  have hW1 := hW.below hb0
  have hwl := wval_lt hv
  rw [hvl, ← hr.len, hlt] at hwl
  obtain ⟨Y, hY⟩ : ∃ Y, sy k t v = Y := ⟨_, rfl⟩
  rw [hY]
  have hY' : t.getD (wval k v) 0 = Y := hY
  have HY := Lib.hid hY'
  clear hY hY'
  have HL := Lib.hid hl
  have HV := Lib.hid hv
  have hm7 : m ≤ 7 := by omega
  have HB := Lib.hid hb0
  clear hl hlt hr hv hvl hT hW
  rw [ints_map] at hT1 hW1
  unfold ruleV at *
  go_enter Tryz.func42, Tryz.ntmps42
  go_wp2_with fail
  go_loop [5, 10] (fun nv i => ∃ j : Nat, j ≤ m ∧ i = .int .i64 (j : Int) ∧ nv = .int .i64 ((wval k (v.take j) : Nat) : Int)) (fun _ i => m - (intOf i).toNat)
  case atStart => exact ⟨0, Nat.zero_le _, rfl, by simp [wval_nil]⟩
  case round =>
    obtain ⟨j, hj, rfl, rfl⟩ := hrel
    by_cases hlt : j < m
    · obtain ⟨adw, x, rfl, hxj, hcx⟩ := hW1.word_ hlt
      have hxk : x < k := HV.out x (List.mem_of_getElem? hxj)
      have hs : wval k (v.take (j + 1)) = wval k (v.take j) * k + x := by
        rw [List.take_add_one, hxj]; exact wval_snoc _ _ _
      have hle : wval k (v.take (j + 1)) ≤ 16384 := by
        have h1 := wval_lt (k := k) (w := v.take (j + 1)) (fun y hy => HV.out y (List.mem_of_mem_take hy))
        have h2 : k ^ (v.take (j + 1)).length ≤ 4 ^ 7 := Nat.le_trans (Nat.pow_le_pow_left hk4 _) (Nat.pow_le_pow_right (by decide) (by rw [List.length_take]; omega))
        have h3 : 4 ^ 7 = 16384 := by decide
        omega
      obtain ⟨ρ, hρ⟩ : ∃ ρ, wval k (v.take j) = ρ := ⟨_, rfl⟩
      obtain ⟨σ, hσ⟩ : ∃ σ, wval k (v.take (j + 1)) = σ := ⟨_, rfl⟩
      rw [hρ, hσ] at hs
      rw [hσ] at hle
      rw [hρ]
      have hQ : (ρ : Int) * (k : Int) = ((ρ * k : Nat) : Int) := by simp
      obtain ⟨Q, hQQ⟩ : ∃ Q, ρ * k = Q := ⟨_, rfl⟩
      rw [hQQ] at hQ hs
      have hQl : Q ≤ 16384 := by omega
      have hsum : Hid ((Q : Int) + (x : Int) = (σ : Int)) := Lib.hid (by omega)
      have HS := Lib.hid hσ
      clear hs hρ hσ hQQ hxj
      go_wp2_with fail
      exact ⟨⟨j + 1, by omega, by go_num, by rw [HS.out, ← hsum.out]⟩, by simp [intOf]; omega⟩
    · obtain rfl : j = m := by omega
      have htk : v.take j = v := List.take_of_length_le (by rw [HL.out]; exact Nat.le_refl _)
      rw [htk]
      obtain ⟨adt, y, rfl, hyt, hcy⟩ := hT1.word_ hwl
      have hget : Hid (Y = y) := Lib.hid (by rw [← HY.out, List.getD_eq_getElem?_getD, hyt]; rfl)
      obtain ⟨ρ, hρ⟩ : ∃ ρ, wval k v = ρ := ⟨_, rfl⟩
      rw [hρ] at hwl hcy ⊢
      clear htk hyt hρ
      go_wp2_with fail
      go_ret
      exact ⟨by rw [hget.out]; rfl, HB.out⟩

/-- A part of a window in memory. -/
theorem sl_win {w : World} {g n : Nat} {v : List Nat} (h : Sl w (some ⟨g, 0, none⟩) n ((ints v).map (Value.int .i64))) {i m : Nat} (hi : i + m ≤ n) : Sl w (some ⟨g, i, none⟩) m ((ints (win v i m)).map (Value.int .i64)) := by
  have hl : v.length = n := by simpa [ints] using h.1
  refine ⟨by rw [List.length_map, ints_len, win_len (by omega)], fun j u hj => ?_⟩
  have e : ((ints (win v i m)).map (Value.int .i64)) = (((ints v).map (Value.int .i64)).drop i).take m := by simp [win, ints, List.map_drop, List.map_take]
  rw [e] at hj
  have hc := sl_part h hi _ rfl j u hj
  refine ⟨_, rfl, ?_⟩
  have e2 : ((⟨g, 0, none⟩ : Addr).add i).add j = (⟨g, i, none⟩ : Addr).add j := by
    congr 1
    by_cases h0 : i = 0
    · subst h0; rfl
    · simp [Addr.add, h0]
  rw [e2] at hc
  exact hc

theorem addr_add (g i : Nat) : (⟨g, 0, none⟩ : Addr).add i = ⟨g, i, none⟩ := by
  by_cases h : i = 0
  · subst h; rfl
  · simp [Addr.add, h]
set_option maxRecDepth 100000 in
theorem power1_c (w : World) (g n : Nat) (v : List Nat) (hn : 0 < n) (hV : Sl w (some ⟨g, 0, none⟩) n ((ints v).map (Value.int .i64))) :
    Calls Tryz.prog 63 #[.slice (some ⟨g, 0, none⟩) n n] w fun e w' => e = .returned (.int .i64 ((v.getD 0 0 : Nat) : Int)) ∧ Below w.heap.size w w' := by
  rw [ints_map] at hV
  obtain ⟨ad, x, e, hx, hc⟩ := hV.word_ hn
  cases e
  have hg : v.getD 0 0 = x := by rw [List.getD_eq_getElem?_getD, hx]; rfl
  rw [hg]
  have hc' : w.cell? ⟨g, 0, none⟩ = some (.int .i64 (x : Int)) := hc
  have hn' : (0 : Int) < (n : Int) := by omega
  clear hg hx hV hc
  go_enter Tryz.func63, Tryz.ntmps63
  go_wp2_with fail
  go_ret
  exact ⟨rfl, Below.refl _ _⟩

set_option maxRecDepth 100000 in
theorem shift1_c (w : World) (g n gr gd : Nat) (v : List Nat) (R D : Int) (p : Nat) (hp : R + D = (p : Int)) (hR : 0 ≤ R ∧ R ≤ 3) (hD : -3 ≤ D ∧ D ≤ 3) (hn : p < n) (hr : w.cell? ⟨gr, 0, none⟩ = some (.int .i64 R)) (hd : w.cell? ⟨gd, 0, none⟩ = some (.int .i64 D)) (hV : Sl w (some ⟨g, 0, none⟩) n ((ints v).map (Value.int .i64))) :
    Calls Tryz.prog 46 #[.slice (some ⟨g, 0, none⟩) n n, .pointer (some ⟨gr, 0, none⟩), .pointer (some ⟨gd, 0, none⟩)] w fun e w' => e = .returned (.int .i64 ((v.getD p 0 : Nat) : Int)) ∧ Below w.heap.size w w' := by
  rw [ints_map] at hV
  obtain ⟨ad, x, e, hx, hc⟩ := hV.word_ hn
  cases e
  have hg : v.getD p 0 = x := by rw [List.getD_eq_getElem?_getD, hx]; rfl
  rw [hg]
  rw [addr_add] at hc
  have hp0 : (0 : Int) ≤ (p : Int) := by omega
  have hp1 : (p : Int) < (n : Int) := by omega
  have hR1 := hR.1
  have hR2 := hR.2
  have hD1 := hD.1
  have hD2 := hD.2
  clear hg hx hV hR hD
  go_enter Tryz.func46, Tryz.ntmps46
  go_wp2_with fail
  go_ret
  exact ⟨rfl, Below.refl _ _⟩

set_option maxRecDepth 100000 in
set_option maxHeartbeats 1000000 in
theorem widened1_c (w : World) (g gr gd k r d : Nat) (A : Option Addr) (n c : Nat) (t v : List Nat) (hr : IsRule k r t) (hd3 : r + d ≤ 3) (hv : ∀ x ∈ v, x < k) (hT : Sl w A n ((ints t).map (Value.int .i64))) (hR : RuleAt w gr (.int .i64 (k : Int)) (.int .i64 (r : Int)) (.slice A n c)) (hd : w.cell? ⟨gd, 0, none⟩ = some (.int .i64 (d : Int)))
    (hV : Sl w (some ⟨g, 0, none⟩) (2 * (r + d) + 1) ((ints v).map (Value.int .i64))) :
    Calls Tryz.prog 86 #[.slice (some ⟨g, 0, none⟩) (2 * (r + d) + 1) (2 * (r + d) + 1), .pointer (some ⟨gr, 0, none⟩), .pointer (some ⟨gd, 0, none⟩)] w fun e w' => e = .returned (.int .i64 ((sy k t (win v d (2 * r + 1)) : Nat) : Int)) ∧ Below w.heap.size w w' := by
  have hvl : v.length = 2 * (r + d) + 1 := by simpa [ints] using hV.1
  have hwl : (win v d (2 * r + 1)).length = 2 * r + 1 := win_len (by omega)
  have hsw := sl_win hV (show d + (2 * r + 1) ≤ 2 * (r + d) + 1 by omega)
  have hsy := symbol_c w.drew k r A (some ⟨g, d, none⟩) n c (2 * r + 1) (2 * (r + d) + 1 - d) t (win v d (2 * r + 1)) hr (win_sym hv _ _) hwl hT hsw
  clear hvl hwl hsw
  obtain ⟨L, hL⟩ : ∃ L, 2 * (r + d) + 1 = L := ⟨_, rfl⟩
  obtain ⟨m, hm⟩ : ∃ m, 2 * r + 1 = m := ⟨_, rfl⟩
  obtain ⟨H, hH⟩ : ∃ H, L - d = H := ⟨_, rfl⟩
  rw [hL, hm] at hsy
  rw [hL, hm]
  have hmh : m = H - d := by omega
  rw [hmh] at hsy
  obtain ⟨Y, hY⟩ : ∃ Y, sy k t (win v d m) = Y := ⟨_, rfl⟩
  rw [hmh] at hY
  rw [hmh, hY]
  rw [hY] at hsy
  unfold ruleV at hsy
  have HS := Lib.hid hsy
  have hn1 : ¬ L = d := by omega
  have s0 : (0 : Int) ≤ (d : Int) := by omega
  have s1 : IntKind.i64.wrap ((L : Int) - (d : Int)) = (H : Int) := by rw [IntWalk.i64_in _ (by omega)]; omega
  have s2 : (d : Int) ≤ (H : Int) := by omega
  have s3 : (H : Int) ≤ (L : Int) := by omega
  obtain ⟨r0, r1, r2, _⟩ := hR.facts
  clear hsy hY hL hm hH hmh hV hT hR hr hv
  go_enter Tryz.func86, Tryz.ntmps86
  go_wp2_with fail
  go_region_held3 (fun w' => w'.cell? ⟨gr, 0, none⟩ = some (.int .i64 (k : Int)) ∧ w'.cell? ⟨gr, 1, none⟩ = some (.int .i64 (r : Int)) ∧ w'.cell? ⟨gr, 2, none⟩ = some (.slice A n c) ∧ w'.cell? ⟨gd, 0, none⟩ = some (.int .i64 (d : Int)))
    (first | go_keep)
    (first
      | (go_at_call 42
         refine (HS.out).mono ?_
         rintro e w2 ⟨rfl, hb2⟩
         have x0 := cell_later hb2 r0
         have x1 := cell_later hb2 r1
         have x2 := cell_later hb2 r2
         have x3 := cell_later hb2 hd))
  go_wp2_with fail
  go_ret
  exact ⟨rfl, (Below.refl w.heap.size w).drew.trans hb2⟩

set_option maxRecDepth 100000 in
set_option maxHeartbeats 1000000 in
theorem behind1_c (w : World) (E : Nat → Addr) (hE : Errs w E) (g ga gb k ra rb : Nat) (A B : Option Addr) (n c m d : Nat) (ta tb v : List Nat) (ha : IsRule k ra ta) (hb : IsRule k rb tb) (h3 : ra + rb ≤ 3) (hv : ∀ x ∈ v, x < k)
    (hTa : Sl w A n ((ints ta).map (Value.int .i64))) (hTb : Sl w B m ((ints tb).map (Value.int .i64))) (hRa : RuleAt w ga (.int .i64 (k : Int)) (.int .i64 (ra : Int)) (.slice A n c)) (hRb : RuleAt w gb (.int .i64 (k : Int)) (.int .i64 (rb : Int)) (.slice B m d))
    (hV : Sl w (some ⟨g, 0, none⟩) (2 * (ra + rb) + 1) ((ints v).map (Value.int .i64))) :
    Calls Tryz.prog 88 #[.slice (some ⟨g, 0, none⟩) (2 * (ra + rb) + 1) (2 * (ra + rb) + 1), .pointer (some ⟨gb, 0, none⟩), .pointer (some ⟨ga, 0, none⟩)] w fun e w' => e = .returned (.int .i64 ((sy k ta (image k rb tb v) : Nat) : Int)) ∧ Below w.heap.size w w' := by
  have hvl : v.length = 2 * (ra + rb) + 1 := by simpa [ints] using hV.1
  have hil : (image k rb tb v).length = 2 * ra + 1 := by rw [image_len, hvl]; omega
  have HST := Lib.hid (step_m w E hE k rb B (some ⟨g, 0, none⟩) m d (2 * (ra + rb) + 1) (2 * (ra + rb) + 1) (2 * ra + 1) tb v hb hv hTb hV (by omega) (by rw [hvl]; omega))
  have HSY := Lib.hid (fun (wz : World) (hz : Below w.heap.size w wz) (C : Option Addr) (cc : Nat) (hC : Sl wz C (2 * ra + 1) ((ints (image k rb tb v)).map (Value.int .i64))) => symbol_c wz k ra A C n c (2 * ra + 1) cc ta (image k rb tb v) ha (image_sym hb hv) hil (hTa.below hz) hC)
  have HRA := Lib.hid (fun (wz : World) (hz : Below w.heap.size w wz) => (hRa.below hz hRa.lt).facts)
  obtain ⟨r0, r1, r2, _⟩ := hRb.facts
  clear hvl hil hTa hTb hRa hRb hV hE ha hb hv
  obtain ⟨L, hL⟩ : ∃ L, 2 * (ra + rb) + 1 = L := ⟨_, rfl⟩
  rw [hL] at HST
  rw [hL]
  clear hL
  unfold ruleV at *
  go_enter Tryz.func88, Tryz.ntmps88
  go_wp2_with fail
  refine (HST.out).mono ?_
  rintro e w1 ⟨C, cc, rfl, hC, hb1⟩
  have HS2 := Lib.hid (HSY.out w1 hb1 C cc (Sl.of_own hC))
  obtain ⟨a0, a1, a2, _⟩ := HRA.out w1 hb1
  have HB1 := Lib.hid hb1
  clear hC hb1 r0 r1 r2
  go_wp2_with fail
  refine (HS2.out).mono ?_
  rintro e w2 ⟨rfl, hb2⟩
  have HB2 := Lib.hid (pure_trans HB1.out hb2)
  clear hb2
  go_wp2_with fail
  go_ret
  exact ⟨rfl, HB2.out⟩
end Go.Proofs.YtpllojpgpejfmaaGreatDoor

namespace Go.Proofs.YtpllojpgpejfmaaGreatDoor
open Go.RowKit RuleP

set_option maxRecDepth 100000 in
theorem equal_c (w : World) (A1 A2 : Option Addr) (n1 n2 c1 c2 : Nat) (xs ys : List Int) (h1 : Sl w A1 n1 (xs.map (Value.int .i64))) (h2 : Sl w A2 n2 (ys.map (Value.int .i64)))
    (m1 : n1 ≤ 9223372036854775807) (m2 : n2 ≤ 9223372036854775807) :
    Calls Tryz.prog 64 #[.slice A1 n1 c1, .slice A2 n2 c2] w fun e w' => e = .returned (.bool (decide (xs = ys))) ∧ Below w.heap.size w w' := by
  have l1 : xs.length = n1 := by simpa using h1.1
  have l2 : ys.length = n2 := by simpa using h2.1
  by_cases hn : n1 = n2
  · subst hn
    have hne : ((n1 : Int) != (n1 : Int)) = false := by simp
    have H1 := Lib.hid l1
    have H2 := Lib.hid l2
    clear l1 l2
    go_enter Tryz.func64, Tryz.ntmps64
    go_wp2_with fail
    go_loopw [13] (fun i wr => ∃ k q : Nat, k ≤ n1 ∧ i = .int .i64 k ∧ wr = w.drewN q ∧ xs.take k = ys.take k) (fun i _ => n1 - (intOf i).toNat)
    case atStart => exact ⟨0, 0, Nat.zero_le _, rfl, rfl, rfl⟩
    case round =>
      obtain ⟨k, q, hk, rfl, rfl, ht⟩ := hrel
      have HT := Lib.hid ht
      clear ht
      by_cases hlt : k < n1
      · obtain ⟨a1, x1, rfl, hx1, hc1⟩ := h1.int_ hlt
        obtain ⟨a2, x2, rfl, hx2, hc2⟩ := h2.int_ hlt
        have HX1 := Lib.hid hx1
        have HX2 := Lib.hid hx2
        clear hx1 hx2
        by_cases e : x1 = x2
        · have t1 : (x1 != x2) = false := by simp [e]
          have E := Lib.hid e
          clear e
          go_wp2_with (go_quiet (fail))
          exact ⟨⟨k + 1, _, by omega, by go_num, rfl, by rw [List.take_add_one, List.take_add_one, HT.out, HX1.out, HX2.out, E.out]⟩, by simp [intOf]; omega⟩
        · have t1 : (x1 != x2) = true := by simp [e]
          have hne2 : xs ≠ ys := by
            intro he; subst he
            have := HX1.out.symm.trans HX2.out
            simp at this; exact e this
          have E := Lib.hid hne2
          clear e hne2
          go_wp2_with (go_quiet (fail))
          go_ret
          exact ⟨by simp [E.out], by rw [World.drewN_drewN]; exact pure_drewN w _⟩
      · have he : xs = ys := by
          have := HT.out
          rwa [List.take_of_length_le (by have := H1.out; omega), List.take_of_length_le (by have := H2.out; omega)] at this
        have E := Lib.hid he
        clear he
        go_wp2_with fail
        go_ret
        exact ⟨by simp [E.out], pure_drewN w _⟩
  · have hne : ((n1 : Int) != (n2 : Int)) = true := by simp; omega
    have hne2 : xs ≠ ys := by rintro rfl; omega
    clear l1 l2 hn
    have E := Lib.hid hne2
    clear hne2
    go_enter Tryz.func64, Tryz.ntmps64
    go_wp2_with fail
    go_ret
    exact ⟨by simp [E.out], Below.refl _ _⟩

/-- A block's cells as a list. -/
theorem sl_of_blk {w : World} {g n : Nat} {cs : List Value} {t : TypeId} (h : w.heap[g]? = some (.cells cs.toArray t (0, 0))) (hn : cs.length = n) : Sl w (some ⟨g, 0, none⟩) n cs :=
  ⟨hn, fun j v hj => ⟨_, rfl, by rw [addr_add, cell_of_row w g j _ _ _ h]; simpa using hj⟩⟩

set_option maxRecDepth 100000 in
set_option maxHeartbeats 1000000 in
theorem inner1_c (w : World) (g gr k r q : Nat) (hq : r + 1 = q) (A : Option Addr) (n c : Nat) (t v : List Nat) (hr : IsRule k q t) (hv : ∀ x ∈ v, x < k) (hT : Sl w A n ((ints t).map (Value.int .i64))) (hR : RuleAt w gr (.int .i64 (k : Int)) (.int .i64 (q : Int)) (.slice A n c))
    (hV : Sl w (some ⟨g, 0, none⟩) (2 * r + 1) ((ints v).map (Value.int .i64))) :
    Calls Tryz.prog 87 #[.slice (some ⟨g, 0, none⟩) (2 * r + 1) (2 * r + 1), .pointer (some ⟨gr, 0, none⟩)] w fun e w' => e = .returned (.int .i64 ((sy k t (0 :: (v ++ [0])) : Nat) : Int)) ∧ Below w.heap.size w w' := by
  have hvl : v.length = 2 * r + 1 := by simpa [ints] using hV.1
  have h3 := hr.r3
  have HSY := Lib.hid (fun (wz : World) (hz : Below w.heap.size w wz) (hC : Sl wz (some ⟨w.heap.size, 0, none⟩) (2 * q + 1) ((ints (0 :: (v ++ [0]))).map (Value.int .i64))) => symbol_c wz k q A (some ⟨w.heap.size, 0, none⟩) n c (2 * q + 1) (2 * q + 1) t (0 :: (v ++ [0])) hr (out_sym hr.k1 hv) (by rw [out_len, hvl]; omega) (hT.below hz) hC)
  have HRA := Lib.hid (fun (wz : World) (hz : Below w.heap.size w wz) => (hR.below hz hR.lt).facts)
  obtain ⟨L, hL⟩ : ∃ L, 2 * r + 1 = L := ⟨_, rfl⟩
  obtain ⟨M, hM⟩ : ∃ M, 2 * q + 1 = M := ⟨_, rfl⟩
  rw [hL] at hV hvl
  rw [hM] at HSY
  rw [hL]
  have hLM : M = L + 2 := by omega
  have s1 : (L : Int) + 2 = (M : Int) := by omega
  have s2 : (1 : Int) ≤ (M : Int) := by omega
  have s3 : ¬ M = 1 := by omega
  have hmk := run_make_row' (P := Tryz.prog) 24 3 (.int .i64 0) 8 tInts.und tInts.info rfl .i64 .i64 M (by omega) (by omega) w
  have hb1 := (Below.refl w.heap.size w).alloc (Nat.le_refl _) (.cells (madeCells #[.int .i64 0] M) 3)
  have hblk : (w.alloc (.cells (madeCells #[.int .i64 0] M) 3)).heap[w.heap.size]? = some (.cells (List.replicate M (Value.int .i64 0)).toArray 3 (0, 0)) :=
    (heap_new w (.cells (madeCells #[.int .i64 0] M) 3)).trans (by rw [show (madeCells #[Value.int .i64 0] M) = (List.replicate M (Value.int .i64 0)).toArray by rw [← toList_madeCells_one]])
  have hsz : (Tryz.prog.info? 3).map (·.size) = some 1 := by rw [show (Tryz.prog.info? 3).map (·.size) = some 1 by kernel_rfl]
  have hV1 := hV.below hb1
  unfold ruleV at HSY
  have HLM := Lib.hid hLM
  have HVL := Lib.hid hvl
  have hML : M - 1 = L + 1 := by omega
  have hM9 : M ≤ 9 := by omega
  have HIL := Lib.hid (show ((ints v).map (Value.int .i64)).length = L by rw [List.length_map, ints_len, hvl])
  have HCS := Lib.hid (show splice (List.replicate M (Value.int .i64 0)) 1 ((ints v).map (Value.int .i64)) = (ints (0 :: (v ++ [0]))).map (Value.int .i64) by
    unfold splice
    rw [List.length_map, ints_len, hvl, hLM]
    rw [List.take_replicate, List.drop_replicate, show L + 2 - (1 + L) = 1 by omega, show min 1 (L + 2) = 1 by omega]
    simp [ints])
  have hmin : Nat.min L (L + 1) = L := Nat.min_eq_left (by omega)
  have HMIN := Lib.hid hmin
  have HONE := Lib.hid (ints_one (q := .i64) (ints v))
  have HBLK := Lib.hid hblk
  have HB1 := Lib.hid hb1
  have HV1 := Lib.hid hV1
  have HPOS := Lib.hid (show 0 < ((ints v).map (Value.int .i64)).length → (some ⟨w.heap.size, 1, none⟩ : Option Addr) = some ⟨w.heap.size, 1, none⟩ ∧ ∃ ad, (some ⟨g, 0, none⟩ : Option Addr) = some ad ∧ ∀ (j : Nat) u, ((ints v).map (Value.int .i64))[j]? = some u → (w.alloc (.cells (madeCells #[.int .i64 0] M) 3)).cell? (ad.add j) = some u from fun _ => ⟨rfl, _, rfl, fun j u hj => by
    obtain ⟨ad, e, hc⟩ := hV1.2 j u hj
    cases e
    exact hc⟩)
  have HFIT := Lib.hid (show 1 + ((ints v).map (Value.int .i64)).length ≤ (List.replicate M (Value.int .i64 0)).length by rw [HIL.out, List.length_replicate]; omega)
  clear hq hL hM hvl hT hR hr hLM hV hV1 hblk hb1 hv hmin
  go_enter Tryz.func87, Tryz.ntmps87
  go_wp2_with (refine wpList_copy_splice rfl (.tmp 10) (.tmp 11) 24 24 rfl 3 tInts.und hsz (some ⟨w.heap.size, 1, none⟩) (some ⟨g, 0, none⟩) (L + 1) (L + 1) L L rfl rfl w.heap.size 1 (List.replicate M (Value.int .i64 0)) 3 HBLK.out ((ints v).map (Value.int .i64)) (HIL.out.trans HMIN.out.symm) HPOS.out HFIT.out HONE.out w.heap.size w HB1.out (Nat.le_refl _) ?_; intro w2 hblk2 hb2; obtain ⟨r0, r1, r2, _⟩ := HRA.out w2 hb2)
  rw [HCS.out] at hblk2
  have hs2 := sl_of_blk hblk2.out (n := M) (by rw [List.length_map, ints_len, out_len]; have := HVL.out; have := HLM.out; omega)
  have HS2 := Lib.hid (HSY.out w2 hb2 hs2)
  have HB2 := Lib.hid hb2
  clear hs2 hblk2 hb2 hmk
  refine (HS2.out).mono ?_
  rintro e w3 ⟨rfl, hb3⟩
  have HB3 := Lib.hid (pure_trans HB2.out hb3)
  clear hb3
  go_wp2_with fail
  go_ret
  exact ⟨rfl, HB3.out⟩

/-- The outer i places on both sides turned about. -/
def rvL (xs : List Int) (i : Nat) : List Int := (List.range xs.length).map fun p => if p < i ∨ xs.length - i ≤ p then xs.getD (xs.length - 1 - p) 0 else xs.getD p 0
theorem rvL_len (xs : List Int) (i : Nat) : (rvL xs i).length = xs.length := by simp [rvL]
theorem rvL_at {xs : List Int} {i p : Nat} (h : p < xs.length) : (rvL xs i)[p]? = some (if p < i ∨ xs.length - i ≤ p then xs.getD (xs.length - 1 - p) 0 else xs.getD p 0) := by
  unfold rvL
  rw [List.getElem?_map, List.getElem?_range h]
  rfl
theorem rvL_zero (xs : List Int) : rvL xs 0 = xs := by
  apply List.ext_getElem?
  intro p
  by_cases hp : p < xs.length
  · rw [rvL_at hp, if_neg (by omega), List.getD_eq_getElem?_getD, List.getElem?_eq_getElem hp]
    rfl
  · rw [List.getElem?_eq_none (by rw [rvL_len]; omega), List.getElem?_eq_none (by omega)]
theorem rvL_step {xs : List Int} {i : Nat} (h : 2 * i + 1 < xs.length) : ((rvL xs i).set i (xs.getD (xs.length - 1 - i) 0)).set (xs.length - 1 - i) (xs.getD i 0) = rvL xs (i + 1) := by
  apply List.ext_getElem?
  intro p
  by_cases hp : p < xs.length
  · rw [List.getElem?_set, List.getElem?_set, rvL_at hp, rvL_at hp]
    by_cases h1 : xs.length - 1 - i = p
    · rw [if_pos h1, if_pos (by rw [List.length_set, rvL_len]; omega), if_pos (by omega)]
      congr 2
      omega
    · rw [if_neg h1]
      by_cases h2 : i = p
      · rw [if_pos h2, if_pos (by rw [rvL_len]; omega), if_pos (by omega)]
        congr 2
        omega
      · rw [if_neg h2]
        by_cases h3 : p < i ∨ xs.length - i ≤ p
        · rw [if_pos h3, if_pos (by omega)]
        · rw [if_neg h3, if_neg (by omega)]
  · rw [List.getElem?_eq_none (by rw [List.length_set, List.length_set, rvL_len]; omega), List.getElem?_eq_none (by rw [rvL_len]; omega)]
theorem rvL_all {xs : List Int} {i : Nat} (h : xs.length ≤ 2 * i + 1) : rvL xs i = xs.reverse := by
  apply List.ext_getElem?
  intro p
  by_cases hp : p < xs.length
  · rw [rvL_at hp, List.getElem?_reverse hp]
    have e : xs[xs.length - 1 - p]? = some (xs.getD (xs.length - 1 - p) 0) := by
      rw [List.getD_eq_getElem?_getD, List.getElem?_eq_getElem (by omega)]
      rfl
    rw [e]
    by_cases h3 : p < i ∨ xs.length - i ≤ p
    · rw [if_pos h3]
    · rw [if_neg h3, show xs.length - 1 - p = p by omega]
  · rw [List.getElem?_eq_none (by rw [rvL_len]; omega), List.getElem?_eq_none (by rw [List.length_reverse]; omega)]

set_option maxRecDepth 100000 in
set_option maxHeartbeats 1000000 in
/-- A list of the call's own, turned about in place. -/
theorem reverse_c (w : World) (B g n cp : Nat) (xs : List Int) (h : w.ownsRow B 3 1 (.slice (some ⟨g, 0, none⟩) n cp) n (xs.map (Value.int .i64))) (hn : n ≤ 1000000) :
    Calls Tryz.prog 41 #[.slice (some ⟨g, 0, none⟩) n cp] w fun e w' => e = .returned (.tuple #[]) ∧ w'.ownsRow B 3 1 (.slice (some ⟨g, 0, none⟩) n cp) n (xs.reverse.map (Value.int .i64)) ∧ Keeps (fun b => b = g) w w' := by
  have hl : xs.length = n := by simpa using h.1
  have HL := Lib.hid hl
  clear hl
  go_enter Tryz.func41, Tryz.ntmps41
  go_wp2_with fail
  go_loopw [2, 3] (fun iv jv wr => ∃ (i : Nat) (z : Int), i ≤ n ∧ 2 * i ≤ n ∧ iv = .int .i64 (i : Int) ∧ jv = .int .i64 z ∧ Hid (z = (n : Int) - 1 - (i : Int)) ∧ wr.ownsRow B 3 1 (.slice (some ⟨g, 0, none⟩) n cp) n ((rvL xs i).map (Value.int .i64)) ∧ Hid (Keeps (fun b => b = g) w wr)) (fun iv _ _ => n - (intOf iv).toNat)
  case atStart => exact ⟨0, _, Nat.zero_le _, Nat.zero_le _, rfl, rfl, Lib.hid (by simp), by rw [rvL_zero]; exact h, Lib.hid (Keeps.refl _ _)⟩
  case round =>
    clear h
    obtain ⟨i, z, hi, hi2, rfl, rfl, hz, hown, hK⟩ := hrel
    by_cases hlt : 2 * i + 1 < n
    · obtain ⟨j, hj⟩ : ∃ j, n - 1 - i = j := ⟨_, rfl⟩
      have hzj : z = (j : Int) := by have := hz.out; omega
      subst hzj
      have hij : i < j := by omega
      have hjn : j < n := by omega
      have hst := rvL_step (xs := xs) (i := i) (by rw [HL.out]; exact hlt)
      rw [HL.out, hj] at hst
      obtain ⟨a, ha⟩ : ∃ a, xs.getD i 0 = a := ⟨_, rfl⟩
      obtain ⟨b, hb⟩ : ∃ b, xs.getD j 0 = b := ⟨_, rfl⟩
      rw [ha, hb] at hst
      have ca : wr.cell? ⟨g, i, none⟩ = some (.int .i64 a) := by rw [hown.cellAt i (by omega), List.getElem?_map, rvL_at (by rw [HL.out]; omega), if_neg (by rw [HL.out]; omega), ha]; rfl
      have cb : wr.cell? ⟨g, j, none⟩ = some (.int .i64 b) := by rw [hown.cellAt j (by omega), List.getElem?_map, rvL_at (by rw [HL.out]; omega), if_neg (by rw [HL.out]; omega), hb]; rfl
      have fa := hown.frozenAt i
      have fb := hown.frozenAt j
      have o1 := (hown.stored i (.int .i64 b)).1
      have o2 := (o1.stored j (.int .i64 a)).1
      rw [← List.map_set, ← List.map_set, hst] at o2
      have cb1 : (wr.setCell ⟨g, i, none⟩ (.int .i64 b)).cell? ⟨g, j, none⟩ = some (.int .i64 b) := by
        rw [o1.cellAt j (by omega), List.getElem?_set_ne (by omega), List.getElem?_map, rvL_at (by rw [HL.out]; omega), if_neg (by rw [HL.out]; omega), hb]; rfl
      have fb1 := o1.frozenAt j
      have hk2 := (hK.out.trans (Keeps.of_setCell wr ⟨g, i, none⟩ (.int .i64 b)) (fun _ _ h => h)).trans (Keeps.of_setCell (wr.setCell ⟨g, i, none⟩ (.int .i64 b)) ⟨g, j, none⟩ (.int .i64 a)) (fun _ _ h => h)
      have HO := Lib.hid o2
      have HK := Lib.hid hk2
      have HZ := Lib.hid (show (j : Int) - 1 = (n : Int) - 1 - ((i + 1 : Nat) : Int) by omega)
      have hij' : (i : Int) < (j : Int) := by omega
      have hjn' : (j : Int) < (n : Int) := by omega
      have hin' : (i : Int) < (n : Int) := by omega
      have hi0 : (0 : Int) ≤ (i : Int) := by omega
      have hj0 : (0 : Int) ≤ (j : Int) := by omega
      clear hst ha hb o1 o2 hk2 hown hK hz hj
      go_wp2_with fail
      go_region
      go_wp2_with fail
      exact ⟨⟨i + 1, _, by omega, by omega, by go_num, rfl, HZ, HO.out, Lib.hid (HK.out.trans (Keeps.of_pure ((Below.refl _ _).drew) (fun b => b = g)) (fun _ _ h => h))⟩, by simp [intOf]; omega⟩
    · have hni : ¬ (i : Int) < z := by have := hz.out; omega
      rw [rvL_all (by rw [HL.out]; omega), List.map_reverse] at hown
      go_wp2_with fail
      first | go_end0 | refine bodyPost_ret (results_none rfl _ _ _) rfl ?_
      exact ⟨rfl, hown, hK.out⟩

set_option maxRecDepth 100000 in
theorem mirror1_c (w : World) (g gr k r : Nat) (A : Option Addr) (n c : Nat) (t v : List Nat) (hr : IsRule k r t) (hv : ∀ x ∈ v, x < k) (hT : Sl w A n ((ints t).map (Value.int .i64))) (hR : RuleAt w gr (.int .i64 (k : Int)) (.int .i64 (r : Int)) (.slice A n c))
    (hV : Sl w (some ⟨g, 0, none⟩) (2 * r + 1) ((ints v).map (Value.int .i64))) :
    Calls Tryz.prog 39 #[.slice (some ⟨g, 0, none⟩) (2 * r + 1) (2 * r + 1), .pointer (some ⟨gr, 0, none⟩)] w fun e w' => e = .returned (.int .i64 ((sy k t v.reverse : Nat) : Int)) ∧ Below w.heap.size w w' := by
  have hvl : v.length = 2 * r + 1 := by simpa [ints] using hV.1
  have h3 := hr.r3
  have HCL := Lib.hid (clone_c w (some ⟨g, 0, none⟩) (2 * r + 1) (2 * r + 1) _ (ints_one (q := .i64) (ints v)) (by omega) hV)
  have HSY := Lib.hid (fun (wz : World) (hz : Below w.heap.size w wz) (C : Option Addr) (cc : Nat) (hC : Sl wz C (2 * r + 1) ((ints v.reverse).map (Value.int .i64))) => symbol_c wz k r A C n c (2 * r + 1) cc t v.reverse hr (rev_sym hv) (by rw [List.length_reverse, hvl]) (hT.below hz) hC)
  have HRA := Lib.hid (fun (wz : World) (hz : Below w.heap.size w wz) => (hR.below hz hR.lt).facts)
  have HRE := Lib.hid (show (ints v).reverse = ints v.reverse by simp [ints])
  obtain ⟨L, hL⟩ : ∃ L, 2 * r + 1 = L := ⟨_, rfl⟩
  have hL1 : 0 < L := by omega
  have hL7 : L ≤ 7 := by omega
  rw [hL] at HCL HSY
  rw [hL]
  unfold ruleV at HSY
  clear hL hvl hT hR hr hV hv
  go_enter Tryz.func39, Tryz.ntmps39
  go_wp2_with fail
  refine (HCL.out).mono ?_
  rintro e w1 ⟨C, cc, rfl, hC, hb1⟩
  obtain ⟨g1, hg1⟩ : ∃ g1, C = some ⟨g1, 0, none⟩ := by
    rcases hC.2 with ⟨h, _⟩ | ⟨g1, cap, cur, h, _⟩
    · injection h with _ h _
      omega
    · injection h with h _ _
      exact ⟨g1, h⟩
  subst hg1
  have HRV := Lib.hid (reverse_c w1 w.heap.size g1 L cc (ints v) hC (by omega))
  have HB1 := Lib.hid hb1
  have HGE := Lib.hid (hC.lt g1 rfl).1
  clear hb1 hC
  go_wp2_with fail
  refine (HRV.out).mono ?_
  rintro e w2 ⟨rfl, hC2, hk2⟩
  rw [HRE.out] at hC2
  have HB2 := Lib.hid (HB1.out.trans (hk2.below HB1.out.size (fun b hb => by rw [show b = g1 from hb]; exact HGE.out)))
  have HS2 := Lib.hid (HSY.out w2 HB2.out (some ⟨g1, 0, none⟩) cc (Sl.of_own hC2))
  obtain ⟨r0, r1, r2, _⟩ := HRA.out w2 HB2.out
  clear hC2 hk2
  go_wp2_with fail
  refine (HS2.out).mono ?_
  rintro e w3 ⟨rfl, hb3⟩
  have HB3 := Lib.hid (pure_trans HB2.out hb3)
  clear hb3
  go_wp2_with fail
  go_ret
  exact ⟨rfl, HB3.out⟩
end Go.Proofs.YtpllojpgpejfmaaGreatDoor

namespace Go.Proofs.YtpllojpgpejfmaaGreatDoor
open Go.RowKit

/-- An error told further by another package. -/
def under (op : ByteArray) (i : Int) : Option Tale → Option Tale
  | none => none
  | some t => some (t.1, (op, i) :: t.2)
theorem under_ok {op : ByteArray} {i : Int} {t : Option Tale} (h : TaleOk t) : TaleOk (under op i t) := by
  intro x hx
  cases t with
  | none => cases hx
  | some t => cases hx; exact h t rfl

theorem under_c (w : World) (E : Nat → Addr) (op : ByteArray) (i : Int) (t : Option Tale) (v : Value) (h : ErrV w E t v) :
    Calls Tryz.prog 35 #[.string op, .int .i64 i, v] w fun e w' => ∃ v', e = .returned v' ∧ ErrV w' E (under op i t) v' ∧ Below w.heap.size w w' := by
  cases t with
  | none =>
    obtain rfl : v = .nilIface := h
    go_enter Tryz.func35, Tryz.ntmps35
    go_wp2_with fail
    go_ret
    exact ⟨_, rfl, rfl, Below.refl _ _⟩
  | some t =>
    have h' : ErrIs w E t.1 t.2 v := h
    obtain ⟨u, p, rfl⟩ := h'.iface
    have HP := Lib.hid h'
    clear h h'
    go_enter Tryz.func35, Tryz.ntmps35
    go_wp2_with fail
    go_ret
    have hb := (Below.refl w.heap.size w).alloc (Nat.le_refl _) (.cells #[.string op, .int .i64 i, .iface u p] 99)
    exact ⟨_, rfl, ⟨w.heap.size, _, rfl, heap_new _ _, ErrIs.below hb HP.out⟩, hb⟩
end Go.Proofs.YtpllojpgpejfmaaGreatDoor

namespace Go.Proofs.YtpllojpgpejfmaaGreatDoor
open Go.RowKit

/-- The number of an error; nought for none. -/
def tnum : Option Tale → Nat
  | none => 0
  | some t => t.1
/-- The value asks for no error, or for the error of the tale; its lists lie from block base on. -/
def WantB (w : World) (base : Nat) (t : Option Tale) (u : Value) : Prop :=
  ∃ (N : Nat) (A1 : Option Addr) (n1 c1 : Nat) (A2 : Option Addr) (n2 c2 : Nat), u = .agg #[.int .i64 (N : Int), .slice A1 n1 c1, .slice A2 n2 c2] ∧ WantV w t u ∧ (∀ ad, A1 = some ad → base ≤ ad.block) ∧ (∀ ad, A2 = some ad → base ≤ ad.block) ∧
    N = tnum t
theorem WantB.want {w : World} {base : Nat} {t : Option Tale} {u : Value} (h : WantB w base t u) : WantV w t u := by obtain ⟨_, _, _, _, _, _, _, _, h, _⟩ := h; exact h
theorem WantB.keeps {w w' : World} {O : Nat → Prop} {base : Nat} {t : Option Tale} {u : Value} (h : WantB w base t u) (hk : Keeps O w w') (ho : ∀ b, O b → b < base) : WantB w' base t u := by
  obtain ⟨N, A1, n1, c1, A2, n2, c2, rfl, hw, b1, b2, hN⟩ := h
  refine ⟨N, A1, n1, c1, A2, n2, c2, rfl, ?_, b1, b2, hN⟩
  cases t with
  | none => exact hw
  | some t =>
    obtain ⟨A1', c1', A2', c2', e, p1, p2, p3, p4, s1, s2⟩ := hw
    injection e with e
    injection e with e
    injection e with e0 e
    injection e with e1 e
    injection e with e2 e
    injection e1 with f1 f2 f3
    injection e2 with g1 g2 g3
    subst f1 f3 g1 g3
    refine ⟨A1, c1, A2, c2, by rw [e0, f2, g2], p1, p2, p3, p4, s1.keeps hk (fun ad e' hO => ?_), s2.keeps hk (fun ad e' hO => ?_)⟩
    · have := b1 ad e'; have := ho _ hO; omega
    · have := b2 ad e'; have := ho _ hO; omega
theorem WantB.below {w w' : World} {base : Nat} {t : Option Tale} {u : Value} (h : WantB w base t u) (hb : Below w.heap.size w w') : WantB w' base t u := by
  obtain ⟨N, A1, n1, c1, A2, n2, c2, rfl, hw, b1, b2, hN⟩ := h
  exact ⟨N, A1, n1, c1, A2, n2, c2, rfl, hw.below hb, b1, b2, hN⟩
theorem WantB.base {w : World} {base base' : Nat} {t : Option Tale} {u : Value} (h : WantB w base t u) (hb : base' ≤ base) : WantB w base' t u := by
  obtain ⟨N, A1, n1, c1, A2, n2, c2, rfl, hw, b1, b2, hN⟩ := h
  exact ⟨N, A1, n1, c1, A2, n2, c2, rfl, hw, fun ad e => Nat.le_trans hb (b1 ad e), fun ad e => Nat.le_trans hb (b2 ad e), hN⟩
/-- No error asked for. -/
theorem WantB.zero (w : World) (base : Nat) : WantB w base none (.agg #[.int .i64 0, .slice none 0 0, .slice none 0 0]) :=
  ⟨0, none, 0, 0, none, 0, 0, rfl, rfl, fun _ e => (by cases e), fun _ e => (by cases e), rfl⟩
theorem WantB.set3 {w : World} {base g : Nat} {t : Option Tale} {u : Value} (h : WantB w base t u) (hg : g < base) (u0 u1 u2 : Value) : WantB (((w.setCell ⟨g, 0, none⟩ u0).setCell ⟨g, 1, none⟩ u1).setCell ⟨g, 2, none⟩ u2) base t u :=
  h.keeps (keeps_set3 w g u0 u1 u2) (fun b e => by omega)

theorem WantB.num {w : World} {base : Nat} {t : Option Tale} {N : Nat} {A1 A2 : Option Addr} {n1 c1 n2 c2 : Nat} (h : WantB w base t (.agg #[.int .i64 (N : Int), .slice A1 n1 c1, .slice A2 n2 c2])) : N = tnum t := by
  obtain ⟨_, _, _, _, _, _, _, he, _, _, _, hN⟩ := h
  injection he with he
  injection he with he
  injection he with he1 _
  injection he1 with _ he1
  have e := Int.ofNat.inj he1
  rw [e]
  exact hN
/-- No error asked for: the value is nought. -/
theorem WantB.none_eq {w : World} {base : Nat} {u : Value} (h : WantB w base none u) : u = .agg #[.int .i64 0, .slice none 0 0, .slice none 0 0] := h.want

/-- The block holds what is asked of an error. -/
def WantAt (w : World) (g : Nat) (x0 x1 x2 : Value) : Prop := w.heap[g]? = some (.cells #[x0, x1, x2] 45 (0, 0))
namespace WantAt
variable {w w' : World} {g : Nat} {x0 x1 x2 : Value}
theorem facts (h : WantAt w g x0 x1 x2) : w.cell? ⟨g, 0, none⟩ = some x0 ∧ w.cell? ⟨g, 1, none⟩ = some x1 ∧ w.cell? ⟨g, 2, none⟩ = some x2 ∧ w.frozen? ⟨g, 0, none⟩ = false ∧ w.frozen? ⟨g, 1, none⟩ = false ∧ w.frozen? ⟨g, 2, none⟩ = false := by
  obtain ⟨a, b, c, _⟩ := blk_cells h
  exact ⟨a, b, c, frozen_of_row _ _ 0 _ _ h, frozen_of_row _ _ 1 _ _ h, frozen_of_row _ _ 2 _ _ h⟩
theorem below {B : Nat} (h : WantAt w g x0 x1 x2) (hb : Below B w w') (hg : g < B) : WantAt w' g x0 x1 x2 := (hb.block g hg).trans h
theorem keeps {O : Nat → Prop} (h : WantAt w g x0 x1 x2) (hk : Keeps O w w') (ho : ¬ O g) : WantAt w' g x0 x1 x2 := (hk.block g (Array.getElem?_eq_some_iff.1 h).1 ho).trans h
theorem new (w : World) (x0 x1 x2 : Value) : WantAt (w.alloc (.cells #[x0, x1, x2] 45)) w.heap.size x0 x1 x2 := heap_new _ _
theorem alloc (h : WantAt w g x0 x1 x2) (o : Obj) : WantAt (w.alloc o) g x0 x1 x2 := (Below.heap_alloc w o g (Array.getElem?_eq_some_iff.1 h).1).trans h
theorem lt (h : WantAt w g x0 x1 x2) : g < w.heap.size := (Array.getElem?_eq_some_iff.1 h).1
theorem set3 (h : WantAt w g x0 x1 x2) (u0 u1 u2 : Value) : WantAt (((w.setCell ⟨g, 0, none⟩ u0).setCell ⟨g, 1, none⟩ u1).setCell ⟨g, 2, none⟩ u2) g u0 u1 u2 := by
  unfold WantAt at *
  have h0 := (Array.getElem?_eq_some_iff.1 h).1
  simp only [World.setCell]
  simp [Array.getElem?_modify, h]
end WantAt

theorem own_setW {w : World} {base e n g : Nat} {v : Value} {xs : List Value} {x0 x1 x2 : Value} (h : w.ownsRow base e 1 v n xs) (hr : WantAt w g x0 x1 x2) (hne : e ≠ 45) (u0 u1 u2 : Value) :
    (((w.setCell ⟨g, 0, none⟩ u0).setCell ⟨g, 1, none⟩ u1).setCell ⟨g, 2, none⟩ u2).ownsRow base e 1 v n xs :=
  own_keeps h (keeps_set3 w g u0 u1 u2) (fun g' hg' e' => by subst e'; exact own_ne_blk h hr hne hg')

/-- edenraw.New: what an error must be that one package tells. -/
theorem newB_c (w : World) (op : ByteArray) (at' : Int) (n : Nat) :
    Calls Tryz.prog 47 #[.string op, .int .i64 at', .int .i64 (n : Int)] w fun e w' => ∃ (A1 : Option Addr) (n1 c1 : Nat) (A2 : Option Addr) (n2 c2 : Nat), e = .returned (.agg #[.int .i64 (n : Int), .slice A1 n1 c1, .slice A2 n2 c2]) ∧
      WantB w' w.heap.size (some (n, [(op, at')])) (.agg #[.int .i64 (n : Int), .slice A1 n1 c1, .slice A2 n2 c2]) ∧ Below w.heap.size w w' :=
  (rawNew_x w op at' n).mono fun _ _ ⟨h1, h2, h3, h4⟩ => ⟨_, _, _, _, _, _, h1, ⟨n, _, _, _, _, _, _, rfl, want_of h2 h3, fun ad e => by cases e; simp, fun ad e => by cases e; simp; omega, rfl⟩, h4⟩
end Go.Proofs.YtpllojpgpejfmaaGreatDoor
