/- The document's image of a word, symbol of a window: edenref04.Value, Image, Local, Step. Condition: lists read from memory. -/
import Derived.Test.YtfgjcdfmlpdkaaaDoorRefR
import Derived.Test.YtfgjcdfmlpdkaaaDoorRuleG
import Derived.Test.YtfgjcdfmlpdkaaaDoorCut
import Derived.Deep.RegionHeld3
import Derived.Deep.AppendLies
namespace Go.Proofs.YtfgjcdfmlpdkaaaDoor
open Go.RowKit RuleP

set_option maxRecDepth 100000 in
set_option maxHeartbeats 1000000 in
theorem value_c (w : World) (k : Nat) (B : Option Addr) (m d : Nat) (v : List Nat) (hk1 : 1 ≤ k) (hk4 : k ≤ 4) (hv : ∀ x ∈ v, x < k) (hW : Sl w B m ((ints v).map (Value.int .i64))) (hm7 : m ≤ 7) :
    Calls Tryd.prog 84 #[.int .i64 (k : Int), .slice B m d] w fun e w' => e = .returned (.int .i64 ((wval k v : Nat) : Int)) ∧ w = w' := by
  have hl : v.length = m := by simpa [ints] using hW.1
  have HL := Lib.hid hl
  have HV := Lib.hid hv
  rw [ints_map] at hW
  clear hl hv
  go_enter Tryd.func84, Tryd.ntmps84
  go_wp2_with fail
  go_loop [5, 6] (fun nv i => ∃ j : Nat, j ≤ m ∧ i = .int .i64 (j : Int) ∧ nv = .int .i64 ((wval k (v.take j) : Nat) : Int)) (fun _ i => m - (intOf i).toNat)
  case atStart => exact ⟨0, Nat.zero_le _, rfl, by simp [wval_nil]⟩
  case round =>
    obtain ⟨j, hj, rfl, rfl⟩ := hrel
    by_cases hlt : j < m
    · obtain ⟨adw, x, rfl, hxj, hcx⟩ := hW.word_ hlt
      have hxk : x < k := HV.out x (List.mem_of_getElem? hxj)
      have hs : wval k (v.take (j + 1)) = wval k (v.take j) * k + x := by
        rw [List.take_add_one, hxj]; exact wval_snoc _ _ _
      have hle : wval k (v.take (j + 1)) ≤ 16384 := by
        have h1 := wval_lt (k := k) (w := v.take (j + 1)) (fun y hy => HV.out y (List.mem_of_mem_take hy))
        have h2 : k ^ (v.take (j + 1)).length ≤ 4 ^ 7 := Nat.le_trans (Nat.pow_le_pow_left hk4 _) (Nat.pow_le_pow_right (by decide) (by rw [List.length_take]; omega))
        have h3 : 4 ^ 7 = 16384 := by decide
        omega
      obtain ⟨ρ, hρ⟩ : ∃ ρ, wval k (v.take j) = ρ := ⟨_, rfl⟩
      obtain ⟨σ, hσ⟩ : ∃ σ, wval k (v.take (j + 1)) = σ := ⟨_, rfl⟩
      rw [hρ, hσ] at hs
      rw [hσ] at hle
      rw [hρ]
      have hQ : (ρ : Int) * (k : Int) = ((ρ * k : Nat) : Int) := by simp
      obtain ⟨Q, hQQ⟩ : ∃ Q, ρ * k = Q := ⟨_, rfl⟩
      rw [hQQ] at hQ hs
      have hQl : Q ≤ 16384 := by omega
      have hsum : Hid ((Q : Int) + (x : Int) = (σ : Int)) := Lib.hid (by omega)
      have HS := Lib.hid hσ
      clear hs hρ hσ hQQ hxj
      go_wp2_with fail
      exact ⟨⟨j + 1, by omega, by go_num, by rw [HS.out, ← hsum.out]⟩, by simp [intOf]; omega⟩
    · obtain rfl : j = m := by omega
      have htk : v.take j = v := List.take_of_length_le (by rw [HL.out]; exact Nat.le_refl _)
      rw [htk]
      obtain ⟨ρ, hρ⟩ : ∃ ρ, wval k v = ρ := ⟨_, rfl⟩
      have HR := Lib.hid hρ
      rw [hρ]
      clear htk hρ
      go_wp2_with fail
      go_ret
      exact ⟨by rw [HR.out]; rfl, rfl⟩

set_option maxRecDepth 100000 in
set_option maxHeartbeats 4000000 in
theorem image_c (w : World) (k r : Nat) (A B : Option Addr) (n c m d M : Nat) (t v : List Nat) (hr : IsRule k r t) (hv : ∀ x ∈ v, x < k) (hT : Sl w A n ((ints t).map (Value.int .i64))) (hW : Sl w B m ((ints v).map (Value.int .i64))) (hm : m ≤ 4096) (hmd : m ≤ d) (hd : d ≤ maxLen) (hM : m - 2 * r = M) :
    Calls Tryd.prog 85 #[ruleV k r A n c, .slice B m d] w fun e w' => ∃ C c', e = .returned (.slice C M c') ∧ w'.ownsRow w.heap.size 3 1 (.slice C M c') M ((ints (image k r t v)).map (Value.int .i64)) ∧ Below w.heap.size w w' := by
  unfold maxLen at hd
  have hl : v.length = m := by simpa [ints] using hW.1
  have hlt : t.length = n := by simpa [ints] using hT.1
  have hn := hr.le
  have hk1 := hr.k1
  have hk4 := hr.k4
  have hr3 := hr.r3
  rw [hlt] at hn
  have hbox := RuleAt.new w (.int .i64 (k : Int)) (.int .i64 (r : Int)) (.slice A n c)
  have hb0 := (Below.refl w.heap.size w).alloc (Nat.le_refl _) (.cells #[.int .i64 (k : Int), .int .i64 (r : Int), .slice A n c] 24)
  have HL := Lib.hid hl
  have HLT := Lib.hid hlt
  have HR := Lib.hid hr
  have HV := Lib.hid hv
  have HM := Lib.hid hM
  clear hl hlt hr hv hM
  rw [ints_map] at hT
  obtain ⟨ii, hii, hiz, hi1, hi8⟩ := info_parts tInts.info
  unfold ruleV at *
  go_enter Tryd.func85, Tryd.ntmps85
  go_wp2_with fail
  go_loopw [5, 6] (fun ov iv wr => ∃ (i : Nat) (C : Option Addr) (cc : Nat), i ≤ M ∧ iv = .int .i64 (i : Int) ∧ ov = .slice C i cc ∧ wr.ownsRow w.heap.size 3 1 (.slice C i cc) i (((ints (image k r t v)).take i).map (Value.int .i64)) ∧
      RuleAt wr w.heap.size (.int .i64 (k : Int)) (.int .i64 (r : Int)) (.slice A n c) ∧ Below w.heap.size w wr) (fun _ iv _ => M - (intOf iv).toNat)
  case atStart => exact ⟨0, none, 0, Nat.zero_le _, rfl, rfl, ⟨by simp, .inl ⟨rfl, rfl⟩⟩, hbox, hb0⟩
  case round =>
    clear hbox hb0
    obtain ⟨i, C, cc, hi, rfl, rfl, hown, hbox, hb⟩ := hrel
    obtain ⟨b0, b1, b2, _⟩ := hbox.facts
    have hbl := hbox.lt
    have HBX := Lib.hid hbox
    clear hbox
    by_cases hlt : i < M
    · have him : i + 2 * r < m := by have := HM.out; omega
      have hW2 := hW.below hb
      obtain ⟨adw, xw, rfl, hq1, hq2⟩ := hW2.at_ (show i < m by omega)
      clear hq1 hq2
      have hpart := sl_part hW2 (i := i) (m := 2 * r + 1) (by omega) adw rfl
      have hwl : wval k (win v i (2 * r + 1)) < n := by
        have h1 := win_lt HR.out HV.out (show i + 2 * r < v.length by rw [HL.out]; exact him)
        rw [HLT.out] at h1; exact h1
      obtain ⟨adt, y, rfl, hyt, hcy0⟩ := hT.word_ hwl
      have hadt := World.block_lt_of_cell? _ _ hcy0
      have hcy := cell_later hb hcy0
      clear hcy0
      have himg : (ints (image k r t v))[i]? = some ((y : Nat) : Int) := by
        have h1 := image_at (k := k) (r := r) (t := t) (w := v) (i := i) (by rw [HL.out]; exact him)
        rw [List.getD_eq_getElem?_getD, hyt] at h1
        simp [ints, h1]
      have HIMG := Lib.hid himg
      have HSW : Hid (Sl wr (some (adw.add i)) (2 * r + 1) ((ints (win v i (2 * r + 1))).map (Value.int .i64))) := Lib.hid ⟨by simp only [List.length_map, ints_len]; exact win_len (by rw [HL.out]; omega), fun j u hj => ⟨_, rfl, hpart j u (by rw [show (((ints v).map (Value.int .i64)).drop i).take (2 * r + 1) = (ints (win v i (2 * r + 1))).map (Value.int .i64) from by simp [win, ints, List.map_drop, List.map_take]]; exact hj)⟩⟩
      have HVAL := Lib.hid (value_c wr.drew k (some (adw.add i)) (2 * r + 1) (d - i) (win v i (2 * r + 1)) hk1 hk4 (win_sym HV.out i (2 * r + 1)) HSW.out (by omega))
      obtain ⟨σ, hσ⟩ : ∃ σ, wval k (win v i (2 * r + 1)) = σ := ⟨_, rfl⟩
      rw [hσ] at hwl hcy HVAL hadt
      clear hpart hyt himg hσ hW2
      have s1 : IntKind.i64.wrap (2 * (r : Int)) = 2 * (r : Int) := IntWalk.i64_in _ (by omega)
      have s2 : IntKind.i64.wrap ((i : Int) + 2 * (r : Int)) = (i : Int) + 2 * (r : Int) := IntWalk.i64_in _ (by omega)
      have s3 : IntKind.i64.wrap ((i : Int) + 2 * (r : Int) + 1) = (i : Int) + 2 * (r : Int) + 1 := IntWalk.i64_in _ (by omega)
      have s4 : (i : Int) ≤ (i : Int) + 2 * (r : Int) + 1 := by omega
      have s5 : (i : Int) + 2 * (r : Int) + 1 ≤ (d : Int) := by omega
      have s6 : (0 : Int) ≤ (i : Int) + 2 * (r : Int) + 1 := by omega
      have s7 : (i : Int) + 2 * (r : Int) < (m : Int) := by omega
      have t1 : (σ : Int) < (n : Int) := by omega
      have t2 : ¬ (d = i) := by omega
      have t3 : ((i : Int) + 2 * (r : Int) + 1).toNat - i = 2 * r + 1 := by omega
      go_wp2_with fail
      go_region_held3 (fun w' => w'.cell? ⟨w.heap.size, 0, none⟩ = some (.int .i64 (k : Int)) ∧ w'.cell? ⟨w.heap.size, 1, none⟩ = some (.int .i64 (r : Int)) ∧ w'.cell? ⟨w.heap.size, 2, none⟩ = some (.slice (some adt) n c) ∧ w'.cell? (adt.add σ) = some (.int .i64 (y : Int)))
        (first | go_keep)
        (first
          | (go_simp
             go_at_call 84
             refine (HVAL.out).mono ?_
             rintro e w4 ⟨rfl, rfl⟩
             dsimp only)
          | (refine step_append_lies _ ?g2 (.tmp 17) (.tmp 34) 22 ?g6 w.heap.size 3 ii (.int .i64 0) 1 8 tInts.und hii hiz hi1 hi8 rfl Nat.one_pos (.slice C i cc) i (((ints (image k r t v)).take i).map (Value.int .i64)) ?g7 ?g9 ⟨wr.heap.size, 0, none⟩ 1 1 [.int .i64 (y : Int)] ?g8 ?h1 ?h2 ?h3 ?h4 ?h5 ?h6 ?g10 _ rfl ?h7
             case g2 => rfl
             case g6 => rfl
             case g7 => rfl
             case g9 => exact hown.alloc _
             case g8 => rfl
             case h1 => rfl
             case h2 => (intro j u hj; match j, hj with | 0, hj => (simp at hj; subst hj; simp [Addr.add]))
             case h3 => (intro u hu; simp at hu; subst hu; rfl)
             case h4 => decide
             case h5 => (simp only [maxLen]; omega)
             case h6 => omega
             case g10 => (simp; omega)
             intro gg cap w3 hown3 hgrow hat hlt3
             have hk3 := grown_keeps hgrow
             have hbx3 := HBX.out.keeps hk3 (fun e => own_ne_blk hown HBX.out (by decide) e)
             have z3 := hk3.cell hcy (fun e => absurd (hown.lt _ e).1 (Nat.not_le_of_lt hadt))
             obtain ⟨z0, z1, z2, _⟩ := hbx3.facts
             dsimp only))
      rw [show (((ints (image k r t v)).take i).map (Value.int .i64)) ++ [.int .i64 (y : Int)] = ((ints (image k r t v)).take (i + 1)).map (Value.int .i64) from by rw [List.take_add_one, HIMG.out]; simp] at hown3
      have hb3 : Below w.heap.size w w3 := hb.trans (hk3.below hb.size (fun b hb' => (hown.lt _ hb').1))
      clear hown hgrow hat hk3 hcy
      go_wp2_with fail
      exact ⟨⟨i + 1, _, cap, by omega, by go_num, rfl, hown3, hbx3, hb3⟩, by simp [intOf]; omega⟩
    · obtain rfl : i = M := by omega
      have him : ¬ (i + 2 * r < m) := by have := HM.out; omega
      have him2 : i ≤ 4096 := by have := HM.out; omega
      have s1 : IntKind.i64.wrap (2 * (r : Int)) = 2 * (r : Int) := IntWalk.i64_in _ (by omega)
      have s2 : IntKind.i64.wrap ((i : Int) + 2 * (r : Int)) = (i : Int) + 2 * (r : Int) := IntWalk.i64_in _ (by omega)
      have s7 : ¬ ((i : Int) + 2 * (r : Int) < (m : Int)) := by omega
      rw [List.take_of_length_le (by rw [ints_len, image_len, HL.out]; have := HM.out; omega)] at hown
      have HO := Lib.hid hown
      clear hown him
      go_wp2_with fail
      go_ret
      exact ⟨C, cc, rfl, HO.out, hb⟩
end Go.Proofs.YtfgjcdfmlpdkaaaDoor
