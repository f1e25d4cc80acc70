/- The call of RuleSums: it returns true. Condition: its lists read from memory; the error variables hold what E says. -/
import Derived.Test.YtfgjcdfmlpdkaaaDoorLaw4A
import Derived.Test.YtfgjcdfmlpdkaaaDoorRef4A
import Derived.StillTailTactics
import Derived.Deep.RegionWith
namespace Go.Proofs.YtfgjcdfmlpdkaaaDoor
open Go.RowKit RuleP

theorem tmodk (x : Int) {k : Nat} (h1 : 1 ≤ k) (h4 : k ≤ 4) : -3 ≤ x.tmod (k : Int) ∧ x.tmod (k : Int) ≤ 3 := by
  have hk : k = 1 ∨ k = 2 ∨ k = 3 ∨ k = 4 := by omega
  rcases Int.lt_or_le x 0 with h | h
  · have e : x.tmod (k : Int) = -((-x) % (k : Int)) := by
      rw [← Int.tmod_eq_emod_of_nonneg (by omega : 0 ≤ -x), Int.neg_tmod, Int.neg_neg]
    have h2 := Int.emod_nonneg (-x) (show (k : Int) ≠ 0 by omega)
    have h3 := Int.emod_lt_of_pos (-x) (show (0 : Int) < (k : Int) by omega)
    omega
  · rw [Int.tmod_eq_emod_of_nonneg h]
    have h2 := Int.emod_nonneg x (show (k : Int) ≠ 0 by omega)
    have h3 := Int.emod_lt_of_pos x (show (0 : Int) < (k : Int) by omega)
    omega
theorem tmodk_ge (x : Int) {k : Nat} (h1 : 1 ≤ k) : -(k : Int) < x.tmod (k : Int) := by
  rcases Int.lt_or_le x 0 with h | h
  · have e : x.tmod (k : Int) = -((-x) % (k : Int)) := by
      rw [← Int.tmod_eq_emod_of_nonneg (by omega : 0 ≤ -x), Int.neg_tmod, Int.neg_neg]
    have h3 := Int.emod_lt_of_pos (-x) (show (0 : Int) < (k : Int) by omega)
    omega
  · rw [Int.tmod_eq_emod_of_nonneg h]
    have h2 := Int.emod_nonneg x (show (k : Int) ≠ 0 by omega)
    omega
/-- A number brought to a symbol. -/
def symN (k : Nat) (x : Int) : Nat := ((x.tmod (k : Int) + (k : Int)) % (k : Int)).toNat
theorem symN_lt (x : Int) {k : Nat} (h1 : 1 ≤ k) : symN k x < k := by
  unfold symN
  have := Int.emod_lt_of_pos (x.tmod (k : Int) + (k : Int)) (show (0 : Int) < (k : Int) by omega)
  omega
theorem symN_eq (x : Int) {k : Nat} (h1 : 1 ≤ k) : (x.tmod (k : Int) + (k : Int)) % (k : Int) = (symN k x : Int) := by
  unfold symN
  have := Int.emod_nonneg (x.tmod (k : Int) + (k : Int)) (show (k : Int) ≠ 0 by omega)
  omega

/-- The table of sums. -/
def sumTab (k r : Nat) (f : List Nat) : List Nat := (List.range (k ^ (2 * r + 1))).map fun i => lin k (digB k (2 * r + 1) i) f
theorem sumTab_at {k r : Nat} (f : List Nat) {i : Nat} (h : i < k ^ (2 * r + 1)) : (sumTab k r f)[i]? = some (lin k (digB k (2 * r + 1) i) f) := by
  unfold sumTab
  rw [List.getElem?_map, List.getElem?_range h]
  rfl
theorem sumTab_sum (k r : Nat) (f : List Nat) : SumT k r (sumTab k r f) f := ⟨by simp [sumTab], fun i h => sumTab_at f h⟩

theorem wr_mod {T Q k T2 : Int} (h0 : 0 ≤ T) (h1 : T ≤ 100) (q0 : 0 ≤ Q) (q1 : Q ≤ 100) (h : (T + Q) % k = T2) : (wrap64 (T + wrap64 Q)).tmod k = T2 := by
  have e1 : wrap64 Q = Q := by unfold wrap64; omega
  have e2 : wrap64 (T + Q) = T + Q := by unfold wrap64; omega
  rw [e1, e2, Int.tmod_eq_emod_of_nonneg (by omega), h]
theorem wr_mod2 {T Q k T2 : Int} (h0 : 0 ≤ T) (h1 : T ≤ 100) (q0 : 0 ≤ Q) (q1 : Q ≤ 100) (h : (T + Q) % k = T2) : (wrap64 (T + Q)).tmod k = T2 := by
  have e2 : wrap64 (T + Q) = T + Q := by unfold wrap64; omega
  rw [e2, Int.tmod_eq_emod_of_nonneg (by omega), h]
theorem set_same {l : List Nat} {i z : Nat} (h : l[i]? = some z) : l.set i z = l := by
  apply List.ext_getElem?
  intro q
  rw [List.getElem?_set]
  split
  · rename_i e
    subst e
    rw [if_pos (List.getElem?_eq_some_iff.1 h).1, h]
  · rfl
theorem fillTo_at {l : List Nat} {n z k : Nat} (hk : k < n) (hl : k ≤ l.length) : (fillTo l n z k)[k]? = some z := by
  unfold fillTo
  rw [List.getElem?_append_right (by simp; omega), List.length_take, Nat.min_eq_left hl, Nat.sub_self, List.getElem?_replicate, if_pos (by omega)]

set_option maxRecDepth 100000 in
set_option maxHeartbeats 1000000 in
theorem ruleSums_err (w : World) (E : Nat → Addr) (hE : Errs w E) (K R : Int) (F V W : Value) (h : K < 1 ∨ 4 < K ∨ R < 0 ∨ 3 < R) :
    Calls Tryd.prog 4 #[.int .i64 K, .int .i64 R, F, V, W] w fun e w' => e = .returned (.bool true) ∧ Below w.heap.size w w' := by
  have HE := Lib.hid hE
  have HH := Lib.hid h
  clear hE h
  go_enter Tryd.func4, Tryd.ntmps4
  go_wp2_with fail
  refine (awake4_c w E HE.out).mono ?_
  rintro e w1 ⟨rfl, b1⟩
  go_wp2_with fail
  refine (size_err w1 E (HE.out.below b1) K R HH.out).mono ?_
  rintro e w2 ⟨b, rfl, _, h2⟩
  have b2 := b1.trans (h2.mono b1.size)
  unfold errV
  go_wp2_with fail
  go_ret
  exact ⟨rfl, b2⟩

set_option maxRecDepth 100000 in
set_option maxHeartbeats 1000000 in
theorem ruleSums_skip (w : World) (E : Nat → Addr) (hE : Errs w E) (k r : Nat) (k1 : 1 ≤ k) (k4 : k ≤ 4) (r3 : r ≤ 3) (F : Value) (A3 A4 : Option Addr) (n3 n4 c3 c4 : Nat) (h : n3 ≠ n4 ∨ 200 < n3) :
    Calls Tryd.prog 4 #[.int .i64 (k : Int), .int .i64 (r : Int), F, .slice A3 n3 c3, .slice A4 n4 c4] w fun e w' => e = .returned (.bool true) ∧ Below w.heap.size w w' := by
  have HE := Lib.hid hE
  have HS := Lib.hid (fun wz => size_ok wz k r k1 k4 r3)
  clear hE
  by_cases hne : n3 = n4
  · subst hne
    have hbig : 200 < n3 := by omega
    clear h
    have hq : ((n3 : Int) != (n3 : Int)) = false := by simp
    go_enter Tryd.func4, Tryd.ntmps4
    go_wp2_with fail
    refine (awake4_c w E HE.out).mono ?_
    rintro e w1 ⟨rfl, b1⟩
    go_wp2_with fail
    refine (HS.out w1).mono ?_
    rintro e w' ⟨rfl, rfl⟩
    go_wp2_with fail
    go_ret
    exact ⟨rfl, b1⟩
  · have hq : ((n3 : Int) != (n4 : Int)) = true := by simp; omega
    clear h hne
    go_enter Tryd.func4, Tryd.ntmps4
    go_wp2_with fail
    refine (awake4_c w E HE.out).mono ?_
    rintro e w1 ⟨rfl, b1⟩
    go_wp2_with fail
    refine (HS.out w1).mono ?_
    rintro e w' ⟨rfl, rfl⟩
    go_wp2_with fail
    go_ret
    exact ⟨rfl, b1⟩

set_option maxRecDepth 100000 in
set_option maxHeartbeats 8000000 in
theorem ruleSums_main (w : World) (E : Nat → Addr) (hE : Errs w E) (k r : Nat) (k1 : 1 ≤ k) (k4 : k ≤ 4) (r3 : r ≤ 3) (A2 A3 A4 : Option Addr) (n2 n c2 c3 c4 : Nat) (F V W : List Int) (hF : Sl w A2 n2 (F.map (Value.int .i64))) (hV : Sl w A3 n (V.map (Value.int .i64))) (hW : Sl w A4 n (W.map (Value.int .i64))) (hn : n ≤ 200) :
    Calls Tryd.prog 4 #[.int .i64 (k : Int), .int .i64 (r : Int), .slice A2 n2 c2, .slice A3 n c3, .slice A4 n c4] w fun e w' => e = .returned (.bool true) ∧ Below w.heap.size w w' := by
  have hlF : F.length = n2 := by simpa using hF.1
  have HLF := Lib.hid hlF
  have HE := Lib.hid hE
  have hpl := pow_le k4 r3
  have hsize := fun (wz : World) => size_ok wz k r k1 k4 r3
  obtain ⟨L, hL⟩ : ∃ L, k ^ (2 * r + 1) = L := ⟨_, rfl⟩
  rw [hL] at hsize hpl
  have HS := Lib.hid hsize
  have HL := Lib.hid hL
  clear hE hL hsize hlF
  have hq : ((n : Int) != (n : Int)) = false := by simp
  have hkz : ((k : Int) == 0) = false := by rw [beq_eq_false_iff_ne]; omega
  have hmk := run_make_row' (P := Tryd.prog) 22 3 (.int .i64 0) 8 tInts.und tInts.info rfl .i64 .i64 L (by omega) (by omega)
  go_enter Tryd.func4, Tryd.ntmps4
  go_wp2_with fail
  refine (awake4_c w E HE.out).mono ?_
  rintro e w1 ⟨rfl, b1⟩
  go_wp2_with fail
  refine (HS.out w1).mono ?_
  rintro e w' ⟨rfl, rfl⟩
  have hs1 := b1.size
  have hown0 := make_ints w1 L (by simp only [maxLen]; omega)
  have hru0 := RuleAt.new (w1.alloc (.cells (madeCells #[.int .i64 0] L) 3)) (.int .i64 (k : Int)) (.int .i64 (r : Int)) (.slice (some ⟨w1.heap.size, 0, none⟩) L L)
  rw [World.size_alloc] at hru0
  have hb0 := (b1.alloc b1.size (.cells (madeCells #[.int .i64 0] L) 3)).alloc (by simp; omega) (.cells #[.int .i64 (k : Int), .int .i64 (r : Int), .slice (some ⟨w1.heap.size, 0, none⟩) L L] 24)
  go_wp2_with fail
  clear hmk
  go_loopw [14] (fun iv wr => ∃ i : Nat, i ≤ L ∧ iv = .int .i64 (i : Int) ∧ wr.ownsRow w1.heap.size 3 1 (.slice (some ⟨w1.heap.size, 0, none⟩) L L) L ((ints (fillTo (sumTab k r (F.map (symN k))) L 0 i)).map (Value.int .i64)) ∧
      Hid (RuleAt wr (w1.heap.size + 1) (.int .i64 (k : Int)) (.int .i64 (r : Int)) (.slice (some ⟨w1.heap.size, 0, none⟩) L L)) ∧ Below w.heap.size w wr) (fun iv _ => L - (intOf iv).toNat)
  case atStart => exact ⟨0, Nat.zero_le _, rfl, by rw [fillTo_zero]; exact hown0.alloc _, Lib.hid hru0, hb0⟩
  case round =>
    clear hown0 hru0 hb0
    obtain ⟨wo, rfl⟩ : ∃ wo : World, wo = wr := ⟨_, rfl⟩
    obtain ⟨i, hi, rfl, hown, hru, hb⟩ := hrel
    obtain ⟨d0, d1, d2, _⟩ := hru.out.facts
    by_cases hlt : i < L
    · have hdg := digits_c wo k (2 * r + 1) i k1 (by omega) (by omega) (by omega)
      rw [show ((2 * r + 1 : Nat) : Int) = 2 * (r : Int) + 1 from by omega] at hdg
      have HDG := Lib.hid hdg
      clear hdg
      go_wp2_with fail
      refine (HDG.out).mono ?_
      rintro e w2 ⟨rfl, hx2, hb2⟩
      have hown2 := own_below hown hb2
      have hru2 := Lib.hid (hru.out.below hb2 hru.out.lt)
      have hbb2 := hb.trans (hb2.mono hb.size)
      have hszr : w1.heap.size + 1 < wo.heap.size := hru.out.lt
      clear hown hb hb2 d0 d1 d2 hru
      have hset0 : (fillTo (sumTab k r (F.map (symN k))) L 0 i).set i (linP k (digB k (2 * r + 1) i) (F.map (symN k)) 0) = fillTo (sumTab k r (F.map (symN k))) L 0 i := by
        rw [linP_zero]
        exact set_same (fillTo_at hlt (by simp [sumTab, HL.out]; omega))
      go_wp2_with fail
      go_loopw [16] (fun jv wx => ∃ j : Nat, j ≤ 2 * r + 1 ∧ j ≤ n2 ∧ jv = .int .i64 (j : Int) ∧ wx.ownsRow w1.heap.size 3 1 (.slice (some ⟨w1.heap.size, 0, none⟩) L L) L ((ints ((fillTo (sumTab k r (F.map (symN k))) L 0 i).set i (linP k (digB k (2 * r + 1) i) (F.map (symN k)) j))).map (Value.int .i64)) ∧
          wx.ownsRow wo.heap.size 3 1 (.slice (some ⟨wo.heap.size, 0, none⟩) (2 * r + 1) (2 * r + 1)) (2 * r + 1) ((ints (digB k (2 * r + 1) i)).map (Value.int .i64)) ∧
          Hid (RuleAt wx (w1.heap.size + 1) (.int .i64 (k : Int)) (.int .i64 (r : Int)) (.slice (some ⟨w1.heap.size, 0, none⟩) L L)) ∧ Below w.heap.size w wx) (fun jv _ => 2 * r + 1 - (intOf jv).toNat)
      case atStart => exact ⟨0, Nat.zero_le _, Nat.zero_le _, rfl, by rw [hset0]; exact hown2, hx2, hru2, hbb2⟩
      case round =>
        clear hown2 hx2 hru2 hbb2
        obtain ⟨j, hj, hj2, rfl, hown, hxo, hru, hb⟩ := hrel
        obtain ⟨d0, d1, d2, _⟩ := hru.out.facts
        by_cases hc : j < 2 * r + 1 ∧ j < n2
        · obtain ⟨hj1, hjn⟩ := hc
          obtain ⟨adf, f, rfl, hfj, hcf⟩ := (hF.below hb).int_ hjn
          obtain ⟨a, hxj⟩ : ∃ a, (digB k (2 * r + 1) i)[j]? = some a := ⟨_, List.getElem?_eq_getElem (by rw [digB_len]; exact hj1)⟩
          have hcx : wr.cell? ⟨wo.heap.size, j, none⟩ = some (.int .i64 (a : Int)) := by rw [hxo.cellAt j (by omega), ints_map, List.getElem?_map, hxj]; rfl
          have hfx : (F.map (symN k))[j]? = some (symN k f) := by rw [List.getElem?_map, hfj]; rfl
          have hls := linP_succ (k := k) hxj hfx
          have hT := linP_lt k1 (digB k (2 * r + 1) i) (F.map (symN k)) j
          have hT2 := linP_lt k1 (digB k (2 * r + 1) i) (F.map (symN k)) (j + 1)
          have ha := digB_sym k1 (2 * r + 1) i a (List.mem_of_getElem? hxj)
          have hσ := symN_lt f k1
          have hσe := symN_eq f k1
          have hct : wr.cell? ⟨w1.heap.size, i, none⟩ = some (.int .i64 ((linP k (digB k (2 * r + 1) i) (F.map (symN k)) j : Nat) : Int)) := by
            rw [hown.cellAt i (by omega), ints_map, List.getElem?_map, List.getElem?_set_self (by rw [fillTo_len hi (by simp [sumTab, HL.out])]; exact hlt)]; rfl
          have hst := (hown.stored i (.int .i64 ((linP k (digB k (2 * r + 1) i) (F.map (symN k)) (j + 1) : Nat) : Int))).1
          rw [← List.map_set, ints_set, List.set_set] at hst
          have hfr := hown.frozenAt i
          have hxo2 := own_keeps hxo (Keeps.of_setCell wr ⟨w1.heap.size, i, none⟩ (.int .i64 ((linP k (digB k (2 * r + 1) i) (F.map (symN k)) (j + 1) : Nat) : Int))) (fun g hg e => by simp [Value.ownBlock] at hg; simp at e; omega)
          have hru2 := Lib.hid (hru.out.keeps (Keeps.of_setCell wr ⟨w1.heap.size, i, none⟩ (.int .i64 ((linP k (digB k (2 * r + 1) i) (F.map (symN k)) (j + 1) : Nat) : Int))) (by simp))
          have hbn := hb.setCell (p := ⟨w1.heap.size, i, none⟩) hs1 (.int .i64 ((linP k (digB k (2 * r + 1) i) (F.map (symN k)) (j + 1) : Nat) : Int))
          obtain ⟨p1, p2⟩ := tmodk f k1 k4
          have p3 := tmodk_ge f k1
          obtain ⟨σ, hσσ⟩ : ∃ σ, symN k f = σ := ⟨_, rfl⟩
          obtain ⟨T, hTT⟩ : ∃ T, linP k (digB k (2 * r + 1) i) (F.map (symN k)) j = T := ⟨_, rfl⟩
          obtain ⟨T2, hTT2⟩ : ∃ T2, linP k (digB k (2 * r + 1) i) (F.map (symN k)) (j + 1) = T2 := ⟨_, rfl⟩
          rw [hσσ] at hσ hσe hls
          rw [hTT] at hls hct hT
          rw [hTT2] at hls hst hxo2 hru2 hbn hT2
          have hprod : (a : Int) * (σ : Int) = ((a * σ : Nat) : Int) := by simp
          have haσ : a * σ ≤ 16 := Nat.mul_le_mul (by omega : a ≤ 4) (by omega : σ ≤ 4)
          have hfin : ((T : Int) + ((a * σ : Nat) : Int)) % (k : Int) = (T2 : Int) := by rw [hls]; simp
          obtain ⟨Q, hQ⟩ : ∃ Q, a * σ = Q := ⟨_, rfl⟩
          rw [hQ] at hprod haσ hfin
          have HT2 := Lib.hid hTT2
          have hwr : (wrap64 ((T : Int) + wrap64 (Q : Int))).tmod (k : Int) = (T2 : Int) := wr_mod (by omega) (by omega) (by omega) (by omega) hfin
          have HWR := Lib.hid hwr
          clear hwr
          clear hls hσσ hTT hTT2 hQ hfx hfj hxj hown hxo hb hru
          go_wp2_with fail
          have hk0 : ¬ k = 0 := by omega
          go_still_tail 27, (by kernel_rfl)
          change wpList _ _ _ _ _ (World.drew wr)
          go_wp2_with fail
          rw [HWR.out]
          exact ⟨⟨j + 1, by omega, by omega, by go_num, by rw [HT2.out]; exact hst, hxo2, hru2, hbn.drew⟩, by simp [intOf]; omega⟩
        · have hj3 : (digB k (2 * r + 1) i).length ≤ j ∨ (F.map (symN k)).length ≤ j := by
            rw [digB_len, List.length_map, HLF.out]; omega
          rw [linP_all hj3, fillTo_set hlt (sumTab_at _ (by rw [HL.out]; exact hlt))] at hown
          have hd : (decide ((j : Int) < 2 * (r : Int) + 1) = false) ∨ (decide ((j : Int) < 2 * (r : Int) + 1) = true ∧ decide (j < n2) = false) := by
            rcases Nat.lt_or_ge j (2 * r + 1) with h5 | h5
            · exact .inr ⟨decide_eq_true (by omega), decide_eq_false (by omega)⟩
            · exact .inl (decide_eq_false (by omega))
          clear hc hj3 hxo
          rcases hd with hd | ⟨hd, hd2⟩
          · go_wp2_with fail
            exact ⟨⟨i + 1, by omega, by go_num, hown, hru, hb⟩, by simp [intOf]; omega⟩
          · go_wp2_with fail
            exact ⟨⟨i + 1, by omega, by go_num, hown, hru, hb⟩, by simp [intOf]; omega⟩
    · obtain rfl : i = L := by omega
      rw [fillTo_all 0 (by simp [sumTab, HL.out])] at hown
      have hmkn := run_make_row' (P := Tryd.prog) 22 3 (.int .i64 0) 8 tInts.und tInts.info rfl .i64 .i64 n (by omega) (by omega)
      have hrw := hru.out.lt
      have hA0 := make_ints wo n (by simp only [maxLen]; omega)
      have hB0 := make_ints (wo.alloc (.cells (madeCells #[.int .i64 0] n) 3)) n (by simp only [maxLen]; omega)
      have hC0 := make_ints ((wo.alloc (.cells (madeCells #[.int .i64 0] n) 3)).alloc (.cells (madeCells #[.int .i64 0] n) 3)) n (by simp only [maxLen]; omega)
      rw [World.size_alloc] at hB0 hC0
      rw [World.size_alloc] at hC0
      have hbb0 := ((hb.alloc hb.size (.cells (madeCells #[.int .i64 0] n) 3)).alloc (by have := hb.size; simp; omega) (.cells (madeCells #[.int .i64 0] n) 3)).alloc (by have := hb.size; simp; omega) (.cells (madeCells #[.int .i64 0] n) 3)
      have hT0 := ((hown.alloc (.cells (madeCells #[.int .i64 0] n) 3)).alloc (.cells (madeCells #[.int .i64 0] n) 3)).alloc (.cells (madeCells #[.int .i64 0] n) 3)
      have hru0 : Hid (RuleAt (((wo.alloc (.cells (madeCells #[.int .i64 0] n) 3)).alloc (.cells (madeCells #[.int .i64 0] n) 3)).alloc (.cells (madeCells #[.int .i64 0] n) 3)) (w1.heap.size + 1) (.int .i64 (k : Int)) (.int .i64 (r : Int)) (.slice (some ⟨w1.heap.size, 0, none⟩) i i)) := Lib.hid (((hru.out.alloc _).alloc _).alloc _)
      have lV : V.length = n := by simpa using hV.1
      have lW : W.length = n := by simpa using hW.1
      have lC : (addW k (V.map (symN k)) (W.map (symN k))).length = n := by rw [addW_len (by simp [lV, lW])]; simp [lV]
      have LV := Lib.hid lV
      have LW := Lib.hid lW
      have LC := Lib.hid lC
      have hwo := hb.size
      clear hown hru d0 d1 d2 hlt lV lW lC hb
      go_wp2_with fail
      clear hmkn
      go_loopw [20] (fun qv wx => ∃ q : Nat, q ≤ n ∧ qv = .int .i64 (q : Int) ∧
          wx.ownsRow wo.heap.size 3 1 (.slice (some ⟨wo.heap.size, 0, none⟩) n n) n ((ints (fillTo (V.map (symN k)) n 0 q)).map (Value.int .i64)) ∧
          wx.ownsRow (wo.heap.size + 1) 3 1 (.slice (some ⟨wo.heap.size + 1, 0, none⟩) n n) n ((ints (fillTo (W.map (symN k)) n 0 q)).map (Value.int .i64)) ∧
          wx.ownsRow (wo.heap.size + 1 + 1) 3 1 (.slice (some ⟨wo.heap.size + 1 + 1, 0, none⟩) n n) n ((ints (fillTo (addW k (V.map (symN k)) (W.map (symN k))) n 0 q)).map (Value.int .i64)) ∧
          wx.ownsRow w1.heap.size 3 1 (.slice (some ⟨w1.heap.size, 0, none⟩) i i) i ((ints (sumTab k r (F.map (symN k)))).map (Value.int .i64)) ∧
          Hid (RuleAt wx (w1.heap.size + 1) (.int .i64 (k : Int)) (.int .i64 (r : Int)) (.slice (some ⟨w1.heap.size, 0, none⟩) i i)) ∧ Below w.heap.size w wx) (fun qv _ => n - (intOf qv).toNat)
      case atStart =>
        refine ⟨0, Nat.zero_le _, rfl, ?_, ?_, ?_, hT0, hru0, hbb0⟩
        · rw [fillTo_zero]; exact (hA0.alloc _).alloc _
        · rw [fillTo_zero]; exact hB0.alloc _
        · rw [fillTo_zero]; exact hC0
      case round =>
        clear hA0 hB0 hC0 hT0 hru0 hbb0
        obtain ⟨q, hq1, rfl, hA, hB, hC, hT, hru, hb⟩ := hrel
        by_cases hlt : q < n
        · obtain ⟨adv, v, rfl, hvq, hcv⟩ := (hV.below hb).int_ hlt
          obtain ⟨adw, u, rfl, huq, hcu0⟩ := hW.int_ hlt
          have hlw := World.block_lt_of_cell? _ _ hcu0
          have hcu : (wr.setCell ⟨wo.heap.size, q, none⟩ (.int .i64 (symN k v : Int))).cell? (adw.add q) = some (.int .i64 u) := (Keeps.of_setCell wr ⟨wo.heap.size, q, none⟩ _).cell (cell_later hb hcu0) (by simp only; omega)
          have hvs : (V.map (symN k))[q]? = some (symN k v) := by rw [List.getElem?_map, hvq]; rfl
          have hus : (W.map (symN k))[q]? = some (symN k u) := by rw [List.getElem?_map, huq]; rfl
          have hcs : (addW k (V.map (symN k)) (W.map (symN k)))[q]? = some ((symN k v + symN k u) % k) := by unfold addW; rw [List.getElem?_zipWith, hvs, hus]
          have hve := symN_eq v k1
          have hue := symN_eq u k1
          have hv4 := symN_lt v k1
          have hu4 := symN_lt u k1
          obtain ⟨p1, p2⟩ := tmodk v k1 k4
          have p3 := tmodk_ge v k1
          obtain ⟨p4, p5⟩ := tmodk u k1 k4
          have p6 := tmodk_ge u k1
          obtain ⟨α, hα⟩ : ∃ α, symN k v = α := ⟨_, rfl⟩
          obtain ⟨β, hβ⟩ : ∃ β, symN k u = β := ⟨_, rfl⟩
          rw [hα] at hvs hcs hve hv4 hcu
          rw [hβ] at hus hcs hue hu4
          obtain ⟨γ, hγ⟩ : ∃ γ, (α + β) % k = γ := ⟨_, rfl⟩
          rw [hγ] at hcs
          have hfin : ((α : Int) + (β : Int)) % (k : Int) = (γ : Int) := by rw [← hγ]; simp
          have HFIN := Lib.hid hfin
          have HWR := Lib.hid (wr_mod2 (T := (α : Int)) (Q := (β : Int)) (by omega) (by omega) (by omega) (by omega) hfin)
          obtain ⟨z1, hz1⟩ : ∃ z, (fillTo (V.map (symN k)) n 0 q)[q]? = some z := ⟨_, fillTo_at hlt (by simp [LV.out]; omega)⟩
          obtain ⟨z2, hz2⟩ : ∃ z, (fillTo (W.map (symN k)) n 0 q)[q]? = some z := ⟨_, fillTo_at hlt (by simp [LW.out]; omega)⟩
          obtain ⟨z3, hz3⟩ : ∃ z, (fillTo (addW k (V.map (symN k)) (W.map (symN k))) n 0 q)[q]? = some z := ⟨_, fillTo_at hlt (by rw [LC.out]; omega)⟩
          have e1 : wr.cell? ⟨wo.heap.size, q, none⟩ = some (.int .i64 (z1 : Int)) := by rw [hA.cellAt q (by omega), ints_map, List.getElem?_map, hz1]; rfl
          have e2 : wr.cell? ⟨wo.heap.size + 1, q, none⟩ = some (.int .i64 (z2 : Int)) := by rw [hB.cellAt q (by omega), ints_map, List.getElem?_map, hz2]; rfl
          have e3 : wr.cell? ⟨wo.heap.size + 1 + 1, q, none⟩ = some (.int .i64 (z3 : Int)) := by rw [hC.cellAt q (by omega), ints_map, List.getElem?_map, hz3]; rfl
          have f1 := hA.frozenAt q
          have f2 := hB.frozenAt q
          have f3 := hC.frozenAt q
          -- the world behind the first two stores
          have k1' := Keeps.of_setCell wr ⟨wo.heap.size, q, none⟩ (.int .i64 (α : Int))
          have k2' := Keeps.of_setCell (wr.setCell ⟨wo.heap.size, q, none⟩ (.int .i64 (α : Int))) ⟨wo.heap.size + 1, q, none⟩ (.int .i64 (β : Int))
          have A1 := (hA.stored q (.int .i64 (α : Int))).1
          rw [← List.map_set, ints_set, fillTo_set hlt hvs] at A1
          have A2 := own_keeps A1 k2' (fun g hg e => by simp [Value.ownBlock] at hg; simp at e; omega)
          have B1 := ((own_keeps hB k1' (fun g hg e => by simp [Value.ownBlock] at hg; simp at e; omega)).stored q (.int .i64 (β : Int))).1
          rw [← List.map_set, ints_set, fillTo_set hlt hus] at B1
          have C0 := own_keeps (own_keeps hC k1' (fun g hg e => by simp [Value.ownBlock] at hg; simp at e; omega)) k2' (fun g hg e => by simp [Value.ownBlock] at hg; simp at e; omega)
          have T0 := own_keeps (own_keeps hT k1' (fun g hg e => by simp [Value.ownBlock] at hg; simp at e; omega)) k2' (fun g hg e => by simp [Value.ownBlock] at hg; simp at e; omega)
          have R0 := (hru.out.keeps k1' (by simp; omega)).keeps k2' (by simp; omega)
          have H0 := (hb.setCell (p := ⟨wo.heap.size, q, none⟩) (by simp; omega) (.int .i64 (α : Int))).setCell (p := ⟨wo.heap.size + 1, q, none⟩) (by simp; omega) (.int .i64 (β : Int))
          obtain ⟨wy, hwy⟩ : ∃ wy, (wr.setCell ⟨wo.heap.size, q, none⟩ (.int .i64 (α : Int))).setCell ⟨wo.heap.size + 1, q, none⟩ (.int .i64 (β : Int)) = wy := ⟨_, rfl⟩
          rw [hwy] at A2 B1 C0 T0 R0 H0
          have HWY := Lib.hid hwy
          have y1 : wy.cell? ⟨wo.heap.size, q, none⟩ = some (.int .i64 (α : Int)) := by rw [A2.cellAt q (by omega), ints_map, List.getElem?_map, ← fillTo_set hlt hvs, List.getElem?_set_self (by rw [fillTo_len (by omega) (by simp [LV.out])]; exact hlt)]; rfl
          have y2 : wy.cell? ⟨wo.heap.size + 1, q, none⟩ = some (.int .i64 (β : Int)) := by rw [B1.cellAt q (by omega), ints_map, List.getElem?_map, ← fillTo_set hlt hus, List.getElem?_set_self (by rw [fillTo_len (by omega) (by simp [LW.out])]; exact hlt)]; rfl
          have y3 : wy.cell? ⟨wo.heap.size + 1 + 1, q, none⟩ = some (.int .i64 (z3 : Int)) := by rw [C0.cellAt q (by omega), ints_map, List.getElem?_map, hz3]; rfl
          have y4 := C0.frozenAt q
          have k3' := Keeps.of_setCell wy ⟨wo.heap.size + 1 + 1, q, none⟩ (.int .i64 (γ : Int))
          have A3 := own_keeps A2 k3' (fun g hg e => by simp [Value.ownBlock] at hg; simp at e; omega)
          have B2 := own_keeps B1 k3' (fun g hg e => by simp [Value.ownBlock] at hg; simp at e; omega)
          have C1 := (C0.stored q (.int .i64 (γ : Int))).1
          rw [← List.map_set, ints_set, fillTo_set hlt hcs] at C1
          have T1 := own_keeps T0 k3' (fun g hg e => by simp [Value.ownBlock] at hg; simp at e; omega)
          have R1 := Lib.hid (R0.keeps k3' (by simp; omega))
          have H1 := H0.setCell (p := ⟨wo.heap.size + 1 + 1, q, none⟩) (by simp; omega) (.int .i64 (γ : Int))
          have hk0 : ¬ k = 0 := by omega
          clear hcu0 hA hB hC hT hru hb A1 A2 B1 C0 T0 R0 H0 k1' k2' k3' hvq huq hvs hus hcs hα hβ hγ hz1 hz2 hz3 hfin hwy
          go_wp2_with fail
          rw [HWY.out]
          go_still_tail 14, (by kernel_rfl)
          change wpList _ _ _ _ _ (World.drew wy)
          go_wp2_with fail
          first | rw [HFIN.out] | rw [HWR.out]
          exact ⟨⟨q + 1, by omega, by go_num, A3, B2, C1, T1, R1, H1.drew⟩, by simp [intOf]; omega⟩
        · obtain rfl : q = n := by omega
          rw [fillTo_all 0 (by simp [LV.out])] at hA
          rw [fillTo_all 0 (by simp [LW.out])] at hB
          rw [fillTo_all 0 LC.out] at hC
          have hsum := sumTab_sum k r (F.map (symN k))
          have hrule := hsum.rule k1 k4 r3
          obtain ⟨d0, d1, d2, _⟩ := hru.out.facts
          have hEr := HE.out.below hb
          obtain ⟨M, hM⟩ : ∃ M, q - 2 * r = M := ⟨_, rfl⟩
          have sV : ∀ x ∈ V.map (symN k), x < k := fun x hx => by obtain ⟨y, _, rfl⟩ := List.mem_map.1 hx; exact symN_lt y k1
          have sW : ∀ x ∈ W.map (symN k), x < k := fun x hx => by obtain ⟨y, _, rfl⟩ := List.mem_map.1 hx; exact symN_lt y k1
          have S1 := Lib.hid (step_m wr E hEr k r (some ⟨w1.heap.size, 0, none⟩) (some ⟨wo.heap.size, 0, none⟩) i i q q M _ _ hrule sV (Sl.of_own hT) (Sl.of_own hA) (by omega) (by rw [List.length_map, LV.out, hM]))
          have S2 := Lib.hid (fun (wz : World) (hz : Below wr.heap.size wr wz) => step_m wz E (hEr.below hz) k r (some ⟨w1.heap.size, 0, none⟩) (some ⟨wo.heap.size + 1, 0, none⟩) i i q q M _ _ hrule sW ((Sl.of_own hT).below hz) ((Sl.of_own hB).below hz) (by omega) (by rw [List.length_map, LW.out, hM]))
          have S3 := Lib.hid (fun (wz : World) (hz : Below wr.heap.size wr wz) => step_m wz E (hEr.below hz) k r (some ⟨w1.heap.size, 0, none⟩) (some ⟨wo.heap.size + 1 + 1, 0, none⟩) i i q q M _ _ hrule (addW_sym k1 _ _) ((Sl.of_own hT).below hz) ((Sl.of_own hC).below hz) (by omega) (by rw [LC.out, hM]))
          have HSUM := Lib.hid hsum
          have HMM := Lib.hid hM
          have hk0 : ¬ k = 0 := by omega
          have hMn : M ≤ q := by omega
          unfold ruleV at S1 S2 S3
          clear hA hB hC hT hsum hrule hEr hM sV sW hlt
          go_wp2_with fail
          refine (S1.out).mono ?_
          rintro e w5 ⟨A5, c5, rfl, x5, h5⟩
          obtain ⟨d0, d1, d2, _⟩ := (hru.out.below h5 hru.out.lt).facts
          go_wp2_with fail
          refine (S2.out w5 h5).mono ?_
          rintro e w6 ⟨A6, c6, rfl, x6, h6⟩
          have h56 := h5.trans (h6.mono h5.size)
          obtain ⟨d0, d1, d2, _⟩ := (hru.out.below h56 hru.out.lt).facts
          go_wp2_with fail
          refine (S3.out w6 h56).mono ?_
          rintro e w7 ⟨A7, c7, rfl, x7, h7⟩
          have X5 := Sl.of_own (own_below (own_below x5 h6) h7)
          have X6 := Sl.of_own (own_below x6 h7)
          have X7 := Sl.of_own x7
          have hbz := hb.trans ((h56.trans (h7.mono h56.size)).mono hb.size)
          have hMM : ((M : Int) != (M : Int)) = false := by simp
          rw [ints_map] at X5 X6 X7
          clear x5 x6 x7 h5 h6 h7 h56 hb hru d0 d1 d2
          go_wp2_with fail
          go_loopw [26] (fun qv wx => ∃ (p nq : Nat), p ≤ M ∧ qv = .int .i64 (p : Int) ∧ wx = w7.drewN nq) (fun qv _ => M - (intOf qv).toNat)
          case atStart => exact ⟨0, 0, Nat.zero_le _, rfl, rfl⟩
          case round =>
            obtain ⟨p, nq, hp, rfl, rfl⟩ := hrel
            by_cases hlt : p < M
            · obtain ⟨a5, x, rfl, hx, hcx⟩ := X5.word_ hlt
              obtain ⟨a6, y, rfl, hy, hcy⟩ := X6.word_ hlt
              obtain ⟨a7, z, rfl, hz, hcz⟩ := X7.word_ hlt
              have hxs : x < k := image_sym (HSUM.out.rule k1 k4 r3) (fun x hx => by obtain ⟨y, _, rfl⟩ := List.mem_map.1 hx; exact symN_lt y k1) x (List.mem_of_getElem? hx)
              have hys : y < k := image_sym (HSUM.out.rule k1 k4 r3) (fun x hx => by obtain ⟨y, _, rfl⟩ := List.mem_map.1 hx; exact symN_lt y k1) y (List.mem_of_getElem? hy)
              have hzz := image_add HSUM.out k1 (by simp [LV.out, LW.out]) (fun x hx => by obtain ⟨y, _, rfl⟩ := List.mem_map.1 hx; exact symN_lt y k1) (fun x hx => by obtain ⟨y, _, rfl⟩ := List.mem_map.1 hx; exact symN_lt y k1) hx hy
              rw [hz] at hzz
              have hfin : ((x : Int) + (y : Int)) % (k : Int) = (z : Int) := by rw [Option.some.inj hzz]; simp
              have hwr := wr_mod2 (T := (x : Int)) (Q := (y : Int)) (by omega) (by omega) (by omega) (by omega) hfin
              have hne : ((z : Int) != (z : Int)) = false := by simp
              clear hx hy hz hzz
              go_wp2_with (go_quiet (fail))
              exact ⟨⟨p + 1, _, by omega, by go_num, by first | rfl | exact World.drewN_drewN _ _ _⟩, by simp [intOf]; omega⟩
            · have hbf := below_drewN hbz nq
              go_wp2_with fail
              go_ret
              exact ⟨rfl, hbf⟩

theorem ruleSums_c (w : World) (E : Nat → Addr) (hE : Errs w E) (K R : Int) (A2 A3 A4 : Option Addr) (n2 n3 n4 c2 c3 c4 : Nat) (F V W : List Int) (hF : Sl w A2 n2 (F.map (Value.int .i64))) (hV : Sl w A3 n3 (V.map (Value.int .i64))) (hW : Sl w A4 n4 (W.map (Value.int .i64))) :
    Calls Tryd.prog 4 #[.int .i64 K, .int .i64 R, .slice A2 n2 c2, .slice A3 n3 c3, .slice A4 n4 c4] w fun e w' => e = .returned (.bool true) ∧ Below w.heap.size w w' := by
  by_cases h : K < 1 ∨ 4 < K ∨ R < 0 ∨ 3 < R
  · exact ruleSums_err w E hE K R _ _ _ h
  · obtain ⟨k, rfl⟩ : ∃ k : Nat, K = (k : Int) := ⟨K.toNat, by omega⟩
    obtain ⟨r, rfl⟩ : ∃ r : Nat, R = (r : Int) := ⟨R.toNat, by omega⟩
    by_cases h2 : n3 ≠ n4 ∨ 200 < n3
    · exact ruleSums_skip w E hE k r (by omega) (by omega) (by omega) _ A3 A4 n3 n4 c3 c4 h2
    · obtain rfl : n3 = n4 := by omega
      exact ruleSums_main w E hE k r (by omega) (by omega) (by omega) A2 A3 A4 n2 n3 c2 c3 c4 F V W hF hV hW (by omega)
end Go.Proofs.YtfgjcdfmlpdkaaaDoor
