/- A rule whose symbols are told window by window: forms.made. Condition: the closure answers each window's symbol and writes to nothing that was there. -/
import Derived.Deep.RegionHeld3
import Derived.Test.YtpllojpgpejfmaaGreatDoorF1
import Derived.Test.YtpllojpgpejfmaaGreatDoorF3
namespace Go.Proofs.YtpllojpgpejfmaaGreatDoor
open Go.RowKit RuleP

namespace RuleP
theorem digB_at {k : Nat} : ∀ {L i j : Nat}, j < L → (digB k L i)[L - 1 - j]? = some (i / k ^ j % k)
  | 0, _, _, h => absurd h (Nat.not_lt_zero _)
  | L + 1, i, 0, _ => by
    rw [digB, List.getElem?_append_right (by rw [digB_len]; omega), digB_len]
    simp
  | L + 1, i, j + 1, h => by
    rw [digB, List.getElem?_append_left (by rw [digB_len]; omega), show L + 1 - 1 - (j + 1) = L - 1 - j by omega, digB_at (by omega), Nat.div_div_eq_div_mul, Nat.pow_succ, Nat.mul_comm k]
/-- The last j places as those of D. -/
def mix (L : Nat) (vs D : List Nat) (j : Nat) : List Nat := vs.take (L - j) ++ D.drop (L - j)
theorem mix_zero {L : Nat} {vs D : List Nat} (h : vs.length = L) (hD : D.length = L) : mix L vs D 0 = vs := by
  unfold mix
  rw [Nat.sub_zero, List.take_of_length_le (by omega), List.drop_eq_nil_of_le (by omega), List.append_nil]
theorem mix_all {L : Nat} {vs D : List Nat} : mix L vs D L = D := by
  unfold mix
  rw [Nat.sub_self]
  simp
theorem mix_len {L j : Nat} {vs D : List Nat} (h : vs.length = L) (hD : D.length = L) (hj : j ≤ L) : (mix L vs D j).length = L := by
  unfold mix
  rw [List.length_append, List.length_take, List.length_drop]
  omega
theorem mix_set {L j x : Nat} {vs D : List Nat} (h : vs.length = L) (hD : D.length = L) (hj : j < L) (hx : D[L - 1 - j]? = some x) : (mix L vs D j).set (L - 1 - j) x = mix L vs D (j + 1) := by
  unfold mix
  have hl : L - 1 - j < D.length := (List.getElem?_eq_some_iff.1 hx).1
  have hx' : D[L - 1 - j] = x := (List.getElem?_eq_some_iff.1 hx).2
  have e1 : vs.take (L - j) = vs.take (L - (j + 1)) ++ [vs[L - (j + 1)]'(by omega)] := by
    rw [← List.take_succ_eq_append_getElem (by omega), show L - (j + 1) + 1 = L - j by omega]
  have e2 : D.drop (L - (j + 1)) = x :: D.drop (L - j) := by
    rw [List.drop_eq_getElem_cons (show L - (j + 1) < D.length by omega)]
    have e3 : L - (j + 1) + 1 = L - j := by omega
    rw [e3]
    congr 1
    rw [← hx']
    congr 1
    omega
  rw [e1, e2, List.append_assoc, List.set_append_right _ _ (by rw [List.length_take]; omega), List.length_take, show L - 1 - j - min (L - (j + 1)) vs.length = 0 by omega]
  rfl
end RuleP

set_option maxRecDepth 100000 in
set_option maxHeartbeats 4000000 in
theorem made0_c (w : World) (k r : Nat) (F : FuncId) (f : List Nat → Nat) (h1 : 1 ≤ k) (h2 : k ≤ 4) (h3 : r ≤ 3)
    (he : ∀ (v : Value) (wz : World), (callFunc F #[v]).run Tryz.prog wz = .ok (.enter F #[v]) wz)
    (hf : ∀ (wz : World), Below w.heap.size w wz → ∀ (g : Nat) (v : List Nat), v.length = 2 * r + 1 → (∀ x ∈ v, x < k) → Sl wz (some ⟨g, 0, none⟩) (2 * r + 1) ((ints v).map (Value.int .i64)) →
      Calls Tryz.prog F #[.slice (some ⟨g, 0, none⟩) (2 * r + 1) (2 * r + 1)] wz fun e w' => e = .returned (.int .i64 ((f v : Nat) : Int)) ∧ Below wz.heap.size wz w') :
    Calls Tryz.prog 38 #[.int .i64 (k : Int), .int .i64 (r : Int), .func (.func F) #[] #[]] w fun e w' => ∃ g, e = .returned (ruleV (k : Int) (r : Int) (some ⟨g, 0, none⟩) (k ^ (2 * r + 1)) (k ^ (2 * r + 1))) ∧
      w'.ownsRow w.heap.size 3 1 (.slice (some ⟨g, 0, none⟩) (k ^ (2 * r + 1)) (k ^ (2 * r + 1))) (k ^ (2 * r + 1)) ((ints (tab k (2 * r + 1) f)).map (Value.int .i64)) ∧ Below w.heap.size w w' := by
  have hle := pow_le h2 h3
  have hpos : 0 < k ^ (2 * r + 1) := Nat.pow_pos h1
  obtain ⟨n, hn⟩ : ∃ n, k ^ (2 * r + 1) = n := ⟨_, rfl⟩
  obtain ⟨L, hL⟩ : ∃ L, 2 * r + 1 = L := ⟨_, rfl⟩
  have hL7 : L ≤ 7 := by omega
  have hL1 : 1 ≤ L := by omega
  have hr0 : (0 : Int) ≤ (r : Int) := by omega
  have hr3 : (r : Int) ≤ 3 := by omega
  have hsz := size_ok (w.alloc (.cells #[.int .i64 0, .int .i64 0, .slice none 0 0] 26)) k r h1 h2 h3
  rw [hn] at hsz hle hpos ⊢
  rw [hL] at hf ⊢
  have HSZ := Lib.hid hsz
  have hk0 : ¬ ((k : Int) = 0) := by omega
  have hLi : (2 : Int) * (r : Int) + 1 = (L : Int) := by omega
  -- the worlds
  have hm1 := run_make_row' (P := Tryz.prog) 24 3 (.int .i64 0) 8 tInts.und tInts.info rfl .i64 .i64 n (by omega) (by omega)
  have hm2 := run_make_row' (P := Tryz.prog) 24 3 (.int .i64 0) 8 tInts.und tInts.info rfl .i64 .i64 L (by omega) (by omega)
  have hm1' := hm1 (w.alloc (.cells #[.int .i64 0, .int .i64 0, .slice none 0 0] 26))
  have HN := Lib.hid hn
  have HL := Lib.hid hL
  have HE := Lib.hid he
  have HF := Lib.hid hf
  clear hn hL hf hsz hm1
  go_enter Tryz.func38, Tryz.ntmps38
  go_wp2_with fail
  refine (HSZ.out).mono ?_
  rintro e w' ⟨rfl, rfl⟩
  have ro := RuleAt.new ((w.alloc (.cells #[.int .i64 0, .int .i64 0, .slice none 0 0] 26)).alloc (.cells (madeCells #[.int .i64 0] n) 3)) (.int .i64 (k : Int)) (.int .i64 (r : Int)) (.slice (some ⟨w.heap.size + 1, 0, none⟩) n n)
  have rr := (((RuleAt.new w (.int .i64 0) (.int .i64 0) (.slice none 0 0)).alloc (.cells (madeCells #[.int .i64 0] n) 3)).alloc (.cells #[.int .i64 (k : Int), .int .i64 (r : Int), .slice (some ⟨w.heap.size + 1, 0, none⟩) n n] 26)).alloc (.cells (madeCells #[.int .i64 0] L) 3)
  have ro2 := ro.alloc (.cells (madeCells #[.int .i64 0] L) 3)
  have rt := ((make_ints (w.alloc (.cells #[.int .i64 0, .int .i64 0, .slice none 0 0] 26)) n (by simp only [maxLen]; omega)).alloc (.cells #[.int .i64 (k : Int), .int .i64 (r : Int), .slice (some ⟨w.heap.size + 1, 0, none⟩) n n] 26)).alloc (.cells (madeCells #[.int .i64 0] L) 3)
  have rw' := make_ints (((w.alloc (.cells #[.int .i64 0, .int .i64 0, .slice none 0 0] 26)).alloc (.cells (madeCells #[.int .i64 0] n) 3)).alloc (.cells #[.int .i64 (k : Int), .int .i64 (r : Int), .slice (some ⟨w.heap.size + 1, 0, none⟩) n n] 26)) L (by simp only [maxLen]; omega)
  have hb := ((((Below.refl w.heap.size w).alloc (Nat.le_refl _) (.cells #[.int .i64 0, .int .i64 0, .slice none 0 0] 26)).alloc (by simp) (.cells (madeCells #[.int .i64 0] n) 3)).alloc (by simp; omega) (.cells #[.int .i64 (k : Int), .int .i64 (r : Int), .slice (some ⟨w.heap.size + 1, 0, none⟩) n n] 26)).alloc (by simp; omega) (.cells (madeCells #[.int .i64 0] L) 3)
  simp only [World.size_alloc] at ro2 rt rw'
  obtain ⟨W, hW⟩ : ∃ W, (((w.alloc (.cells #[.int .i64 0, .int .i64 0, .slice none 0 0] 26)).alloc (.cells (madeCells #[.int .i64 0] n) 3)).alloc (.cells #[.int .i64 (k : Int), .int .i64 (r : Int), .slice (some ⟨w.heap.size + 1, 0, none⟩) n n] 26)).alloc (.cells (madeCells #[.int .i64 0] L) 3) = W := ⟨_, rfl⟩
  rw [hW] at rr ro2 rt rw' hb
  have HWE := Lib.hid hW
  have hbase : w.heap.size ≤ w.heap.size := Nat.le_refl _
  have rt2 := own_base rt (show w.heap.size ≤ w.heap.size + 1 by omega)
  have rw2 := own_base rw' (show w.heap.size ≤ w.heap.size + 1 + 1 + 1 by omega)
  obtain ⟨gw, hgw⟩ : ∃ g, w.heap.size + 1 + 1 + 1 = g := ⟨_, rfl⟩
  obtain ⟨go, hgo⟩ : ∃ g, w.heap.size + 1 + 1 = g := ⟨_, rfl⟩
  obtain ⟨gt, hgt⟩ : ∃ g, w.heap.size + 1 = g := ⟨_, rfl⟩
  rw [hgw] at rw2
  rw [hgo, hgt] at ro2
  rw [hgt] at rt2
  have HGW := Lib.hid hgw
  have HGO := Lib.hid hgo
  have HGT := Lib.hid hgt
  have q1 : w.heap.size < gt := by omega
  have q2 : gt < go := by omega
  have q3 : go < gw := by omega
  have RT := Lib.hid rt2
  have RW := Lib.hid rw2
  have RO := Lib.hid ro2
  have RR := Lib.hid rr
  have HB := Lib.hid hb
  clear hgw hgo hgt ro rr ro2 rt rt2 rw' rw2 hb hW hbase
  go_wp2_with fail
  clear hm2 hm1'
  rw [HWE.out, HGW.out, HGO.out, HGT.out]
  go_loopw [32] (fun iv wl => ∃ (i : Nat) (vs : List Nat), i ≤ n ∧ iv = .int .i64 (i : Int) ∧ vs.length = L ∧ wl.ownsRow w.heap.size 3 1 (.slice (some ⟨gt, 0, none⟩) n n) n ((ints (fillTo (tab k L f) n 0 i)).map (Value.int .i64)) ∧
    wl.ownsRow w.heap.size 3 1 (.slice (some ⟨gw, 0, none⟩) L L) L ((ints vs).map (Value.int .i64)) ∧ Hid (RuleAt wl go (.int .i64 (k : Int)) (.int .i64 (r : Int)) (.slice (some ⟨gt, 0, none⟩) n n)) ∧ Hid (RuleAt wl w.heap.size (.int .i64 0) (.int .i64 0) (.slice none 0 0)) ∧ Hid (Below w.heap.size w wl)) (fun iv _ => n - (intOf iv).toNat)
  case atStart => exact ⟨0, List.replicate L 0, Nat.zero_le _, rfl, by simp, by rw [fillTo_zero]; exact RT.out, RW.out, RO, RR, HB⟩
  case round =>
    clear RT RW RO RR HB
    obtain ⟨i, vs, hi, rfl, hvl, hT, hV, hO, hR, hB⟩ := hrel
    have HVL := Lib.hid hvl
    clear hvl
    by_cases hlt : i < n
    · have hi' : (i : Int) < (n : Int) := by omega
      obtain ⟨wo, rfl⟩ : ∃ wo : World, wo = wr := ⟨_, rfl⟩
      have HT := Lib.hid hT
      go_wp2_with fail
      go_loopw [38, 12] (fun jv xv wl => ∃ (j X : Nat), j ≤ L ∧ jv = .int .i64 (j : Int) ∧ Hid (X = i / k ^ j) ∧ X ≤ i ∧ xv = .int .i64 (X : Int) ∧ wl.ownsRow w.heap.size 3 1 (.slice (some ⟨gw, 0, none⟩) L L) L ((ints (mix L vs (digB k L i) j)).map (Value.int .i64)) ∧ Hid (Keeps (fun b => b = gw) wo wl)) (fun jv _ _ => L - (intOf jv).toNat)
      case atStart => exact ⟨0, i, Nat.zero_le _, rfl, Lib.hid (by simp), Nat.le_refl _, rfl, by rw [mix_zero HVL.out (digB_len _ _ _)]; exact hV, Lib.hid (Keeps.refl _ _)⟩
      case round =>
        clear hV hT
        obtain ⟨j, X, hj, rfl, hX, hXi, rfl, hV, hK⟩ := hrel
        by_cases hjl : j < L
        · have hj' : (j : Int) < (L : Int) := by omega
          have hdx := digB_at (k := k) (i := i) hjl
          rw [← hX.out] at hdx
          have hst := (hV.stored (L - 1 - j) (.int .i64 ((X % k : Nat) : Int))).1
          rw [← List.map_set, ints_set, mix_set HVL.out (digB_len _ _ _) hjl hdx] at hst
          have hml := mix_len (j := j) HVL.out (digB_len k L i) (by omega)
          obtain ⟨z, hz⟩ : ∃ z, (mix L vs (digB k L i) j)[L - 1 - j]? = some z := ⟨_, List.getElem?_eq_getElem (by omega)⟩
          have hcell : wr.cell? ⟨gw, L - 1 - j, none⟩ = some (.int .i64 (z : Int)) := by rw [hV.cellAt (L - 1 - j) (by omega), ints_map, List.getElem?_map, hz]; rfl
          have hfr := hV.frozenAt (L - 1 - j)
          have hX2 : Hid (X / k = i / k ^ (j + 1)) := Lib.hid (by rw [hX.out, Nat.div_div_eq_div_mul, Nat.pow_succ])
          have hXk : X / k ≤ i := Nat.le_trans (Nat.div_le_self _ _) hXi
          have hxm : (X : Int) % (k : Int) = ((X % k : Nat) : Int) := by simp
          have hxd : (X : Int) / (k : Int) = ((X / k : Nat) : Int) := by simp
          obtain ⟨Y, hY⟩ : ∃ Y, X % k = Y := ⟨_, rfl⟩
          obtain ⟨Z, hZ⟩ : ∃ Z, X / k = Z := ⟨_, rfl⟩
          obtain ⟨p, hp⟩ : ∃ p, L - 1 - j = p := ⟨_, rfl⟩
          have hp' : (L : Int) - 1 - (j : Int) = (p : Int) := by omega
          have hpl : p < L := by omega
          rw [hY, hp] at hst
          rw [hY] at hxm
          rw [hZ] at hX2 hXk hxd
          rw [hp] at hcell hfr
          have HK2 := Lib.hid (hK.out.trans (Keeps.of_setCell wr ⟨gw, p, none⟩ (.int .i64 (Y : Int))) (fun _ _ h => h))
          have HST := Lib.hid hst
          clear hst hdx hml hz hY hZ hp hK hX hV
          go_wp2_with fail
          exact ⟨⟨j + 1, Z, by omega, by go_num, hX2, hXk, rfl, HST.out, HK2⟩, by simp [intOf]; omega⟩
        · have hjL : j = L := by omega
          have hj' : ¬ (j : Int) < (L : Int) := by omega
          rw [hjL, mix_all] at hV
          clear hjL
          have hbw : Below w.heap.size w wr := hB.out.trans (hK.out.below hB.out.size (fun b hb => by rw [show b = gw from hb]; omega))
          have hbd : Below w.heap.size w wr.drew := hbw.drew
          have hT2 := own_keeps HT.out hK.out (fun g hg h => by simp [Value.ownBlock] at hg; rw [show g = gw from h] at hg; omega)
          have hO2 := hO.out.keeps hK.out (by omega)
          have hR2 := hR.out.keeps hK.out (by omega)
          have hkL : k ^ L = n := by rw [← HL.out]; exact HN.out
          have hget := tab_get (k := k) (n := L) f (show i < k ^ L by rw [hkL]; exact hlt)
          have htl : (tab k L f).length = n := by rw [tab_len, hkL]
          have hcall := HF.out wr.drew hbd gw (digB k L i) (digB_len _ _ _) (digB_sym h1 _ _) (Sl.of_own hV)
          obtain ⟨y, hy⟩ : ∃ y, f (digB k L i) = y := ⟨_, rfl⟩
          rw [hy] at hget hcall
          have HC := Lib.hid hcall
          have HEE := Lib.hid (HE.out)
          have hst := fun (wz : World) (hz : wz.ownsRow w.heap.size 3 1 (.slice (some ⟨gt, 0, none⟩) n n) n ((ints (fillTo (tab k L f) n 0 i)).map (Value.int .i64))) => (hz.stored i (.int .i64 (y : Int))).1
          simp only [← List.map_set, ints_set, fillTo_set hlt hget] at hst
          have HST := Lib.hid hst
          obtain ⟨z, hz⟩ : ∃ z, (fillTo (tab k L f) n 0 i)[i]? = some z := ⟨_, List.getElem?_eq_getElem (by rw [fillTo_len (by omega) htl]; exact hlt)⟩
          have HZ := Lib.hid (fun (wz : World) (hq : wz.ownsRow w.heap.size 3 1 (.slice (some ⟨gt, 0, none⟩) n n) n ((ints (fillTo (tab k L f) n 0 i)).map (Value.int .i64))) => (⟨by rw [hq.cellAt i (by omega), ints_map, List.getElem?_map, hz]; rfl, hq.frozenAt i⟩ : wz.cell? ⟨gt, i, none⟩ = some (.int .i64 (z : Int)) ∧ wz.frozen? ⟨gt, i, none⟩ = false))
          have c2 := hO2.facts.2.2.1
          have hi0 : (0 : Int) ≤ (i : Int) := by omega
          have hne : ¬ go = gt := by omega
          have HT2 := Lib.hid hT2
          have HV2 := Lib.hid hV
          have HO2 := Lib.hid hO2
          have HR2 := Lib.hid hR2
          have HBD := Lib.hid hbd
          clear hK hX hV hT2 hO2 hR2 hbw hbd hkL hget htl hcall hy hst hz hO hR HT
          go_wp2_with fail
          go_region_held3 (fun w' => w'.cell? ⟨go, 2, none⟩ = some (.slice (some ⟨gt, 0, none⟩) n n))
            (first | go_keep | exact (Keeps.of_setCell _ _ _).cell x0 hne)
            (first
              | (refine (HC.out).mono ?_
                 rintro e w2 ⟨rfl, hb2⟩
                 have x0 := cell_later hb2 c2
                 have ht3 := own_below (w := wr.drew) HT2.out hb2
                 obtain ⟨t0, t1⟩ := HZ.out w2 ht3)
              | fail)
          have hb3 : Below wr.drew.heap.size wr.drew w2 := hb2
          have hk3 := Keeps.of_setCell w2 ⟨gt, i, none⟩ (.int .i64 (y : Int))
          have HT4 := Lib.hid (HST.out w2 ht3)
          have HV4 := Lib.hid (own_keeps (own_below (w := wr.drew) HV2.out hb3) hk3 (fun g hg h => by simp [Value.ownBlock] at hg; rw [show g = gt from h] at hg; omega))
          have HO4 := Lib.hid ((HO2.out.below ((Below.refl _ _).drew.trans hb3) HO2.out.lt).keeps hk3 hne)
          have HR4 := Lib.hid ((HR2.out.below ((Below.refl _ _).drew.trans hb3) HR2.out.lt).keeps hk3 (show ¬ w.heap.size = gt by omega))
          have HB4 := Lib.hid ((HBD.out.trans (hb3.mono HBD.out.size)).setCell (p := ⟨gt, i, none⟩) (show w.heap.size ≤ gt by omega) (.int .i64 (y : Int)))
          clear hb2 hb3 hk3 x0 t0 t1 ht3 c2
          go_wp2_with fail
          exact ⟨⟨i + 1, digB k L i, by omega, by go_num, digB_len _ _ _, HT4.out, HV4.out, HO4, HR4, HB4⟩, by simp [intOf]; omega⟩
    · have hi' : ¬ (i : Int) < (n : Int) := by omega
      have hin : i = n := by omega
      have hkL : k ^ L = n := by rw [← HL.out]; exact HN.out
      rw [hin, fillTo_all _ (by rw [tab_len, hkL])] at hT
      obtain ⟨o0, o1, o2, _⟩ := hO.out.facts
      obtain ⟨d0, d1, d2, f0, f1, f2⟩ := hR.out.facts
      have hkr := keeps_set3 wr w.heap.size (.int .i64 (k : Int)) (.int .i64 (r : Int)) (.slice (some ⟨gt, 0, none⟩) n n)
      have HT4 := Lib.hid (own_keeps hT hkr (fun g hg h => by simp [Value.ownBlock] at hg; rw [show g = w.heap.size from h] at hg; omega))
      have HR4 := Lib.hid (hR.out.set3 (.int .i64 (k : Int)) (.int .i64 (r : Int)) (.slice (some ⟨gt, 0, none⟩) n n))
      have HB4 := Lib.hid (below_set3 hB.out (Nat.le_refl w.heap.size) (.int .i64 (k : Int)) (.int .i64 (r : Int)) (.slice (some ⟨gt, 0, none⟩) n n))
      clear hkL hin hT hV hO hR hB hkr
      go_wp2_with fail
      obtain ⟨d0, d1, d2, f0, f1, f2⟩ := HR4.out.facts
      exact bodyPost_ret (v := .agg #[.int .i64 (k : Int), .int .i64 (r : Int), .slice (some ⟨gt, 0, none⟩) n n]) (by simp [results, Tryz.results38, go_sem, d0, d1, d2]) rfl ⟨gt, rfl, HT4.out, HB4.out⟩

set_option maxRecDepth 100000 in
set_option maxHeartbeats 4000000 in
theorem made1_c (w : World) (k r : Nat) (F : FuncId) (p1 : Value) (f : List Nat → Nat) (h1 : 1 ≤ k) (h2 : k ≤ 4) (h3 : r ≤ 3)
    (he : ∀ (v : Value) (wz : World), (callFunc F #[v, p1]).run Tryz.prog wz = .ok (.enter F #[v, p1]) wz)
    (hf : ∀ (wz : World), Below w.heap.size w wz → ∀ (g : Nat) (v : List Nat), v.length = 2 * r + 1 → (∀ x ∈ v, x < k) → Sl wz (some ⟨g, 0, none⟩) (2 * r + 1) ((ints v).map (Value.int .i64)) →
      Calls Tryz.prog F #[.slice (some ⟨g, 0, none⟩) (2 * r + 1) (2 * r + 1), p1] wz fun e w' => e = .returned (.int .i64 ((f v : Nat) : Int)) ∧ Below wz.heap.size wz w') :
    Calls Tryz.prog 38 #[.int .i64 (k : Int), .int .i64 (r : Int), .func (.func F) #[] #[p1]] w fun e w' => ∃ g, e = .returned (ruleV (k : Int) (r : Int) (some ⟨g, 0, none⟩) (k ^ (2 * r + 1)) (k ^ (2 * r + 1))) ∧
      w'.ownsRow w.heap.size 3 1 (.slice (some ⟨g, 0, none⟩) (k ^ (2 * r + 1)) (k ^ (2 * r + 1))) (k ^ (2 * r + 1)) ((ints (tab k (2 * r + 1) f)).map (Value.int .i64)) ∧ Below w.heap.size w w' := by
  have hle := pow_le h2 h3
  have hpos : 0 < k ^ (2 * r + 1) := Nat.pow_pos h1
  obtain ⟨n, hn⟩ : ∃ n, k ^ (2 * r + 1) = n := ⟨_, rfl⟩
  obtain ⟨L, hL⟩ : ∃ L, 2 * r + 1 = L := ⟨_, rfl⟩
  have hL7 : L ≤ 7 := by omega
  have hL1 : 1 ≤ L := by omega
  have hr0 : (0 : Int) ≤ (r : Int) := by omega
  have hr3 : (r : Int) ≤ 3 := by omega
  have hsz := size_ok (w.alloc (.cells #[.int .i64 0, .int .i64 0, .slice none 0 0] 26)) k r h1 h2 h3
  rw [hn] at hsz hle hpos ⊢
  rw [hL] at hf ⊢
  have HSZ := Lib.hid hsz
  have hk0 : ¬ ((k : Int) = 0) := by omega
  have hLi : (2 : Int) * (r : Int) + 1 = (L : Int) := by omega
  -- the worlds
  have hm1 := run_make_row' (P := Tryz.prog) 24 3 (.int .i64 0) 8 tInts.und tInts.info rfl .i64 .i64 n (by omega) (by omega)
  have hm2 := run_make_row' (P := Tryz.prog) 24 3 (.int .i64 0) 8 tInts.und tInts.info rfl .i64 .i64 L (by omega) (by omega)
  have hm1' := hm1 (w.alloc (.cells #[.int .i64 0, .int .i64 0, .slice none 0 0] 26))
  have HN := Lib.hid hn
  have HL := Lib.hid hL
  have HE := Lib.hid he
  have HF := Lib.hid hf
  clear hn hL hf hsz hm1
  go_enter Tryz.func38, Tryz.ntmps38
  go_wp2_with fail
  refine (HSZ.out).mono ?_
  rintro e w' ⟨rfl, rfl⟩
  have ro := RuleAt.new ((w.alloc (.cells #[.int .i64 0, .int .i64 0, .slice none 0 0] 26)).alloc (.cells (madeCells #[.int .i64 0] n) 3)) (.int .i64 (k : Int)) (.int .i64 (r : Int)) (.slice (some ⟨w.heap.size + 1, 0, none⟩) n n)
  have rr := (((RuleAt.new w (.int .i64 0) (.int .i64 0) (.slice none 0 0)).alloc (.cells (madeCells #[.int .i64 0] n) 3)).alloc (.cells #[.int .i64 (k : Int), .int .i64 (r : Int), .slice (some ⟨w.heap.size + 1, 0, none⟩) n n] 26)).alloc (.cells (madeCells #[.int .i64 0] L) 3)
  have ro2 := ro.alloc (.cells (madeCells #[.int .i64 0] L) 3)
  have rt := ((make_ints (w.alloc (.cells #[.int .i64 0, .int .i64 0, .slice none 0 0] 26)) n (by simp only [maxLen]; omega)).alloc (.cells #[.int .i64 (k : Int), .int .i64 (r : Int), .slice (some ⟨w.heap.size + 1, 0, none⟩) n n] 26)).alloc (.cells (madeCells #[.int .i64 0] L) 3)
  have rw' := make_ints (((w.alloc (.cells #[.int .i64 0, .int .i64 0, .slice none 0 0] 26)).alloc (.cells (madeCells #[.int .i64 0] n) 3)).alloc (.cells #[.int .i64 (k : Int), .int .i64 (r : Int), .slice (some ⟨w.heap.size + 1, 0, none⟩) n n] 26)) L (by simp only [maxLen]; omega)
  have hb := ((((Below.refl w.heap.size w).alloc (Nat.le_refl _) (.cells #[.int .i64 0, .int .i64 0, .slice none 0 0] 26)).alloc (by simp) (.cells (madeCells #[.int .i64 0] n) 3)).alloc (by simp; omega) (.cells #[.int .i64 (k : Int), .int .i64 (r : Int), .slice (some ⟨w.heap.size + 1, 0, none⟩) n n] 26)).alloc (by simp; omega) (.cells (madeCells #[.int .i64 0] L) 3)
  simp only [World.size_alloc] at ro2 rt rw'
  obtain ⟨W, hW⟩ : ∃ W, (((w.alloc (.cells #[.int .i64 0, .int .i64 0, .slice none 0 0] 26)).alloc (.cells (madeCells #[.int .i64 0] n) 3)).alloc (.cells #[.int .i64 (k : Int), .int .i64 (r : Int), .slice (some ⟨w.heap.size + 1, 0, none⟩) n n] 26)).alloc (.cells (madeCells #[.int .i64 0] L) 3) = W := ⟨_, rfl⟩
  rw [hW] at rr ro2 rt rw' hb
  have HWE := Lib.hid hW
  have hbase : w.heap.size ≤ w.heap.size := Nat.le_refl _
  have rt2 := own_base rt (show w.heap.size ≤ w.heap.size + 1 by omega)
  have rw2 := own_base rw' (show w.heap.size ≤ w.heap.size + 1 + 1 + 1 by omega)
  obtain ⟨gw, hgw⟩ : ∃ g, w.heap.size + 1 + 1 + 1 = g := ⟨_, rfl⟩
  obtain ⟨go, hgo⟩ : ∃ g, w.heap.size + 1 + 1 = g := ⟨_, rfl⟩
  obtain ⟨gt, hgt⟩ : ∃ g, w.heap.size + 1 = g := ⟨_, rfl⟩
  rw [hgw] at rw2
  rw [hgo, hgt] at ro2
  rw [hgt] at rt2
  have HGW := Lib.hid hgw
  have HGO := Lib.hid hgo
  have HGT := Lib.hid hgt
  have q1 : w.heap.size < gt := by omega
  have q2 : gt < go := by omega
  have q3 : go < gw := by omega
  have RT := Lib.hid rt2
  have RW := Lib.hid rw2
  have RO := Lib.hid ro2
  have RR := Lib.hid rr
  have HB := Lib.hid hb
  clear hgw hgo hgt ro rr ro2 rt rt2 rw' rw2 hb hW hbase
  go_wp2_with fail
  clear hm2 hm1'
  rw [HWE.out, HGW.out, HGO.out, HGT.out]
  go_loopw [32] (fun iv wl => ∃ (i : Nat) (vs : List Nat), i ≤ n ∧ iv = .int .i64 (i : Int) ∧ vs.length = L ∧ wl.ownsRow w.heap.size 3 1 (.slice (some ⟨gt, 0, none⟩) n n) n ((ints (fillTo (tab k L f) n 0 i)).map (Value.int .i64)) ∧
    wl.ownsRow w.heap.size 3 1 (.slice (some ⟨gw, 0, none⟩) L L) L ((ints vs).map (Value.int .i64)) ∧ Hid (RuleAt wl go (.int .i64 (k : Int)) (.int .i64 (r : Int)) (.slice (some ⟨gt, 0, none⟩) n n)) ∧ Hid (RuleAt wl w.heap.size (.int .i64 0) (.int .i64 0) (.slice none 0 0)) ∧ Hid (Below w.heap.size w wl)) (fun iv _ => n - (intOf iv).toNat)
  case atStart => exact ⟨0, List.replicate L 0, Nat.zero_le _, rfl, by simp, by rw [fillTo_zero]; exact RT.out, RW.out, RO, RR, HB⟩
  case round =>
    clear RT RW RO RR HB
    obtain ⟨i, vs, hi, rfl, hvl, hT, hV, hO, hR, hB⟩ := hrel
    have HVL := Lib.hid hvl
    clear hvl
    by_cases hlt : i < n
    · have hi' : (i : Int) < (n : Int) := by omega
      obtain ⟨wo, rfl⟩ : ∃ wo : World, wo = wr := ⟨_, rfl⟩
      have HT := Lib.hid hT
      go_wp2_with fail
      go_loopw [38, 12] (fun jv xv wl => ∃ (j X : Nat), j ≤ L ∧ jv = .int .i64 (j : Int) ∧ Hid (X = i / k ^ j) ∧ X ≤ i ∧ xv = .int .i64 (X : Int) ∧ wl.ownsRow w.heap.size 3 1 (.slice (some ⟨gw, 0, none⟩) L L) L ((ints (mix L vs (digB k L i) j)).map (Value.int .i64)) ∧ Hid (Keeps (fun b => b = gw) wo wl)) (fun jv _ _ => L - (intOf jv).toNat)
      case atStart => exact ⟨0, i, Nat.zero_le _, rfl, Lib.hid (by simp), Nat.le_refl _, rfl, by rw [mix_zero HVL.out (digB_len _ _ _)]; exact hV, Lib.hid (Keeps.refl _ _)⟩
      case round =>
        clear hV hT
        obtain ⟨j, X, hj, rfl, hX, hXi, rfl, hV, hK⟩ := hrel
        by_cases hjl : j < L
        · have hj' : (j : Int) < (L : Int) := by omega
          have hdx := digB_at (k := k) (i := i) hjl
          rw [← hX.out] at hdx
          have hst := (hV.stored (L - 1 - j) (.int .i64 ((X % k : Nat) : Int))).1
          rw [← List.map_set, ints_set, mix_set HVL.out (digB_len _ _ _) hjl hdx] at hst
          have hml := mix_len (j := j) HVL.out (digB_len k L i) (by omega)
          obtain ⟨z, hz⟩ : ∃ z, (mix L vs (digB k L i) j)[L - 1 - j]? = some z := ⟨_, List.getElem?_eq_getElem (by omega)⟩
          have hcell : wr.cell? ⟨gw, L - 1 - j, none⟩ = some (.int .i64 (z : Int)) := by rw [hV.cellAt (L - 1 - j) (by omega), ints_map, List.getElem?_map, hz]; rfl
          have hfr := hV.frozenAt (L - 1 - j)
          have hX2 : Hid (X / k = i / k ^ (j + 1)) := Lib.hid (by rw [hX.out, Nat.div_div_eq_div_mul, Nat.pow_succ])
          have hXk : X / k ≤ i := Nat.le_trans (Nat.div_le_self _ _) hXi
          have hxm : (X : Int) % (k : Int) = ((X % k : Nat) : Int) := by simp
          have hxd : (X : Int) / (k : Int) = ((X / k : Nat) : Int) := by simp
          obtain ⟨Y, hY⟩ : ∃ Y, X % k = Y := ⟨_, rfl⟩
          obtain ⟨Z, hZ⟩ : ∃ Z, X / k = Z := ⟨_, rfl⟩
          obtain ⟨p, hp⟩ : ∃ p, L - 1 - j = p := ⟨_, rfl⟩
          have hp' : (L : Int) - 1 - (j : Int) = (p : Int) := by omega
          have hpl : p < L := by omega
          rw [hY, hp] at hst
          rw [hY] at hxm
          rw [hZ] at hX2 hXk hxd
          rw [hp] at hcell hfr
          have HK2 := Lib.hid (hK.out.trans (Keeps.of_setCell wr ⟨gw, p, none⟩ (.int .i64 (Y : Int))) (fun _ _ h => h))
          have HST := Lib.hid hst
          clear hst hdx hml hz hY hZ hp hK hX hV
          go_wp2_with fail
          exact ⟨⟨j + 1, Z, by omega, by go_num, hX2, hXk, rfl, HST.out, HK2⟩, by simp [intOf]; omega⟩
        · have hjL : j = L := by omega
          have hj' : ¬ (j : Int) < (L : Int) := by omega
          rw [hjL, mix_all] at hV
          clear hjL
          have hbw : Below w.heap.size w wr := hB.out.trans (hK.out.below hB.out.size (fun b hb => by rw [show b = gw from hb]; omega))
          have hbd : Below w.heap.size w wr.drew := hbw.drew
          have hT2 := own_keeps HT.out hK.out (fun g hg h => by simp [Value.ownBlock] at hg; rw [show g = gw from h] at hg; omega)
          have hO2 := hO.out.keeps hK.out (by omega)
          have hR2 := hR.out.keeps hK.out (by omega)
          have hkL : k ^ L = n := by rw [← HL.out]; exact HN.out
          have hget := tab_get (k := k) (n := L) f (show i < k ^ L by rw [hkL]; exact hlt)
          have htl : (tab k L f).length = n := by rw [tab_len, hkL]
          have hcall := HF.out wr.drew hbd gw (digB k L i) (digB_len _ _ _) (digB_sym h1 _ _) (Sl.of_own hV)
          obtain ⟨y, hy⟩ : ∃ y, f (digB k L i) = y := ⟨_, rfl⟩
          rw [hy] at hget hcall
          have HC := Lib.hid hcall
          have HEE := Lib.hid (HE.out)
          have hst := fun (wz : World) (hz : wz.ownsRow w.heap.size 3 1 (.slice (some ⟨gt, 0, none⟩) n n) n ((ints (fillTo (tab k L f) n 0 i)).map (Value.int .i64))) => (hz.stored i (.int .i64 (y : Int))).1
          simp only [← List.map_set, ints_set, fillTo_set hlt hget] at hst
          have HST := Lib.hid hst
          obtain ⟨z, hz⟩ : ∃ z, (fillTo (tab k L f) n 0 i)[i]? = some z := ⟨_, List.getElem?_eq_getElem (by rw [fillTo_len (by omega) htl]; exact hlt)⟩
          have HZ := Lib.hid (fun (wz : World) (hq : wz.ownsRow w.heap.size 3 1 (.slice (some ⟨gt, 0, none⟩) n n) n ((ints (fillTo (tab k L f) n 0 i)).map (Value.int .i64))) => (⟨by rw [hq.cellAt i (by omega), ints_map, List.getElem?_map, hz]; rfl, hq.frozenAt i⟩ : wz.cell? ⟨gt, i, none⟩ = some (.int .i64 (z : Int)) ∧ wz.frozen? ⟨gt, i, none⟩ = false))
          have c2 := hO2.facts.2.2.1
          have hi0 : (0 : Int) ≤ (i : Int) := by omega
          have hne : ¬ go = gt := by omega
          have HT2 := Lib.hid hT2
          have HV2 := Lib.hid hV
          have HO2 := Lib.hid hO2
          have HR2 := Lib.hid hR2
          have HBD := Lib.hid hbd
          clear hK hX hV hT2 hO2 hR2 hbw hbd hkL hget htl hcall hy hst hz hO hR HT
          go_wp2_with fail
          go_region_held3 (fun w' => w'.cell? ⟨go, 2, none⟩ = some (.slice (some ⟨gt, 0, none⟩) n n))
            (first | go_keep | exact (Keeps.of_setCell _ _ _).cell x0 hne)
            (first
              | (refine (HC.out).mono ?_
                 rintro e w2 ⟨rfl, hb2⟩
                 have x0 := cell_later hb2 c2
                 have ht3 := own_below (w := wr.drew) HT2.out hb2
                 obtain ⟨t0, t1⟩ := HZ.out w2 ht3)
              | fail)
          have hb3 : Below wr.drew.heap.size wr.drew w2 := hb2
          have hk3 := Keeps.of_setCell w2 ⟨gt, i, none⟩ (.int .i64 (y : Int))
          have HT4 := Lib.hid (HST.out w2 ht3)
          have HV4 := Lib.hid (own_keeps (own_below (w := wr.drew) HV2.out hb3) hk3 (fun g hg h => by simp [Value.ownBlock] at hg; rw [show g = gt from h] at hg; omega))
          have HO4 := Lib.hid ((HO2.out.below ((Below.refl _ _).drew.trans hb3) HO2.out.lt).keeps hk3 hne)
          have HR4 := Lib.hid ((HR2.out.below ((Below.refl _ _).drew.trans hb3) HR2.out.lt).keeps hk3 (show ¬ w.heap.size = gt by omega))
          have HB4 := Lib.hid ((HBD.out.trans (hb3.mono HBD.out.size)).setCell (p := ⟨gt, i, none⟩) (show w.heap.size ≤ gt by omega) (.int .i64 (y : Int)))
          clear hb2 hb3 hk3 x0 t0 t1 ht3 c2
          go_wp2_with fail
          exact ⟨⟨i + 1, digB k L i, by omega, by go_num, digB_len _ _ _, HT4.out, HV4.out, HO4, HR4, HB4⟩, by simp [intOf]; omega⟩
    · have hi' : ¬ (i : Int) < (n : Int) := by omega
      have hin : i = n := by omega
      have hkL : k ^ L = n := by rw [← HL.out]; exact HN.out
      rw [hin, fillTo_all _ (by rw [tab_len, hkL])] at hT
      obtain ⟨o0, o1, o2, _⟩ := hO.out.facts
      obtain ⟨d0, d1, d2, f0, f1, f2⟩ := hR.out.facts
      have hkr := keeps_set3 wr w.heap.size (.int .i64 (k : Int)) (.int .i64 (r : Int)) (.slice (some ⟨gt, 0, none⟩) n n)
      have HT4 := Lib.hid (own_keeps hT hkr (fun g hg h => by simp [Value.ownBlock] at hg; rw [show g = w.heap.size from h] at hg; omega))
      have HR4 := Lib.hid (hR.out.set3 (.int .i64 (k : Int)) (.int .i64 (r : Int)) (.slice (some ⟨gt, 0, none⟩) n n))
      have HB4 := Lib.hid (below_set3 hB.out (Nat.le_refl w.heap.size) (.int .i64 (k : Int)) (.int .i64 (r : Int)) (.slice (some ⟨gt, 0, none⟩) n n))
      clear hkL hin hT hV hO hR hB hkr
      go_wp2_with fail
      obtain ⟨d0, d1, d2, f0, f1, f2⟩ := HR4.out.facts
      exact bodyPost_ret (v := .agg #[.int .i64 (k : Int), .int .i64 (r : Int), .slice (some ⟨gt, 0, none⟩) n n]) (by simp [results, Tryz.results38, go_sem, d0, d1, d2]) rfl ⟨gt, rfl, HT4.out, HB4.out⟩

set_option maxRecDepth 100000 in
set_option maxHeartbeats 4000000 in
theorem made2_c (w : World) (k r : Nat) (F : FuncId) (p1 p2 : Value) (f : List Nat → Nat) (h1 : 1 ≤ k) (h2 : k ≤ 4) (h3 : r ≤ 3)
    (he : ∀ (v : Value) (wz : World), (callFunc F #[v, p1, p2]).run Tryz.prog wz = .ok (.enter F #[v, p1, p2]) wz)
    (hf : ∀ (wz : World), Below w.heap.size w wz → ∀ (g : Nat) (v : List Nat), v.length = 2 * r + 1 → (∀ x ∈ v, x < k) → Sl wz (some ⟨g, 0, none⟩) (2 * r + 1) ((ints v).map (Value.int .i64)) →
      Calls Tryz.prog F #[.slice (some ⟨g, 0, none⟩) (2 * r + 1) (2 * r + 1), p1, p2] wz fun e w' => e = .returned (.int .i64 ((f v : Nat) : Int)) ∧ Below wz.heap.size wz w') :
    Calls Tryz.prog 38 #[.int .i64 (k : Int), .int .i64 (r : Int), .func (.func F) #[] #[p1, p2]] w fun e w' => ∃ g, e = .returned (ruleV (k : Int) (r : Int) (some ⟨g, 0, none⟩) (k ^ (2 * r + 1)) (k ^ (2 * r + 1))) ∧
      w'.ownsRow w.heap.size 3 1 (.slice (some ⟨g, 0, none⟩) (k ^ (2 * r + 1)) (k ^ (2 * r + 1))) (k ^ (2 * r + 1)) ((ints (tab k (2 * r + 1) f)).map (Value.int .i64)) ∧ Below w.heap.size w w' := by
  have hle := pow_le h2 h3
  have hpos : 0 < k ^ (2 * r + 1) := Nat.pow_pos h1
  obtain ⟨n, hn⟩ : ∃ n, k ^ (2 * r + 1) = n := ⟨_, rfl⟩
  obtain ⟨L, hL⟩ : ∃ L, 2 * r + 1 = L := ⟨_, rfl⟩
  have hL7 : L ≤ 7 := by omega
  have hL1 : 1 ≤ L := by omega
  have hr0 : (0 : Int) ≤ (r : Int) := by omega
  have hr3 : (r : Int) ≤ 3 := by omega
  have hsz := size_ok (w.alloc (.cells #[.int .i64 0, .int .i64 0, .slice none 0 0] 26)) k r h1 h2 h3
  rw [hn] at hsz hle hpos ⊢
  rw [hL] at hf ⊢
  have HSZ := Lib.hid hsz
  have hk0 : ¬ ((k : Int) = 0) := by omega
  have hLi : (2 : Int) * (r : Int) + 1 = (L : Int) := by omega
  -- the worlds
  have hm1 := run_make_row' (P := Tryz.prog) 24 3 (.int .i64 0) 8 tInts.und tInts.info rfl .i64 .i64 n (by omega) (by omega)
  have hm2 := run_make_row' (P := Tryz.prog) 24 3 (.int .i64 0) 8 tInts.und tInts.info rfl .i64 .i64 L (by omega) (by omega)
  have hm1' := hm1 (w.alloc (.cells #[.int .i64 0, .int .i64 0, .slice none 0 0] 26))
  have HN := Lib.hid hn
  have HL := Lib.hid hL
  have HE := Lib.hid he
  have HF := Lib.hid hf
  clear hn hL hf hsz hm1
  go_enter Tryz.func38, Tryz.ntmps38
  go_wp2_with fail
  refine (HSZ.out).mono ?_
  rintro e w' ⟨rfl, rfl⟩
  have ro := RuleAt.new ((w.alloc (.cells #[.int .i64 0, .int .i64 0, .slice none 0 0] 26)).alloc (.cells (madeCells #[.int .i64 0] n) 3)) (.int .i64 (k : Int)) (.int .i64 (r : Int)) (.slice (some ⟨w.heap.size + 1, 0, none⟩) n n)
  have rr := (((RuleAt.new w (.int .i64 0) (.int .i64 0) (.slice none 0 0)).alloc (.cells (madeCells #[.int .i64 0] n) 3)).alloc (.cells #[.int .i64 (k : Int), .int .i64 (r : Int), .slice (some ⟨w.heap.size + 1, 0, none⟩) n n] 26)).alloc (.cells (madeCells #[.int .i64 0] L) 3)
  have ro2 := ro.alloc (.cells (madeCells #[.int .i64 0] L) 3)
  have rt := ((make_ints (w.alloc (.cells #[.int .i64 0, .int .i64 0, .slice none 0 0] 26)) n (by simp only [maxLen]; omega)).alloc (.cells #[.int .i64 (k : Int), .int .i64 (r : Int), .slice (some ⟨w.heap.size + 1, 0, none⟩) n n] 26)).alloc (.cells (madeCells #[.int .i64 0] L) 3)
  have rw' := make_ints (((w.alloc (.cells #[.int .i64 0, .int .i64 0, .slice none 0 0] 26)).alloc (.cells (madeCells #[.int .i64 0] n) 3)).alloc (.cells #[.int .i64 (k : Int), .int .i64 (r : Int), .slice (some ⟨w.heap.size + 1, 0, none⟩) n n] 26)) L (by simp only [maxLen]; omega)
  have hb := ((((Below.refl w.heap.size w).alloc (Nat.le_refl _) (.cells #[.int .i64 0, .int .i64 0, .slice none 0 0] 26)).alloc (by simp) (.cells (madeCells #[.int .i64 0] n) 3)).alloc (by simp; omega) (.cells #[.int .i64 (k : Int), .int .i64 (r : Int), .slice (some ⟨w.heap.size + 1, 0, none⟩) n n] 26)).alloc (by simp; omega) (.cells (madeCells #[.int .i64 0] L) 3)
  simp only [World.size_alloc] at ro2 rt rw'
  obtain ⟨W, hW⟩ : ∃ W, (((w.alloc (.cells #[.int .i64 0, .int .i64 0, .slice none 0 0] 26)).alloc (.cells (madeCells #[.int .i64 0] n) 3)).alloc (.cells #[.int .i64 (k : Int), .int .i64 (r : Int), .slice (some ⟨w.heap.size + 1, 0, none⟩) n n] 26)).alloc (.cells (madeCells #[.int .i64 0] L) 3) = W := ⟨_, rfl⟩
  rw [hW] at rr ro2 rt rw' hb
  have HWE := Lib.hid hW
  have hbase : w.heap.size ≤ w.heap.size := Nat.le_refl _
  have rt2 := own_base rt (show w.heap.size ≤ w.heap.size + 1 by omega)
  have rw2 := own_base rw' (show w.heap.size ≤ w.heap.size + 1 + 1 + 1 by omega)
  obtain ⟨gw, hgw⟩ : ∃ g, w.heap.size + 1 + 1 + 1 = g := ⟨_, rfl⟩
  obtain ⟨go, hgo⟩ : ∃ g, w.heap.size + 1 + 1 = g := ⟨_, rfl⟩
  obtain ⟨gt, hgt⟩ : ∃ g, w.heap.size + 1 = g := ⟨_, rfl⟩
  rw [hgw] at rw2
  rw [hgo, hgt] at ro2
  rw [hgt] at rt2
  have HGW := Lib.hid hgw
  have HGO := Lib.hid hgo
  have HGT := Lib.hid hgt
  have q1 : w.heap.size < gt := by omega
  have q2 : gt < go := by omega
  have q3 : go < gw := by omega
  have RT := Lib.hid rt2
  have RW := Lib.hid rw2
  have RO := Lib.hid ro2
  have RR := Lib.hid rr
  have HB := Lib.hid hb
  clear hgw hgo hgt ro rr ro2 rt rt2 rw' rw2 hb hW hbase
  go_wp2_with fail
  clear hm2 hm1'
  rw [HWE.out, HGW.out, HGO.out, HGT.out]
  go_loopw [32] (fun iv wl => ∃ (i : Nat) (vs : List Nat), i ≤ n ∧ iv = .int .i64 (i : Int) ∧ vs.length = L ∧ wl.ownsRow w.heap.size 3 1 (.slice (some ⟨gt, 0, none⟩) n n) n ((ints (fillTo (tab k L f) n 0 i)).map (Value.int .i64)) ∧
    wl.ownsRow w.heap.size 3 1 (.slice (some ⟨gw, 0, none⟩) L L) L ((ints vs).map (Value.int .i64)) ∧ Hid (RuleAt wl go (.int .i64 (k : Int)) (.int .i64 (r : Int)) (.slice (some ⟨gt, 0, none⟩) n n)) ∧ Hid (RuleAt wl w.heap.size (.int .i64 0) (.int .i64 0) (.slice none 0 0)) ∧ Hid (Below w.heap.size w wl)) (fun iv _ => n - (intOf iv).toNat)
  case atStart => exact ⟨0, List.replicate L 0, Nat.zero_le _, rfl, by simp, by rw [fillTo_zero]; exact RT.out, RW.out, RO, RR, HB⟩
  case round =>
    clear RT RW RO RR HB
    obtain ⟨i, vs, hi, rfl, hvl, hT, hV, hO, hR, hB⟩ := hrel
    have HVL := Lib.hid hvl
    clear hvl
    by_cases hlt : i < n
    · have hi' : (i : Int) < (n : Int) := by omega
      obtain ⟨wo, rfl⟩ : ∃ wo : World, wo = wr := ⟨_, rfl⟩
      have HT := Lib.hid hT
      go_wp2_with fail
      go_loopw [38, 12] (fun jv xv wl => ∃ (j X : Nat), j ≤ L ∧ jv = .int .i64 (j : Int) ∧ Hid (X = i / k ^ j) ∧ X ≤ i ∧ xv = .int .i64 (X : Int) ∧ wl.ownsRow w.heap.size 3 1 (.slice (some ⟨gw, 0, none⟩) L L) L ((ints (mix L vs (digB k L i) j)).map (Value.int .i64)) ∧ Hid (Keeps (fun b => b = gw) wo wl)) (fun jv _ _ => L - (intOf jv).toNat)
      case atStart => exact ⟨0, i, Nat.zero_le _, rfl, Lib.hid (by simp), Nat.le_refl _, rfl, by rw [mix_zero HVL.out (digB_len _ _ _)]; exact hV, Lib.hid (Keeps.refl _ _)⟩
      case round =>
        clear hV hT
        obtain ⟨j, X, hj, rfl, hX, hXi, rfl, hV, hK⟩ := hrel
        by_cases hjl : j < L
        · have hj' : (j : Int) < (L : Int) := by omega
          have hdx := digB_at (k := k) (i := i) hjl
          rw [← hX.out] at hdx
          have hst := (hV.stored (L - 1 - j) (.int .i64 ((X % k : Nat) : Int))).1
          rw [← List.map_set, ints_set, mix_set HVL.out (digB_len _ _ _) hjl hdx] at hst
          have hml := mix_len (j := j) HVL.out (digB_len k L i) (by omega)
          obtain ⟨z, hz⟩ : ∃ z, (mix L vs (digB k L i) j)[L - 1 - j]? = some z := ⟨_, List.getElem?_eq_getElem (by omega)⟩
          have hcell : wr.cell? ⟨gw, L - 1 - j, none⟩ = some (.int .i64 (z : Int)) := by rw [hV.cellAt (L - 1 - j) (by omega), ints_map, List.getElem?_map, hz]; rfl
          have hfr := hV.frozenAt (L - 1 - j)
          have hX2 : Hid (X / k = i / k ^ (j + 1)) := Lib.hid (by rw [hX.out, Nat.div_div_eq_div_mul, Nat.pow_succ])
          have hXk : X / k ≤ i := Nat.le_trans (Nat.div_le_self _ _) hXi
          have hxm : (X : Int) % (k : Int) = ((X % k : Nat) : Int) := by simp
          have hxd : (X : Int) / (k : Int) = ((X / k : Nat) : Int) := by simp
          obtain ⟨Y, hY⟩ : ∃ Y, X % k = Y := ⟨_, rfl⟩
          obtain ⟨Z, hZ⟩ : ∃ Z, X / k = Z := ⟨_, rfl⟩
          obtain ⟨p, hp⟩ : ∃ p, L - 1 - j = p := ⟨_, rfl⟩
          have hp' : (L : Int) - 1 - (j : Int) = (p : Int) := by omega
          have hpl : p < L := by omega
          rw [hY, hp] at hst
          rw [hY] at hxm
          rw [hZ] at hX2 hXk hxd
          rw [hp] at hcell hfr
          have HK2 := Lib.hid (hK.out.trans (Keeps.of_setCell wr ⟨gw, p, none⟩ (.int .i64 (Y : Int))) (fun _ _ h => h))
          have HST := Lib.hid hst
          clear hst hdx hml hz hY hZ hp hK hX hV
          go_wp2_with fail
          exact ⟨⟨j + 1, Z, by omega, by go_num, hX2, hXk, rfl, HST.out, HK2⟩, by simp [intOf]; omega⟩
        · have hjL : j = L := by omega
          have hj' : ¬ (j : Int) < (L : Int) := by omega
          rw [hjL, mix_all] at hV
          clear hjL
          have hbw : Below w.heap.size w wr := hB.out.trans (hK.out.below hB.out.size (fun b hb => by rw [show b = gw from hb]; omega))
          have hbd : Below w.heap.size w wr.drew := hbw.drew
          have hT2 := own_keeps HT.out hK.out (fun g hg h => by simp [Value.ownBlock] at hg; rw [show g = gw from h] at hg; omega)
          have hO2 := hO.out.keeps hK.out (by omega)
          have hR2 := hR.out.keeps hK.out (by omega)
          have hkL : k ^ L = n := by rw [← HL.out]; exact HN.out
          have hget := tab_get (k := k) (n := L) f (show i < k ^ L by rw [hkL]; exact hlt)
          have htl : (tab k L f).length = n := by rw [tab_len, hkL]
          have hcall := HF.out wr.drew hbd gw (digB k L i) (digB_len _ _ _) (digB_sym h1 _ _) (Sl.of_own hV)
          obtain ⟨y, hy⟩ : ∃ y, f (digB k L i) = y := ⟨_, rfl⟩
          rw [hy] at hget hcall
          have HC := Lib.hid hcall
          have HEE := Lib.hid (HE.out)
          have hst := fun (wz : World) (hz : wz.ownsRow w.heap.size 3 1 (.slice (some ⟨gt, 0, none⟩) n n) n ((ints (fillTo (tab k L f) n 0 i)).map (Value.int .i64))) => (hz.stored i (.int .i64 (y : Int))).1
          simp only [← List.map_set, ints_set, fillTo_set hlt hget] at hst
          have HST := Lib.hid hst
          obtain ⟨z, hz⟩ : ∃ z, (fillTo (tab k L f) n 0 i)[i]? = some z := ⟨_, List.getElem?_eq_getElem (by rw [fillTo_len (by omega) htl]; exact hlt)⟩
          have HZ := Lib.hid (fun (wz : World) (hq : wz.ownsRow w.heap.size 3 1 (.slice (some ⟨gt, 0, none⟩) n n) n ((ints (fillTo (tab k L f) n 0 i)).map (Value.int .i64))) => (⟨by rw [hq.cellAt i (by omega), ints_map, List.getElem?_map, hz]; rfl, hq.frozenAt i⟩ : wz.cell? ⟨gt, i, none⟩ = some (.int .i64 (z : Int)) ∧ wz.frozen? ⟨gt, i, none⟩ = false))
          have c2 := hO2.facts.2.2.1
          have hi0 : (0 : Int) ≤ (i : Int) := by omega
          have hne : ¬ go = gt := by omega
          have HT2 := Lib.hid hT2
          have HV2 := Lib.hid hV
          have HO2 := Lib.hid hO2
          have HR2 := Lib.hid hR2
          have HBD := Lib.hid hbd
          clear hK hX hV hT2 hO2 hR2 hbw hbd hkL hget htl hcall hy hst hz hO hR HT
          go_wp2_with fail
          go_region_held3 (fun w' => w'.cell? ⟨go, 2, none⟩ = some (.slice (some ⟨gt, 0, none⟩) n n))
            (first | go_keep | exact (Keeps.of_setCell _ _ _).cell x0 hne)
            (first
              | (refine (HC.out).mono ?_
                 rintro e w2 ⟨rfl, hb2⟩
                 have x0 := cell_later hb2 c2
                 have ht3 := own_below (w := wr.drew) HT2.out hb2
                 obtain ⟨t0, t1⟩ := HZ.out w2 ht3)
              | fail)
          have hb3 : Below wr.drew.heap.size wr.drew w2 := hb2
          have hk3 := Keeps.of_setCell w2 ⟨gt, i, none⟩ (.int .i64 (y : Int))
          have HT4 := Lib.hid (HST.out w2 ht3)
          have HV4 := Lib.hid (own_keeps (own_below (w := wr.drew) HV2.out hb3) hk3 (fun g hg h => by simp [Value.ownBlock] at hg; rw [show g = gt from h] at hg; omega))
          have HO4 := Lib.hid ((HO2.out.below ((Below.refl _ _).drew.trans hb3) HO2.out.lt).keeps hk3 hne)
          have HR4 := Lib.hid ((HR2.out.below ((Below.refl _ _).drew.trans hb3) HR2.out.lt).keeps hk3 (show ¬ w.heap.size = gt by omega))
          have HB4 := Lib.hid ((HBD.out.trans (hb3.mono HBD.out.size)).setCell (p := ⟨gt, i, none⟩) (show w.heap.size ≤ gt by omega) (.int .i64 (y : Int)))
          clear hb2 hb3 hk3 x0 t0 t1 ht3 c2
          go_wp2_with fail
          exact ⟨⟨i + 1, digB k L i, by omega, by go_num, digB_len _ _ _, HT4.out, HV4.out, HO4, HR4, HB4⟩, by simp [intOf]; omega⟩
    · have hi' : ¬ (i : Int) < (n : Int) := by omega
      have hin : i = n := by omega
      have hkL : k ^ L = n := by rw [← HL.out]; exact HN.out
      rw [hin, fillTo_all _ (by rw [tab_len, hkL])] at hT
      obtain ⟨o0, o1, o2, _⟩ := hO.out.facts
      obtain ⟨d0, d1, d2, f0, f1, f2⟩ := hR.out.facts
      have hkr := keeps_set3 wr w.heap.size (.int .i64 (k : Int)) (.int .i64 (r : Int)) (.slice (some ⟨gt, 0, none⟩) n n)
      have HT4 := Lib.hid (own_keeps hT hkr (fun g hg h => by simp [Value.ownBlock] at hg; rw [show g = w.heap.size from h] at hg; omega))
      have HR4 := Lib.hid (hR.out.set3 (.int .i64 (k : Int)) (.int .i64 (r : Int)) (.slice (some ⟨gt, 0, none⟩) n n))
      have HB4 := Lib.hid (below_set3 hB.out (Nat.le_refl w.heap.size) (.int .i64 (k : Int)) (.int .i64 (r : Int)) (.slice (some ⟨gt, 0, none⟩) n n))
      clear hkL hin hT hV hO hR hB hkr
      go_wp2_with fail
      obtain ⟨d0, d1, d2, f0, f1, f2⟩ := HR4.out.facts
      exact bodyPost_ret (v := .agg #[.int .i64 (k : Int), .int .i64 (r : Int), .slice (some ⟨gt, 0, none⟩) n n]) (by simp [results, Tryz.results38, go_sem, d0, d1, d2]) rfl ⟨gt, rfl, HT4.out, HB4.out⟩
end Go.Proofs.YtpllojpgpejfmaaGreatDoor
