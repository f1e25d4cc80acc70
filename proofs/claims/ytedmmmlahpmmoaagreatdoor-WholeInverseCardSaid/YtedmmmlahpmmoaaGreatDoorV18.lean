/- A rule whose symbols are told window by window: forms.made. Condition: the closure answers each window's symbol and writes to nothing that was there. The image of a word: rule.Step; the symbol of a window: rule.Local. Condition: table and word read from memory; the error variables hold what E says. -/
import Derived.Deep.RegionHeld3
import Derived.Test.YtedmmmlahpmmoaaGreatDoorV6
import Derived.Test.YtedmmmlahpmmoaaGreatDoorV7
import Derived.Test.YtedmmmlahpmmoaaGreatDoorV8
namespace Go.Proofs.YtedmmmlahpmmoaaGreatDoor
open Go.RowKit RuleP

namespace RuleP
theorem digB_at {k : Nat} : ∀ {L i j : Nat}, j < L → (digB k L i)[L - 1 - j]? = some (i / k ^ j % k)
  | 0, _, _, h => absurd h (Nat.not_lt_zero _)
  | L + 1, i, 0, _ => by
    rw [digB, List.getElem?_append_right (by rw [digB_len]; omega), digB_len]
    simp
  | L + 1, i, j + 1, h => by
    rw [digB, List.getElem?_append_left (by rw [digB_len]; omega), show L + 1 - 1 - (j + 1) = L - 1 - j by omega, digB_at (by omega), Nat.div_div_eq_div_mul, Nat.pow_succ, Nat.mul_comm k]
/-- The last j places as those of D. -/
def mix (L : Nat) (vs D : List Nat) (j : Nat) : List Nat := vs.take (L - j) ++ D.drop (L - j)
theorem mix_zero {L : Nat} {vs D : List Nat} (h : vs.length = L) (hD : D.length = L) : mix L vs D 0 = vs := by
  unfold mix
  rw [Nat.sub_zero, List.take_of_length_le (by omega), List.drop_eq_nil_of_le (by omega), List.append_nil]
theorem mix_all {L : Nat} {vs D : List Nat} : mix L vs D L = D := by
  unfold mix
  rw [Nat.sub_self]
  simp
theorem mix_len {L j : Nat} {vs D : List Nat} (h : vs.length = L) (hD : D.length = L) (hj : j ≤ L) : (mix L vs D j).length = L := by
  unfold mix
  rw [List.length_append, List.length_take, List.length_drop]
  omega
theorem mix_set {L j x : Nat} {vs D : List Nat} (h : vs.length = L) (hD : D.length = L) (hj : j < L) (hx : D[L - 1 - j]? = some x) : (mix L vs D j).set (L - 1 - j) x = mix L vs D (j + 1) := by
  unfold mix
  have hl : L - 1 - j < D.length := (List.getElem?_eq_some_iff.1 hx).1
  have hx' : D[L - 1 - j] = x := (List.getElem?_eq_some_iff.1 hx).2
  have e1 : vs.take (L - j) = vs.take (L - (j + 1)) ++ [vs[L - (j + 1)]'(by omega)] := by
    rw [← List.take_succ_eq_append_getElem (by omega), show L - (j + 1) + 1 = L - j by omega]
  have e2 : D.drop (L - (j + 1)) = x :: D.drop (L - j) := by
    rw [List.drop_eq_getElem_cons (show L - (j + 1) < D.length by omega)]
    have e3 : L - (j + 1) + 1 = L - j := by omega
    rw [e3]
    congr 1
    rw [← hx']
    congr 1
    omega
  rw [e1, e2, List.append_assoc, List.set_append_right _ _ (by rw [List.length_take]; omega), List.length_take, show L - 1 - j - min (L - (j + 1)) vs.length = 0 by omega]
  rfl
end RuleP

set_option maxRecDepth 100000 in
set_option maxHeartbeats 4000000 in
theorem made2_c (w : World) (k r : Nat) (F : FuncId) (p1 p2 : Value) (f : List Nat → Nat) (h1 : 1 ≤ k) (h2 : k ≤ 4) (h3 : r ≤ 3)
    (he : ∀ (v : Value) (wz : World), (callFunc F #[v, p1, p2]).run Tryz.prog wz = .ok (.enter F #[v, p1, p2]) wz)
    (hf : ∀ (wz : World), Below w.heap.size w wz → ∀ (g : Nat) (v : List Nat), v.length = 2 * r + 1 → (∀ x ∈ v, x < k) → Sl wz (some ⟨g, 0, none⟩) (2 * r + 1) ((ints v).map (Value.int .i64)) →
      Calls Tryz.prog F #[.slice (some ⟨g, 0, none⟩) (2 * r + 1) (2 * r + 1), p1, p2] wz fun e w' => e = .returned (.int .i64 ((f v : Nat) : Int)) ∧ Below wz.heap.size wz w') :
    Calls Tryz.prog 94 #[.int .i64 (k : Int), .int .i64 (r : Int), .func (.func F) #[] #[p1, p2]] w fun e w' => ∃ g, e = .returned (ruleV (k : Int) (r : Int) (some ⟨g, 0, none⟩) (k ^ (2 * r + 1)) (k ^ (2 * r + 1))) ∧
      w'.ownsRow w.heap.size 3 1 (.slice (some ⟨g, 0, none⟩) (k ^ (2 * r + 1)) (k ^ (2 * r + 1))) (k ^ (2 * r + 1)) ((ints (tab k (2 * r + 1) f)).map (Value.int .i64)) ∧ Below w.heap.size w w' := by
  have hle := pow_le h2 h3
  have hpos : 0 < k ^ (2 * r + 1) := Nat.pow_pos h1
  obtain ⟨n, hn⟩ : ∃ n, k ^ (2 * r + 1) = n := ⟨_, rfl⟩
  obtain ⟨L, hL⟩ : ∃ L, 2 * r + 1 = L := ⟨_, rfl⟩
  have hL7 : L ≤ 7 := by omega
  have hL1 : 1 ≤ L := by omega
  have hr0 : (0 : Int) ≤ (r : Int) := by omega
  have hr3 : (r : Int) ≤ 3 := by omega
  have hsz := size_ok (w.alloc (.cells #[.int .i64 0, .int .i64 0, .slice none 0 0] 24)) k r h1 h2 h3
  rw [hn] at hsz hle hpos ⊢
  rw [hL] at hf ⊢
  have HSZ := Lib.hid hsz
  have hk0 : ¬ ((k : Int) = 0) := by omega
  have hLi : (2 : Int) * (r : Int) + 1 = (L : Int) := by omega
  -- the worlds
  have hm1 := run_make_row' (P := Tryz.prog) 22 3 (.int .i64 0) 8 tInts.und tInts.info rfl .i64 .i64 n (by omega) (by omega)
  have hm2 := run_make_row' (P := Tryz.prog) 22 3 (.int .i64 0) 8 tInts.und tInts.info rfl .i64 .i64 L (by omega) (by omega)
  have hm1' := hm1 (w.alloc (.cells #[.int .i64 0, .int .i64 0, .slice none 0 0] 24))
  have HN := Lib.hid hn
  have HL := Lib.hid hL
  have HE := Lib.hid he
  have HF := Lib.hid hf
  clear hn hL hf hsz hm1
  go_enter Tryz.func94, Tryz.ntmps94
  go_wp2_with fail
  refine (HSZ.out).mono ?_
  rintro e w' ⟨rfl, rfl⟩
  have ro := RuleAt.new ((w.alloc (.cells #[.int .i64 0, .int .i64 0, .slice none 0 0] 24)).alloc (.cells (madeCells #[.int .i64 0] n) 3)) (.int .i64 (k : Int)) (.int .i64 (r : Int)) (.slice (some ⟨w.heap.size + 1, 0, none⟩) n n)
  have rr := (((RuleAt.new w (.int .i64 0) (.int .i64 0) (.slice none 0 0)).alloc (.cells (madeCells #[.int .i64 0] n) 3)).alloc (.cells #[.int .i64 (k : Int), .int .i64 (r : Int), .slice (some ⟨w.heap.size + 1, 0, none⟩) n n] 24)).alloc (.cells (madeCells #[.int .i64 0] L) 3)
  have ro2 := ro.alloc (.cells (madeCells #[.int .i64 0] L) 3)
  have rt := ((make_ints (w.alloc (.cells #[.int .i64 0, .int .i64 0, .slice none 0 0] 24)) n (by simp only [maxLen]; omega)).alloc (.cells #[.int .i64 (k : Int), .int .i64 (r : Int), .slice (some ⟨w.heap.size + 1, 0, none⟩) n n] 24)).alloc (.cells (madeCells #[.int .i64 0] L) 3)
  have rw' := make_ints (((w.alloc (.cells #[.int .i64 0, .int .i64 0, .slice none 0 0] 24)).alloc (.cells (madeCells #[.int .i64 0] n) 3)).alloc (.cells #[.int .i64 (k : Int), .int .i64 (r : Int), .slice (some ⟨w.heap.size + 1, 0, none⟩) n n] 24)) L (by simp only [maxLen]; omega)
  have hb := ((((Below.refl w.heap.size w).alloc (Nat.le_refl _) (.cells #[.int .i64 0, .int .i64 0, .slice none 0 0] 24)).alloc (by simp) (.cells (madeCells #[.int .i64 0] n) 3)).alloc (by simp; omega) (.cells #[.int .i64 (k : Int), .int .i64 (r : Int), .slice (some ⟨w.heap.size + 1, 0, none⟩) n n] 24)).alloc (by simp; omega) (.cells (madeCells #[.int .i64 0] L) 3)
  simp only [World.size_alloc] at ro2 rt rw'
  obtain ⟨W, hW⟩ : ∃ W, (((w.alloc (.cells #[.int .i64 0, .int .i64 0, .slice none 0 0] 24)).alloc (.cells (madeCells #[.int .i64 0] n) 3)).alloc (.cells #[.int .i64 (k : Int), .int .i64 (r : Int), .slice (some ⟨w.heap.size + 1, 0, none⟩) n n] 24)).alloc (.cells (madeCells #[.int .i64 0] L) 3) = W := ⟨_, rfl⟩
  rw [hW] at rr ro2 rt rw' hb
  have HWE := Lib.hid hW
  have hbase : w.heap.size ≤ w.heap.size := Nat.le_refl _
  have rt2 := own_base rt (show w.heap.size ≤ w.heap.size + 1 by omega)
  have rw2 := own_base rw' (show w.heap.size ≤ w.heap.size + 1 + 1 + 1 by omega)
  obtain ⟨gw, hgw⟩ : ∃ g, w.heap.size + 1 + 1 + 1 = g := ⟨_, rfl⟩
  obtain ⟨go, hgo⟩ : ∃ g, w.heap.size + 1 + 1 = g := ⟨_, rfl⟩
  obtain ⟨gt, hgt⟩ : ∃ g, w.heap.size + 1 = g := ⟨_, rfl⟩
  rw [hgw] at rw2
  rw [hgo, hgt] at ro2
  rw [hgt] at rt2
  have HGW := Lib.hid hgw
  have HGO := Lib.hid hgo
  have HGT := Lib.hid hgt
  have q1 : w.heap.size < gt := by omega
  have q2 : gt < go := by omega
  have q3 : go < gw := by omega
  have RT := Lib.hid rt2
  have RW := Lib.hid rw2
  have RO := Lib.hid ro2
  have RR := Lib.hid rr
  have HB := Lib.hid hb
  clear hgw hgo hgt ro rr ro2 rt rt2 rw' rw2 hb hW hbase
  go_wp2_with fail
  clear hm2 hm1'
  rw [HWE.out, HGW.out, HGO.out, HGT.out]
  go_loopw [32] (fun iv wl => ∃ (i : Nat) (vs : List Nat), i ≤ n ∧ iv = .int .i64 (i : Int) ∧ vs.length = L ∧ wl.ownsRow w.heap.size 3 1 (.slice (some ⟨gt, 0, none⟩) n n) n ((ints (fillTo (tab k L f) n 0 i)).map (Value.int .i64)) ∧
    wl.ownsRow w.heap.size 3 1 (.slice (some ⟨gw, 0, none⟩) L L) L ((ints vs).map (Value.int .i64)) ∧ Hid (RuleAt wl go (.int .i64 (k : Int)) (.int .i64 (r : Int)) (.slice (some ⟨gt, 0, none⟩) n n)) ∧ Hid (RuleAt wl w.heap.size (.int .i64 0) (.int .i64 0) (.slice none 0 0)) ∧ Hid (Below w.heap.size w wl)) (fun iv _ => n - (intOf iv).toNat)
  case atStart => exact ⟨0, List.replicate L 0, Nat.zero_le _, rfl, by simp, by rw [fillTo_zero]; exact RT.out, RW.out, RO, RR, HB⟩
  case round =>
    clear RT RW RO RR HB
    obtain ⟨i, vs, hi, rfl, hvl, hT, hV, hO, hR, hB⟩ := hrel
    have HVL := Lib.hid hvl
    clear hvl
    by_cases hlt : i < n
    · have hi' : (i : Int) < (n : Int) := by omega
      obtain ⟨wo, rfl⟩ : ∃ wo : World, wo = wr := ⟨_, rfl⟩
      have HT := Lib.hid hT
      go_wp2_with fail
      go_loopw [38, 12] (fun jv xv wl => ∃ (j X : Nat), j ≤ L ∧ jv = .int .i64 (j : Int) ∧ Hid (X = i / k ^ j) ∧ X ≤ i ∧ xv = .int .i64 (X : Int) ∧ wl.ownsRow w.heap.size 3 1 (.slice (some ⟨gw, 0, none⟩) L L) L ((ints (mix L vs (digB k L i) j)).map (Value.int .i64)) ∧ Hid (Keeps (fun b => b = gw) wo wl)) (fun jv _ _ => L - (intOf jv).toNat)
      case atStart => exact ⟨0, i, Nat.zero_le _, rfl, Lib.hid (by simp), Nat.le_refl _, rfl, by rw [mix_zero HVL.out (digB_len _ _ _)]; exact hV, Lib.hid (Keeps.refl _ _)⟩
      case round =>
        clear hV hT
        obtain ⟨j, X, hj, rfl, hX, hXi, rfl, hV, hK⟩ := hrel
        by_cases hjl : j < L
        · have hj' : (j : Int) < (L : Int) := by omega
          have hdx := digB_at (k := k) (i := i) hjl
          rw [← hX.out] at hdx
          have hst := (hV.stored (L - 1 - j) (.int .i64 ((X % k : Nat) : Int))).1
          rw [← List.map_set, ints_set, mix_set HVL.out (digB_len _ _ _) hjl hdx] at hst
          have hml := mix_len (j := j) HVL.out (digB_len k L i) (by omega)
          obtain ⟨z, hz⟩ : ∃ z, (mix L vs (digB k L i) j)[L - 1 - j]? = some z := ⟨_, List.getElem?_eq_getElem (by omega)⟩
          have hcell : wr.cell? ⟨gw, L - 1 - j, none⟩ = some (.int .i64 (z : Int)) := by rw [hV.cellAt (L - 1 - j) (by omega), ints_map, List.getElem?_map, hz]; rfl
          have hfr := hV.frozenAt (L - 1 - j)
          have hX2 : Hid (X / k = i / k ^ (j + 1)) := Lib.hid (by rw [hX.out, Nat.div_div_eq_div_mul, Nat.pow_succ])
          have hXk : X / k ≤ i := Nat.le_trans (Nat.div_le_self _ _) hXi
          have hxm : (X : Int) % (k : Int) = ((X % k : Nat) : Int) := by simp
          have hxd : (X : Int) / (k : Int) = ((X / k : Nat) : Int) := by simp
          obtain ⟨Y, hY⟩ : ∃ Y, X % k = Y := ⟨_, rfl⟩
          obtain ⟨Z, hZ⟩ : ∃ Z, X / k = Z := ⟨_, rfl⟩
          obtain ⟨p, hp⟩ : ∃ p, L - 1 - j = p := ⟨_, rfl⟩
          have hp' : (L : Int) - 1 - (j : Int) = (p : Int) := by omega
          have hpl : p < L := by omega
          rw [hY, hp] at hst
          rw [hY] at hxm
          rw [hZ] at hX2 hXk hxd
          rw [hp] at hcell hfr
          have HK2 := Lib.hid (hK.out.trans (Keeps.of_setCell wr ⟨gw, p, none⟩ (.int .i64 (Y : Int))) (fun _ _ h => h))
          have HST := Lib.hid hst
          clear hst hdx hml hz hY hZ hp hK hX hV
          go_wp2_with fail
          exact ⟨⟨j + 1, Z, by omega, by go_num, hX2, hXk, rfl, HST.out, HK2⟩, by simp [intOf]; omega⟩
        · have hjL : j = L := by omega
          have hj' : ¬ (j : Int) < (L : Int) := by omega
          rw [hjL, mix_all] at hV
          clear hjL
          have hbw : Below w.heap.size w wr := hB.out.trans (hK.out.below hB.out.size (fun b hb => by rw [show b = gw from hb]; omega))
          have hbd : Below w.heap.size w wr.drew := hbw.drew
          have hT2 := own_keeps HT.out hK.out (fun g hg h => by simp [Value.ownBlock] at hg; rw [show g = gw from h] at hg; omega)
          have hO2 := hO.out.keeps hK.out (by omega)
          have hR2 := hR.out.keeps hK.out (by omega)
          have hkL : k ^ L = n := by rw [← HL.out]; exact HN.out
          have hget := tab_get (k := k) (n := L) f (show i < k ^ L by rw [hkL]; exact hlt)
          have htl : (tab k L f).length = n := by rw [tab_len, hkL]
          have hcall := HF.out wr.drew hbd gw (digB k L i) (digB_len _ _ _) (digB_sym h1 _ _) (Sl.of_own hV)
          obtain ⟨y, hy⟩ : ∃ y, f (digB k L i) = y := ⟨_, rfl⟩
          rw [hy] at hget hcall
          have HC := Lib.hid hcall
          have HEE := Lib.hid (HE.out)
          have hst := fun (wz : World) (hz : wz.ownsRow w.heap.size 3 1 (.slice (some ⟨gt, 0, none⟩) n n) n ((ints (fillTo (tab k L f) n 0 i)).map (Value.int .i64))) => (hz.stored i (.int .i64 (y : Int))).1
          simp only [← List.map_set, ints_set, fillTo_set hlt hget] at hst
          have HST := Lib.hid hst
          obtain ⟨z, hz⟩ : ∃ z, (fillTo (tab k L f) n 0 i)[i]? = some z := ⟨_, List.getElem?_eq_getElem (by rw [fillTo_len (by omega) htl]; exact hlt)⟩
          have HZ := Lib.hid (fun (wz : World) (hq : wz.ownsRow w.heap.size 3 1 (.slice (some ⟨gt, 0, none⟩) n n) n ((ints (fillTo (tab k L f) n 0 i)).map (Value.int .i64))) => (⟨by rw [hq.cellAt i (by omega), ints_map, List.getElem?_map, hz]; rfl, hq.frozenAt i⟩ : wz.cell? ⟨gt, i, none⟩ = some (.int .i64 (z : Int)) ∧ wz.frozen? ⟨gt, i, none⟩ = false))
          have c2 := hO2.facts.2.2.1
          have hi0 : (0 : Int) ≤ (i : Int) := by omega
          have hne : ¬ go = gt := by omega
          have HT2 := Lib.hid hT2
          have HV2 := Lib.hid hV
          have HO2 := Lib.hid hO2
          have HR2 := Lib.hid hR2
          have HBD := Lib.hid hbd
          clear hK hX hV hT2 hO2 hR2 hbw hbd hkL hget htl hcall hy hst hz hO hR HT
          go_wp2_with fail
          go_region_held3 (fun w' => w'.cell? ⟨go, 2, none⟩ = some (.slice (some ⟨gt, 0, none⟩) n n))
            (first | go_keep | exact (Keeps.of_setCell _ _ _).cell x0 hne)
            (first
              | (refine (HC.out).mono ?_
                 rintro e w2 ⟨rfl, hb2⟩
                 have x0 := cell_later hb2 c2
                 have ht3 := own_below (w := wr.drew) HT2.out hb2
                 obtain ⟨t0, t1⟩ := HZ.out w2 ht3)
              | fail)
          have hb3 : Below wr.drew.heap.size wr.drew w2 := hb2
          have hk3 := Keeps.of_setCell w2 ⟨gt, i, none⟩ (.int .i64 (y : Int))
          have HT4 := Lib.hid (HST.out w2 ht3)
          have HV4 := Lib.hid (own_keeps (own_below (w := wr.drew) HV2.out hb3) hk3 (fun g hg h => by simp [Value.ownBlock] at hg; rw [show g = gt from h] at hg; omega))
          have HO4 := Lib.hid ((HO2.out.below ((Below.refl _ _).drew.trans hb3) HO2.out.lt).keeps hk3 hne)
          have HR4 := Lib.hid ((HR2.out.below ((Below.refl _ _).drew.trans hb3) HR2.out.lt).keeps hk3 (show ¬ w.heap.size = gt by omega))
          have HB4 := Lib.hid ((HBD.out.trans (hb3.mono HBD.out.size)).setCell (p := ⟨gt, i, none⟩) (show w.heap.size ≤ gt by omega) (.int .i64 (y : Int)))
          clear hb2 hb3 hk3 x0 t0 t1 ht3 c2
          go_wp2_with fail
          exact ⟨⟨i + 1, digB k L i, by omega, by go_num, digB_len _ _ _, HT4.out, HV4.out, HO4, HR4, HB4⟩, by simp [intOf]; omega⟩
    · have hi' : ¬ (i : Int) < (n : Int) := by omega
      have hin : i = n := by omega
      have hkL : k ^ L = n := by rw [← HL.out]; exact HN.out
      rw [hin, fillTo_all _ (by rw [tab_len, hkL])] at hT
      obtain ⟨o0, o1, o2, _⟩ := hO.out.facts
      obtain ⟨d0, d1, d2, f0, f1, f2⟩ := hR.out.facts
      have hkr := keeps_set3 wr w.heap.size (.int .i64 (k : Int)) (.int .i64 (r : Int)) (.slice (some ⟨gt, 0, none⟩) n n)
      have HT4 := Lib.hid (own_keeps hT hkr (fun g hg h => by simp [Value.ownBlock] at hg; rw [show g = w.heap.size from h] at hg; omega))
      have HR4 := Lib.hid (hR.out.set3 (.int .i64 (k : Int)) (.int .i64 (r : Int)) (.slice (some ⟨gt, 0, none⟩) n n))
      have HB4 := Lib.hid (below_set3 hB.out (Nat.le_refl w.heap.size) (.int .i64 (k : Int)) (.int .i64 (r : Int)) (.slice (some ⟨gt, 0, none⟩) n n))
      clear hkL hin hT hV hO hR hB hkr
      go_wp2_with fail
      obtain ⟨d0, d1, d2, f0, f1, f2⟩ := HR4.out.facts
      exact bodyPost_ret (v := .agg #[.int .i64 (k : Int), .int .i64 (r : Int), .slice (some ⟨gt, 0, none⟩) n n]) (by simp [results, Tryz.results94, go_sem, d0, d1, d2]) rfl ⟨gt, rfl, HT4.out, HB4.out⟩
end Go.Proofs.YtedmmmlahpmmoaaGreatDoor

namespace Go.Proofs.YtedmmmlahpmmoaaGreatDoor
open Go.RowKit RuleP

namespace RuleP
def nats (l : List Int) : List Nat := l.map Int.toNat
/-- rule.Step's answer. -/
def step (K R : Int) (T w : List Int) : Except Tale (List Int) :=
  match check K R T with
  | some t => .error t
  | none => if 4096 < w.length then .error (4, [(sRule, 0)]) else
    match odd K w with
    | some i => .error (2, [(sRule, (i : Int))])
    | none => .ok (ints (image K.toNat R.toNat (nats T) (nats w)))
end RuleP

/-- The answer is a new list and no error, or nothing and the error of the tale. -/
def ListErr (w : World) (E : Nat → Addr) (x : Except Tale (List Int)) (e : Ending) (w' : World) : Prop :=
  match x with
  | .ok l => ∃ A c, e = .returned (.tuple #[.slice A l.length c, .nilIface]) ∧ w'.ownsRow w.heap.size 3 1 (.slice A l.length c) l.length (l.map (Value.int .i64)) ∧ Below w.heap.size w w'
  | .error t => ∃ v, e = .returned (.tuple #[.slice none 0 0, v]) ∧ ErrIs w' E t.1 t.2 v ∧ Below w.heap.size w w'

set_option maxRecDepth 100000 in
set_option maxHeartbeats 4000000 in
theorem step_good (w : World) (E : Nat → Addr) (hE : Errs w E) (k r : Nat) (A B : Option Addr) (n c m d : Nat) (t v : List Nat) (hr : IsRule k r t) (hv : ∀ x ∈ v, x < k) (hT : Sl w A n ((ints t).map (Value.int .i64))) (hW : Sl w B m ((ints v).map (Value.int .i64))) (hm : m ≤ 4096) :
    Calls Tryz.prog 22 #[ruleV k r A n c, .slice B m d] w fun e w' => ListErr w E (.ok (ints (image k r t v))) e w' := by
  have hl : v.length = m := by simpa [ints] using hW.1
  have hlt : t.length = n := by simpa [ints] using hT.1
  have hn := hr.le
  have hpos := hr.pos
  have hk1 := hr.k1
  have hk4 := hr.k4
  have hr3 := hr.r3
  rw [hlt] at hn hpos
  have hE1 : Errs (w.alloc (.cells #[.int .i64 (k : Int), .int .i64 (r : Int), .slice A n c] 24)) E := hE.below ((Below.refl _ _).alloc (Nat.le_refl _) _)
  have hT1 := hT.alloc (.cells #[.int .i64 (k : Int), .int .i64 (r : Int), .slice A n c] 24)
  have hW1 := hW.alloc (.cells #[.int .i64 (k : Int), .int .i64 (r : Int), .slice A n c] 24)
  have hck := check_c _ E hE1 k r A n c (ints t) hT1 (by omega)
  rw [check_rule hr] at hck
  have HCK := Lib.hid hck
  have HOD := Lib.hid (fun (wz : World) (hz : Sl wz B m ((ints v).map (Value.int .i64))) => ruleOdd_c wz k B m d (ints v) hz (by omega))
  rw [odd_ints hv] at HOD
  have hpl : place none = -1 := rfl
  rw [hpl] at HOD
  have HL := Lib.hid hl
  have HLT := Lib.hid hlt
  have HR := Lib.hid hr
  have HV := Lib.hid hv
  have HW := Lib.hid hW1
  clear hE hE1 hT1 hck hpl hl hlt hr hv hW1
  rw [ints_map] at hT hW
  unfold ruleV at *
  go_enter Tryz.func22, Tryz.ntmps22
  go_wp2_with fail
  refine (HCK.out).mono ?_
  rintro e w1 ⟨v', rfl, rfl, hb⟩
  obtain ⟨b0, b1, b2⟩ := box_cells hb
  have HW1 := Lib.hid (HW.out.below hb)
  go_wp2_with fail
  refine (HOD.out _ HW1.out).mono ?_
  rintro e w2 ⟨rfl, hb2⟩
  have hbox : w2.heap[w.heap.size]? = some (.cells #[.int .i64 (k : Int), .int .i64 (r : Int), .slice A n c] 24 (0, 0)) := by
    rw [hb2.block _ (Nat.lt_of_lt_of_le (by simp) hb.size), hb.block _ (by simp)]
    exact heap_new _ _
  have hsz : w.heap.size < w2.heap.size := Nat.lt_of_lt_of_le (Nat.lt_of_lt_of_le (by simp) hb.size) hb2.size
  have hB2 := (below_box hb).trans (hb2.mono (below_box hb).size)
  have HBX := Lib.hid hbox
  clear hb hb2 b0 b1 b2 hbox HW1 HW
  go_wp2_with fail
  go_loopw [8, 9, 31] (fun ov nv i wr => ∃ (j p : Nat) (C : Option Addr) (cc : Nat), j ≤ m ∧ p = j - 2 * r ∧ i = .int .i64 (j : Int) ∧ nv = .int .i64 ((roll k n (v.take j) : Nat) : Int) ∧ ov = .slice C p cc ∧ wr.ownsRow w.heap.size 3 1 (.slice C p cc) p (((ints (image k r t v)).take p).map (Value.int .i64)) ∧
      Hid (wr.heap[w.heap.size]? = some (.cells #[.int .i64 (k : Int), .int .i64 (r : Int), .slice A n c] 24 (0, 0))) ∧ w.heap.size < wr.heap.size ∧ Below w.heap.size w wr) (fun _ _ i _ => m - (intOf i).toNat)
  case atStart => exact ⟨0, 0, none, 0, Nat.zero_le _, by omega, rfl, by simp [roll, wval_nil], rfl, ⟨by simp, .inl ⟨rfl, rfl⟩⟩, HBX, hsz, hB2⟩
  case round =>
    clear hsz hB2 HBX
    obtain ⟨j, p, C, cc, hj, hp, rfl, rfl, rfl, hown, hbox, hsz, hb⟩ := hrel
    obtain ⟨b0, b1, b2, _⟩ := blk_cells hbox.out
    by_cases hlt : j < m
    · obtain ⟨adw, x, rfl, hxj, hcx⟩ := (hW.below hb).word_ hlt
      have hxk : x < k := HV.out x (List.mem_of_getElem? hxj)
      have hrho : roll k n (v.take j) < n := Nat.mod_lt _ hpos
      have hrol : roll k n (v.take (j + 1)) = (roll k n (v.take j) * k + x) % n := by
        rw [List.take_add_one, hxj]; exact roll_snoc _ _ _ _
      have hrl2 : roll k n (v.take (j + 1)) < n := Nat.mod_lt _ hpos
      have hQ : ((roll k n (v.take j) : Nat) : Int) * (k : Int) = ((roll k n (v.take j) * k : Nat) : Int) := by simp
      have hQl : roll k n (v.take j) * k ≤ 65536 := Nat.le_trans (Nat.mul_le_mul (Nat.le_of_lt (Nat.lt_of_lt_of_le hrho hn)) hk4) (by decide)
      have hmod : (((roll k n (v.take j) * k : Nat) : Int) + (x : Int)) % (n : Int) = ((roll k n (v.take (j + 1)) : Nat) : Int) := by rw [hrol]; simp
      obtain ⟨Q, hQQ⟩ : ∃ Q, roll k n (v.take j) * k = Q := ⟨_, rfl⟩
      rw [hQQ] at hQ hQl hmod
      obtain ⟨adt, y, rfl, hyt, hcy⟩ := (hT.below hb).word_ hrl2
      by_cases h2 : 2 * r ≤ j
      · obtain rfl : j = p + 2 * r := by omega
        have himg : (ints (image k r t v))[p]? = some ((y : Nat) : Int) := by
          have hw : p + 2 * r < v.length := by rw [HL.out]; exact hlt
          have h1 := image_at (k := k) (t := t) hw
          have h3 := roll_win HV.out hw
          rw [← HR.out.len, HLT.out] at h3
          rw [← h3, List.getD_eq_getElem?_getD, hyt] at h1
          simp [ints, h1]
        have himg2 := Lib.hid himg
        obtain ⟨ρ, hρ⟩ : ∃ ρ, roll k n (v.take (p + 2 * r)) = ρ := ⟨_, rfl⟩
        obtain ⟨σ, hσ⟩ : ∃ σ, roll k n (v.take (p + 2 * r + 1)) = σ := ⟨_, rfl⟩
        rw [hρ] at hQ hrho ⊢
        rw [hσ] at hmod hrl2 hcy
        have HS := Lib.hid hσ
        clear hrol hQQ hxj hyt himg hσ hρ hp
        go_wp2_with (at_builtin; refine wpList_push2 rfl _ _ _ rfl tInts hown rfl _ 0 rfl rfl rfl (by simp only [maxLen]; omega) (by omega) (Nat.le_of_lt hsz) ?_; intro g' cap w3 hown3 hor hlt3)
        rw [show (((ints (image k r t v)).take p).map (Value.int .i64)) ++ [.int .i64 (y : Int)] = ((ints (image k r t v)).take (p + 1)).map (Value.int .i64) from by rw [List.take_add_one, himg2.out]; simp] at hown3
        have hk3 : Keeps (fun b => (Value.slice C p cc).ownBlock = some b) wr w3 := by
          rcases hor with ⟨h1, h2⟩ | ⟨_, h2⟩
          · exact (Keeps.of_grown h2).mono (fun b _ e => by cases e; exact h1)
          · exact keeps_new (Keeps.refl _ _) h2
        have hbox3 : Hid (w3.heap[w.heap.size]? = some (.cells #[.int .i64 (k : Int), .int .i64 (r : Int), .slice (some adt) n c] 24 (0, 0))) := Lib.hid ((hk3.block _ hsz (own_ne_blk hown hbox.out (by decide))).trans hbox.out)
        have hb3 : Below w.heap.size w w3 := hb.trans (hk3.below hb.size (fun b hb' => by
          rcases hown.2 with ⟨hv', _⟩ | ⟨g, cap, cur, hv', hg, _⟩
          · rw [hv'] at hb'; simp [Value.ownBlock] at hb'
          · rw [hv'] at hb'; simp [Value.ownBlock] at hb'; omega))
        have hsz3 := Nat.lt_of_lt_of_le hsz hk3.size
        exact ⟨⟨p + 2 * r + 1, p + 1, _, cap, by omega, by omega, by go_num, by rw [HS.out], rfl, hown3, hbox3, hsz3, hb3⟩, by simp [intOf]; omega⟩
      · obtain ⟨ρ, hρ⟩ : ∃ ρ, roll k n (v.take j) = ρ := ⟨_, rfl⟩
        obtain ⟨σ, hσ⟩ : ∃ σ, roll k n (v.take (j + 1)) = σ := ⟨_, rfl⟩
        rw [hρ] at hQ hrho ⊢
        rw [hσ] at hmod hrl2 hcy
        have HS := Lib.hid hσ
        clear hrol hQQ hxj hyt hσ hρ
        go_wp2_with fail
        exact ⟨⟨j + 1, p, C, cc, by omega, by omega, by go_num, by rw [HS.out]; try rw [hmod], rfl, hown, hbox, hsz, hb⟩, by simp [intOf]; omega⟩
    · obtain rfl : j = m := by omega
      have hpl : (ints (image k r t v)).length = p := by rw [ints_len, image_len, HL.out]; exact hp.symm
      rw [List.take_of_length_le (by omega)] at hown
      rw [← hpl] at hown ⊢
      clear hp
      go_wp2_with fail
      go_ret2
      exact ⟨C, cc, rfl, hown, hb⟩
theorem step_m (w : World) (E : Nat → Addr) (hE : Errs w E) (k r : Nat) (A B : Option Addr) (n c m d M : Nat) (t v : List Nat) (hr : IsRule k r t) (hv : ∀ x ∈ v, x < k) (hT : Sl w A n ((ints t).map (Value.int .i64))) (hW : Sl w B m ((ints v).map (Value.int .i64))) (hm : m ≤ 4096) (hM : v.length - 2 * r = M) :
    Calls Tryz.prog 22 #[ruleV k r A n c, .slice B m d] w fun e w' => ∃ C c', e = .returned (.tuple #[.slice C M c', .nilIface]) ∧ w'.ownsRow w.heap.size 3 1 (.slice C M c') M ((ints (image k r t v)).map (Value.int .i64)) ∧ Below w.heap.size w w' := by
  refine (step_good w E hE k r A B n c m d t v hr hv hT hW hm).mono ?_
  rintro e w' ⟨C, c', rfl, ho, hb⟩
  rw [ints_len, image_len, hM] at ho ⊢
  exact ⟨C, c', rfl, ho, hb⟩

end Go.Proofs.YtedmmmlahpmmoaaGreatDoor
