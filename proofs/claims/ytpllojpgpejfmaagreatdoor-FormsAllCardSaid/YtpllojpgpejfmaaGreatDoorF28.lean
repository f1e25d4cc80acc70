/- The document's renamed rule, where the names are good: edenref05.Rename. Condition: the lists read from memory. Both packages' rules out of rules tell the same: forms and edenref05, Shift, Rename. Condition: the tables read from memory; the error variables hold what E says. -/
import Derived.Test.YtpllojpgpejfmaaGreatDoorF9
import Derived.Test.YtpllojpgpejfmaaGreatDoorF23
import Derived.Test.YtpllojpgpejfmaaGreatDoorF25
import Derived.Test.YtpllojpgpejfmaaGreatDoorF27
namespace Go.Proofs.YtpllojpgpejfmaaGreatDoor
open Go.RowKit RuleP

set_option maxRecDepth 100000 in
set_option maxHeartbeats 8000000 in
theorem rename5_good (w : World) (k r : Nat) (A : Option Addr) (n c : Nat) (t : List Nat) (hr : IsRule k r t) (hT : Sl w A n ((ints t).map (Value.int .i64))) (B : Option Addr) (m d : Nat) (p : List Nat) (hQ : Sl w B m ((ints p).map (Value.int .i64))) (hp : IsNames k p) (hml : m = k) :
    Calls Tryz.prog 17 #[ruleV (k : Int) (r : Int) A n c, .slice B m d] w (Rule5E w (k : Int) (r : Int) (renT k r t p) none) := by
  have hn : t.length = n := by simpa [ints] using hT.1
  have hn16 := hr.le
  rw [hn] at hn16
  have hk1 := hr.k1
  have hk4 := hr.k4
  have hr3 := hr.r3
  have hr0 := ((RuleAt.new w (.int .i64 (k : Int)) (.int .i64 (r : Int)) (.slice A n c)).alloc (.cells #[.int .i64 0, .int .i64 0, .slice none 0 0] 26)).alloc (.cells #[.int .i64 0, .slice none 0 0, .slice none 0 0] 45)
  have hz0 := (RuleAt.new (w.alloc (.cells #[.int .i64 (k : Int), .int .i64 (r : Int), .slice A n c] 26)) (.int .i64 0) (.int .i64 0) (.slice none 0 0)).alloc (.cells #[.int .i64 0, .slice none 0 0, .slice none 0 0] 45)
  have hw0 := WantAt.new ((w.alloc (.cells #[.int .i64 (k : Int), .int .i64 (r : Int), .slice A n c] 26)).alloc (.cells #[.int .i64 0, .int .i64 0, .slice none 0 0] 26)) (.int .i64 0) (.slice none 0 0) (.slice none 0 0)
  rw [World.size_alloc] at hz0
  rw [World.size_alloc, World.size_alloc] at hw0
  have hb0 := (((Below.refl w.heap.size w).alloc (Nat.le_refl _) (.cells #[.int .i64 (k : Int), .int .i64 (r : Int), .slice A n c] 26)).alloc (by simp) (.cells #[.int .i64 0, .int .i64 0, .slice none 0 0] 26)).alloc (by simp; omega) (.cells #[.int .i64 0, .slice none 0 0, .slice none 0 0] 45)
  obtain ⟨wx, hwx⟩ : ∃ wx, ((w.alloc (.cells #[.int .i64 (k : Int), .int .i64 (r : Int), .slice A n c] 26)).alloc (.cells #[.int .i64 0, .int .i64 0, .slice none 0 0] 26)).alloc (.cells #[.int .i64 0, .slice none 0 0, .slice none 0 0] 45) = wx := ⟨_, rfl⟩
  have hsx : wx.heap.size = w.heap.size + 3 := by rw [← hwx]; simp
  have HWX := Lib.hid hwx
  obtain ⟨q0, q1, q2, _⟩ := hr0.facts
  rw [hwx] at hr0 hz0 hw0 hb0
  have hf := fault5_c wx 0 (k : Int) (r : Int) A n c (ints t) (hT.below hb0) (by omega)
  rw [checkF_rule 0 hr] at hf
  have HF := Lib.hid hf
  have HR0 := Lib.hid hr0
  have HZ0 := Lib.hid hz0
  have HW0 := Lib.hid hw0
  have HB0 := Lib.hid hb0
  have HRU := Lib.hid hr
  have HT := Lib.hid (fun (wz : World) (hz : Below w.heap.size w wz) => hT.below hz)
  have HN := Lib.hid hn
  have HQ := Lib.hid (fun (wz : World) (hz : Below w.heap.size w wz) => hQ.below hz)
  have HP := Lib.hid hp
  have HON := Lib.hid (fun (x : Nat) (hx : x < k) => once_names hp hx)
  have HFI := Lib.hid (fromQ_names hp)
  have HQL : Hid ((ints p).length = k) := Lib.hid (by rw [ints_len, hp.len])
  obtain ⟨Q, hQe⟩ : ∃ Q, ints p = Q := ⟨_, rfl⟩
  rw [hQe] at HON HFI HQL
  have HQE := Lib.hid hQe
  have HQ := Lib.hid (fun (wz : World) (hz : Below w.heap.size w wz) => hQ.below hz)
  simp only [hQe] at HQ
  clear hp
  clear hf hwx hr0 hz0 hw0 hb0 hr hT hn hQ hQe
  unfold ruleV at *
  go_enter Tryz.func17, Tryz.ntmps17
  go_wp2_with fail
  rw [HWX.out]
  clear q0 q1 q2
  refine (HF.out).mono ?_
  rintro e w1 ⟨N, A1, n1, c1, A2, n2, c2, rfl, hu, hb1⟩
  obtain rfl : N = 0 := hu.num
  obtain ⟨rfl, rfl, rfl, rfl, rfl, rfl⟩ : A1 = none ∧ n1 = 0 ∧ c1 = 0 ∧ A2 = none ∧ n2 = 0 ∧ c2 = 0 := by
    have e := hu.none_eq
    simp at e
    obtain ⟨⟨q1, q2, q3⟩, q4, q5, q6⟩ := e
    exact ⟨q1, q2, q3, q4, q5, q6⟩
  have hb2 : Below w1.heap.size w1 (w1.alloc (.cells #[.int .i64 0, .slice none 0 0, .slice none 0 0] 45)) := (Below.refl _ _).alloc (Nat.le_refl _) _
  have hv2 := WantAt.new w1 (.int .i64 0) (.slice none 0 0) (.slice none 0 0)
  obtain ⟨wy, hwy⟩ : ∃ wy, w1.alloc (.cells #[.int .i64 0, .slice none 0 0, .slice none 0 0] 45) = wy := ⟨_, rfl⟩
  have HWY := Lib.hid hwy
  have hlt2 : w1.heap.size < wy.heap.size := by rw [← hwy]; simp
  rw [hwy] at hb2 hv2
  have hs1 := hb1.size
  have hr2 := (HR0.out.below hb1 (by omega)).below hb2 (by omega)
  have hz2 := (HZ0.out.below hb1 (by omega)).below hb2 (by omega)
  have hw2 := (HW0.out.below hb1 (by omega)).below hb2 (by omega)
  have hbx := HB0.out.trans ((hb1.trans (hb2.mono hb1.size)).mono HB0.out.size)
  have HBAD := Lib.hid (badZero5 wy)
  obtain ⟨ge, hge'⟩ : ∃ ge, w1.heap.size = ge := ⟨_, rfl⟩
  rw [hge'] at hv2 hs1 hlt2
  have hge : w.heap.size + 3 ≤ ge := by omega
  obtain ⟨v0, v1, v2, _⟩ := hv2.facts
  have HGE := Lib.hid hge'
  have HR2 := Lib.hid hr2
  have HZ2 := Lib.hid hz2
  have HW2 := Lib.hid hw2
  have HV2 := Lib.hid hv2
  have HB2 := Lib.hid hbx
  clear hu hb1 hb2 hr2 hz2 hw2 hv2 hbx hwy hge' hs1 hsx
  rw [show ((0 : Nat) : Int) = 0 from rfl]
  go_wp2_with fail
  rw [HWY.out, HGE.out]
  refine (HBAD.out).mono ?_
  rintro e w3 ⟨rfl, hb3⟩
  have hge2 : ge < w3.heap.size := Nat.lt_of_lt_of_le hlt2 hb3.size
  have HR3 := Lib.hid (HR2.out.below hb3 (by omega))
  have HZ3 := Lib.hid (HZ2.out.below hb3 (by omega))
  have HW3 := Lib.hid (HW2.out.below hb3 (by omega))
  have HV3 := Lib.hid (HV2.out.below hb3 (by omega))
  have HB3 := Lib.hid (HB2.out.trans (hb3.mono HB2.out.size))
  obtain ⟨r0, r1, r2, _⟩ := HR3.out.facts
  clear v0 v1 v2 hb3 hlt2 HF HR0 HZ0 HW0 HB0 HWX HWY HGE HR2 HZ2 HW2 HV2 HB2 HBAD
  subst hml
  obtain ⟨gf, hgf⟩ : ∃ gf, w3.heap.size = gf := ⟨_, rfl⟩
  have hmk := run_make_row' (P := Tryz.prog) 24 3 (.int .i64 0) 8 tInts.und tInts.info rfl .i64 .i64 m (by omega) (by omega) w3
  rw [hgf] at hmk
  have hof := mkP w3 gf hgf m (by simp only [maxLen]; omega)
  have ba := (Below.refl w3.heap.size w3).alloc (Nat.le_refl _) (.cells (madeCells #[.int .i64 0] m) 3)
  obtain ⟨wF, hwF⟩ : ∃ wF, w3.alloc (.cells (madeCells #[.int .i64 0] m) 3) = wF := ⟨_, rfl⟩
  rw [hwF] at hof ba hmk
  have HOF := Lib.hid hof
  have HWF := Lib.hid hwF
  have HGF := Lib.hid hgf
  have HGFW := Lib.hid (show gf ≤ wF.heap.size by rw [← hgf]; exact ba.size)
  have HRF := Lib.hid (HR3.out.below ba HR3.out.lt)
  have HZF := Lib.hid (HZ3.out.below ba HZ3.out.lt)
  have HWFF := Lib.hid (HW3.out.below ba HW3.out.lt)
  have hgf1 : ge < gf := by omega
  clear hof ba hwF hgf
  go_wp2_with fail
  clear r0 r1 r2 hmk
  go_loopw [8] (fun xv wl => ∃ x : Nat, x ≤ m ∧ xv = .int .i64 (x : Int) ∧ wl.ownsRow gf 3 1 (.slice (some ⟨gf, 0, none⟩) m m) m ((ints (fromQ m Q x 0)).map (Value.int .i64)) ∧ Hid (Keeps (fun b => b = gf) wF wl)) (fun xv _ => m - (intOf xv).toNat)
  case atStart => exact ⟨0, Nat.zero_le _, rfl, by rw [fromQ_zero]; exact HOF.out, Lib.hid (Keeps.refl _ _)⟩
  case round =>
    obtain ⟨x, hx, rfl, hown, hK⟩ := hrel
    obtain ⟨v0, rfl⟩ : ∃ v0, v0 = wr := ⟨_, rfl⟩
    obtain ⟨r0, r1, r2, _⟩ := (HRF.out.keeps hK.out (by omega)).facts
    by_cases hxm : x < m
    · have hxm' : (x : Int) < (m : Int) := by omega
      have HOW := Lib.hid hown
      clear hown
      go_wp2_with fail
      clear r0 r1 r2
      go_loopw [9, 10] (fun tv iv wl => ∃ i : Nat, i ≤ m ∧ iv = .int .i64 (i : Int) ∧ tv = .int .i64 ((timesQ Q x i : Nat) : Int) ∧ wl.ownsRow gf 3 1 (.slice (some ⟨gf, 0, none⟩) m m) m ((ints (fromQ m Q x i)).map (Value.int .i64)) ∧ Hid (Keeps (fun b => b = gf) wF wl)) (fun _ iv _ => m - (intOf iv).toNat)
      case atStart => exact ⟨0, Nat.zero_le _, rfl, by simp [timesQ], HOW.out, hK⟩
      case round =>
        clear HOW hK
        obtain ⟨i, hi, rfl, rfl, hown, hK⟩ := hrel
        obtain ⟨v1, rfl⟩ : ∃ v1, v1 = wr := ⟨_, rfl⟩
        obtain ⟨r0, r1, r2, _⟩ := (HRF.out.keeps hK.out (by omega)).facts
        have hbf : Below gf w3 v1 := by
          have h1 := (Below.refl gf w3).alloc (Nat.le_of_eq HGF.out.symm) (.cells (madeCells #[.int .i64 0] m) 3)
          rw [HWF.out] at h1
          exact h1.trans (hK.out.below HGFW.out (fun b hb => by rw [show b = gf from hb]; exact Nat.le_refl _))
        rw [← HGF.out] at hbf
        have hbb := HB3.out.trans (hbf.mono HB3.out.size)
        have htl := timesQ_le Q x i
        by_cases him : i < m
        · have him' : (i : Int) < (m : Int) := by omega
          have hi0 : (0 : Int) ≤ (i : Int) := by omega
          have hx0 : (0 : Int) ≤ (x : Int) := by omega
          obtain ⟨ad, y, hB, hy, hcy⟩ := (HQ.out v1 hbb).int_ him
          subst hB
          have hts := timesQ_succ (x := x) hy
          obtain ⟨a, ha⟩ : ∃ a, timesQ Q x i = a := ⟨_, rfl⟩
          obtain ⟨b, hb⟩ : ∃ b, timesQ Q x (i + 1) = b := ⟨_, rfl⟩
          rw [ha, hb] at hts
          rw [ha] at htl ⊢
          have HBT := Lib.hid hb
          by_cases hyx : y = (x : Int)
          · subst hyx
            rw [if_pos rfl] at hts
            have hq1 : IntKind.i64.wrap ((a : Int) + 1) = (b : Int) := by rw [show (a : Int) + 1 = (b : Int) from by omega]; exact IntWalk.i64_in _ (by omega)
            have hset := fromQ_hit hxm hy
            obtain ⟨o, ho⟩ : ∃ o, (fromQ m Q x i)[x]? = some o := ⟨_, List.getElem?_eq_getElem (by rw [fromQ_len]; exact hxm)⟩
            have fa := hown.frozenAt x
            have ca : v1.cell? ⟨gf, x, none⟩ = some (.int .i64 (o : Int)) := by rw [hown.cellAt x (by omega), ints_map, List.getElem?_map, ho]; rfl
            have o1 := (hown.stored x (.int .i64 (i : Int))).1
            have e3 : ((ints (fromQ m Q x i)).map (Value.int .i64)).set x (.int .i64 (i : Int)) = (ints (fromQ m Q x (i + 1))).map (Value.int .i64) := by rw [← hset, ints_map, ints_map, List.map_set]
            rw [e3] at o1
            have HOO := Lib.hid o1
            have HKK := Lib.hid (hK.out.trans (Keeps.of_setCell v1 ⟨gf, x, none⟩ (.int .i64 (i : Int))) (fun _ _ h => h))
            clear hset ho o1 e3 hown hK hbf hbb hy hts ha hb
            go_wp2_with fail
            exact ⟨⟨i + 1, by omega, by go_num, by rw [HBT.out], HOO.out, HKK⟩, by simp [intOf]; omega⟩
          · rw [if_neg hyx] at hts
            have hms := fromQ_miss (k := m) (x := x) hy hyx
            rw [hms] at hown
            have HOO := Lib.hid hown
            obtain rfl : b = a := by omega
            clear hms hown hbf hbb hy hts ha hb
            go_wp2_with fail
            exact ⟨⟨i + 1, by omega, by go_num, by rw [HBT.out], HOO.out, hK⟩, by simp [intOf]; omega⟩
        · obtain rfl : i = m := by omega
          have him' : ¬ (i : Int) < (i : Int) := by omega
          have hta := timesQ_all HQL.out x
          rw [fromQ_next] at hown
          rw [hta] at htl ⊢
          have HOO := Lib.hid hown
          rw [HON.out x hxm]
          clear hown hta htl hbf hbb
          go_wp2_with fail
          exact ⟨⟨x + 1, by omega, by go_num, HOO.out, hK⟩, by simp [intOf]; omega⟩
    · obtain rfl : x = m := by omega
      have hxm' : ¬ (x : Int) < (x : Int) := by omega
      rw [HFI.out] at hown
      have hbf : Below gf w3 v0 := by
        have h1 := (Below.refl gf w3).alloc (Nat.le_of_eq HGF.out.symm) (.cells (madeCells #[.int .i64 0] x) 3)
        rw [HWF.out] at h1
        exact h1.trans (hK.out.below HGFW.out (fun b hb => by rw [show b = gf from hb]; exact Nat.le_refl _))
      rw [← HGF.out] at hbf
      have hbA := HB3.out.trans (hbf.mono HB3.out.size)
      have hRA := HRF.out.keeps hK.out (by omega)
      have hZA := HZF.out.keeps hK.out (by omega)
      have hWA := HWFF.out.keeps hK.out (by omega)
      have hb4 := (Below.refl v0.heap.size v0).alloc (Nat.le_refl _) (.cells #[.int .i64 (x : Int), .int .i64 (r : Int), .slice none 0 0] 26)
      have hO4 := RuleAt.new v0 (.int .i64 (x : Int)) (.int .i64 (r : Int)) (.slice none 0 0)
      obtain ⟨w4, hw4⟩ : ∃ w4, v0.alloc (.cells #[.int .i64 (x : Int), .int .i64 (r : Int), .slice none 0 0] 26) = w4 := ⟨_, rfl⟩
      have hs4 : w4.heap.size = v0.heap.size + 1 := by rw [← hw4]; simp
      rw [hw4] at hb4 hO4
      have hgfv := (hown.lt gf rfl).2
      obtain ⟨gO, hgO⟩ : ∃ gO, v0.heap.size = gO := ⟨_, rfl⟩
      rw [hgO] at hO4 hs4 hgfv
      have HOUT := Lib.hid (OutAt.start (B := gO + 1) hO4 (by omega) (by omega))
      have HR4 := Lib.hid (hRA.below hb4 hRA.lt)
      have HZ4 := Lib.hid (hZA.below hb4 hZA.lt)
      have HW4' := Lib.hid (hWA.below hb4 hWA.lt)
      have HF4 := Lib.hid (own_below hown hb4)
      have HB4 := Lib.hid (hbA.trans (hb4.mono hbA.size))
      have HQ4 := Lib.hid hw4
      have HGO := Lib.hid hgO
      obtain ⟨L, hL⟩ : ∃ L, 2 * r + 1 = L := ⟨_, rfl⟩
      have HL := Lib.hid hL
      have HNL := Lib.hid (show n = x ^ L by rw [← HN.out, HRU.out.len, hL])
      have e1 : IntKind.i64.wrap (2 * (r : Int)) = 2 * (r : Int) := IntWalk.i64_in _ (by omega)
      have e2 : IntKind.i64.wrap (2 * (r : Int) + 1) = (L : Int) := by rw [show 2 * (r : Int) + 1 = (L : Int) from by omega]; exact IntWalk.i64_in _ (by omega)
      have hLb : L ≤ 7 := by omega
      have HDG := Lib.hid (fun (wz : World) (i : Nat) (hi : i ≤ 16384) => digits_c wz x L i hk1 (by omega) (by omega) (by omega))
      obtain ⟨r0, r1, r2, _⟩ := hRA.facts
      have hlt0 : w.heap.size < v0.heap.size := hRA.lt
      clear hbf hbA hRA hZA hWA hb4 hO4 hw4 hs4 hgO hL hown hK HR3 HZ3 HW3
      go_wp2_with fail
      rw [HQ4.out, HGO.out]
      clear r0 r1 r2 hlt0
      go_loopw [12] (fun iv wl => ∃ (i cc : Nat) (C : Option Addr), iv = .int .i64 (i : Int) ∧ i ≤ n ∧ Hid (OutAt wl gO (gO + 1) (.int .i64 (x : Int)) (.int .i64 (r : Int)) C i cc (tabI x L (fun v => p.getD (sy x t (old p v)) 0) i)) ∧
        Hid (RuleAt wl w.heap.size (.int .i64 (x : Int)) (.int .i64 (r : Int)) (.slice A n c)) ∧ Hid (RuleAt wl (w.heap.size + 1) (.int .i64 0) (.int .i64 0) (.slice none 0 0)) ∧ Hid (WantAt wl (w.heap.size + 1 + 1) (.int .i64 0) (.slice none 0 0) (.slice none 0 0)) ∧
        Hid (wl.ownsRow gf 3 1 (.slice (some ⟨gf, 0, none⟩) x x) x ((ints (inv x p)).map (Value.int .i64))) ∧ Hid (Below w.heap.size w wl)) (fun iv _ => n - (intOf iv).toNat)
      case atStart => exact ⟨0, 0, none, rfl, Nat.zero_le _, HOUT, HR4, HZ4, HW4', HF4, HB4⟩
      case round =>
        clear HOUT HR4 HZ4 HW4' HF4 HB4
        obtain ⟨i, cc, C, rfl, hi, HO, HR, HZ, HW, HFr, HB⟩ := hrel
        obtain ⟨v0, rfl⟩ : ∃ v0, v0 = wr := ⟨_, rfl⟩
        obtain ⟨r0, r1, r2, _⟩ := HR.out.facts
        by_cases hiM : i < n
        · have hiM' : (i : Int) < (n : Int) := by omega
          have HDv := Lib.hid (HDG.out v0 i (by omega))
          go_wp2_with fail
          refine (HDv.out).mono ?_
          rintro e v2 ⟨rfl, hown2, hb2⟩
          obtain ⟨gw, hgw⟩ : ∃ gw, v0.heap.size = gw := ⟨_, rfl⟩
          have hgfw : gf < gw := by rw [← hgw]; exact (HFr.out.lt gf rfl).2
          have hgOw : gO < gw := by rw [← hgw]; exact HO.out.at_.lt
          rw [hgw] at hown2 ⊢
          have HF2 := Lib.hid (own_below HFr.out hb2)
          have HB2 := Lib.hid hb2
          have HGW := Lib.hid hgw
          have HGWW := Lib.hid (show gw ≤ v2.heap.size by rw [← hgw]; exact hb2.size)
          have hDS := digB_sym (show 0 < x by omega) L i
          have hDL := digB_len x L i
          obtain ⟨D, hD⟩ : ∃ D, digB x L i = D := ⟨_, rfl⟩
          rw [hD] at hown2 hDS hDL
          have HD := Lib.hid (And.intro hD (And.intro hDS hDL))
          have HOW := Lib.hid hown2
          have HRA2 := Lib.hid (HR.out.below hb2 HR.out.lt)
          clear hown2 hb2 hgw hD hDS hDL r0 r1 r2
          go_wp2_with fail
          go_loopw [14] (fun jv wl => ∃ j : Nat, j ≤ L ∧ jv = .int .i64 (j : Int) ∧ wl.ownsRow gw 3 1 (.slice (some ⟨gw, 0, none⟩) L L) L ((ints ((old p D).take j ++ D.drop j)).map (Value.int .i64)) ∧ Hid (Keeps (fun b => b = gw) v2 wl)) (fun jv _ => L - (intOf jv).toNat)
          case atStart => exact ⟨0, Nat.zero_le _, rfl, by have h := HOW.out; simpa using h, Lib.hid (Keeps.refl _ _)⟩
          case round =>
            obtain ⟨j, hj, rfl, hown, hK⟩ := hrel
            have hFw := own_keeps HF2.out hK.out (fun b hb e => by simp [Value.ownBlock] at hb; have : b = gw := e; omega)
            by_cases hlt : j < L
            · have hlt' : (j : Int) < (L : Int) := by omega
              have hj0 : (0 : Int) ≤ (j : Int) := by omega
              obtain ⟨s, hs⟩ : ∃ s, D[j]? = some s := ⟨_, List.getElem?_eq_getElem (by rw [HD.out.2.2]; exact hlt)⟩
              have hsk := HD.out.2.1 s (List.mem_of_getElem? hs)
              have hsk' : (s : Int) < (x : Int) := by omega
              have hs0 : (0 : Int) ≤ (s : Int) := by omega
              have hcur : ((old p D).take j ++ D.drop j)[j]? = some s := by
                rw [List.getElem?_append_right (by rw [List.length_take, old_len]; omega), List.length_take, old_len, HD.out.2.2, Nat.min_eq_left (by omega), Nat.sub_self, List.getElem?_drop, Nat.add_zero]
                exact hs
              have ca : wr.cell? ⟨gw, j, none⟩ = some (.int .i64 (s : Int)) := by rw [hown.cellAt j (by omega), ints_map, List.getElem?_map, hcur]; rfl
              have cf : wr.cell? ⟨gf, s, none⟩ = some (.int .i64 (((inv x p).getD s 0 : Nat) : Int)) := by
                rw [hFw.cellAt s (by omega), ints_map, List.getElem?_map, List.getD_eq_getElem?_getD, List.getElem?_eq_getElem (by rw [inv_len]; exact hsk)]
                rfl
              have hst := oldQ_set HP.out HD.out.2.1 hs
              obtain ⟨o, ho⟩ : ∃ o, (inv x p).getD s 0 = o := ⟨_, rfl⟩
              rw [ho] at cf hst
              have fa := hown.frozenAt j
              have o1 := (hown.stored j (.int .i64 (o : Int))).1
              have e3 : ((ints ((old p D).take j ++ D.drop j)).map (Value.int .i64)).set j (.int .i64 (o : Int)) = (ints ((old p D).take (j + 1) ++ D.drop (j + 1))).map (Value.int .i64) := by rw [← hst, ints_map, ints_map, List.map_set]
              rw [e3] at o1
              have HOO := Lib.hid o1
              have HKK := Lib.hid (hK.out.trans (Keeps.of_setCell wr ⟨gw, j, none⟩ (.int .i64 (o : Int))) (fun _ _ h => h))
              clear hst e3 o1 hs hcur hown hK hFw ho
              go_wp2_with fail
              exact ⟨⟨j + 1, by omega, by go_num, HOO.out, HKK⟩, by simp [intOf]; omega⟩
            · have hlt' : ¬ (j : Int) < (L : Int) := by omega
              obtain rfl : j = L := by omega
              obtain ⟨v5, rfl⟩ : ∃ v5, v5 = wr := ⟨_, rfl⟩
              have hle : ((old p D).take j ++ D.drop j) = old p D := by
                rw [List.drop_eq_nil_of_le (by rw [HD.out.2.2]; exact Nat.le_refl _), List.append_nil, List.take_of_length_le (by rw [old_len, HD.out.2.2]; exact Nat.le_refl _)]
              rw [hle] at hown
              have hb05 : Below gw v0 v5 := (HB2.out.mono (Nat.le_of_eq HGW.out.symm)).trans (hK.out.below HGWW.out (fun b hb => by rw [show b = gw from hb]; exact Nat.le_refl _))
              rw [← HGW.out] at hb05
              have hb5 := HB.out.trans (hb05.mono HB.out.size)
              have hO5 := HO.out.pure hb05
              have hR5 := HR.out.below hb05 HR.out.lt
              have hZ5 := HZ.out.below hb05 HZ.out.lt
              have hW5 := HW.out.below hb05 HW.out.lt
              have hsym := old_sym HP.out HD.out.2.1
              have hwl : (old p D).length = j := by rw [old_len]; exact HD.out.2.2
              have hsl := Sl.of_own hown
              have hVAL := fun (wz : World) (hz : Below v5.heap.size v5 wz) => value_c wz x (some ⟨gw, 0, none⟩) j j (old p D) hk1 hk4 hsym (hsl.below hz) hLb
              have hvn := wval_lt hsym
              rw [hwl, ← HNL.out] at hvn
              obtain ⟨ad, z, rfl, hz, hcz⟩ := wordM5 (HT.out v5 hb5) hvn
              have hzk := HRU.out.sym z (List.mem_of_getElem? hz)
              obtain ⟨adq, y, rfl, hy, hcy⟩ := wordM5 (l := p) (by have h := HQ.out v5 hb5; rw [← HQE.out] at h; exact h) hzk
              have hsy : p.getD (sy x t (old p (digB x j i))) 0 = y := by
                have h1 : sy x t (old p D) = z := by
                  unfold sy
                  rw [List.getD_eq_getElem?_getD, hz]
                  rfl
                rw [HD.out.1, h1, List.getD_eq_getElem?_getD, hy]
                rfl
              obtain ⟨V, hV⟩ : ∃ V, wval x (old p D) = V := ⟨_, rfl⟩
              rw [hV] at hvn hcz
              simp only [hV] at hVAL
              have hvn' : (V : Int) < (n : Int) := by omega
              have hv0 : (0 : Int) ≤ (V : Int) := by omega
              have hzk' : (z : Int) < (x : Int) := by omega
              have hz0 : (0 : Int) ≤ (z : Int) := by omega
              obtain ⟨r0', r1', r2', _⟩ := hR5.facts
              obtain ⟨p0, p1, p2, p3, p4, p5⟩ := hO5.at_.facts
              obtain ⟨_, _, t2, _⟩ := (hO5.at_.alloc (.cells #[.int .i64 (y : Int)] 3)).facts
              have t2' : ((v5.alloc (.cells #[.int .i64 (y : Int)] 3)).drew).cell? ⟨gO, 2, none⟩ = some (.slice C i cc) := t2
              have HVAL := Lib.hid hVAL
              have HSY := Lib.hid hsy
              have HO5 := Lib.hid hO5
              have HX5 := Lib.hid (And.intro hR5 (And.intro hZ5 (And.intro hW5 hFw)))
              have HB5 := Lib.hid hb5
              have hi16 : i + 1 ≤ maxLen := by simp only [maxLen]; omega
              clear hown hK hle hb05 hb5 hO5 hR5 hZ5 hW5 hFw hsym hwl hsl hVAL hy hz hsy hV hlt' hlt hj
              go_wp2_with fail
              go_region_law (first
                | (go_simp
                   go_at_call 52
                   first
                     | with_reducible refine (HVAL.out v5 (Below.refl _ _)).mono ?_
                     | with_reducible refine (HVAL.out v5.drew (Below.refl _ _).drew).mono ?_
                   rintro e w1' ⟨rfl, rfl⟩
                   dsimp only)
                | (refine step_push3 ?_ (.tmp 96) (.tmp 108) 24 rfl tInts (base := gO + 1) (v := .slice C i cc) (n := i) (xs := (ints (tabI x j (fun v => p.getD (sy x t (old p v)) 0) i)).map (Value.int .i64)) ?_ rfl ⟨v5.heap.size, 0, none⟩ 1 rfl (.int .i64 (y : Int)) ?_ rfl ?_ ?_ ?_ ?_
                   · rfl
                   · first
                       | exact own_below HO5.out.own (((Below.refl _ _).alloc (Nat.le_refl _) _).drew)
                       | exact own_below HO5.out.own (((Below.refl _ _).drew).alloc (Nat.le_refl _) _)
                   · simp
                   · exact hi16
                   · omega
                   · (have := HO5.out.size; simp; omega)
                   intro g3 cap3 w3' hown3 hor3 hlt3
                   first
                     | have hkk := pushT (w := v5) (((Below.refl _ _).alloc (Nat.le_refl _) _).drew) hor3
                     | have hkk := pushT (w := v5) (((Below.refl _ _).drew).alloc (Nat.le_refl _) _) hor3
                   obtain ⟨hk3, hg3⟩ := hkk
                   obtain ⟨z0, z1, z2, z3, z4, z5⟩ := (HO5.out.at_.keeps hk3 (HO5.out.ne HO5.out.lt)).facts
                   clear hor3)
                | fail)
              all_goals
                obtain ⟨hOx, hKx⟩ := HO5.out.push hk3 hown3
                have hRx := HX5.out.1.keeps hKx (by intro h; omega)
                have hZx := HX5.out.2.1.keeps hKx (by intro h; omega)
                have hWx := HX5.out.2.2.1.keeps hKx (by intro h; omega)
                have hFx := own_keeps HX5.out.2.2.2 hKx (fun b hb h => by simp [Value.ownBlock] at hb; omega)
                have hBBx := HB5.out.trans (hKx.below HB5.out.size (fun b hb => by omega))
                have htx : tabI x j (fun v => p.getD (sy x t (old p v)) 0) (i + 1) = tabI x j (fun v => p.getD (sy x t (old p v)) 0) i ++ [y] := by rw [tabI_succ, HSY.out]
                rw [← htx] at hOx
                have HX := Lib.hid (And.intro hOx (And.intro hRx (And.intro hZx (And.intro hWx (And.intro hFx hBBx)))))
                clear hOx hKx hRx hZx hWx hFx hBBx htx hown3 hlt3 hk3 hg3 z0 z1 z2 z3 z4 z5 p0 p1 p2 p3 p4 p5 t2 t2' r0' r1' r2'
                go_wp2_with fail
                exact ⟨⟨i + 1, cap3, _, by go_num, by omega, Lib.hid HX.out.1, Lib.hid HX.out.2.1, Lib.hid HX.out.2.2.1, Lib.hid HX.out.2.2.2.1, Lib.hid HX.out.2.2.2.2.1, Lib.hid HX.out.2.2.2.2.2⟩, by simp [intOf]; omega⟩
        · obtain rfl : i = n := by omega
          have hiM' : ¬ (i : Int) < (i : Int) := by omega
          have hO := HO.out
          obtain ⟨p0, p1, p2, _⟩ := hO.at_.facts
          have hown5 := hO.own
          have htab : tabI x L (fun v => p.getD (sy x t (old p v)) 0) i = renT x r t p := by
            rw [HNL.out, tabI_all, ← HL.out]
            rfl
          rw [htab] at hown5
          clear htab
          have hres := put6_res (w := w) HZ.out HW.out (by omega) (by omega) hown5 (by omega) (M := 0) (B2 := gO + 1) (WantB.zero v0 _) (by omega) HB.out (x : Int) (r : Int)
          have hpf := put6_facts HZ.out HW.out (by omega) (.int .i64 (x : Int)) (.int .i64 (r : Int)) (.slice C i cc) (.int .i64 0) (.slice none 0 0) (.slice none 0 0)
          obtain ⟨d0, d1, d2, f0, f1, f2⟩ := (HW.out).facts
          obtain ⟨z0, z1, z2, z3, z4, z5⟩ := (HZ.out).facts
          have HRS := Lib.hid hres
          have HPF := Lib.hid hpf
          have HPW := Lib.hid (show ((((((v0).setCell ⟨(w.heap.size + 1), 0, none⟩ (.int .i64 (x : Int))).setCell ⟨(w.heap.size + 1), 1, none⟩ (.int .i64 (r : Int))).setCell ⟨(w.heap.size + 1), 2, none⟩ (.slice C i cc)).setCell ⟨(w.heap.size + 1 + 1), 0, none⟩ (.int .i64 0)).setCell ⟨(w.heap.size + 1 + 1), 1, none⟩ (.slice none 0 0)).setCell ⟨(w.heap.size + 1 + 1), 2, none⟩ (.slice none 0 0) = put6 (v0) (w.heap.size + 1) (w.heap.size + 1 + 1) (.int .i64 (x : Int)) (.int .i64 (r : Int)) (.slice C i cc) (.int .i64 0) (.slice none 0 0) (.slice none 0 0) from rfl)
          clear hres hpf hown5 hO
          go_wp2_with fail
          rw [HPW.out]
          obtain ⟨⟨s0, s1, s2, _⟩, s3, s4, s5, _⟩ := (⟨HPF.out.1.facts, HPF.out.2.facts⟩ : _ ∧ _)
          have HR := HRS.out
          exact bodyPost_ret (v := .tuple #[.agg #[.int .i64 (x : Int), .int .i64 (r : Int), .slice C i cc], .agg #[.int .i64 0, .slice none 0 0, .slice none 0 0]]) (by simp [results, Tryz.results17, go_sem, s0, s1, s2, s3, s4, s5]) rfl ⟨C, i, cc, 0, _, _, _, _, _, _, rfl, HR.1, HR.2.1, HR.2.2⟩
end Go.Proofs.YtpllojpgpejfmaaGreatDoor

namespace Go.Proofs.YtpllojpgpejfmaaGreatDoor
open Go.RowKit RuleP

set_option maxRecDepth 100000 in
set_option maxHeartbeats 1000000 in
theorem shift_argF (w : World) (E : Nat → Addr) (hE : Errs w E) (k D N M : Int) (h : k < 1 ∨ 4 < k ∨ M < 0 ∨ 3 < M) (hN : IntKind.i64.wrap (-D) = N) (hM : (D < N ∧ M = N) ∨ (¬ D < N ∧ M = D)) :
    Calls Tryz.prog 13 #[.int .i64 k, .int .i64 D] w (RuleRes w E 0 0 [] (some (3, [(sForms, 0)]))) := by
  have hbW := ((Below.refl w.heap.size w).alloc (Nat.le_refl _) (.cells #[.int .i64 D] 3)).alloc (by simp) (.cells #[.int .i64 0, .int .i64 0, .slice none 0 0] 26) |>.alloc (by simp; omega) (.cells #[.int .i64 M] 3)
  have hr1 := (RuleAt.new (w.alloc (.cells #[.int .i64 D] 3)) (.int .i64 0) (.int .i64 0) (.slice none 0 0)).alloc (.cells #[.int .i64 M] 3)
  simp only [World.size_alloc] at hr1
  obtain ⟨W, hW⟩ : ∃ W, ((w.alloc (.cells #[.int .i64 D] 3)).alloc (.cells #[.int .i64 0, .int .i64 0, .slice none 0 0] 26)).alloc (.cells #[.int .i64 M] 3) = W := ⟨_, rfl⟩
  rw [hW] at hbW hr1
  have HSZ := Lib.hid (size_err W E (hE.below hbW) k M h)
  have HEE := Lib.hid (fun (wz : World) (hz : Below W.heap.size W wz) => hE.below (hbW.trans (hz.mono hbW.size)))
  have HBW := Lib.hid hbW
  have HR1 := Lib.hid hr1
  have HW := Lib.hid hW
  clear hbW hr1 hW hE h
  rcases hM with ⟨hlt, rfl⟩ | ⟨hlt, rfl⟩
  case' inl =>
    have q1 : ¬ M < D := by omega
    have q2 : D ≤ M := by omega
    have q3 : max D M = M := by omega
  case' inr =>
    have q1 : N ≤ M := by omega
    have q3 : max M N = M := by omega
  all_goals
    go_enter Tryz.func13, Tryz.ntmps13
    go_wp2_with fail
    rw [HW.out]
    refine (HSZ.out).mono ?_
    rintro e w1 ⟨b, rfl, he1, hb1⟩
    have HWR := Lib.hid (formsWrong_c w1 E (HEE.out w1 hb1) 0 3 (by decide) (by decide))
    unfold errV
    clear he1
    go_wp2_with fail
    refine (HWR.out).mono ?_
    rintro e w2 ⟨rfl, he2, hb2'⟩
    have hb2 := pure_trans hb1 hb2'
    unfold errV at *
    clear hb2'
    have hrx := HR1.out.below hb2 HR1.out.lt
    obtain ⟨hRA, hRS⟩ := res_err (tl := (3, [(sForms, 0)])) hrx he2 (HBW.out.trans (hb2.mono HBW.out.size)) (show w.heap.size ≤ w.heap.size + 1 by omega)
    have HRA := Lib.hid hRA
    have HRS := Lib.hid hRS
    obtain ⟨d0, d1, d2, f0, f1, f2⟩ := hrx.facts
    clear hRA hRS hrx he2
    go_wp2_with fail
    obtain ⟨d0, d1, d2, _⟩ := HRA.out.facts
    exact bodyPost_ret (v := .tuple #[.agg #[.int .i64 0, .int .i64 0, .slice none 0 0], .iface 95 (.pointer (some ⟨w1.heap.size, 0, none⟩))]) (by simp [results, Tryz.results13, go_sem, d0, d1, d2]) rfl HRS.out

theorem both_shift (K D : Int) (hD1 : -9223372036854775808 ≤ D) (hD2 : D ≤ 9223372036854775807) : ∃ (K' R' : Int) (xs : List Nat) (tl : Option Tale), TaleOk tl ∧
    (∀ (w : World) (E : Nat → Addr), Errs w E → Calls Tryz.prog 13 #[.int .i64 K, .int .i64 D] w (RuleRes w E K' R' (ints xs) tl)) ∧
    (∀ w : World, Calls Tryz.prog 14 #[.int .i64 K, .int .i64 D] w (Rule5E w K' R' xs tl)) := by
  by_cases h : K < 1 ∨ 4 < K ∨ D < -3 ∨ 3 < D
  · refine ⟨0, 0, [], _, taleOk5 (by decide) _, fun w E hE => ?_, fun w => shift5_arg w K D h⟩
    by_cases hm : D = -9223372036854775808
    · subst hm
      exact shift_argF w E hE K _ (-9223372036854775808) (-9223372036854775808) (by omega) (by decide) (by omega)
    · have hw : IntKind.i64.wrap (-D) = -D := IntWalk.i64_in _ (by omega)
      by_cases hlt : D < -D
      · exact shift_argF w E hE K D (-D) (-D) (by omega) hw (.inl ⟨hlt, rfl⟩)
      · exact shift_argF w E hE K D (-D) D (by omega) hw (.inr ⟨hlt, rfl⟩)
  · obtain ⟨k, rfl⟩ : ∃ k : Nat, K = (k : Int) := ⟨K.toNat, by omega⟩
    by_cases hs : 0 ≤ D
    · obtain ⟨ρ, rfl⟩ : ∃ ρ : Nat, D = (ρ : Int) := ⟨D.toNat, by omega⟩
      exact ⟨k, ρ, shT k ρ (2 * ρ), none, taleOk0, fun w E _ => shift_pos w E k ρ (by omega) (by omega) (by omega), fun w => shift5_pos w k ρ (2 * ρ) ρ (by omega) (by omega) (by omega) (by omega) (by omega) rfl⟩
    · obtain ⟨ρ, rfl⟩ : ∃ ρ : Nat, D = -(ρ : Int) := ⟨(-D).toNat, by omega⟩
      exact ⟨k, ρ, shT k ρ 0, none, taleOk0, fun w E _ => shift_neg w E k ρ (by omega) (by omega) (by omega) (by omega), fun w => shift5_neg w k ρ 0 (-(ρ : Int)) (by omega) (by omega) (by omega) (by omega) (by omega) (by omega) (by omega)⟩

theorem both_rename (K R : Int) (A B : Option Addr) (n c m d : Nat) (T Q : List Int) (hm : n ≤ 9223372036854775807) (hmB : m * 8 ≤ 140737488351232) (hQl : Q.length = m) : ∃ (K' R' : Int) (xs : List Nat) (tl : Option Tale), TaleOk tl ∧
    (∀ (w : World) (E : Nat → Addr), Errs w E → Sl w A n (T.map (Value.int .i64)) → Sl w B m (Q.map (Value.int .i64)) → Calls Tryz.prog 16 #[ruleV K R A n c, .slice B m d] w (RuleRes w E K' R' (ints xs) tl)) ∧
    (∀ w : World, Sl w A n (T.map (Value.int .i64)) → Sl w B m (Q.map (Value.int .i64)) → Calls Tryz.prog 17 #[ruleV K R A n c, .slice B m d] w (Rule5E w K' R' xs tl)) := by
  cases h : checkF 0 K R T with
  | some tl => exact ⟨0, 0, [], some tl, h ▸ checkF_ok 0 K R T, fun w E hE hT _ => rename_bad w E hE K R A B n c m d T hT hm tl h, fun w hT _ => rename5_bad w K R A n c T hT hm B m d tl h⟩
  | none =>
    obtain ⟨k, r, t, rfl, rfl, rfl, hr⟩ := checkF_none h
    by_cases hn : ∃ p, Q = ints p ∧ IsNames k p
    · obtain ⟨p, rfl, hp⟩ := hn
      have hmk : m = k := by rw [← hQl, ints_len, hp.len]
      exact ⟨k, r, renT k r t p, none, taleOk0, fun w E hE hT hQ => rename_good w E hE k r A B n c m d t p hr hT hp hQ, fun w hT hQ => rename5_good w k r A n c t hr hT B m d p hQ hp hmk⟩
    · have ho := (rename_any k r t hr Q).resolve_left hn
      refine ⟨0, 0, [], _, taleOk5 (by decide) _, fun w E hE hT hQ => rename_arg w E hE k r A B n c m d t Q hr hT hQ hmB ho, fun w hT hQ => ?_⟩
      by_cases hmk : m = k
      · refine rename5_odd w k r A n c t hr hT B m d Q hQ hmk ?_
        refine Classical.byContradiction fun hno => hn (names_once (by omega) fun x hx => Classical.byContradiction fun hc => hno ⟨x, hx, hc⟩)
      · exact rename5_len w k r A n c t hr hT B m d hmk
end Go.Proofs.YtpllojpgpejfmaaGreatDoor
