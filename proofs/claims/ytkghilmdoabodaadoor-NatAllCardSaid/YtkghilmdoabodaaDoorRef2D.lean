/- The document's products, order, powers: edenref02.Mul, Cmp, Pow. Condition: the limbs read from memory. The document's products and powers: edenref02.Mul, Pow. Condition: the limbs read from memory. The document's powers: edenref02.Pow. No condition. -/
import Derived.Test.YtkghilmdoabodaaDoorRef2A
namespace Go.Proofs.YtkghilmdoabodaaDoor
open Go.RowKit NatP

theorem val_halfs (v : Nat) : valB 65536 (halfs v) = v := val_digs h16 v

set_option maxRecDepth 100000 in
set_option maxHeartbeats 2000000 in
theorem refCmp_n {w : World} {A B : Option Addr} {n c m d v u : Nat} (h1 : Num w A n c v) (h2 : Num w B m d u) (m1 : n ≤ 1000000000) (m2 : m ≤ 1000000000) {r : Int} (hr : cmpN v u = r) :
    Calls Tryd.prog 15 #[.slice A n c, .slice B m d] w fun e w' => e = .returned (.int .i64 r) ∧ Below w.heap.size w w' := by
  have H1 := Lib.hid (half_n h1 m1)
  have H2 := Lib.hid (fun (wz : World) (hz : Below w.heap.size w wz) => half_n (h2.below hz) m2)
  have hl1 := halfs_len h1
  have hl2 := halfs_len h2
  clear h1 h2
  go_enter Tryd.func15, Tryd.ntmps15
  go_wp2_with fail
  refine (H1.out).mono ?_
  rintro e w1 ⟨C1, c1, rfl, ho1, hb1⟩
  go_wp2_with fail
  refine (H2.out w1 hb1).mono ?_
  rintro e w2 ⟨C2, c2, rfl, ho2, hb2⟩
  have hbw := hb1.trans (hb2.mono hb1.size)
  have hX := (Sl.of_own ho1).below hb2
  have hY := Sl.of_own ho2
  clear ho1 ho2 hb1 hb2
  by_cases hlen : (halfs v).length = (halfs u).length
  · have hne : (((halfs v).length : Int) != ((halfs u).length : Int)) = false := by simp; omega
    obtain ⟨l, hl⟩ : ∃ l, (halfs v).length = l := ⟨_, rfl⟩
    have hl' := hlen.symm.trans hl
    rw [hl] at hX hl1 hne ⊢
    rw [hl'] at hY hl2 hne ⊢
    have HL := Lib.hid hl
    have HL' := Lib.hid hl'
    have HR := Lib.hid hr
    clear hl hl' hlen hr
    go_wp2_with fail
    go_loopw [7] (fun iv wr => ∃ (k q : Nat) (z : Int), k ≤ l ∧ iv = .int .i64 z ∧ Hid (z = (k : Int) - 1) ∧ wr = w2.drewN q ∧ Hid ((halfs v).drop k = (halfs u).drop k)) (fun iv _ => (intOf iv + 1).toNat)
    case atStart => exact ⟨l, 0, _, Nat.le_refl _, rfl, Lib.hid rfl, rfl, Lib.hid (by rw [List.drop_of_length_le (by rw [HL.out]; exact Nat.le_refl _), List.drop_of_length_le (by rw [HL'.out]; exact Nat.le_refl _)])⟩
    case round =>
      obtain ⟨k, q, z, hk, rfl, hz, rfl, hd⟩ := hrel
      cases k with
      | zero =>
        obtain rfl : z = -1 := by have := hz.out; omega
        clear hz
        have he : v = u := by
          have := hd.out
          simp only [List.drop_zero] at this
          rw [← val_digs h16 v, ← val_digs h16 u]
          exact congrArg _ this
        have hR0 : r = 0 := by rw [← HR.out, he, cmpN_eq]
        have hge : decide ((0 : Int) ≤ -1) = false := by decide
        subst hR0
        clear hd he
        go_wp2_with fail
        go_ret
        exact ⟨rfl, below_drewN hbw _⟩
      | succ j =>
        obtain rfl : z = (j : Int) := by have := hz.out; omega
        clear hz
        obtain ⟨ad1, x, rfl, hxj, hcx⟩ := hX.word_ (show j < l by omega)
        obtain ⟨ad2, y, rfl, hyj, hcy⟩ := hY.word_ (show j < l by omega)
        rcases Nat.lt_trichotomy x y with h | h | h
        · have hlt : valB 65536 (halfs v) < valB 65536 (halfs u) := lt_atB h16 (ok_digs h16 v) j hxj hyj hd.out h
          rw [val_halfs, val_halfs] at hlt
          have hR0 : r = -1 := by rw [← HR.out, cmpN_lt hlt]
          subst hR0
          have t1 : (x : Int) < (y : Int) := by omega
          clear hd hxj hyj hlt
          go_wp2_with (go_quiet (fail))
          all_goals go_ret
          all_goals exact ⟨rfl, by first | exact below_drewN hbw _ | exact below_drewN (below_drewN hbw _) _⟩
        · subst h
          have hd2 : Hid ((halfs v).drop j = (halfs u).drop j) := Lib.hid (drop_eq_cons hxj hyj hd.out)
          clear hd hxj hyj
          go_wp2_with (go_quiet (fail))
          all_goals exact ⟨⟨j, _, _, by omega, rfl, Lib.hid (by omega), by first | rfl | exact World.drewN_drewN _ _ _, hd2⟩, by simp [intOf]⟩
        · have hlt : valB 65536 (halfs u) < valB 65536 (halfs v) := lt_atB h16 (ok_digs h16 u) j hyj hxj hd.out.symm h
          rw [val_halfs, val_halfs] at hlt
          have hR0 : r = 1 := by rw [← HR.out, cmpN_gt hlt]
          subst hR0
          have t1 : ¬ ((x : Int) < (y : Int)) := by omega
          have t2 : (y : Int) < (x : Int) := by omega
          clear hd hxj hyj hlt
          go_wp2_with (go_quiet (fail))
          all_goals go_ret
          all_goals exact ⟨rfl, by first | exact below_drewN hbw _ | exact below_drewN (below_drewN hbw _) _⟩
  · have hne : (((halfs v).length : Int) != ((halfs u).length : Int)) = true := by simp; omega
    rcases Nat.lt_or_ge (halfs v).length (halfs u).length with h | h
    · have hlt := lt_of_lenB h16 h
      have hR0 : r = -1 := by rw [← hr, cmpN_lt hlt]
      subst hR0
      have t1 : (((halfs v).length : Nat) : Int) < (((halfs u).length : Nat) : Int) := by omega
      clear hr hlt h hlen
      generalize (halfs v).length = a at *
      generalize (halfs u).length = b at *
      go_wp2_with fail
      go_ret
      exact ⟨rfl, hbw⟩
    · have hlt := lt_of_lenB h16 (show (digs 65536 u).length < (digs 65536 v).length by unfold halfs at h hlen; omega)
      have hR0 : r = 1 := by rw [← hr, cmpN_gt hlt]
      subst hR0
      have t1 : ¬ ((((halfs v).length : Nat) : Int) < (((halfs u).length : Nat) : Int)) := by omega
      clear hr hlt h hlen
      generalize (halfs v).length = a at *
      generalize (halfs u).length = b at *
      go_wp2_with fail
      go_ret
      exact ⟨rfl, hbw⟩
end Go.Proofs.YtkghilmdoabodaaDoor

namespace Go.Proofs.YtkghilmdoabodaaDoor
open Go.RowKit NatP

theorem hi_div {t : Nat} (h : t < 4294967296) : IntKind.u32.wrap ((t : Int) / 65536) = (t : Int) / 65536 := IntWalk.u32_in _ (by omega)
theorem lo_mod {t : Nat} : IntKind.u32.wrap ((t : Int) % 65536) = (t : Int) % 65536 := IntWalk.u32_in _ (by omega)
theorem lo_tmod {t : Nat} : (t : Int).tmod 65536 = (t : Int) % 65536 := Int.tmod_eq_emod_of_nonneg (by omega)
theorem in32 {a b : Int} (h : a = b) (h0 : 0 ≤ b) (h1 : b < 4294967296) : IntKind.u32.wrap a = b := by rw [h]; exact IntWalk.u32_in _ (by omega)

theorem cut_em {w : World} {base g n c : Nat} {D : List Nat} (h : w.ownsRow base 27 1 (.slice (some ⟨g, 0, none⟩) n c) n (D.map wv)) (k t : Nat) : (w.setCell ⟨g, k, none⟩ (.int .u32 ((t : Int) % 65536))).ownsRow base 27 1 (.slice (some ⟨g, 0, none⟩) n c) n ((D.set k (t % 65536)).map wv) := by
  have := cut_hi h k (t % 65536)
  rwa [show ((t % 65536 : Nat) : Int) = (t : Int) % 65536 from by simp] at this

set_option maxRecDepth 100000 in
set_option maxHeartbeats 4000000 in
theorem refMul_n {w : World} {A B : Option Addr} {n c m d v u : Nat} (h1 : Num w A n c v) (h2 : Num w B m d u) (m1 : n ≤ 500000000) (m2 : m ≤ 500000000) {r : Nat} (hr : v * u = r) :
    Calls Tryd.prog 36 #[.slice A n c, .slice B m d] w fun e w' => New w r e w' := by
  have H1 := Lib.hid (half_n h1 (by omega))
  have H2 := Lib.hid (fun (wz : World) (hz : Below w.heap.size w wz) => half_n (h2.below hz) (by omega))
  have hl1 := halfs_len h1
  have hl2 := halfs_len h2
  clear h1 h2
  go_enter Tryd.func36, Tryd.ntmps36
  go_wp2_with fail
  refine (H1.out).mono ?_
  rintro e w1 ⟨C1, c1, rfl, ho1, hb1⟩
  go_wp2_with fail
  refine (H2.out w1 hb1).mono ?_
  rintro e w2 ⟨C2, c2, rfl, ho2, hb2⟩
  have hbw := hb1.trans (hb2.mono hb1.size)
  have hX := (Sl.of_own ho1).below hb2
  have hY := Sl.of_own ho2
  have HXB := Lib.hid (ok_digs h16 v)
  have HYB := Lib.hid (ok_digs h16 u)
  have hvv := val_halfs v
  have huu := val_halfs u
  obtain ⟨XL, hXL⟩ : ∃ XL, halfs v = XL := ⟨_, rfl⟩
  obtain ⟨YL, hYL⟩ : ∃ YL, halfs u = YL := ⟨_, rfl⟩
  rw [show digs 65536 v = XL from hXL] at HXB
  rw [show digs 65536 u = YL from hYL] at HYB
  rw [hXL] at hl1 hX hvv ⊢
  rw [hYL] at hl2 hY huu ⊢
  obtain ⟨lx, hlx⟩ : ∃ lx, XL.length = lx := ⟨_, rfl⟩
  obtain ⟨ly, hly⟩ : ∃ ly, YL.length = ly := ⟨_, rfl⟩
  rw [hlx] at hl1 hX ⊢
  rw [hly] at hl2 hY ⊢
  obtain ⟨N, hN⟩ : ∃ N, lx + ly + 1 = N := ⟨_, rfl⟩
  have hNi : (lx : Int) + (ly : Int) + 1 = (N : Int) := by omega
  have hNl : N ≤ 2000000001 := by omega
  have HLX := Lib.hid hlx
  have HLY := Lib.hid hly
  have HN := Lib.hid hN
  have HR : Hid (valB 65536 XL * valB 65536 YL = r) := Lib.hid (by rw [hvv, huu]; exact hr)
  have hmk := run_make_row' (P := Tryd.prog) 24 27 (.int .u32 0) 4 tWords.und tWords.info rfl .i64 .i64 N (by omega) (by omega)
  have hmk' : ∀ wz : World, (Instr.makeSlice 24 (.int .i64 (N : Int)) (.int .i64 (N : Int))).run Tryd.prog wz = .ok (.slice (some ⟨wz.heap.size, 0, none⟩) N N) (wz.alloc (.cells (madeCells #[.int .u32 0] N) 27)) := hmk
  clear hmk
  have hown0 := make_words w2 N (by simp only [maxLen]; omega)
  have hb20 : Below w2.heap.size w2 (w2.alloc (.cells (madeCells #[.int .u32 0] N) 27)) := (Below.refl _ _).alloc (Nat.le_refl _) _
  have hst : MulG 65536 XL YL (List.replicate N 0) 0 := ⟨ok_zeros (by decide) N, by simp [valB, val_zeros]⟩
  have HSH := Lib.hid hst
  clear hvv huu hXL hYL hlx hly hN ho1 ho2 hb1 hb2 hr hst
  go_wp2_with fail
  clear hmk'
  go_loopw [8] (fun iv wr => ∃ (i : Nat) (O : List Nat), i ≤ lx ∧ iv = .int .i64 (i : Int) ∧ Hid (MulG 65536 XL YL O i) ∧ wr.ownsRow w2.heap.size 27 1 (.slice (some ⟨w2.heap.size, 0, none⟩) N N) N (O.map wv) ∧ Below w2.heap.size w2 wr) (fun iv _ => lx - (intOf iv).toNat)
  case atStart => exact ⟨0, _, Nat.zero_le _, rfl, HSH, hown0, hb20⟩
  case round =>
    clear hown0 hb20 HSH
    obtain ⟨i, O, hi, rfl, hG, hown, hbz⟩ := hrel
    obtain ⟨wo, rfl⟩ : ∃ wo : World, wo = wr := ⟨_, rfl⟩
    by_cases hlt : i < lx
    · obtain ⟨adx, x, rfl, hxi, hcx0⟩ := hX.word_ hlt
      have hxl : x < 65536 := HXB.out x (List.mem_of_getElem? hxi)
      have HXI := Lib.hid hxi
      have hH0 := Lib.hid (hG.out.start h16 (x := x))
      clear hxi
      go_wp2_with fail
      go_loopw [9, 10] (fun cv jv wr => ∃ (j cr : Nat) (O : List Nat), j ≤ ly ∧ cr < 65536 ∧ jv = .int .i64 (j : Int) ∧ cv = .int .u32 (cr : Int) ∧ Hid (MulH 65536 XL YL O i x j cr) ∧ wr.ownsRow w2.heap.size 27 1 (.slice (some ⟨w2.heap.size, 0, none⟩) N N) N (O.map wv) ∧ Below w2.heap.size w2 wr) (fun _ jv _ => ly - (intOf jv).toNat)
      case atStart => exact ⟨0, 0, O, Nat.zero_le _, by decide, rfl, rfl, hH0, hown, hbz⟩
      case round =>
        clear hG hown hbz hH0
        obtain ⟨j, cr, O, hj, hcr, rfl, rfl, hH, hown, hbz⟩ := hrel
        by_cases hjl : j < ly
        · obtain ⟨ady, y, rfl, hyj, hcy0⟩ := hY.word_ hjl
          have hyl : y < 65536 := HYB.out y (List.mem_of_getElem? hyj)
          have hcx := cell_later hbz hcx0
          have hcy := cell_later hbz hcy0
          obtain ⟨o, hoj, hco⟩ := own_word hown (show i + j < N by have := HN.out; omega)
          have hol : o < 65536 := hH.out.ok o (List.mem_of_getElem? hoj)
          have hfr := hown.frozenAt (i + j)
          have hst := hH.out.step h16 hxl HYB.out hyj hoj
          have hxy : (x : Int) * (y : Int) = ((x * y : Nat) : Int) := by simp
          have hxyl : x * y ≤ 65535 * 65535 := Nat.mul_le_mul (by omega) (by omega)
          obtain ⟨P, hP⟩ : ∃ P, x * y = P := ⟨_, rfl⟩
          rw [hP] at hst hxy hxyl
          -- t = P + cr, t2 = o + t % 65536
          obtain ⟨t, ht⟩ : ∃ t, P + cr = t := ⟨_, rfl⟩
          obtain ⟨t2, ht2⟩ : ∃ t2, o + t % 65536 = t2 := ⟨_, rfl⟩
          have htl : t < 4294967296 := by omega
          have htl2 : t2 < 131072 := by omega
          have e1 : (P + o + cr) % 65536 = t2 % 65536 := by omega
          have e2 : (P + o + cr) / 65536 = t / 65536 + t2 / 65536 := by omega
          rw [e1, e2] at hst
          have g1 : IntKind.u32.wrap (P : Int) = (P : Int) := IntWalk.u32_in _ (by omega)
          have g2 : IntKind.u32.wrap ((P : Int) + (cr : Int)) = (t : Int) := in32 (by omega) (by omega) (by omega)
          have g3 : (t : Int).tmod 65536 = (t : Int) % 65536 := lo_tmod
          have g4 : IntKind.u32.wrap ((t : Int) % 65536) = (t : Int) % 65536 := lo_mod
          have g5 : IntKind.u32.wrap ((o : Int) + (t : Int) % 65536) = (t2 : Int) := in32 (by omega) (by omega) (by omega)
          have g6 : (t2 : Int).tmod 65536 = (t2 : Int) % 65536 := lo_tmod
          have g7 : IntKind.u32.wrap ((t2 : Int) % 65536) = (t2 : Int) % 65536 := lo_mod
          have g8 : IntKind.u32.wrap ((t : Int) / 65536) = (t : Int) / 65536 := hi_div htl
          have g9 : IntKind.u32.wrap ((t2 : Int) / 65536) = (t2 : Int) / 65536 := hi_div (by omega)
          have g10 : IntKind.u32.wrap ((t : Int) / 65536 + (t2 : Int) / 65536) = ((t / 65536 + t2 / 65536 : Nat) : Int) := in32 (by omega) (by omega) (by omega)
          have g11 : (i : Int) + (j : Int) < (N : Int) := by have := HN.out; omega
          have HB3 := Lib.hid (fun q => (below_drewN hbz q).setCell (p := ⟨w2.heap.size, i + j, none⟩) (Nat.le_refl _) (.int .u32 ((t2 : Int) % 65536)))
          have HO2 := Lib.hid (fun q => cut_em (w := wr.drewN q) hown (i + j) t2)
          have HST := Lib.hid hst
          have hcr2 : Hid (t / 65536 + t2 / 65536 < 65536) := Lib.hid hst.cr1
          clear hst hoj hyj hP ht ht2 e1 e2 hown hH hol
          go_wp2_with (go_quiet (fail))
          exact ⟨⟨j + 1, t / 65536 + t2 / 65536, _, by omega, hcr2.out, by go_num, by simp, HST, HO2.out _, HB3.out _⟩, by simp [intOf]; omega⟩
        · obtain rfl : j = ly := by omega
          have hC := Lib.hid (hH.out.carry HXI.out HLY.out)
          clear hH hj hjl
          obtain ⟨wp, rfl⟩ : ∃ wp : World, wp = wr := ⟨_, rfl⟩
          go_wp2_with fail
          go_loopw [9, 13] (fun cv kv wr => ∃ (k cr : Nat) (O : List Nat), k ≤ N ∧ cr < 65536 ∧ kv = .int .i64 (k : Int) ∧ cv = .int .u32 (cr : Int) ∧ Hid (MulC 65536 XL YL O i k cr) ∧ wr.ownsRow w2.heap.size 27 1 (.slice (some ⟨w2.heap.size, 0, none⟩) N N) N (O.map wv) ∧ Below w2.heap.size w2 wr) (fun _ kv _ => N - (intOf kv).toNat)
          case atStart => exact ⟨i + j, cr, O, by have := HN.out; omega, hcr, by simp, rfl, hC, hown, hbz⟩
          case round =>
            clear hC hown hbz hcr
            obtain ⟨k, cr, O, hk, hcr, rfl, rfl, hC, hown, hbz⟩ := hrel
            by_cases hc0 : cr = 0
            · subst hc0
              have hG := Lib.hid hC.out.done
              have z0 : ¬ ((0 : Int) < ((0 : Nat) : Int)) := by omega
              clear hC
              go_wp2_with fail
              exact ⟨⟨i + 1, O, by omega, by go_num, hG, hown, hbz⟩, by simp [intOf]; omega⟩
            · have hkl := hC.out.lt h16 HXB.out HYB.out (by rw [HLX.out]; exact hlt) (by omega)
              rw [HLX.out, HLY.out] at hkl
              have hkN : k < N := by have := HN.out; omega
              obtain ⟨o, hok, hco⟩ := own_word hown hkN
              have hol : o < 65536 := hC.out.ok o (List.mem_of_getElem? hok)
              have hfr := hown.frozenAt k
              have hst := hC.out.step h16 hok
              obtain ⟨t, ht⟩ : ∃ t, o + cr = t := ⟨_, rfl⟩
              rw [ht] at hst
              have htl : t < 131072 := by omega
              have z0 : (0 : Int) < (cr : Int) := by omega
              have z1 : (k : Int) < (N : Int) := by omega
              have g2 : IntKind.u32.wrap ((o : Int) + (cr : Int)) = (t : Int) := in32 (by omega) (by omega) (by omega)
              have g3 : (t : Int).tmod 65536 = (t : Int) % 65536 := lo_tmod
              have g4 : IntKind.u32.wrap ((t : Int) % 65536) = (t : Int) % 65536 := lo_mod
              have g8 : IntKind.u32.wrap ((t : Int) / 65536) = (t : Int) / 65536 := hi_div (by omega)
              have HB3 := Lib.hid (hbz.setCell (p := ⟨w2.heap.size, k, none⟩) (Nat.le_refl _) (.int .u32 ((t : Int) % 65536)))
              have HO2 := Lib.hid (cut_em hown k t)
              have HST := Lib.hid hst
              have hcr2 : Hid (t / 65536 < 65536) := Lib.hid hst.cr1
              clear hst hok ht hown hC hol hkl
              go_wp2_with fail
              exact ⟨⟨k + 1, t / 65536, _, by omega, hcr2.out, by go_num, by simp, HST, HO2.out, HB3.out⟩, by simp [intOf]; omega⟩
    · obtain rfl : i = lx := by omega
      have he := hG.out.eq
      rw [List.take_of_length_le (by rw [HLX.out]; exact Nat.le_refl _), HR.out] at he
      have HW := Lib.hid (whole_own (C := 0) hown hG.out.ok (by omega) he)
      have hb := hbw.trans (hbz.mono hbw.size)
      clear he hown hG
      go_wp2_with fail
      refine (HW.out).mono ?_
      rintro e w4 h4
      have HN4 := Lib.hid (h4.back hb)
      obtain ⟨A2, c2, rfl, _⟩ := h4
      go_wp2_with fail
      go_ret
      exact HN4.out
end Go.Proofs.YtkghilmdoabodaaDoor

namespace Go.Proofs.YtkghilmdoabodaaDoor
open Go.RowKit NatP

theorem limbs_one : limbs 1 = [1] := by
  unfold limbs
  rw [digs_pos w32 (by decide)]
  rfl
theorem pow_len (k i : Nat) (hk : k < W32) : (limbs (k ^ i)).length ≤ i + 1 := by
  refine limbs_len_of_lt _ _ ?_
  rw [Nat.pow_succ]
  have h1 : k ^ i ≤ W32 ^ i := Nat.pow_le_pow_left (by omega) i
  have h2 : 0 < W32 ^ i := Nat.pow_pos (by decide)
  have h3 : W32 ^ i * 1 < W32 ^ i * W32 := (Nat.mul_lt_mul_left h2).2 (by decide)
  omega

set_option maxRecDepth 100000 in
set_option maxHeartbeats 2000000 in
theorem refPow_ok (w : World) (k n : Nat) (hk : k < W32) (hn : n ≤ 1024) :
    Calls Tryd.prog 40 #[.int .u32 (k : Int), .int .i64 (n : Int)] w fun e w' => ∃ C cc, e = .returned (.tuple #[.slice C (limbs (k ^ n)).length cc, .agg #[.int .i64 0, .slice none 0 0, .slice none 0 0]]) ∧
      Num w' C (limbs (k ^ n)).length cc (k ^ n) ∧ w'.ownsRow w.heap.size 27 1 (.slice C (limbs (k ^ n)).length cc) (limbs (k ^ n)).length ((limbs (k ^ n)).map wv) ∧ Below w.heap.size w w' := by
  have hw0 := (WantAt.new w (.int .i64 0) (.slice none 0 0) (.slice none 0 0)).alloc (.cells #[.int .u32 1] 27)
  have hb0 := ((Below.refl w.heap.size w).alloc (Nat.le_refl _) (.cells #[.int .i64 0, .slice none 0 0, .slice none 0 0] 50)).alloc (by simp) (.cells #[.int .u32 1] 27)
  have ho0 := World.ownsRow_lit (base := w.heap.size) (e := 27) (size := 1) (w.alloc (.cells #[.int .i64 0, .slice none 0 0, .slice none 0 0] 50)) #[.int .u32 1] 1 (by simp) (by decide) (by decide)
  rw [World.size_alloc] at ho0
  have hst : ∃ (C : Option Addr) (cc M : Nat), (.slice (some ⟨w.heap.size + 1, 0, none⟩) 1 1 : Value) = .slice C M cc ∧ Hid (M = (limbs (k ^ 0)).length) ∧ M ≤ 0 + 1 ∧ Hid (((w.alloc (.cells #[.int .i64 0, .slice none 0 0, .slice none 0 0] 50)).alloc (.cells #[.int .u32 1] 27)).ownsRow w.heap.size 27 1 (.slice C M cc) M ((limbs (k ^ 0)).map wv)) := by
    rw [Nat.pow_zero, limbs_one]
    exact ⟨_, _, _, rfl, Lib.hid rfl, Nat.le_refl _, Lib.hid ho0⟩
  have HST := Lib.hid hst
  have n1 : ¬ ((n : Int) < 0) := by omega
  have n2 : ¬ ((1024 : Int) < (n : Int)) := by omega
  have HK := Lib.hid hk
  clear hst ho0 hk
  go_enter Tryd.func40, Tryd.ntmps40
  go_wp2_with fail
  go_loopw [6, 7] (fun ov iv wr => ∃ (i : Nat), i ≤ n ∧ iv = .int .i64 (i : Int) ∧ (∃ (C : Option Addr) (cc M : Nat), ov = .slice C M cc ∧ Hid (M = (limbs (k ^ i)).length) ∧ M ≤ i + 1 ∧ Hid (wr.ownsRow w.heap.size 27 1 (.slice C M cc) M ((limbs (k ^ i)).map wv))) ∧
      WantAt wr w.heap.size (.int .i64 0) (.slice none 0 0) (.slice none 0 0) ∧ Below w.heap.size w wr) (fun _ iv _ => n - (intOf iv).toNat)
  case atStart => exact ⟨0, Nat.zero_le _, rfl, HST.out, hw0, hb0⟩
  case round =>
    clear hw0 hb0 HST
    obtain ⟨i, hi, rfl, ⟨C, cc, M, rfl, hM, hMi, hown⟩, hw1, hb⟩ := hrel
    have hown' := hown.out
    rw [hM.out] at hown'
    have hnum := num_own hown'
    by_cases hlt : i < n
    · have hMUL := fun (wz : World) (D : Option Addr) (hz : Below wr.heap.size wr wz) (h2 : Num wz D 1 1 k) => refMul_n (hnum.below hz) h2 (by rw [← hM.out]; omega) (by decide) (r := k ^ (i + 1)) (by rw [Nat.pow_succ])
      rw [← hM.out] at hMUL
      have HM := Lib.hid hMUL
      have hlit := num_lit wr HK.out 27
      have hbl : Below wr.heap.size wr (wr.alloc (.cells #[.int .u32 (k : Int)] 27)) := (Below.refl _ _).alloc (Nat.le_refl _) _
      have hws := hw1.lt
      clear hMUL hnum hown hown'
      go_wp2_with fail
      refine (HM.out _ _ hbl hlit).mono ?_
      rintro e w3 ⟨C3, c3, rfl, _, ho3, hb3⟩
      have hbz := hbl.trans (hb3.mono hbl.size)
      have hw3 := hw1.below hbz hws
      have hst2 : ∃ (C : Option Addr) (cc M : Nat), (.slice C3 (limbs (k ^ (i + 1))).length c3 : Value) = .slice C M cc ∧ Hid (M = (limbs (k ^ (i + 1))).length) ∧ M ≤ (i + 1) + 1 ∧ Hid (w3.ownsRow w.heap.size 27 1 (.slice C M cc) M ((limbs (k ^ (i + 1))).map wv)) :=
        ⟨_, _, _, rfl, Lib.hid rfl, pow_len k (i + 1) HK.out, Lib.hid (own_base ho3 (by have := hb.size; simp; omega))⟩
      have HST2 := Lib.hid hst2
      have hb4 := hb.trans (hbz.mono hb.size)
      clear hst2 ho3 hb3 hlit hbl
      go_wp2_with fail
      exact ⟨⟨i + 1, by omega, by go_num, HST2.out, hw3, hb4⟩, by simp [intOf]; omega⟩
    · obtain rfl : i = n := by omega
      obtain ⟨d0, d1, d2, f0, f1, f2⟩ := hw1.facts
      rw [← hM.out] at hown'
      have ho5 := own_setW hown' hw1 (by decide) (.int .i64 0) (.slice none 0 0) (.slice none 0 0)
      rw [hM.out] at ho5
      have HO5 := Lib.hid ho5
      have HB5 := Lib.hid (below_set3 hb (Nat.le_refl _) (.int .i64 0) (.slice none 0 0) (.slice none 0 0))
      clear ho5 hown hown' hnum hw1 hb
      go_wp2_with fail
      exact bodyPost_ret (v := .tuple #[.slice C M cc, .agg #[.int .i64 0, .slice none 0 0, .slice none 0 0]]) (by simp [results, Tryd.results40, go_sem, d0, d1, d2]) rfl ⟨C, cc, by rw [← hM.out], num_own HO5.out, HO5.out, HB5.out⟩
end Go.Proofs.YtkghilmdoabodaaDoor
