/- The call of RulePieces: it returns true. Condition: its lists read from memory; the error variables hold what E says. -/
import Derived.Test.YtfgjcdfmlpdkaaaDoorLaw4A
import Derived.Test.YtfgjcdfmlpdkaaaDoorRuleG
import Derived.Test.YtfgjcdfmlpdkaaaDoorRef4A
import Derived.Test.YtfgjcdfmlpdkaaaDoorRuleSums
import Derived.Deep.RegionHeld3
import Derived.Deep.AppendLies
namespace Go.Proofs.YtfgjcdfmlpdkaaaDoor
open Go.RowKit RuleP

theorem grown_later {w w1 : World} {o : Obj} {row : Option Nat} (h : ((w.alloc o).drew).grownBy w1 row) (hrow : ∀ g, row = some g → w.heap.size ≤ g) : Below w.heap.size w w1 :=
  (((Below.refl _ _).alloc (Nat.le_refl _) o).drew).trans ((Keeps.of_grown h).below (by simp) hrow)
theorem own_new_ge {H n c : Nat} (g : Nat) (h : (Value.slice (some ⟨H, 0, none⟩) n c).ownBlock = some g) : H ≤ g := by
  have : H = g := by simpa [Value.ownBlock] using h
  omega
theorem own_le {w : World} {base e n c : Nat} {A : Option Addr} {xs : List Value} (h : w.ownsRow base e 1 (.slice A n c) n xs) : n ≤ c ∧ c ≤ maxLen := by
  obtain ⟨A', c', e, h1, h2⟩ := own_slice h
  cases e
  exact ⟨h1, h2⟩
theorem own_empty (w : World) (e : TypeId) : (w.alloc (.cells #[] e)).ownsRow w.heap.size e 1 (.slice (some ⟨w.heap.size, 0, none⟩) 0 0) 0 [] := by
  simpa using World.ownsRow_lit (base := w.heap.size) (e := e) (size := 1) w #[] 0 (Nat.le_refl _) (Nat.zero_le _) rfl
theorem sl_part {w : World} {A : Option Addr} {n : Nat} {xs : List Value} (h : Sl w A n xs) {i m : Nat} (hm : i + m ≤ n) : ∀ ad, A = some ad → ∀ (j : Nat) u, ((xs.drop i).take m)[j]? = some u → w.cell? ((ad.add i).add j) = some u := by
  intro ad e j u hu
  rw [List.getElem?_take] at hu
  split at hu
  · rw [List.getElem?_drop] at hu
    obtain ⟨ad', e', hc⟩ := h.2 _ _ hu
    rw [e] at e'
    cases e'
    rw [add_of_add]
    exact hc
  · cases hu

theorem image_win {k r : Nat} {t v : List Nat} {lo L : Nat} (h : lo + L ≤ v.length) : image k r t (win v lo L) = ((image k r t v).drop lo).take (L - 2 * r) := by
  apply List.ext_getElem?
  intro j
  have hl : (win v lo L).length = L := win_len h
  by_cases hj : j < L - 2 * r
  · rw [image_at (by rw [hl]; omega), List.getElem?_take, if_pos hj, List.getElem?_drop, image_at (by omega)]
    have e : win (win v lo L) j (2 * r + 1) = win v (lo + j) (2 * r + 1) := by
      unfold win
      rw [List.drop_take, List.take_take, List.drop_drop, Nat.min_eq_left (by omega)]
    rw [e]
  · rw [List.getElem?_eq_none (by rw [image_len, hl]; omega), List.getElem?_eq_none (by simp; omega)]
theorem run_append_nothing {P : Program} {t ty e g : Nat} {i : TypeInfo} (ht : P.underlying t = some (.slice e)) (hi : P.info? e = some i) (S : Option Addr) (c : Nat) (w : World) :
    (Builtin.append_ #[t, t] ty #[.slice (some ⟨g, 0, none⟩) 0 0, .slice S 0 c]).run P w = .ok (.slice (some ⟨g, 0, none⟩) 0 0) w := by
  cases S <;> simp [Builtin.append_, run_underlying ht, sizeOf, typeInfo, hi, Builtin.lenOf, Builtin.firstCells, storeCells, loadCells, loadCellsFrom]

theorem step_append_nothing {P : Program} {ops : Array Oper} {o : Oper} {a : Act} {w : World} {K : Act → World → Prop} {Q : Exit → Act → World → Prop} {E : Prop} (hgd : o.guard = none) (s x : Operand) (t : TypeId)
    (ho : o.op = .call { callee := .builtin .append, args := #[s, x], argTypes := #[t, t] }) {e : TypeId} {i : TypeInfo} (ht : P.underlying t = some (.slice e)) (hi : P.info? e = some i) (g : Nat)
    (hs : a.eval s = .slice (some ⟨g, 0, none⟩) 0 0) (hx : ∃ S c n, a.eval x = .slice S n c ∧ n = 0) (h : K (a.put o.dst (.slice (some ⟨g, 0, none⟩) 0 0)) w) :
    if Region.wanted o (yielded ops a.tmps) = true then Oper.wp P o a w K Q else E := by
  have hw : Region.wanted o (yielded ops a.tmps) = true := by simp [Region.wanted, hgd]
  rw [if_pos hw]
  obtain ⟨S, c, n, hx, rfl⟩ := hx
  have hrun := run_append_nothing (P := P) (t := t) (ty := o.type) (g := g) ht hi S c w
  unfold Oper.wp
  simp [execOp, ho, resolve, invoke, builtin, hs, hx, hrun, Result.andThen]
  exact h

set_option maxRecDepth 100000 in
set_option maxHeartbeats 1000000 in
theorem pieces_err (w : World) (E : Nat → Addr) (hE : Errs w E) (K R f t : Int) (A B : Option Addr) (n c m d : Nat) (T W : List Int) (hT : Sl w A n (T.map (Value.int .i64))) (hm : n ≤ 9223372036854775807) (hW : Sl w B m (W.map (Value.int .i64))) (hm2 : m ≤ 9223372036854775807) (tl : Tale) (hbad : RuleP.step K R T W = .error tl) :
    Calls Tryd.prog 5 #[ruleV K R A n c, .slice B m d, .int .i64 f, .int .i64 t] w fun e w' => e = .returned (.bool true) ∧ Below w.heap.size w w' := by
  have hb0 := (Below.refl w.heap.size w).alloc (Nat.le_refl _) (.cells #[.int .i64 K, .int .i64 R, .slice A n c] 24)
  have HE := Lib.hid (hE.below hb0)
  have HS := Lib.hid (fun (wz : World) (hz : Below w.heap.size w wz) => step_bad wz E (hE.below hz) K R A B n c m d T W (hT.below hz) hm (hW.below hz) hm2 tl hbad)
  have HB0 := Lib.hid hb0
  clear hE hb0 hbad
  unfold ruleV at *
  go_enter Tryd.func5, Tryd.ntmps5
  go_wp2_with fail
  refine (awake4_c _ E HE.out).mono ?_
  rintro e w1 ⟨rfl, b1⟩
  obtain ⟨c0, c1, c2⟩ := box_cells b1
  have hb1 := below_box b1
  clear b1
  go_wp2_with fail
  refine (HS.out w1 hb1).mono ?_
  rintro e w2 ⟨v, rfl, he, h2⟩
  obtain ⟨u, p, rfl⟩ := he.iface
  have hb2 := hb1.trans (h2.mono hb1.size)
  clear he h2
  go_wp2_with fail
  go_ret
  exact ⟨by first | rfl | simp, hb2⟩

set_option maxRecDepth 100000 in
set_option maxHeartbeats 4000000 in
theorem pieces_main (w : World) (E : Nat → Addr) (hE : Errs w E) (k r : Nat) (f t : Int) (A B : Option Addr) (n c m d : Nat) (T v : List Nat) (hT : Sl w A n ((ints T).map (Value.int .i64))) (hr : IsRule k r T) (hW : Sl w B m ((ints v).map (Value.int .i64))) (hv : ∀ x ∈ v, x < k) (hmd : m ≤ d) (hd : d ≤ maxLen) (hm : m ≤ 200) :
    Calls Tryd.prog 5 #[ruleV k r A n c, .slice B m d, .int .i64 f, .int .i64 t] w fun e w' => e = .returned (.bool true) ∧ Below w.heap.size w w' := by
  unfold maxLen at hd
  have hl : v.length = m := by simpa [ints] using hW.1
  have hlt : T.length = n := by simpa [ints] using hT.1
  have hn := hr.le
  have k1 := hr.k1
  have k4 := hr.k4
  have r3 := hr.r3
  have hb0 := (Below.refl w.heap.size w).alloc (Nat.le_refl _) (.cells #[.int .i64 (k : Int), .int .i64 (r : Int), .slice A n c] 24)
  obtain ⟨M, hM⟩ : ∃ M, v.length - 2 * r = M := ⟨_, rfl⟩
  have HST := Lib.hid (fun (wz : World) (hz : Below w.heap.size w wz) => step_m wz E (hE.below hz) k r A B n c m d M T v hr hv (hT.below hz) (hW.below hz) (by omega) hM)
  have HE := Lib.hid (hE.below hb0)
  have HEE := Lib.hid hE
  have HB0 := Lib.hid hb0
  have HL := Lib.hid hl
  have HR := Lib.hid hr
  have HV := Lib.hid hv
  rw [hl] at hM
  have hMi : max (0 : Int) ((m : Int) - 2 * (r : Int)) = (M : Int) := by omega
  have HM := Lib.hid hM
  have hMm : M ≤ m := by omega
  have hne : ((M : Int) != (M : Int)) = false := by simp
  clear hE hb0 hl hlt hr hv hM
  unfold ruleV at *
  go_enter Tryd.func5, Tryd.ntmps5
  go_wp2_with fail
  refine (awake4_c _ E HE.out).mono ?_
  rintro e w1 ⟨rfl, b1⟩
  obtain ⟨c0, c1, c2⟩ := box_cells b1
  have hr1 := (RuleAt.new w (.int .i64 (k : Int)) (.int .i64 (r : Int)) (.slice A n c)).below b1 (by simp)
  have hb1 := below_box b1
  clear b1
  go_wp2_with fail
  refine (HST.out w1 hb1).mono ?_
  rintro e w2 ⟨C, cc, rfl, ho, h2⟩
  have hb2 := hb1.trans (h2.mono hb1.size)
  have hr2 := hr1.below h2 hr1.lt
  obtain ⟨c0, c1, c2, _⟩ := hr2.facts
  clear h2 hr1 hb1
  go_wp2_with fail
  obtain ⟨ii, hii, hiz, hi1, hi8⟩ := info_parts tInts.info
  go_loopw [11] (fun iv wr => ∃ i : Nat, i ≤ M ∧ iv = .int .i64 (i : Int) ∧ Below w2.heap.size w2 wr) (fun iv _ => M - (intOf iv).toNat)
  case atStart => exact ⟨0, Nat.zero_le _, rfl, Below.refl _ _⟩
  case round =>
    obtain ⟨i, hi, rfl, hbw⟩ := hrel
    have hbz := hb2.trans (hbw.mono hb2.size)
    have hr3' := hr2.below hbw hr2.lt
    have hlt2 := hr3'.lt
    obtain ⟨d0, d1, d2, _⟩ := hr3'.facts
    by_cases hlt : i < M
    · have hW2 := hW.below hbz
      obtain ⟨adw, _, rfl, _, _⟩ := hW2.at_ (show i < m by omega)
      have hC := (Sl.of_own ho).below hbw
      rw [ints_map] at hC
      obtain ⟨adc, y, rfl, hyi, hcy⟩ := hC.word_ hlt
      have hyk : y < k := image_sym HR.out HV.out y (List.mem_of_getElem? hyi)
      have hget : T.getD (wval k (win v i (2 * r + 1))) 0 = y := by
        have h1 := image_at (k := k) (t := T) (w := v) (i := i) (r := r) (by rw [HL.out]; omega)
        rw [hyi] at h1
        exact (Option.some.inj h1).symm
      have hpart := sl_part hW2 (i := i) (m := 2 * r + 1) (by omega) adw rfl
      have HP2 : Hid (∀ (j : Nat) u, ((((ints v).map (Value.int .i64)).drop i).take (2 * r + 1))[j]? = some u → ((wr.alloc (.cells #[] 3)).drew).cell? ((adw.add i).add j) = some u) := Lib.hid (fun j u hj => cell_later (((Below.refl _ _).alloc (Nat.le_refl _) (.cells #[] 3)).drew) (hpart j u hj))
      have hone : ∀ u ∈ (((ints v).map (Value.int .i64)).drop i).take (2 * r + 1), u.oneCell' = true := fun u hu => ints_one (ints v) u (List.mem_of_mem_drop (List.mem_of_mem_take hu))
      have HONE := Lib.hid hone
      have hnl : ((((ints v).map (Value.int .i64)).drop i).take (2 * r + 1)).length = 2 * r + 1 := by simp [ints, HL.out]; omega
      have HNL := Lib.hid hnl
      have HNEW := Lib.hid (show (((ints v).map (Value.int .i64)).drop i).take (2 * r + 1) = (ints (win v i (2 * r + 1))).map (Value.int .i64) from by simp [win, ints, List.map_drop, List.map_take])
      have HLOC := Lib.hid (fun (wz : World) (D : Option Addr) (dc : Nat) (hz : Below w.heap.size w wz) (hs : Sl wz D (2 * r + 1) ((ints (win v i (2 * r + 1))).map (Value.int .i64))) => local_good wz E (HEE.out.below hz) k r A D n c (2 * r + 1) dc T (win v i (2 * r + 1)) HR.out (win_sym HV.out i (2 * r + 1)) (hT.below hz) hs rfl)
      unfold ruleV at HLOC
      rw [hget] at HLOC
      have n1 : ((y : Int) != (y : Int)) = false := by simp
      have n2 : decide ((k : Int) ≤ (y : Int)) = false := decide_eq_false (by omega)
      clear hpart hone hnl hget hyi hC
      have s1 : IntKind.i64.wrap (2 * (r : Int)) = 2 * (r : Int) := IntWalk.i64_in _ (by omega)
      have s2 : IntKind.i64.wrap ((i : Int) + 2 * (r : Int)) = (i : Int) + 2 * (r : Int) := IntWalk.i64_in _ (by omega)
      have s3 : IntKind.i64.wrap ((i : Int) + 2 * (r : Int) + 1) = (i : Int) + 2 * (r : Int) + 1 := IntWalk.i64_in _ (by omega)
      have s4 : (i : Int) ≤ (i : Int) + 2 * (r : Int) + 1 := by omega
      have s5 : (i : Int) + 2 * (r : Int) + 1 ≤ (d : Int) := by omega
      have s6 : (0 : Int) ≤ (i : Int) + 2 * (r : Int) + 1 := by omega
      go_wp2_with fail
      go_region_held3? (fun w' => w'.cell? ⟨w.heap.size, 0, none⟩ = some (.int .i64 (k : Int)) ∧ w'.cell? ⟨w.heap.size, 1, none⟩ = some (.int .i64 (r : Int)) ∧ w'.cell? ⟨w.heap.size, 2, none⟩ = some (.slice A n c))
        (first | go_keep)
        (first
          | (refine step_append_lies _ ?g2 (.tmp 60) (.tmp 69) 22 ?g6 0 3 ii (.int .i64 0) 1 8 tInts.und hii hiz hi1 hi8 rfl Nat.one_pos (.slice (some ⟨wr.heap.size, 0, none⟩) 0 0) 0 [] ?g7 ?g9 (adw.add i) (2 * r + 1) (d - i) ((((ints v).map (Value.int .i64)).drop i).take (2 * r + 1)) ?g8 ?h1 ?h2 ?h3 ?h4 ?h5 ?h6 (Nat.zero_le _) _ rfl ?h7
             case g2 => rfl
             case g6 => rfl
             case g7 => rfl
             case g9 => exact own_base (own_empty wr _) (Nat.zero_le _)
             case g8 => (simp [Act.eval]; exact ⟨fun e => absurd e (by omega), by omega⟩)
             case h1 => (first | simpa using HNL.out | (rw [HNL.out]; omega))
             case h2 => (first | exact HP2.out | exact fun j u hj => HP2.out j u hj)
             case h3 => exact HONE.out
             case h4 => omega
             case h5 => (simp only [maxLen]; omega)
             case h6 => omega
             intro gg cap w3 hown3 hgrow hat hlt3
             rw [Nat.zero_add] at hown3
             rw [Nat.zero_add]
             have hB3 := grown_later hgrow own_new_ge
             have z0 := cell_later hB3 d0
             have z1 := cell_later hB3 d1
             have z2 := cell_later hB3 d2)
          | (go_at_call 25
             refine (HLOC.out _ (some ⟨gg, 0, none⟩) cap ?_ ?_).mono ?_
             exact hbz.trans (hB3.mono hbz.size)
             (rw [List.nil_append, HNEW.out] at hown3; exact Sl.of_own hown3)
             rintro e w4 ⟨rfl, hb4⟩
             have z3 := cell_later hb4 z0
             have z4 := cell_later hb4 z1
             have z5 := cell_later hb4 z2))
      have hB4 := hB3.trans (hb4.mono hB3.size)
      have e1 := cell_later hB4 hcy
      have hbn := hbw.trans (hB4.mono hbw.size)
      clear hB3 hb4 hB4 hown3 hgrow hat hcy
      go_wp2_with fail
      exact ⟨⟨i + 1, by omega, by go_num, hbn⟩, by simp [intOf]; omega⟩
    · obtain rfl : i = M := by omega
      obtain ⟨N, hN⟩ : ∃ N, m + 1 = N := ⟨_, rfl⟩
      have hNi : (m : Int) + 1 = (N : Int) := by omega
      have hN1 : 1 ≤ N := by omega
      obtain ⟨F, hF⟩ : ∃ F : Nat, (f.tmod (N : Int) + (N : Int)) % (N : Int) = (F : Int) := ⟨_, symN_eq f hN1⟩
      obtain ⟨G, hG⟩ : ∃ G : Nat, (t.tmod (N : Int) + (N : Int)) % (N : Int) = (G : Int) := ⟨_, symN_eq t hN1⟩
      have hFN : F < N := by have := Int.emod_lt_of_pos (f.tmod (N : Int) + (N : Int)) (show (0 : Int) < (N : Int) by omega); omega
      have hGN : G < N := by have := Int.emod_lt_of_pos (t.tmod (N : Int) + (N : Int)) (show (0 : Int) < (N : Int) by omega); omega
      have hF2 : f.tmod (N : Int) % (N : Int) = (F : Int) := by rw [← hF]; simp
      have hG2 : t.tmod (N : Int) % (N : Int) = (G : Int) := by rw [← hG]; simp
      have p3 := tmodk_ge f hN1
      have p4 := tmodk_ge t hN1
      have p5 : f.tmod (N : Int) < (N : Int) := Int.tmod_lt_of_pos _ (by omega)
      have p6 : t.tmod (N : Int) < (N : Int) := Int.tmod_lt_of_pos _ (by omega)
      have hNz : ((N : Int) == 0) = false := by rw [beq_eq_false_iff_ne]; omega
      have HN := Lib.hid hN
      clear hN hlt
      have HF := Lib.hid hF
      have HG := Lib.hid hG
      rcases Nat.lt_or_ge G F with hgt | hgt
      · have hdd : decide (G < F) = true := decide_eq_true hgt
        go_wp2_with fail
        simp only [HF.out, HG.out]
        have hloh : G ≤ F := by omega
        have hhm : F ≤ m := by omega
        obtain ⟨L, hL⟩ : ∃ L, F - G = L := ⟨_, rfl⟩
        obtain ⟨M2, hM2⟩ : ∃ M2, L - 2 * r = M2 := ⟨_, rfl⟩
        have hmax : max (0 : Int) ((F : Int) - (G : Int) - 2 * (r : Int)) = (M2 : Int) := by omega
        have hne2 : ((M2 : Int) != (M2 : Int)) = false := by simp
        have HST2 := Lib.hid (fun (wz : World) (D : Option Addr) (dc : Nat) (hz : Below w.heap.size w wz) (hs : Sl wz D L ((ints (win v G L)).map (Value.int .i64))) => step_m wz E (HEE.out.below hz) k r A D n c L dc M2 T (win v G L) HR.out (win_sym HV.out G L) (hT.below hz) hs (by omega) (by rw [win_len (by rw [HL.out]; omega), hM2]))
        unfold ruleV at HST2
        have b1 : (G : Int) ≤ (F : Int) := by omega
        have b2 : (F : Int) ≤ (d : Int) := by omega
        have HLL := Lib.hid hL
        have HMM2 := Lib.hid hM2
        rcases Nat.eq_or_lt_of_le hloh with heq | hlt
        · exact absurd heq (by omega)
        · have hW2 := hW.below hbz
          obtain ⟨adw, _, rfl, _, _⟩ := hW2.at_ (show G < m by omega)
          have hpart := sl_part hW2 (i := G) (m := L) (by omega) adw rfl
          have HP2 : Hid (∀ (j : Nat) u, ((((ints v).map (Value.int .i64)).drop G).take L)[j]? = some u → ((wr.alloc (.cells #[] 3)).drew).cell? ((adw.add G).add j) = some u) := Lib.hid (fun j u hj => cell_later (((Below.refl _ _).alloc (Nat.le_refl _) (.cells #[] 3)).drew) (hpart j u hj))
          have HONE := Lib.hid (show ∀ u ∈ (((ints v).map (Value.int .i64)).drop G).take L, u.oneCell' = true from fun u hu => ints_one (ints v) u (List.mem_of_mem_drop (List.mem_of_mem_take hu)))
          have hnl : ((((ints v).map (Value.int .i64)).drop G).take L).length = L := by simp [ints, HL.out]; omega
          have HNL := Lib.hid hnl
          have HNEW := Lib.hid (show (((ints v).map (Value.int .i64)).drop G).take L = (ints (win v G L)).map (Value.int .i64) from by simp [win, ints, List.map_drop, List.map_take])
          have hLi : ((L : Nat) : Int) = (F : Int) - (G : Int) := by omega
          have hLm : L ≤ 200 := by omega
          clear hpart hnl hL hM2
          go_region_held3? (fun w' => w'.cell? ⟨w.heap.size, 0, none⟩ = some (.int .i64 (k : Int)) ∧ w'.cell? ⟨w.heap.size, 1, none⟩ = some (.int .i64 (r : Int)) ∧ w'.cell? ⟨w.heap.size, 2, none⟩ = some (.slice A n c))
            (first | go_keep)
            (first
              | (refine step_append_lies _ ?bg2 (.tmp 118) (.tmp 122) 22 ?bg6 0 3 ii (.int .i64 0) 1 8 tInts.und hii hiz hi1 hi8 rfl Nat.one_pos (.slice (some ⟨wr.heap.size, 0, none⟩) 0 0) 0 [] ?bg7 ?bg9 (adw.add G) L (d - G) ((((ints v).map (Value.int .i64)).drop G).take L) ?bg8 ?bh1 ?bh2 ?bh3 ?bh4 ?bh5 ?bh6 (Nat.zero_le _) _ rfl ?bh7
                 case bg2 => rfl
                 case bg6 => rfl
                 case bg7 => rfl
                 case bg9 => exact own_base (own_empty wr _) (Nat.zero_le _)
                 case bg8 => (simp [Act.eval]; first | done | exact ⟨fun e => absurd e (by omega), by omega⟩ | exact fun e => absurd e (by omega) | omega)
                 case bh1 => (first | simpa using HNL.out | (rw [HNL.out]; omega))
                 case bh2 => (first | exact HP2.out | exact fun j u hj => HP2.out j u hj)
                 case bh3 => exact HONE.out
                 case bh4 => omega
                 case bh5 => (simp only [maxLen]; omega)
                 case bh6 => omega
                 intro gg cap w3 hown3 hgrow hat hlt3
                 rw [Nat.zero_add] at hown3
                 rw [Nat.zero_add]
                 have hB3 := grown_later hgrow own_new_ge
                 have z0 := cell_later hB3 d0
                 have z1 := cell_later hB3 d1
                 have z2 := cell_later hB3 d2)
              | (go_at_call 24
                 refine (HST2.out _ (some ⟨gg, 0, none⟩) cap ?_ ?_).mono ?_
                 exact hbz.trans (hB3.mono hbz.size)
                 (rw [List.nil_append, HNEW.out] at hown3; exact Sl.of_own hown3)
                 rintro e w5 ⟨D5, c5, rfl, x5, h5⟩
                 have z3 := cell_later h5 z0
                 have z4 := cell_later h5 z1
                 have z5 := cell_later h5 z2
                 dsimp only))
          have hbg := hB3.trans (h5.mono hB3.size)
          have hbf := hbz.trans (hbg.mono hbz.size)
          have hS5 := Sl.of_own x5
          rcases Nat.eq_zero_or_pos M2 with hz | hz
          · obtain rfl : M2 = 0 := hz
            go_wp2_with fail
            all_goals go_ret
            all_goals exact ⟨by first | rfl | simp, hbf⟩
          · have hSC := (Sl.of_own ho).below (hbw.trans (hbg.mono hbw.size))
            have hcc := (own_le ho).1
            have hcl := (own_le ho).2
            unfold maxLen at hcl
            have hLM : G + M2 ≤ i := by have := HM.out; have := HMM2.out; have := HLL.out; omega
            obtain ⟨adc, _, rfl, _, _⟩ := hSC.at_ (show G < i by omega)
            have hpc := sl_part hSC (i := G) (m := M2) hLM adc rfl
            have hwe : (((ints (image k r T v)).map (Value.int .i64)).drop G).take M2 = (ints (win (image k r T v) G M2)).map (Value.int .i64) := by simp [win, ints, List.map_drop, List.map_take]
            have hSS : Sl w5 (some (adc.add G)) M2 ((ints (win (image k r T v) G M2)).map (Value.int .i64)) := ⟨by simp only [List.length_map, ints_len]; exact win_len (by rw [image_len, HL.out]; have := HM.out; omega), fun j u hj => ⟨_, rfl, hpc j u (by rw [hwe]; exact hj)⟩⟩
            have hEQ : ints (image k r T (win v G L)) = ints (win (image k r T v) G M2) := by
              rw [image_win (by rw [HL.out]; have := HLL.out; omega), HMM2.out]
              rfl
            have HCALL := Lib.hid (ints_b w5 D5 (some (adc.add G)) M2 M2 c5 (cc - G) _ _ hS5 hSS (by omega) (by omega))
            rw [decide_eq_true hEQ] at HCALL
            have hq : ((M2 : Int) == 0) = false := by rw [beq_eq_false_iff_ne]; omega
            have hq2 : IntKind.i64.wrap ((G : Int) + (M2 : Int)) = (G : Int) + (M2 : Int) := IntWalk.i64_in _ (by omega)
            have q3 : (G : Int) ≤ (G : Int) + (M2 : Int) := by omega
            have q4 : (G : Int) + (M2 : Int) ≤ (cc : Int) := by omega
            have q5 : (0 : Int) ≤ (G : Int) + (M2 : Int) := by omega
            have q6 : ¬ (cc = G) := by omega
            clear hEQ hSS hwe hpc hSC x5 h5 hS5
            go_wp2_with fail
            refine (HCALL.out).mono ?_
            rintro e w6 ⟨rfl, h6⟩
            have hbl := hbf.trans (h6.mono hbf.size)
            clear h6
            go_wp2_with fail
            go_ret
            exact ⟨by first | rfl | simp, hbl⟩
      · have hdd : decide (G < F) = false := decide_eq_false (by omega)
        go_wp2_with fail
        simp only [HF.out, HG.out]
        have hloh : F ≤ G := by omega
        have hhm : G ≤ m := by omega
        obtain ⟨L, hL⟩ : ∃ L, G - F = L := ⟨_, rfl⟩
        obtain ⟨M2, hM2⟩ : ∃ M2, L - 2 * r = M2 := ⟨_, rfl⟩
        have hmax : max (0 : Int) ((G : Int) - (F : Int) - 2 * (r : Int)) = (M2 : Int) := by omega
        have hne2 : ((M2 : Int) != (M2 : Int)) = false := by simp
        have HST2 := Lib.hid (fun (wz : World) (D : Option Addr) (dc : Nat) (hz : Below w.heap.size w wz) (hs : Sl wz D L ((ints (win v F L)).map (Value.int .i64))) => step_m wz E (HEE.out.below hz) k r A D n c L dc M2 T (win v F L) HR.out (win_sym HV.out F L) (hT.below hz) hs (by omega) (by rw [win_len (by rw [HL.out]; omega), hM2]))
        unfold ruleV at HST2
        have b1 : (F : Int) ≤ (G : Int) := by omega
        have b2 : (G : Int) ≤ (d : Int) := by omega
        have HLL := Lib.hid hL
        have HMM2 := Lib.hid hM2
        rcases Nat.eq_or_lt_of_le hloh with heq | hlt
        · have hL0 : L = 0 := by omega
          subst hL0
          obtain rfl : M2 = 0 := by omega
          have hw0 : win v F 0 = [] := by simp [win]
          rw [hw0] at HST2
          subst heq
          have hwx : Below wr.heap.size wr (wr.alloc (.cells #[] 3)).drew := ((Below.refl _ _).alloc (Nat.le_refl _) _).drew
          have hwxz := hbz.trans (hwx.mono hbz.size)
          clear hL hM2 hloh
          go_region_held3? (fun w' => w'.cell? ⟨w.heap.size, 0, none⟩ = some (.int .i64 (k : Int)) ∧ w'.cell? ⟨w.heap.size, 1, none⟩ = some (.int .i64 (r : Int)) ∧ w'.cell? ⟨w.heap.size, 2, none⟩ = some (.slice A n c))
            (first | go_keep)
            (first
              | (refine step_append_nothing ?ag2 (.tmp 118) (.tmp 122) 22 ?ag6 tInts.und hii wr.heap.size ?ag7 ?ag8 ?ah7
                 case ag2 => rfl
                 case ag6 => rfl
                 case ag7 => rfl
                 case ag8 => exact ⟨_, _, _, rfl, by simp⟩)
              | (go_at_call 24
                 refine (HST2.out _ (some ⟨wr.heap.size, 0, none⟩) 0 ?_ ?_).mono ?_
                 exact hwxz
                 exact Sl.nil _ _
                 rintro e w5 ⟨D5, c5, rfl, x5, h5⟩
                 have z3 := cell_later h5 (cell_later hwx d0)
                 have z4 := cell_later h5 (cell_later hwx d1)
                 have z5 := cell_later h5 (cell_later hwx d2)
                 dsimp only))
          have hbf := hwxz.trans (h5.mono hwxz.size)
          clear x5 h5 hwx hwxz
          go_wp2_with fail
          all_goals go_ret
          all_goals exact ⟨by first | rfl | simp, hbf⟩
        · have hW2 := hW.below hbz
          obtain ⟨adw, _, rfl, _, _⟩ := hW2.at_ (show F < m by omega)
          have hpart := sl_part hW2 (i := F) (m := L) (by omega) adw rfl
          have HP2 : Hid (∀ (j : Nat) u, ((((ints v).map (Value.int .i64)).drop F).take L)[j]? = some u → ((wr.alloc (.cells #[] 3)).drew).cell? ((adw.add F).add j) = some u) := Lib.hid (fun j u hj => cell_later (((Below.refl _ _).alloc (Nat.le_refl _) (.cells #[] 3)).drew) (hpart j u hj))
          have HONE := Lib.hid (show ∀ u ∈ (((ints v).map (Value.int .i64)).drop F).take L, u.oneCell' = true from fun u hu => ints_one (ints v) u (List.mem_of_mem_drop (List.mem_of_mem_take hu)))
          have hnl : ((((ints v).map (Value.int .i64)).drop F).take L).length = L := by simp [ints, HL.out]; omega
          have HNL := Lib.hid hnl
          have HNEW := Lib.hid (show (((ints v).map (Value.int .i64)).drop F).take L = (ints (win v F L)).map (Value.int .i64) from by simp [win, ints, List.map_drop, List.map_take])
          have hLi : ((L : Nat) : Int) = (G : Int) - (F : Int) := by omega
          have hLm : L ≤ 200 := by omega
          clear hpart hnl hL hM2
          go_region_held3? (fun w' => w'.cell? ⟨w.heap.size, 0, none⟩ = some (.int .i64 (k : Int)) ∧ w'.cell? ⟨w.heap.size, 1, none⟩ = some (.int .i64 (r : Int)) ∧ w'.cell? ⟨w.heap.size, 2, none⟩ = some (.slice A n c))
            (first | go_keep)
            (first
              | (refine step_append_lies _ ?eg2 (.tmp 118) (.tmp 122) 22 ?eg6 0 3 ii (.int .i64 0) 1 8 tInts.und hii hiz hi1 hi8 rfl Nat.one_pos (.slice (some ⟨wr.heap.size, 0, none⟩) 0 0) 0 [] ?eg7 ?eg9 (adw.add F) L (d - F) ((((ints v).map (Value.int .i64)).drop F).take L) ?eg8 ?eh1 ?eh2 ?eh3 ?eh4 ?eh5 ?eh6 (Nat.zero_le _) _ rfl ?eh7
                 case eg2 => rfl
                 case eg6 => rfl
                 case eg7 => rfl
                 case eg9 => exact own_base (own_empty wr _) (Nat.zero_le _)
                 case eg8 => (simp [Act.eval]; first | done | exact ⟨fun e => absurd e (by omega), by omega⟩ | exact fun e => absurd e (by omega) | omega)
                 case eh1 => (first | simpa using HNL.out | (rw [HNL.out]; omega))
                 case eh2 => (first | exact HP2.out | exact fun j u hj => HP2.out j u hj)
                 case eh3 => exact HONE.out
                 case eh4 => omega
                 case eh5 => (simp only [maxLen]; omega)
                 case eh6 => omega
                 intro gg cap w3 hown3 hgrow hat hlt3
                 rw [Nat.zero_add] at hown3
                 rw [Nat.zero_add]
                 have hB3 := grown_later hgrow own_new_ge
                 have z0 := cell_later hB3 d0
                 have z1 := cell_later hB3 d1
                 have z2 := cell_later hB3 d2)
              | (go_at_call 24
                 refine (HST2.out _ (some ⟨gg, 0, none⟩) cap ?_ ?_).mono ?_
                 exact hbz.trans (hB3.mono hbz.size)
                 (rw [List.nil_append, HNEW.out] at hown3; exact Sl.of_own hown3)
                 rintro e w5 ⟨D5, c5, rfl, x5, h5⟩
                 have z3 := cell_later h5 z0
                 have z4 := cell_later h5 z1
                 have z5 := cell_later h5 z2
                 dsimp only))
          have hbg := hB3.trans (h5.mono hB3.size)
          have hbf := hbz.trans (hbg.mono hbz.size)
          have hS5 := Sl.of_own x5
          rcases Nat.eq_zero_or_pos M2 with hz | hz
          · obtain rfl : M2 = 0 := hz
            go_wp2_with fail
            all_goals go_ret
            all_goals exact ⟨by first | rfl | simp, hbf⟩
          · have hSC := (Sl.of_own ho).below (hbw.trans (hbg.mono hbw.size))
            have hcc := (own_le ho).1
            have hcl := (own_le ho).2
            unfold maxLen at hcl
            have hLM : F + M2 ≤ i := by have := HM.out; have := HMM2.out; have := HLL.out; omega
            obtain ⟨adc, _, rfl, _, _⟩ := hSC.at_ (show F < i by omega)
            have hpc := sl_part hSC (i := F) (m := M2) hLM adc rfl
            have hwe : (((ints (image k r T v)).map (Value.int .i64)).drop F).take M2 = (ints (win (image k r T v) F M2)).map (Value.int .i64) := by simp [win, ints, List.map_drop, List.map_take]
            have hSS : Sl w5 (some (adc.add F)) M2 ((ints (win (image k r T v) F M2)).map (Value.int .i64)) := ⟨by simp only [List.length_map, ints_len]; exact win_len (by rw [image_len, HL.out]; have := HM.out; omega), fun j u hj => ⟨_, rfl, hpc j u (by rw [hwe]; exact hj)⟩⟩
            have hEQ : ints (image k r T (win v F L)) = ints (win (image k r T v) F M2) := by
              rw [image_win (by rw [HL.out]; have := HLL.out; omega), HMM2.out]
              rfl
            have HCALL := Lib.hid (ints_b w5 D5 (some (adc.add F)) M2 M2 c5 (cc - F) _ _ hS5 hSS (by omega) (by omega))
            rw [decide_eq_true hEQ] at HCALL
            have hq : ((M2 : Int) == 0) = false := by rw [beq_eq_false_iff_ne]; omega
            have hq2 : IntKind.i64.wrap ((F : Int) + (M2 : Int)) = (F : Int) + (M2 : Int) := IntWalk.i64_in _ (by omega)
            have q3 : (F : Int) ≤ (F : Int) + (M2 : Int) := by omega
            have q4 : (F : Int) + (M2 : Int) ≤ (cc : Int) := by omega
            have q5 : (0 : Int) ≤ (F : Int) + (M2 : Int) := by omega
            have q6 : ¬ (cc = F) := by omega
            clear hEQ hSS hwe hpc hSC x5 h5 hS5
            go_wp2_with fail
            refine (HCALL.out).mono ?_
            rintro e w6 ⟨rfl, h6⟩
            have hbl := hbf.trans (h6.mono hbf.size)
            clear h6
            go_wp2_with fail
            go_ret
            exact ⟨by first | rfl | simp, hbl⟩

set_option maxRecDepth 100000 in
set_option maxHeartbeats 1000000 in
theorem pieces_big (w : World) (E : Nat → Addr) (hE : Errs w E) (k r : Nat) (f t : Int) (A B : Option Addr) (n c m d : Nat) (T v : List Nat) (hT : Sl w A n ((ints T).map (Value.int .i64))) (hr : IsRule k r T) (hW : Sl w B m ((ints v).map (Value.int .i64))) (hv : ∀ x ∈ v, x < k) (hm : 200 < m) (hm4 : m ≤ 4096) :
    Calls Tryd.prog 5 #[ruleV k r A n c, .slice B m d, .int .i64 f, .int .i64 t] w fun e w' => e = .returned (.bool true) ∧ Below w.heap.size w w' := by
  have hb0 := (Below.refl w.heap.size w).alloc (Nat.le_refl _) (.cells #[.int .i64 (k : Int), .int .i64 (r : Int), .slice A n c] 24)
  obtain ⟨M, hM⟩ : ∃ M, v.length - 2 * r = M := ⟨_, rfl⟩
  have HST := Lib.hid (fun (wz : World) (hz : Below w.heap.size w wz) => step_m wz E (hE.below hz) k r A B n c m d M T v hr hv (hT.below hz) (hW.below hz) hm4 hM)
  have HE := Lib.hid (hE.below hb0)
  have hd2 : decide ((200 : Int) < (m : Int)) = true := decide_eq_true (by omega)
  clear hE hb0 hr hv hM
  unfold ruleV at *
  go_enter Tryd.func5, Tryd.ntmps5
  go_wp2_with fail
  refine (awake4_c _ E HE.out).mono ?_
  rintro e w1 ⟨rfl, b1⟩
  obtain ⟨c0, c1, c2⟩ := box_cells b1
  have hb1 := below_box b1
  clear b1
  go_wp2_with fail
  refine (HST.out w1 hb1).mono ?_
  rintro e w2 ⟨C, cc, rfl, ho, h2⟩
  have hb2 := hb1.trans (h2.mono hb1.size)
  clear ho h2
  go_wp2_with fail
  all_goals go_ret
  all_goals exact ⟨by first | rfl | simp, hb2⟩

theorem pieces_c (w : World) (E : Nat → Addr) (hE : Errs w E) (K R f t : Int) (A B : Option Addr) (n c m d : Nat) (T W : List Int) (hT : Sl w A n (T.map (Value.int .i64))) (hn : n ≤ 9223372036854775807) (hW : Sl w B m (W.map (Value.int .i64))) (hmd : m ≤ d) (hd : d ≤ maxLen) :
    Calls Tryd.prog 5 #[ruleV K R A n c, .slice B m d, .int .i64 f, .int .i64 t] w fun e w' => e = .returned (.bool true) ∧ Below w.heap.size w w' := by
  have hl : W.length = m := by simpa using hW.1
  have hd' := hd
  unfold maxLen at hd'
  cases hs : RuleP.step K R T W with
  | error tl => exact pieces_err w E hE K R f t A B n c m d T W hT hn hW (by omega) tl hs
  | ok l =>
    unfold RuleP.step at hs
    split at hs
    · cases hs
    · rename_i hc
      obtain ⟨k, r, T, rfl, rfl, rfl, hr⟩ := check_none hc
      split at hs
      · cases hs
      · rename_i h4
        split at hs
        · cases hs
        · rename_i ho
          obtain ⟨v, rfl, hv⟩ := odd_nat ho
          rcases Nat.lt_or_ge 200 m with h | h
          · exact pieces_big w E hE k r f t A B n c m d T v hT hr hW hv h (by omega)
          · exact pieces_main w E hE k r f t A B n c m d T v hT hr hW hv hmd hd h
end Go.Proofs.YtfgjcdfmlpdkaaaDoor
