/- The call of ImageCounts: it returns true. Condition: the table reads from memory; the error variables hold what E says. -/
import Derived.Test.YthilnpfpllplaaaGreatDoorS11
import Derived.Test.YthilnpfpllplaaaGreatDoorS30
import Derived.Test.YthilnpfpllplaaaGreatDoorImageRunsS
namespace Go.Proofs.YthilnpfpllplaaaGreatDoor
open Go.RowKit RuleP SubP NatP

set_option maxRecDepth 100000 in
set_option maxHeartbeats 1000000 in
/-- The word behind the empty one. -/
theorem next0_c (w : World) (k : Nat) (A : Option Addr) (c : Nat) (h1 : 1 ≤ k) (h2 : k ≤ 4) (h : Sl w A 0 ((ints []).map (Value.int .i64))) :
    Calls Tryz.prog 35 #[.int .i64 (k : Int), .slice A 0 c] w fun e w' => ∃ C cc, e = .returned (.tuple #[.slice C 1 cc, .nilIface]) ∧ w'.ownsRow w.heap.size 3 1 (.slice C 1 cc) 1 ((ints [0]).map (Value.int .i64)) ∧ Below w.heap.size w w' := by
  have HC := Lib.hid (wordCheck_ok w k A 0 c [] h1 h2 (fun y hy => by simp at hy) h (by omega))
  have HH := Lib.hid h
  clear h
  go_enter Tryz.func35, Tryz.ntmps35
  go_wp2_with fail
  refine (HC.out).mono ?_
  rintro e w1 ⟨rfl, hb1⟩
  go_wp2_with fail
  refine (clone_c w1 A 0 c _ (ints_one _) (by omega) (HH.out.below hb1)).mono ?_
  rintro e w2 ⟨C, cc, rfl, _, hb2⟩
  have hbw := hb1.trans (hb2.mono hb1.size)
  have HBW := Lib.hid hbw
  clear hb1 hb2 hbw HC
  go_wp2_with fail
  go_loopw [8] (fun p wr => ∃ z : Int, p = .int .i64 z ∧ z = -1 ∧ Hid (Below w.heap.size w wr)) (fun _ _ => 0)
  case atStart => exact ⟨-1, rfl, rfl, HBW⟩
  case round =>
    obtain ⟨z, rfl, hz, hb⟩ := hrel
    subst hz
    have hge : decide ((0 : Int) ≤ -1) = false := by decide
    have hmk := run_make_row' (P := Tryz.prog) 22 3 (.int .i64 0) 8 tInts.und tInts.info rfl .i64 .i64 1 (by omega) (by omega)
    have hmk' : ∀ wz : World, (Instr.makeSlice 22 (.int .i64 1) (.int .i64 1)).run Tryz.prog wz = .ok (.slice (some ⟨wz.heap.size, 0, none⟩) 1 1) (wz.alloc (.cells (madeCells #[.int .i64 0] 1) 3)) := hmk
    clear hmk
    have hown0 := make_ints wr 1 (by simp only [maxLen]; omega)
    have HO := Lib.hid (own_base hown0 hb.out.size)
    have HB := Lib.hid (hb.out.alloc hb.out.size (.cells (madeCells #[.int .i64 0] 1) 3))
    clear hown0 HBW
    go_wp2_with fail
    go_ret2
    exact ⟨_, _, rfl, HO.out, HB.out⟩
theorem wordNext_c (w : World) (k : Nat) (A : Option Addr) (n c : Nat) (x : List Nat) (h1 : 1 ≤ k) (h2 : k ≤ 4) (hs : ∀ y ∈ x, y < k) (hxn : x.length = n) (h : Sl w A n ((ints x).map (Value.int .i64))) (hn : n ≤ 4000) :
    Calls Tryz.prog 35 #[.int .i64 (k : Int), .slice A n c] w fun e w' => ∃ C cc, e = .returned (.tuple #[.slice C (nextB k x).length cc, .nilIface]) ∧ w'.ownsRow w.heap.size 3 1 (.slice C (nextB k x).length cc) (nextB k x).length ((ints (nextB k x)).map (Value.int .i64)) ∧ Below w.heap.size w w' := by
  cases n with
  | zero =>
    obtain rfl := List.length_eq_zero_iff.1 hxn
    have e : nextB k [] = [0] := by unfold nextB; rw [if_neg (by simp [wval])]; rfl
    rw [e]
    exact next0_c w k A c h1 h2 h
  | succ n => exact next_c w k A (n + 1) c x h1 h2 hs hxn h hn (by omega)
theorem digB_zeros (k : Nat) : ∀ n, digB k n 0 = List.replicate n 0
  | 0 => rfl
  | n + 1 => by rw [digB, Nat.zero_div, digB_zeros k n, Nat.zero_mod, List.replicate_succ']
/-- The words of q symbols in order; behind the last of them a longer one. -/
def wordQ (k q i : Nat) : List Nat := if i < k ^ q then digB k q i else List.replicate (q + 1) 0
theorem wordQ_next {k q i : Nat} (hk : 1 ≤ k) (hi : i < k ^ q) : nextB k (wordQ k q i) = wordQ k q (i + 1) ∧ cmpW (wordQ k q i) (wordQ k q (i + 1)) = -1 := by
  unfold wordQ
  rw [if_pos hi]
  unfold nextB cmpW
  rw [digB_len, wval_digB hk hi]
  by_cases h : i + 1 < k ^ q
  · rw [if_pos h]
    refine ⟨rfl, ?_⟩
    rw [digB_len, if_neg (Nat.lt_irrefl _), if_neg (Nat.lt_irrefl _)]
    exact cmpL_lt (by rw [digB_len, digB_len]) (digB_sym hk q i) (digB_sym hk q (i + 1)) (by rw [wval_digB hk hi, wval_digB hk h]; omega)
  · rw [if_neg h]
    exact ⟨rfl, by rw [List.length_replicate, if_pos (by omega)]⟩
theorem wordQ_in {k q i : Nat} (hk : 1 ≤ k) (hi : i < k ^ q) : (wordQ k q i).length = q ∧ (∀ y ∈ wordQ k q i, y < k) ∧ wordQ k q i = digB k q i := by
  unfold wordQ
  rw [if_pos hi]
  exact ⟨digB_len _ _ _, digB_sym hk q i, rfl⟩
theorem wordQ_end {k q : Nat} : (wordQ k q (k ^ q)).length = q + 1 := by
  unfold wordQ
  rw [if_neg (Nat.lt_irrefl _), List.length_replicate]
/-- Two readings of one slice are one. -/
theorem sl_inj {w : World} {A : Option Addr} {n : Nat} {xs ys : List Value} (h1 : Sl w A n xs) (h2 : Sl w A n ys) : xs = ys := by
  apply List.ext_getElem?
  intro j
  by_cases hj : j < n
  · have e1 : xs[j]? = some (xs[j]'(by rw [h1.1]; exact hj)) := List.getElem?_eq_getElem _
    have e2 : ys[j]? = some (ys[j]'(by rw [h2.1]; exact hj)) := List.getElem?_eq_getElem _
    obtain ⟨a1, p1, q1⟩ := h1.2 j _ e1
    obtain ⟨a2, p2, q2⟩ := h2.2 j _ e2
    rw [p1] at p2
    obtain rfl := Option.some.inj p2
    rw [q1] at q2
    rw [e1, e2, Option.some.inj q2]
  · rw [List.getElem?_eq_none (by rw [h1.1]; omega), List.getElem?_eq_none (by rw [h2.1]; omega)]
def ReadsQ (w : World) (xv : Value) (x : List Nat) : Prop := ∃ P c, xv = .slice P x.length c ∧ Sl w P x.length ((ints x).map (Value.int .i64))
theorem readsQ_inj {w : World} {xv : Value} {x y : List Nat} (h1 : ReadsQ w xv x) (h2 : ReadsQ w xv y) : x = y := by
  obtain ⟨P, c, rfl, s1⟩ := h1
  obtain ⟨P', c', e, s2⟩ := h2
  injection e with e1 e2 e3
  subst e1
  rw [← e2] at s2
  have h := sl_inj s1 s2
  have h' := congrArg (List.map intOf) h
  rw [List.map_map, List.map_map, show intOf ∘ Value.int .i64 = id from rfl, List.map_id, List.map_id] at h'
  have := congrArg (List.map Int.toNat) h'
  rwa [toNat_ints, toNat_ints] at this
theorem wordQ_inj {k q i j : Nat} (hk : 1 ≤ k) (hi : i ≤ k ^ q) (hj : j ≤ k ^ q) (h : wordQ k q i = wordQ k q j) : i = j := by
  rcases Nat.lt_or_ge i (k ^ q) with h1 | h1
  · rcases Nat.lt_or_ge j (k ^ q) with h2 | h2
    · have e := congrArg (wval k) h
      rwa [(wordQ_in hk h1).2.2, (wordQ_in hk h2).2.2, wval_digB hk h1, wval_digB hk h2] at e
    · obtain rfl : j = k ^ q := by omega
      have e := congrArg List.length h
      rw [(wordQ_in hk h1).1, wordQ_end] at e
      omega
  · obtain rfl : i = k ^ q := by omega
    rcases Nat.lt_or_ge j (k ^ q) with h2 | h2
    · have e := congrArg List.length h
      rw [(wordQ_in hk h2).1, wordQ_end] at e
      omega
    · omega
open Classical in
/-- How many words are left, told by what the slice reads. -/
noncomputable def leftQ (k q : Nat) (xv : Value) (w : World) : Nat := if h : ∃ i, i ≤ k ^ q ∧ ReadsQ w xv (wordQ k q i) then k ^ q - Classical.choose h else 0
theorem leftQ_eq {k q i : Nat} (hk : 1 ≤ k) {xv : Value} {w : World} (hi : i ≤ k ^ q) (h : ReadsQ w xv (wordQ k q i)) : leftQ k q xv w = k ^ q - i := by
  have hx : ∃ i, i ≤ k ^ q ∧ ReadsQ w xv (wordQ k q i) := ⟨i, hi, h⟩
  unfold leftQ
  rw [dif_pos hx]
  have hc := Classical.choose_spec hx
  rw [wordQ_inj hk hc.1 hi (readsQ_inj hc.2 h)]
theorem mod7 (N : Int) : ∃ q : Nat, q < 7 ∧ (N.tmod 7 + 7).tmod 7 = (q : Int) ∧ 0 ≤ N.tmod 7 + 7 ∧ N.tmod 7 + 7 ≤ 13 := by
  have h1 : -7 < N.tmod 7 ∧ N.tmod 7 < 7 := by
    have h2 := Int.lt_tmod_of_pos N (b := 7) (by decide)
    have h3 := Int.tmod_lt_of_pos N (b := 7) (by decide)
    omega
  refine ⟨((N.tmod 7 + 7).tmod 7).toNat, ?_, ?_, by omega, by omega⟩
  · rw [Int.tmod_eq_emod_of_nonneg (by omega)]; omega
  · rw [Int.tmod_eq_emod_of_nonneg (by omega)]; omega
/-- What image.Words says of a small rule and few symbols. -/
theorem counts_facts {k r : Nat} {t : List Nat} {S : St} (hr : IsRule k r t) (h256 : t.length ≤ 256) (h : fin k (k ^ (2 * r)) t false = .go S []) {q : Nat} (hq : q < 7) :
    ∃ X Y : Nat, wordsF (k : Int) (r : Int) (ints t) (q : Int) = (X, none) ∧ wordsF (k : Int) (r : Int) (ints t) ((q : Int) + 1) = (Y, none) ∧ X ≤ Y ∧ Y ≤ X * k ∧ X = runsTo (fun w => hasB k r t w) k q (k ^ q) ∧ (limbs X).length ≤ 17 ∧ (limbs Y).length ≤ 17 ∧ k ^ q ≤ 4096 := by
  have hro := fin_rows (Nat.pow_pos hr.k1) h
  have hA := least_auto hro.auto
  have hL : Live k (leastA k S.next) := least_live hro.auto (fun i hi => hro.live hr hi)
  have hup := ways_up hA hL q
  have hk1 := hr.k1
  have hk4 := hr.k4
  refine ⟨_, _, wordsF_run (ofF_good hr h256 h) (by omega), wordsF_run (ofF_good hr h256 h) (n := q + 1) (by omega), hup.1, by rw [Nat.mul_comm]; exact hup.2, ?_, ?_, ?_, ?_⟩
  · rw [words_has hr.k1 h, runsTo_all hr.k1]
    refine List.countP_congr fun w _ => ?_
    unfold hasB
    cases before k r t w <;> simp
  · exact limbs_len_of_lt _ _ (Nat.lt_of_le_of_lt (sum_waysV hA q) (Nat.lt_of_le_of_lt (Nat.pow_le_pow_left hk4 _) (pow_fit (by omega))))
  · exact limbs_len_of_lt _ _ (Nat.lt_of_le_of_lt (sum_waysV hA (q + 1)) (Nat.lt_of_le_of_lt (Nat.pow_le_pow_left hk4 _) (pow_fit (by omega))))
  · refine Nat.le_trans (Nat.pow_le_pow_left hk4 q) (Nat.le_trans (Nat.pow_le_pow_right (by decide) (show q ≤ 6 by omega)) (by decide))

set_option maxRecDepth 100000 in
set_option maxHeartbeats 4000000 in
theorem imageCounts_c (w : World) (E : Nat → Addr) (hE : Errs w E) (hT : ErrT w) (hAp : Apart12 E) (hB : ErrBlk w E) (K R : Int) (A : Option Addr) (n c : Nat) (T : List Int) (hS : Sl w A n (T.map (Value.int .i64))) (hn : n ≤ c) (hz : c * 8 ≤ 140737488351232) (N : Int) :
    Calls Tryz.prog 8 #[ruleV K R A n c, .int .i64 N] w fun e w' => e = .returned (.bool true) ∧ Below w.heap.size w w' := by
  have HER := Lib.hid (fun (wz : World) (hz : Below w.heap.size w wz) => (⟨hE.below hz, hT.below hz, hB.below hz⟩ : _ ∧ _ ∧ _))
  clear hE hT hB
  have hb0 := (Below.refl w.heap.size w).alloc (Nat.le_refl _) (.cells #[.int .i64 K, .int .i64 R, .slice A n c] 24)
  have HAW := Lib.hid (awake11_c _ E (HER.out _ hb0).1 (HER.out _ hb0).2.1 hAp (HER.out _ hb0).2.2)
  have hr0 := RuleAt.new w (.int .i64 K) (.int .i64 R) (.slice A n c)
  have HTS := Lib.hid (fun (wz : World) (hz : Below w.heap.size w wz) => hS.below hz)
  obtain ⟨q, hq7, hmq, hm0, hm13⟩ := mod7 N
  have hwr : IntKind.i64.wrap (N.tmod 7 + 7) = N.tmod 7 + 7 := IntWalk.i64_in _ (by omega)
  have HQ7 := Lib.hid hq7
  clear hS
  unfold ruleV at *
  go_enter Tryz.func8, Tryz.ntmps8
  go_wp2_with fail
  refine (HAW.out).mono ?_
  rintro e w1 ⟨rfl, b1⟩
  have hr1 := hr0.below b1 (by simp)
  have hb1 := below_box b1
  have hq1 : w.heap.size < w1.heap.size := hr1.lt
  obtain ⟨r0, r1, r2, _⟩ := hr1.facts
  have hwu := words_u w1 E (HER.out _ hb1).1 (HER.out _ hb1).2.1 hAp (HER.out _ hb1).2.2 K R A n c T (HTS.out _ hb1) (by omega) (q : Int)
  have HB1 := Lib.hid hb1
  have HR1 := Lib.hid hr1
  clear b1 HAW hb0 hr0 hb1 hr1
  rcases ofF_cases 0 K R T with ⟨tl, h⟩ | ⟨k, r, t, S, rfl, rfl, rfl, hr, hl, hfin, h, hau⟩
  · rw [wordsF_bad h] at hwu
    unfold ruleV at hwu
    have HWU := Lib.hid hwu
    clear hwu h
    go_wp2_with fail
    refine (HWU.out).mono ?_
    rintro e w2 ⟨C2, c2, v2, rfl, ho2, he2, b2⟩
    have he2' : ErrIs w2 E tl.1 tl.2 v2 := he2
    obtain ⟨u, p, rfl⟩ := he2'.iface
    have HB2 := Lib.hid (HB1.out.trans (b2.mono HB1.out.size))
    have hl0 : (limbs 0).length = 0 := rfl
    rw [hl0]
    clear he2 he2' ho2 b2 hl0 r0 r1 r2
    go_wp2_with fail
    go_ret
    exact ⟨rfl, HB2.out⟩
  · obtain ⟨X, Y, hX, hY, hXY, hYX, hXc, hXl, hYl, hkq⟩ := counts_facts hr hl hfin hq7
    rw [hX] at hwu
    unfold ruleV at hwu
    obtain ⟨lx, hlx⟩ : ∃ lx, (limbs X).length = lx := ⟨_, rfl⟩
    obtain ⟨ly, hly⟩ : ∃ ly, (limbs Y).length = ly := ⟨_, rfl⟩
    dsimp only at hwu
    rw [hlx] at hwu hXl
    rw [hly] at hYl
    have HLX := Lib.hid hlx
    have HLY := Lib.hid hly
    have HWU := Lib.hid hwu
    have HF := Lib.hid (⟨hr, hl, hY, hXY, hYX, hXc, hkq⟩ : _ ∧ _ ∧ _ ∧ _ ∧ _ ∧ _ ∧ _)
    have hk1 := hr.k1
    have hk4 := hr.k4
    clear hwu h hau hX hY hXY hYX hXc hlx hly hfin hr hl hkq
    go_wp2_with fail
    refine (HWU.out).mono ?_
    rintro e w2 ⟨C2, c2, v2, rfl, ho2, he2, b2⟩
    have he2' : v2 = .nilIface := he2
    clear he2
    subst he2'
    have hb2 := HB1.out.trans (b2.mono HB1.out.size)
    obtain ⟨r0, r1, r2, _⟩ := (HR1.out.below b2 HR1.out.lt).facts
    have hqw : IntKind.i64.wrap ((q : Int) + 1) = (q : Int) + 1 := IntWalk.i64_in _ (by omega)
    have hwy := words_u w2 E (HER.out _ hb2).1 (HER.out _ hb2).2.1 hAp (HER.out _ hb2).2.2 (k : Int) (r : Int) A n c (ints t) (HTS.out _ hb2) (by omega) ((q : Int) + 1)
    rw [HF.out.2.2.1] at hwy
    unfold ruleV at hwy
    dsimp only at hwy
    rw [HLY.out] at hwy
    have HWY := Lib.hid hwy
    have HO2 := Lib.hid ho2
    have HB2 := Lib.hid hb2
    clear hwy HWU ho2 hb2
    go_wp2_with fail
    refine (HWY.out).mono ?_
    rintro e w3 ⟨C3, c3, v3, rfl, ho3, he3, b3⟩
    have he3' : v3 = .nilIface := he3
    clear he3
    subst he3'
    have hX3 : Num w3 C2 lx c2 X := by
      have h1 := own_below HO2.out b3
      rw [← HLX.out] at h1 ⊢
      exact num_own h1
    have hY3 : Num w3 C3 ly c3 Y := by
      have h1 := ho3
      rw [← HLY.out] at h1 ⊢
      exact num_own h1
    have z13 := pure_trans b2 b3
    obtain ⟨cy, hcy⟩ : ∃ cy, cmpN Y X = cy := ⟨_, rfl⟩
    have hcy0 : ¬ cy < 0 := by
      rw [← hcy]
      have := HF.out.2.2.2.1
      unfold cmpN
      rw [if_neg (by omega)]
      split <;> omega
    have HC1 := Lib.hid (cmp_n hY3 hX3 hcy)
    have HX3 := Lib.hid hX3
    have HY3 := Lib.hid hY3
    have HZ3 := Lib.hid z13
    clear r0 r1 r2 HWY ho3 hX3 hY3 hcy z13 b2 b3
    go_wp2_with fail
    refine (HC1.out).mono ?_
    rintro e w4 ⟨rfl, b4⟩
    have z14 := pure_trans HZ3.out b4
    obtain ⟨r0, r1, r2, _⟩ := (HR1.out.below z14 HR1.out.lt).facts
    have HFR := Lib.hid (fromL_n w4 k (by omega))
    have hku : IntKind.u64.wrap (k : Int) = (k : Int) := IntWalk.u64_in _ (by omega)
    go_wp2_with fail
    refine (HFR.out).mono ?_
    rintro e w5 ⟨C5, c5, rfl, hn5, ho5, b5⟩
    have hlk : (limbs k).length ≤ 17 := limbs_len_of_lt _ _ (Nat.lt_of_lt_of_le (Nat.lt_of_le_of_lt hk4 (show 4 < 4 ^ 2 by decide)) (Nat.le_of_lt (pow_fit (e := 2) (by decide))))
    have hmul := mul_n ((HX3.out.below b4).below b5) hn5 (by omega) (by omega) (r := X * k) rfl
    have HML := Lib.hid hmul
    clear hmul ho5 HFR hku
    go_wp2_with fail
    refine (HML.out).mono ?_
    rintro e w6 ⟨C6, c6, rfl, hn6, ho6, b6⟩
    obtain ⟨cz, hcz⟩ : ∃ cz, cmpN Y (X * k) = cz := ⟨_, rfl⟩
    have hcz0 : ¬ cz > 0 := by
      rw [← hcz]
      have := HF.out.2.2.2.2.1
      unfold cmpN
      split
      · omega
      · rw [if_neg (by omega)]; omega
    have HC2 := Lib.hid (cmp_n (((HY3.out.below b4).below b5).below b6) hn6 hcz)
    clear hcz HML ho6 hn6 hn5
    go_wp2_with fail
    refine (HC2.out).mono ?_
    rintro e w7 ⟨rfl, b7⟩
    have z37 := pure_trans b4 (pure_trans b5 (pure_trans b6 b7))
    have z17 := pure_trans HZ3.out z37
    have HZ37 := Lib.hid z37
    have HB7 := Lib.hid (HB1.out.trans (z17.mono HB1.out.size))
    have HR7 := Lib.hid (fun (wz : World) (hz : Below w7.heap.size w7 wz) => (HR1.out.below (pure_trans z17 hz) HR1.out.lt).facts)
    have hr7 : w.heap.size < w7.heap.size := Nat.lt_of_lt_of_le hq1 z17.size
    obtain ⟨r0, r1, r2, _⟩ := HR7.out w7 (Below.refl _ _)
    clear z17 z37 b4 b5 b6 b7 z14 HC2 HC1
    have hcs : (k = 4 ∧ 4 < q) ∨ (k = 3 ∧ 5 < q) ∨ (((k : Int) == 4) = true ∧ ¬ (q : Int) > 4 ∧ ((k : Int) == 3) = false) ∨ (((k : Int) == 4) = false ∧ ((k : Int) == 3) = true ∧ ¬ (q : Int) > 5) ∨ (((k : Int) == 4) = false ∧ ((k : Int) == 3) = false) := by
      by_cases h4 : k = 4
      · subst h4
        by_cases h : 4 < q
        · exact .inl ⟨rfl, h⟩
        · exact .inr (.inr (.inl ⟨rfl, by omega, rfl⟩))
      · have e4 : ((k : Int) == 4) = false := by simp; omega
        by_cases h3 : k = 3
        · subst h3
          by_cases h : 5 < q
          · exact .inr (.inl ⟨rfl, h⟩)
          · exact .inr (.inr (.inr (.inl ⟨rfl, rfl, by omega⟩)))
        · exact .inr (.inr (.inr (.inr ⟨e4, by simp; omega⟩)))
    have hqm : IntKind.i64.wrap (q : Int) = (q : Int) := IntWalk.i64_in _ (by omega)
    rcases hcs with ⟨h4, hq4⟩ | ⟨h3, hq5⟩ | ⟨h4, h4q, h3⟩ | ⟨h4, h3, h3q⟩ | ⟨h4, h3⟩
    · have h4' : ((k : Int) == 4) = true := by subst h4; rfl
      have hq4' : (q : Int) > 4 := by omega
      clear h4
      go_wp2_with fail
      go_ret
      exact ⟨rfl, HB7.out⟩
    · have h3' : ((k : Int) == 3) = true := by subst h3; rfl
      have h4' : ((k : Int) == 4) = false := by subst h3; rfl
      have hq5' : (q : Int) > 5 := by omega
      clear h3
      go_wp2_with fail
      go_ret
      exact ⟨rfl, HB7.out⟩
    · go_upto_region 12 with fail
      clear h4 h4q h3
      have hmk := run_make_row' (P := Tryz.prog) 22 3 (.int .i64 0) 8 tInts.und tInts.info rfl .i64 .i64 q (by omega) (by omega)
      have hmi := make_ints w7 q (by simp only [maxLen]; omega)
      have b8 := (Below.refl w7.heap.size w7).alloc (Nat.le_refl _) (.cells (madeCells #[.int .i64 0] q) 3)
      obtain ⟨w8, hw8⟩ : ∃ w8, w7.alloc (.cells (madeCells #[.int .i64 0] q) 3) = w8 := ⟨_, rfl⟩
      rw [hw8] at hmi b8
      obtain ⟨g8, hg8⟩ : ∃ g8, w7.heap.size = g8 := ⟨_, rfl⟩
      have hx0 : wordQ k q 0 = List.replicate q 0 := by unfold wordQ; rw [if_pos (Nat.pow_pos hk1), digB_zeros]
      have HX0 : Hid (Sl w8 (some ⟨g8, 0, none⟩) q ((ints (wordQ k q 0)).map (Value.int .i64))) := Lib.hid (by
        rw [hx0, ← hg8]
        exact Sl.of_own hmi)
      have HW8 := Lib.hid hw8
      have HG8 := Lib.hid hg8
      have HB8 := Lib.hid b8
      have HQI := Lib.hid (fun (i : Nat) => (wordQ_in (q := q) hk1 (i := i)))
      have HKQ := Lib.hid HF.out.2.2.2.2.2.2
      clear hmi b8 hw8 hg8 hx0 r0 r1 r2 hr7
      go_wp2_with fail
      rw [HW8.out, HG8.out]
      clear hmk
      go_loopw [9, 10] (fun nv xv wl => ∃ (i c' l z : Nat) (P : Option Addr), nv = .int .u64 (z : Int) ∧ xv = .slice P l c' ∧ i ≤ k ^ q ∧ Hid (z = runsTo (fun v => hasB k r t v) k q i) ∧ Hid (l = (wordQ k q i).length) ∧ Hid (Sl wl P l ((ints (wordQ k q i)).map (Value.int .i64))) ∧ Hid (Below w7.heap.size w7 wl)) (fun _ xv wl => leftQ k q xv wl)
      case atStart => exact ⟨0, q, q, 0, some ⟨g8, 0, none⟩, rfl, rfl, Nat.zero_le _, Lib.hid rfl, Lib.hid ((HQI.out 0 (Nat.pow_pos hk1)).1).symm, HX0, HB8⟩
      case round =>
        obtain ⟨i, c', l, z, P, rfl, rfl, hi, hzz, hll, hsl, hBl⟩ := hrel
        clear HX0 HB8
        obtain ⟨v0, rfl⟩ : ∃ v0, v0 = wr := ⟨_, rfl⟩
        have HLF := Lib.hid (leftQ_eq (xv := .slice P l c') (w := v0) hk1 hi ⟨P, c', by rw [hll.out], by rw [← hll.out]; exact hsl.out⟩)
        by_cases hik : i < k ^ q
        · have hll' := hll.out
          rw [(HQI.out i hik).1] at hll'
          subst hll'
          obtain ⟨r0, r1, r2, _⟩ := HR7.out v0 hBl.out
          have hbw := HB7.out.trans (hBl.out.mono HB7.out.size)
          have hgd := has_good v0 E (HER.out _ hbw).1 k r A P n c l c' t (wordQ k l i) HF.out.1 HF.out.2.1 (HQI.out i hik).2.1 (HTS.out _ hbw) hsl.out (by have := HQ7.out; omega)
          unfold ruleV at hgd
          obtain ⟨bb, hbb⟩ : ∃ bb, hasB k r t (wordQ k l i) = bb := ⟨_, rfl⟩
          rw [hbb] at hgd
          have hzn := runsTo_succ (fun v => hasB k r t v) k l i
          rw [← hzz.out, ← (HQI.out i hik).2.2] at hzn
          have hzl := runsTo_le (fun v => hasB k r t v) k l i
          rw [← hzz.out] at hzl
          rw [hbb] at hzn
          have HZN := Lib.hid hzn
          have HGD := Lib.hid hgd
          have hkq' := HKQ.out
          obtain ⟨KQ, hKQ⟩ : ∃ KQ, k ^ l = KQ := ⟨_, rfl⟩
          have hz4 : z < 5000 := by omega
          have HIK := Lib.hid hik
          have HI := Lib.hid hi
          clear hgd hbb hzn hzl hkq' hKQ hik hi
          have hlt0 : decide ((-1 : Int) ≥ 0) = false := by decide
          go_wp2_with fail
          refine (HGD.out).mono ?_
          rintro e v1 ⟨rfl, b1⟩
          obtain ⟨r0, r1, r2, _⟩ := HR7.out v1 (pure_trans hBl.out b1)
          have hr7 : w.heap.size < v1.heap.size := by have h1 := (HR1.out.below HZ3.out HR1.out.lt).lt; have h2 := HZ37.out.size; have h3 := hBl.out.size; have h4 := b1.size; omega
          have hzw : IntKind.u64.wrap ((z : Int) + 1) = (z : Int) + 1 := IntWalk.u64_in _ (by omega)
          have HNX := Lib.hid (wordNext_c v1 k P l c' (wordQ k l i) hk1 hk4 (HQI.out i HIK.out).2.1 (HQI.out i HIK.out).1 (hsl.out.below b1) (by omega))
          rw [(wordQ_next hk1 HIK.out).1] at HNX
          obtain ⟨l2, hl2⟩ : ∃ l2, (wordQ k l (i + 1)).length = l2 := ⟨_, rfl⟩
          rw [hl2] at HNX
          have HL2 := Lib.hid hl2
          have HCM := Lib.hid (fun (wz : World) (hz : Below v1.heap.size v1 wz) (C2 : Option Addr) (cc2 : Nat) (hs2 : Sl wz C2 l2 ((ints (wordQ k l (i + 1))).map (Value.int .i64))) (hl2m : l2 ≤ 9223372036854775807) => (by
            have h := wordCmp_g wz P C2 l l2 c' cc2 (wordQ k l i) (wordQ k l (i + 1)) ((hsl.out.below b1).below hz) hs2 (by omega) hl2m
            rw [(wordQ_next hk1 HIK.out).2] at h
            exact h : Calls Tryz.prog 36 #[.slice P l c', .slice C2 l2 cc2] wz fun e w' => e = .returned (.int .i64 (-1)) ∧ Below wz.heap.size wz w'))
          clear hl2 HGD
          cases bb with
          | true =>
            go_wp2_with fail
            refine (HNX.out).mono ?_
            rintro e v2 ⟨C2, cc2, rfl, ho2, b2⟩
            have hl2m := Nat.le_trans (own_le ho2).1 (own_le ho2).2
            have HC := Lib.hid (HCM.out v2 b2 C2 cc2 (Sl.of_own ho2) (by simp only [maxLen] at hl2m; omega))
            go_wp2_with fail
            refine (HC.out).mono ?_
            rintro e v3 ⟨rfl, b3⟩
            have z3 := pure_trans hBl.out (pure_trans b1 (pure_trans b2 b3))
            have hs3 := (Sl.of_own ho2).below b3
            have HLE := Lib.hid (leftQ_eq (xv := .slice C2 l2 cc2) (w := v3) hk1 (show i + 1 ≤ k ^ l from HIK.out) ⟨C2, cc2, by rw [HL2.out], by rw [HL2.out]; exact hs3⟩)
            have HS3 := Lib.hid hs3
            have HZ3' := Lib.hid z3
            clear ho2 hl2m hs3 z3 b1 b2 b3 r0 r1 r2
            go_wp2_with fail
            exact ⟨⟨i + 1, cc2, l2, z + 1, C2, by go_num, rfl, HIK.out, Lib.hid (by rw [HZN.out]; rfl), Lib.hid HL2.out.symm, HS3, HZ3'⟩, by rw [HLE.out, HLF.out]; have := HIK.out; omega⟩
          | false =>
            go_wp2_with fail
            refine (HNX.out).mono ?_
            rintro e v2 ⟨C2, cc2, rfl, ho2, b2⟩
            have hl2m := Nat.le_trans (own_le ho2).1 (own_le ho2).2
            have HC := Lib.hid (HCM.out v2 b2 C2 cc2 (Sl.of_own ho2) (by simp only [maxLen] at hl2m; omega))
            go_wp2_with fail
            refine (HC.out).mono ?_
            rintro e v3 ⟨rfl, b3⟩
            have z3 := pure_trans hBl.out (pure_trans b1 (pure_trans b2 b3))
            have hs3 := (Sl.of_own ho2).below b3
            have HLE := Lib.hid (leftQ_eq (xv := .slice C2 l2 cc2) (w := v3) hk1 (show i + 1 ≤ k ^ l from HIK.out) ⟨C2, cc2, by rw [HL2.out], by rw [HL2.out]; exact hs3⟩)
            have HS3 := Lib.hid hs3
            have HZ3' := Lib.hid z3
            clear ho2 hl2m hs3 z3 b1 b2 b3 r0 r1 r2
            go_wp2_with fail
            exact ⟨⟨i + 1, cc2, l2, z, C2, rfl, rfl, HIK.out, Lib.hid (by rw [HZN.out]; rfl), Lib.hid HL2.out.symm, HS3, HZ3'⟩, by rw [HLE.out, HLF.out]; have := HIK.out; omega⟩
        · obtain rfl : i = k ^ q := by omega
          have hne : ((l : Int) == (q : Int)) = false := by
            have h1 := hll.out
            rw [wordQ_end] at h1
            simp
            omega
          have hne' : ¬ (l : Int) = (q : Int) := by
            have h1 := hll.out
            rw [wordQ_end] at h1
            omega
          have hzX : z = X := by rw [hzz.out, HF.out.2.2.2.2.2.1]
          have hzl := runsTo_le (fun v => hasB k r t v) k q (k ^ q)
          rw [← hzz.out] at hzl
          have hz4 : z ≤ 4096 := Nat.le_trans hzl HKQ.out
          have HFR := Lib.hid (fromL_n v0 z (by omega))
          have HXV := Lib.hid (HX3.out.below (pure_trans HZ37.out hBl.out))
          have HZX := Lib.hid hzX
          have HBV := Lib.hid (HB7.out.trans (hBl.out.mono HB7.out.size))
          have hlz : (limbs z).length ≤ 17 := limbs_len_of_lt _ _ (Nat.lt_of_lt_of_le (Nat.lt_of_le_of_lt hz4 (show 4096 < 4 ^ 7 by decide)) (Nat.le_of_lt (pow_fit (e := 7) (by decide))))
          clear hzX hzl hsl hll hzz
          go_wp2_with fail
          refine (HFR.out).mono ?_
          rintro e v1 ⟨C5, c5, rfl, hn5, ho5, b5⟩
          have HCM := Lib.hid (cmp_n (HXV.out.below b5) hn5 (r := 0) (by rw [HZX.out]; exact cmpN_eq X))
          clear hn5 ho5
          go_wp2_with fail
          refine (HCM.out).mono ?_
          rintro e v2 ⟨rfl, b6⟩
          go_wp2_with fail
          go_ret
          exact ⟨rfl, HBV.out.trans ((pure_trans b5 b6).mono HBV.out.size)⟩
    · go_upto_region 12 with fail
      clear h4 h3 h3q
      have hmk := run_make_row' (P := Tryz.prog) 22 3 (.int .i64 0) 8 tInts.und tInts.info rfl .i64 .i64 q (by omega) (by omega)
      have hmi := make_ints w7 q (by simp only [maxLen]; omega)
      have b8 := (Below.refl w7.heap.size w7).alloc (Nat.le_refl _) (.cells (madeCells #[.int .i64 0] q) 3)
      obtain ⟨w8, hw8⟩ : ∃ w8, w7.alloc (.cells (madeCells #[.int .i64 0] q) 3) = w8 := ⟨_, rfl⟩
      rw [hw8] at hmi b8
      obtain ⟨g8, hg8⟩ : ∃ g8, w7.heap.size = g8 := ⟨_, rfl⟩
      have hx0 : wordQ k q 0 = List.replicate q 0 := by unfold wordQ; rw [if_pos (Nat.pow_pos hk1), digB_zeros]
      have HX0 : Hid (Sl w8 (some ⟨g8, 0, none⟩) q ((ints (wordQ k q 0)).map (Value.int .i64))) := Lib.hid (by
        rw [hx0, ← hg8]
        exact Sl.of_own hmi)
      have HW8 := Lib.hid hw8
      have HG8 := Lib.hid hg8
      have HB8 := Lib.hid b8
      have HQI := Lib.hid (fun (i : Nat) => (wordQ_in (q := q) hk1 (i := i)))
      have HKQ := Lib.hid HF.out.2.2.2.2.2.2
      clear hmi b8 hw8 hg8 hx0 r0 r1 r2 hr7
      go_wp2_with fail
      rw [HW8.out, HG8.out]
      clear hmk
      go_loopw [9, 10] (fun nv xv wl => ∃ (i c' l z : Nat) (P : Option Addr), nv = .int .u64 (z : Int) ∧ xv = .slice P l c' ∧ i ≤ k ^ q ∧ Hid (z = runsTo (fun v => hasB k r t v) k q i) ∧ Hid (l = (wordQ k q i).length) ∧ Hid (Sl wl P l ((ints (wordQ k q i)).map (Value.int .i64))) ∧ Hid (Below w7.heap.size w7 wl)) (fun _ xv wl => leftQ k q xv wl)
      case atStart => exact ⟨0, q, q, 0, some ⟨g8, 0, none⟩, rfl, rfl, Nat.zero_le _, Lib.hid rfl, Lib.hid ((HQI.out 0 (Nat.pow_pos hk1)).1).symm, HX0, HB8⟩
      case round =>
        obtain ⟨i, c', l, z, P, rfl, rfl, hi, hzz, hll, hsl, hBl⟩ := hrel
        clear HX0 HB8
        obtain ⟨v0, rfl⟩ : ∃ v0, v0 = wr := ⟨_, rfl⟩
        have HLF := Lib.hid (leftQ_eq (xv := .slice P l c') (w := v0) hk1 hi ⟨P, c', by rw [hll.out], by rw [← hll.out]; exact hsl.out⟩)
        by_cases hik : i < k ^ q
        · have hll' := hll.out
          rw [(HQI.out i hik).1] at hll'
          subst hll'
          obtain ⟨r0, r1, r2, _⟩ := HR7.out v0 hBl.out
          have hbw := HB7.out.trans (hBl.out.mono HB7.out.size)
          have hgd := has_good v0 E (HER.out _ hbw).1 k r A P n c l c' t (wordQ k l i) HF.out.1 HF.out.2.1 (HQI.out i hik).2.1 (HTS.out _ hbw) hsl.out (by have := HQ7.out; omega)
          unfold ruleV at hgd
          obtain ⟨bb, hbb⟩ : ∃ bb, hasB k r t (wordQ k l i) = bb := ⟨_, rfl⟩
          rw [hbb] at hgd
          have hzn := runsTo_succ (fun v => hasB k r t v) k l i
          rw [← hzz.out, ← (HQI.out i hik).2.2] at hzn
          have hzl := runsTo_le (fun v => hasB k r t v) k l i
          rw [← hzz.out] at hzl
          rw [hbb] at hzn
          have HZN := Lib.hid hzn
          have HGD := Lib.hid hgd
          have hkq' := HKQ.out
          obtain ⟨KQ, hKQ⟩ : ∃ KQ, k ^ l = KQ := ⟨_, rfl⟩
          have hz4 : z < 5000 := by omega
          have HIK := Lib.hid hik
          have HI := Lib.hid hi
          clear hgd hbb hzn hzl hkq' hKQ hik hi
          have hlt0 : decide ((-1 : Int) ≥ 0) = false := by decide
          go_wp2_with fail
          refine (HGD.out).mono ?_
          rintro e v1 ⟨rfl, b1⟩
          obtain ⟨r0, r1, r2, _⟩ := HR7.out v1 (pure_trans hBl.out b1)
          have hr7 : w.heap.size < v1.heap.size := by have h1 := (HR1.out.below HZ3.out HR1.out.lt).lt; have h2 := HZ37.out.size; have h3 := hBl.out.size; have h4 := b1.size; omega
          have hzw : IntKind.u64.wrap ((z : Int) + 1) = (z : Int) + 1 := IntWalk.u64_in _ (by omega)
          have HNX := Lib.hid (wordNext_c v1 k P l c' (wordQ k l i) hk1 hk4 (HQI.out i HIK.out).2.1 (HQI.out i HIK.out).1 (hsl.out.below b1) (by omega))
          rw [(wordQ_next hk1 HIK.out).1] at HNX
          obtain ⟨l2, hl2⟩ : ∃ l2, (wordQ k l (i + 1)).length = l2 := ⟨_, rfl⟩
          rw [hl2] at HNX
          have HL2 := Lib.hid hl2
          have HCM := Lib.hid (fun (wz : World) (hz : Below v1.heap.size v1 wz) (C2 : Option Addr) (cc2 : Nat) (hs2 : Sl wz C2 l2 ((ints (wordQ k l (i + 1))).map (Value.int .i64))) (hl2m : l2 ≤ 9223372036854775807) => (by
            have h := wordCmp_g wz P C2 l l2 c' cc2 (wordQ k l i) (wordQ k l (i + 1)) ((hsl.out.below b1).below hz) hs2 (by omega) hl2m
            rw [(wordQ_next hk1 HIK.out).2] at h
            exact h : Calls Tryz.prog 36 #[.slice P l c', .slice C2 l2 cc2] wz fun e w' => e = .returned (.int .i64 (-1)) ∧ Below wz.heap.size wz w'))
          clear hl2 HGD
          cases bb with
          | true =>
            go_wp2_with fail
            refine (HNX.out).mono ?_
            rintro e v2 ⟨C2, cc2, rfl, ho2, b2⟩
            have hl2m := Nat.le_trans (own_le ho2).1 (own_le ho2).2
            have HC := Lib.hid (HCM.out v2 b2 C2 cc2 (Sl.of_own ho2) (by simp only [maxLen] at hl2m; omega))
            go_wp2_with fail
            refine (HC.out).mono ?_
            rintro e v3 ⟨rfl, b3⟩
            have z3 := pure_trans hBl.out (pure_trans b1 (pure_trans b2 b3))
            have hs3 := (Sl.of_own ho2).below b3
            have HLE := Lib.hid (leftQ_eq (xv := .slice C2 l2 cc2) (w := v3) hk1 (show i + 1 ≤ k ^ l from HIK.out) ⟨C2, cc2, by rw [HL2.out], by rw [HL2.out]; exact hs3⟩)
            have HS3 := Lib.hid hs3
            have HZ3' := Lib.hid z3
            clear ho2 hl2m hs3 z3 b1 b2 b3 r0 r1 r2
            go_wp2_with fail
            exact ⟨⟨i + 1, cc2, l2, z + 1, C2, by go_num, rfl, HIK.out, Lib.hid (by rw [HZN.out]; rfl), Lib.hid HL2.out.symm, HS3, HZ3'⟩, by rw [HLE.out, HLF.out]; have := HIK.out; omega⟩
          | false =>
            go_wp2_with fail
            refine (HNX.out).mono ?_
            rintro e v2 ⟨C2, cc2, rfl, ho2, b2⟩
            have hl2m := Nat.le_trans (own_le ho2).1 (own_le ho2).2
            have HC := Lib.hid (HCM.out v2 b2 C2 cc2 (Sl.of_own ho2) (by simp only [maxLen] at hl2m; omega))
            go_wp2_with fail
            refine (HC.out).mono ?_
            rintro e v3 ⟨rfl, b3⟩
            have z3 := pure_trans hBl.out (pure_trans b1 (pure_trans b2 b3))
            have hs3 := (Sl.of_own ho2).below b3
            have HLE := Lib.hid (leftQ_eq (xv := .slice C2 l2 cc2) (w := v3) hk1 (show i + 1 ≤ k ^ l from HIK.out) ⟨C2, cc2, by rw [HL2.out], by rw [HL2.out]; exact hs3⟩)
            have HS3 := Lib.hid hs3
            have HZ3' := Lib.hid z3
            clear ho2 hl2m hs3 z3 b1 b2 b3 r0 r1 r2
            go_wp2_with fail
            exact ⟨⟨i + 1, cc2, l2, z, C2, rfl, rfl, HIK.out, Lib.hid (by rw [HZN.out]; rfl), Lib.hid HL2.out.symm, HS3, HZ3'⟩, by rw [HLE.out, HLF.out]; have := HIK.out; omega⟩
        · obtain rfl : i = k ^ q := by omega
          have hne : ((l : Int) == (q : Int)) = false := by
            have h1 := hll.out
            rw [wordQ_end] at h1
            simp
            omega
          have hne' : ¬ (l : Int) = (q : Int) := by
            have h1 := hll.out
            rw [wordQ_end] at h1
            omega
          have hzX : z = X := by rw [hzz.out, HF.out.2.2.2.2.2.1]
          have hzl := runsTo_le (fun v => hasB k r t v) k q (k ^ q)
          rw [← hzz.out] at hzl
          have hz4 : z ≤ 4096 := Nat.le_trans hzl HKQ.out
          have HFR := Lib.hid (fromL_n v0 z (by omega))
          have HXV := Lib.hid (HX3.out.below (pure_trans HZ37.out hBl.out))
          have HZX := Lib.hid hzX
          have HBV := Lib.hid (HB7.out.trans (hBl.out.mono HB7.out.size))
          have hlz : (limbs z).length ≤ 17 := limbs_len_of_lt _ _ (Nat.lt_of_lt_of_le (Nat.lt_of_le_of_lt hz4 (show 4096 < 4 ^ 7 by decide)) (Nat.le_of_lt (pow_fit (e := 7) (by decide))))
          clear hzX hzl hsl hll hzz
          go_wp2_with fail
          refine (HFR.out).mono ?_
          rintro e v1 ⟨C5, c5, rfl, hn5, ho5, b5⟩
          have HCM := Lib.hid (cmp_n (HXV.out.below b5) hn5 (r := 0) (by rw [HZX.out]; exact cmpN_eq X))
          clear hn5 ho5
          go_wp2_with fail
          refine (HCM.out).mono ?_
          rintro e v2 ⟨rfl, b6⟩
          go_wp2_with fail
          go_ret
          exact ⟨rfl, HBV.out.trans ((pure_trans b5 b6).mono HBV.out.size)⟩
    · go_upto_region 12 with fail
      clear h4 h3
      have hmk := run_make_row' (P := Tryz.prog) 22 3 (.int .i64 0) 8 tInts.und tInts.info rfl .i64 .i64 q (by omega) (by omega)
      have hmi := make_ints w7 q (by simp only [maxLen]; omega)
      have b8 := (Below.refl w7.heap.size w7).alloc (Nat.le_refl _) (.cells (madeCells #[.int .i64 0] q) 3)
      obtain ⟨w8, hw8⟩ : ∃ w8, w7.alloc (.cells (madeCells #[.int .i64 0] q) 3) = w8 := ⟨_, rfl⟩
      rw [hw8] at hmi b8
      obtain ⟨g8, hg8⟩ : ∃ g8, w7.heap.size = g8 := ⟨_, rfl⟩
      have hx0 : wordQ k q 0 = List.replicate q 0 := by unfold wordQ; rw [if_pos (Nat.pow_pos hk1), digB_zeros]
      have HX0 : Hid (Sl w8 (some ⟨g8, 0, none⟩) q ((ints (wordQ k q 0)).map (Value.int .i64))) := Lib.hid (by
        rw [hx0, ← hg8]
        exact Sl.of_own hmi)
      have HW8 := Lib.hid hw8
      have HG8 := Lib.hid hg8
      have HB8 := Lib.hid b8
      have HQI := Lib.hid (fun (i : Nat) => (wordQ_in (q := q) hk1 (i := i)))
      have HKQ := Lib.hid HF.out.2.2.2.2.2.2
      clear hmi b8 hw8 hg8 hx0 r0 r1 r2 hr7
      go_wp2_with fail
      rw [HW8.out, HG8.out]
      clear hmk
      go_loopw [9, 10] (fun nv xv wl => ∃ (i c' l z : Nat) (P : Option Addr), nv = .int .u64 (z : Int) ∧ xv = .slice P l c' ∧ i ≤ k ^ q ∧ Hid (z = runsTo (fun v => hasB k r t v) k q i) ∧ Hid (l = (wordQ k q i).length) ∧ Hid (Sl wl P l ((ints (wordQ k q i)).map (Value.int .i64))) ∧ Hid (Below w7.heap.size w7 wl)) (fun _ xv wl => leftQ k q xv wl)
      case atStart => exact ⟨0, q, q, 0, some ⟨g8, 0, none⟩, rfl, rfl, Nat.zero_le _, Lib.hid rfl, Lib.hid ((HQI.out 0 (Nat.pow_pos hk1)).1).symm, HX0, HB8⟩
      case round =>
        obtain ⟨i, c', l, z, P, rfl, rfl, hi, hzz, hll, hsl, hBl⟩ := hrel
        clear HX0 HB8
        obtain ⟨v0, rfl⟩ : ∃ v0, v0 = wr := ⟨_, rfl⟩
        have HLF := Lib.hid (leftQ_eq (xv := .slice P l c') (w := v0) hk1 hi ⟨P, c', by rw [hll.out], by rw [← hll.out]; exact hsl.out⟩)
        by_cases hik : i < k ^ q
        · have hll' := hll.out
          rw [(HQI.out i hik).1] at hll'
          subst hll'
          obtain ⟨r0, r1, r2, _⟩ := HR7.out v0 hBl.out
          have hbw := HB7.out.trans (hBl.out.mono HB7.out.size)
          have hgd := has_good v0 E (HER.out _ hbw).1 k r A P n c l c' t (wordQ k l i) HF.out.1 HF.out.2.1 (HQI.out i hik).2.1 (HTS.out _ hbw) hsl.out (by have := HQ7.out; omega)
          unfold ruleV at hgd
          obtain ⟨bb, hbb⟩ : ∃ bb, hasB k r t (wordQ k l i) = bb := ⟨_, rfl⟩
          rw [hbb] at hgd
          have hzn := runsTo_succ (fun v => hasB k r t v) k l i
          rw [← hzz.out, ← (HQI.out i hik).2.2] at hzn
          have hzl := runsTo_le (fun v => hasB k r t v) k l i
          rw [← hzz.out] at hzl
          rw [hbb] at hzn
          have HZN := Lib.hid hzn
          have HGD := Lib.hid hgd
          have hkq' := HKQ.out
          obtain ⟨KQ, hKQ⟩ : ∃ KQ, k ^ l = KQ := ⟨_, rfl⟩
          have hz4 : z < 5000 := by omega
          have HIK := Lib.hid hik
          have HI := Lib.hid hi
          clear hgd hbb hzn hzl hkq' hKQ hik hi
          have hlt0 : decide ((-1 : Int) ≥ 0) = false := by decide
          go_wp2_with fail
          refine (HGD.out).mono ?_
          rintro e v1 ⟨rfl, b1⟩
          obtain ⟨r0, r1, r2, _⟩ := HR7.out v1 (pure_trans hBl.out b1)
          have hr7 : w.heap.size < v1.heap.size := by have h1 := (HR1.out.below HZ3.out HR1.out.lt).lt; have h2 := HZ37.out.size; have h3 := hBl.out.size; have h4 := b1.size; omega
          have hzw : IntKind.u64.wrap ((z : Int) + 1) = (z : Int) + 1 := IntWalk.u64_in _ (by omega)
          have HNX := Lib.hid (wordNext_c v1 k P l c' (wordQ k l i) hk1 hk4 (HQI.out i HIK.out).2.1 (HQI.out i HIK.out).1 (hsl.out.below b1) (by omega))
          rw [(wordQ_next hk1 HIK.out).1] at HNX
          obtain ⟨l2, hl2⟩ : ∃ l2, (wordQ k l (i + 1)).length = l2 := ⟨_, rfl⟩
          rw [hl2] at HNX
          have HL2 := Lib.hid hl2
          have HCM := Lib.hid (fun (wz : World) (hz : Below v1.heap.size v1 wz) (C2 : Option Addr) (cc2 : Nat) (hs2 : Sl wz C2 l2 ((ints (wordQ k l (i + 1))).map (Value.int .i64))) (hl2m : l2 ≤ 9223372036854775807) => (by
            have h := wordCmp_g wz P C2 l l2 c' cc2 (wordQ k l i) (wordQ k l (i + 1)) ((hsl.out.below b1).below hz) hs2 (by omega) hl2m
            rw [(wordQ_next hk1 HIK.out).2] at h
            exact h : Calls Tryz.prog 36 #[.slice P l c', .slice C2 l2 cc2] wz fun e w' => e = .returned (.int .i64 (-1)) ∧ Below wz.heap.size wz w'))
          clear hl2 HGD
          cases bb with
          | true =>
            go_wp2_with fail
            refine (HNX.out).mono ?_
            rintro e v2 ⟨C2, cc2, rfl, ho2, b2⟩
            have hl2m := Nat.le_trans (own_le ho2).1 (own_le ho2).2
            have HC := Lib.hid (HCM.out v2 b2 C2 cc2 (Sl.of_own ho2) (by simp only [maxLen] at hl2m; omega))
            go_wp2_with fail
            refine (HC.out).mono ?_
            rintro e v3 ⟨rfl, b3⟩
            have z3 := pure_trans hBl.out (pure_trans b1 (pure_trans b2 b3))
            have hs3 := (Sl.of_own ho2).below b3
            have HLE := Lib.hid (leftQ_eq (xv := .slice C2 l2 cc2) (w := v3) hk1 (show i + 1 ≤ k ^ l from HIK.out) ⟨C2, cc2, by rw [HL2.out], by rw [HL2.out]; exact hs3⟩)
            have HS3 := Lib.hid hs3
            have HZ3' := Lib.hid z3
            clear ho2 hl2m hs3 z3 b1 b2 b3 r0 r1 r2
            go_wp2_with fail
            exact ⟨⟨i + 1, cc2, l2, z + 1, C2, by go_num, rfl, HIK.out, Lib.hid (by rw [HZN.out]; rfl), Lib.hid HL2.out.symm, HS3, HZ3'⟩, by rw [HLE.out, HLF.out]; have := HIK.out; omega⟩
          | false =>
            go_wp2_with fail
            refine (HNX.out).mono ?_
            rintro e v2 ⟨C2, cc2, rfl, ho2, b2⟩
            have hl2m := Nat.le_trans (own_le ho2).1 (own_le ho2).2
            have HC := Lib.hid (HCM.out v2 b2 C2 cc2 (Sl.of_own ho2) (by simp only [maxLen] at hl2m; omega))
            go_wp2_with fail
            refine (HC.out).mono ?_
            rintro e v3 ⟨rfl, b3⟩
            have z3 := pure_trans hBl.out (pure_trans b1 (pure_trans b2 b3))
            have hs3 := (Sl.of_own ho2).below b3
            have HLE := Lib.hid (leftQ_eq (xv := .slice C2 l2 cc2) (w := v3) hk1 (show i + 1 ≤ k ^ l from HIK.out) ⟨C2, cc2, by rw [HL2.out], by rw [HL2.out]; exact hs3⟩)
            have HS3 := Lib.hid hs3
            have HZ3' := Lib.hid z3
            clear ho2 hl2m hs3 z3 b1 b2 b3 r0 r1 r2
            go_wp2_with fail
            exact ⟨⟨i + 1, cc2, l2, z, C2, rfl, rfl, HIK.out, Lib.hid (by rw [HZN.out]; rfl), Lib.hid HL2.out.symm, HS3, HZ3'⟩, by rw [HLE.out, HLF.out]; have := HIK.out; omega⟩
        · obtain rfl : i = k ^ q := by omega
          have hne : ((l : Int) == (q : Int)) = false := by
            have h1 := hll.out
            rw [wordQ_end] at h1
            simp
            omega
          have hne' : ¬ (l : Int) = (q : Int) := by
            have h1 := hll.out
            rw [wordQ_end] at h1
            omega
          have hzX : z = X := by rw [hzz.out, HF.out.2.2.2.2.2.1]
          have hzl := runsTo_le (fun v => hasB k r t v) k q (k ^ q)
          rw [← hzz.out] at hzl
          have hz4 : z ≤ 4096 := Nat.le_trans hzl HKQ.out
          have HFR := Lib.hid (fromL_n v0 z (by omega))
          have HXV := Lib.hid (HX3.out.below (pure_trans HZ37.out hBl.out))
          have HZX := Lib.hid hzX
          have HBV := Lib.hid (HB7.out.trans (hBl.out.mono HB7.out.size))
          have hlz : (limbs z).length ≤ 17 := limbs_len_of_lt _ _ (Nat.lt_of_lt_of_le (Nat.lt_of_le_of_lt hz4 (show 4096 < 4 ^ 7 by decide)) (Nat.le_of_lt (pow_fit (e := 7) (by decide))))
          clear hzX hzl hsl hll hzz
          go_wp2_with fail
          refine (HFR.out).mono ?_
          rintro e v1 ⟨C5, c5, rfl, hn5, ho5, b5⟩
          have HCM := Lib.hid (cmp_n (HXV.out.below b5) hn5 (r := 0) (by rw [HZX.out]; exact cmpN_eq X))
          clear hn5 ho5
          go_wp2_with fail
          refine (HCM.out).mono ?_
          rintro e v2 ⟨rfl, b6⟩
          go_wp2_with fail
          go_ret
          exact ⟨rfl, HBV.out.trans ((pure_trans b5 b6).mono HBV.out.size)⟩
end Go.Proofs.YthilnpfpllplaaaGreatDoor
