/- edenref11.Words, the walk: any rule, any length. Condition: the table reads from memory. -/
import Derived.Test.YthilnpfpllplaaaGreatDoorQ20
import Derived.Test.YthilnpfpllplaaaGreatDoorQ21
import Derived.Test.YthilnpfpllplaaaGreatDoorQ23
import Derived.Test.YthilnpfpllplaaaGreatDoorQ25
namespace Go.Proofs.YthilnpfpllplaaaGreatDoor
open Go.RowKit BagP RuleP SubP NatP

theorem rowB_le {U : List Nat} {M : Nat} (hU : ∀ i, U.getD i 0 ≤ M) : ∀ r : List Int, rowB U r ≤ r.length * M := by
  have key : ∀ (r : List Int) (b : Nat), r.foldl (fun n t => if t < 0 then n else n + U.getD t.toNat 0) b ≤ b + r.length * M := by
    intro r
    induction r with
    | nil => intro b; simp
    | cons t r ih =>
      intro b
      rw [List.foldl_cons]
      refine Nat.le_trans (ih _) ?_
      have := hU t.toNat
      rw [List.length_cons, Nat.succ_mul]
      split <;> omega
  intro r
  have := key r 0
  rw [Nat.zero_add] at this
  exact this
theorem waysB_at {F : List (List Int)} {n i : Nat} (hi : i < F.length) : (waysB F (n + 1)).getD i 0 = rowB (waysB F n) (F.getD i []) := by
  rw [waysB, stepB, List.getD_eq_getElem?_getD, List.getElem?_map, List.getElem?_eq_getElem hi, List.getD_eq_getElem?_getD, List.getElem?_eq_getElem hi]
  rfl
theorem waysB_le {k : Nat} {F : List (List Int)} (hA : IsAuto k F) : ∀ n i, (waysB F n).getD i 0 ≤ k ^ n
  | 0, i => by
    rw [waysB, List.getD_eq_getElem?_getD, List.getElem?_replicate, Nat.pow_zero]
    split <;> simp
  | n + 1, i => by
    by_cases hi : i < F.length
    · rw [waysB_at hi, Nat.pow_succ, Nat.mul_comm]
      have := rowB_le (waysB_le hA n) (F.getD i [])
      rwa [(hA.row hi).1] at this
    · rw [List.getD_eq_getElem?_getD, List.getElem?_eq_none (by rw [waysB_len]; omega)]
      simp
theorem backs_len {k : Nat} {F : List (List Int)} (hA : IsAuto k F) (hk : k ≤ 4) {m : Nat} (hm : m ≤ 256) (j : Nat) : (limbs ((waysB F m).getD j 0)).length ≤ 17 := by
  refine limbs_len_of_lt _ _ ?_
  have h2 := waysB_le hA m j
  have h3 : k ^ m < W32 ^ 17 := Nat.lt_of_le_of_lt (Nat.pow_le_pow_left hk _) (pow_fit (by omega))
  omega
theorem part_len {k : Nat} {F : List (List Int)} (hA : IsAuto k F) (hk : k ≤ 4) {m : Nat} (hm : m ≤ 256) {s : Nat} (hs : s ≤ k) (r : List Int) : (limbs (rowB (waysB F m) (r.take s))).length ≤ 17 := by
  refine limbs_len_of_lt _ _ ?_
  have h1 := rowB_le (waysB_le hA m) (r.take s)
  have h2 : (r.take s).length * k ^ m ≤ k * k ^ m := Nat.mul_le_mul_right _ (Nat.le_trans (List.length_take_le s _) hs)
  have h8 : k * k ^ m < W32 ^ 17 := by
    rw [Nat.mul_comm, ← Nat.pow_succ]
    exact Nat.lt_of_le_of_lt (Nat.pow_le_pow_left hk _) (pow_fit (by omega))
  omega
/-- The first i states told, of the next one a part of its row. -/
def partB (F : List (List Int)) (U : List Nat) (i s : Nat) : List Nat := (F.take i).map (rowB U) ++ rowB U ((F.getD i []).take s) :: List.replicate (F.length - (i + 1)) 0
def doneB (F : List (List Int)) (U : List Nat) (i : Nat) : List Nat := (F.take i).map (rowB U) ++ List.replicate (F.length - i) 0
theorem partB_len {F : List (List Int)} {U : List Nat} {i s : Nat} (hi : i < F.length) : (partB F U i s).length = F.length := by
  unfold partB; simp; omega
theorem partB_zero {F : List (List Int)} {U : List Nat} {i : Nat} (hi : i < F.length) : partB F U i 0 = doneB F U i := by
  unfold partB doneB
  rw [List.take_zero, rowB_nil, show F.length - i = (F.length - (i + 1)) + 1 by omega, List.replicate_succ]
theorem partB_full {F : List (List Int)} {U : List Nat} {i s : Nat} (hi : i < F.length) (hs : (F.getD i []).length ≤ s) : partB F U i s = doneB F U (i + 1) := by
  unfold partB doneB
  rw [List.take_of_length_le hs, List.take_add_one, List.map_append, List.getElem?_eq_getElem hi, List.getD_eq_getElem?_getD, List.getElem?_eq_getElem hi]
  simp
theorem partB_neg {F : List (List Int)} {U : List Nat} {i s : Nat} {y : Int} (hy : (F.getD i [])[s]? = some y) (hn : y < 0) : partB F U i (s + 1) = partB F U i s := by
  unfold partB
  rw [List.take_add_one, hy, Option.toList_some, rowB_snoc, if_pos hn]
theorem partB_at {F : List (List Int)} {U : List Nat} {i s : Nat} (hi : i < F.length) : (partB F U i s).getD i 0 = rowB U ((F.getD i []).take s) := by
  unfold partB
  rw [List.getD_eq_getElem?_getD, List.getElem?_append_right (by simp; omega)]
  simp [Nat.min_eq_left (Nat.le_of_lt hi)]
theorem partB_set {F : List (List Int)} {U : List Nat} {i s : Nat} {y : Int} (hi : i < F.length) (hy : (F.getD i [])[s]? = some y) (hn : ¬ y < 0) : partB F U i (s + 1) = (partB F U i s).set i (rowB U ((F.getD i []).take s) + U.getD y.toNat 0) := by
  unfold partB
  rw [List.take_add_one, hy, Option.toList_some, rowB_snoc, if_neg hn, List.set_append_right _ _ (by simp; omega)]
  simp [Nat.min_eq_left (Nat.le_of_lt hi)]
theorem doneB_all {F : List (List Int)} {n : Nat} : doneB F (waysB F n) F.length = waysB F (n + 1) := by
  unfold doneB
  rw [List.take_length, Nat.sub_self, List.replicate_zero, List.append_nil]
  rfl
theorem ones_set {m i : Nat} (hi : i < m) : (List.replicate i 1 ++ List.replicate (m - i) 0).set i 1 = List.replicate (i + 1) 1 ++ List.replicate (m - (i + 1)) (0 : Nat) := by
  rw [List.set_append_right _ _ (by simp), List.length_replicate, Nat.sub_self, show m - i = (m - (i + 1)) + 1 by omega, List.replicate_succ, List.set_cons_zero, List.replicate_succ', List.append_assoc]
  rfl
theorem limbs_one : limbs 1 = [1] := limbs_of (ok_one (by decide)) (by intro x hx; simp at hx; omega) (by simp [val, valB])

set_option maxRecDepth 100000 in
set_option maxHeartbeats 1000000 in
theorem refWords_bad (w : World) (K R : Int) (A : Option Addr) (n c : Nat) (T : List Int) (hT : Sl w A n (T.map (Value.int .i64))) (hm : n ≤ 9223372036854775807) (N' : Int) (tl : Tale) (hbad : walkF K R T = (0, [], [], some tl)) :
    Calls Tryz.prog 15 #[ruleV K R A n c, .int .i64 N'] w fun e w' => ∃ (N : Nat) (A1 : Option Addr) (n1 c1 : Nat) (A2 : Option Addr) (n2 c2 : Nat),
      e = .returned (.tuple #[.slice none 0 0, .agg #[.int .i64 (N : Int), .slice A1 n1 c1, .slice A2 n2 c2]]) ∧
      WantB w' w.heap.size (some (tl.1, (sImage, 0) :: tl.2)) (.agg #[.int .i64 (N : Int), .slice A1 n1 c1, .slice A2 n2 c2]) ∧ Below w.heap.size w w' := by
  have hw0 := WantAt.new (w.alloc (.cells #[.int .i64 K, .int .i64 R, .slice A n c] 24)) (.int .i64 0) (.slice none 0 0) (.slice none 0 0)
  rw [World.size_alloc] at hw0
  have hb0 := ((Below.refl w.heap.size w).alloc (Nat.le_refl _) (.cells #[.int .i64 K, .int .i64 R, .slice A n c] 24)).alloc (by simp) (.cells #[.int .i64 0, .slice none 0 0, .slice none 0 0] 34)
  obtain ⟨wx, hwx⟩ : ∃ wx, (w.alloc (.cells #[.int .i64 K, .int .i64 R, .slice A n c] 24)).alloc (.cells #[.int .i64 0, .slice none 0 0, .slice none 0 0] 34) = wx := ⟨_, rfl⟩
  have hsx : wx.heap.size = w.heap.size + 2 := by rw [← hwx]; simp
  rw [hwx] at hw0 hb0
  have hwk := refLeast_u wx K R A n c T (hT.below hb0) hm
  have hto := under_ok (op := sImage) (i := 0) (walkF_ok K R T)
  rw [hbad] at hto
  rw [ofF_bad hbad] at hwk
  dsimp only [under] at hwk
  unfold ruleV autoV at hwk
  have HWK := Lib.hid hwk
  have HWX := Lib.hid hwx
  have HTO := Lib.hid hto
  have HW0 := Lib.hid hw0
  have HB0 := Lib.hid hb0
  have HSX := Lib.hid hsx
  clear hwk hwx hto hw0 hb0 hsx hT hbad
  unfold ruleV
  go_enter Tryz.func15, Tryz.ntmps15
  go_wp2_with fail
  rw [HWX.out]
  refine (HWK.out).mono ?_
  rintro e w1 ⟨C, cc, rows, N, A1, n1, c1, A2, n2, c2, rfl, _, hu, hb1⟩
  clear HWK
  have hs1 := hb1.size
  have hsx := HSX.out
  have hw1 := HW0.out.below hb1 (by omega)
  have hb12 := (Below.refl w1.heap.size w1).alloc (Nat.le_refl _) (.cells #[.int .i64 0, .slice C 0 cc] 50)
  have hE3 := WantAt.new (w1.alloc (.cells #[.int .i64 0, .slice C 0 cc] 50)) (.int .i64 (N : Int)) (.slice A1 n1 c1) (.slice A2 n2 c2)
  have hb23 := (Below.refl (w1.alloc (.cells #[.int .i64 0, .slice C 0 cc] 50)).heap.size (w1.alloc (.cells #[.int .i64 0, .slice C 0 cc] 50))).alloc (Nat.le_refl _) (.cells #[.int .i64 (N : Int), .slice A1 n1 c1, .slice A2 n2 c2] 34)
  have hb13 := hb12.trans (hb23.mono hb12.size)
  rw [World.size_alloc] at hE3
  obtain ⟨w3, hw3⟩ : ∃ w3, (w1.alloc (.cells #[.int .i64 0, .slice C 0 cc] 50)).alloc (.cells #[.int .i64 (N : Int), .slice A1 n1 c1, .slice A2 n2 c2] 34) = w3 := ⟨_, rfl⟩
  rw [hw3] at hE3 hb13
  have HUN := Lib.hid (errBad_c w3 N A1 n1 c1 A2 n2 c2)
  have hN := hu.num
  have ht := (HTO.out _ rfl).1
  have hNz : decide (N ≠ 0) = true := decide_eq_true (by simp only [tnum] at hN; simp only at ht; omega)
  rw [hNz] at HUN
  have HU3 := Lib.hid (hu.below hb13)
  obtain ⟨k2, k3, k4, _, _, _⟩ := hE3.facts
  have HW3 := Lib.hid (hw1.below hb13 (by omega))
  have HB3 := Lib.hid (HB0.out.trans ((hb1.trans (hb13.mono hb1.size)).mono HB0.out.size))
  have HQ3 := Lib.hid hw3
  have hz3 : w1.heap.size ≤ w3.heap.size := hb13.size
  obtain ⟨ga, hga⟩ : ∃ ga, w1.heap.size = ga := ⟨_, rfl⟩
  have hga1 : w.heap.size + 2 ≤ ga := by omega
  rw [hga] at k2 k3 k4 hz3
  have HGA := Lib.hid hga
  clear hu hb13 hb12 hb23 hE3 hw3 hN ht hNz hw1 hs1 hsx hb1 hga
  go_wp2_with fail
  rw [HQ3.out, HGA.out]
  refine (HUN.out).mono ?_
  rintro e w5 ⟨rfl, hb5⟩
  have x2 := cell_later hb5 k2
  have x3 := cell_later hb5 k3
  have x4 := cell_later hb5 k4
  obtain ⟨d0, d1, d2, f0, f1, f2⟩ := (HW3.out.below hb5 (by omega)).facts
  have HU := Lib.hid (((HU3.out.below hb5.drew).set3 (g := w.heap.size + 1) (by have := HSX.out; omega) (.int .i64 (N : Int)) (.slice A1 n1 c1) (.slice A2 n2 c2)).base (base' := w.heap.size) (by have := HSX.out; omega))
  have HB := Lib.hid (below_set3 (HB3.out.trans (hb5.drew.mono HB3.out.size)) (Nat.le_succ _) (.int .i64 (N : Int)) (.slice A1 n1 c1) (.slice A2 n2 c2))
  clear k2 k3 k4 hb5
  go_wp2_with fail
  go_still_tail 2, (by kernel_rfl)
  change wpList _ _ _ _ _ (World.drew w5)
  go_wp2_with fail
  exact bodyPost_ret (v := .tuple #[.slice none 0 0, .agg #[.int .i64 (N : Int), .slice A1 n1 c1, .slice A2 n2 c2]]) (by simp [results, Tryz.results15, go_sem, d0, d1, d2]) rfl ⟨N, A1, n1, c1, A2, n2, c2, rfl, HU.out, HB.out⟩

set_option maxRecDepth 100000 in
set_option maxHeartbeats 2000000 in
theorem refWords_good (w : World) (k r : Nat) (A : Option Addr) (n c : Nat) (t : List Nat) (hT : Sl w A n ((ints t).map (Value.int .i64))) (hm : n ≤ 9223372036854775807) (hr : IsRule k r t) (h256 : t.length ≤ 256) (S : St) (h : fin k (k ^ (2 * r)) t false = .go S []) (N : Int) :
    Calls Tryz.prog 15 #[ruleV (k : Int) (r : Int) A n c, .int .i64 N] w fun e w' => ∃ (B : Option Addr) (d : Nat) (N1 : Nat) (A1 : Option Addr) (n1 c1 : Nat) (A2 : Option Addr) (n2 c2 : Nat),
      e = .returned (.tuple #[.slice B (limbs (wordsF (k : Int) (r : Int) (ints t) N).1).length d, .agg #[.int .i64 (N1 : Int), .slice A1 n1 c1, .slice A2 n2 c2]]) ∧
      w'.ownsRow w.heap.size 75 1 (.slice B (limbs (wordsF (k : Int) (r : Int) (ints t) N).1).length d) (limbs (wordsF (k : Int) (r : Int) (ints t) N).1).length ((limbs (wordsF (k : Int) (r : Int) (ints t) N).1).map wv) ∧
      WantB w' w.heap.size (wordsF (k : Int) (r : Int) (ints t) N).2 (.agg #[.int .i64 (N1 : Int), .slice A1 n1 c1, .slice A2 n2 c2]) ∧ Below w.heap.size w w' := by
  obtain ⟨xx, tt, hp⟩ : ∃ xx tt, wordsF (k : Int) (r : Int) (ints t) N = (xx, tt) := ⟨_, _, rfl⟩
  rw [hp]
  dsimp only
  have HP := Lib.hid hp
  clear hp
  have hw0 := WantAt.new (w.alloc (.cells #[.int .i64 (k : Int), .int .i64 (r : Int), .slice A n c] 24)) (.int .i64 0) (.slice none 0 0) (.slice none 0 0)
  rw [World.size_alloc] at hw0
  have hr0 := (RuleAt.new w (.int .i64 (k : Int)) (.int .i64 (r : Int)) (.slice A n c)).alloc (.cells #[.int .i64 0, .slice none 0 0, .slice none 0 0] 34)
  have hb0 := ((Below.refl w.heap.size w).alloc (Nat.le_refl _) (.cells #[.int .i64 (k : Int), .int .i64 (r : Int), .slice A n c] 24)).alloc (by simp) (.cells #[.int .i64 0, .slice none 0 0, .slice none 0 0] 34)
  obtain ⟨wx, hwx⟩ : ∃ wx, (w.alloc (.cells #[.int .i64 (k : Int), .int .i64 (r : Int), .slice A n c] 24)).alloc (.cells #[.int .i64 0, .slice none 0 0, .slice none 0 0] 34) = wx := ⟨_, rfl⟩
  have hsx : wx.heap.size = w.heap.size + 2 := by rw [← hwx]; simp
  rw [hwx] at hw0 hb0 hr0
  have hwk := refLeast_u wx (k : Int) (r : Int) A n c (ints t) (hT.below hb0) hm
  rw [ofF_good hr h256 h] at hwk
  dsimp only [under] at hwk
  have hN0 : 0 < k ^ (2 * r) := Nat.pow_pos hr.k1
  have hnl := (fin_inv hN0 h).2.1
  have hbg := (fin_ok hN0 h).2
  have hau0 := (fin_rows hN0 h).auto
  have hle := least_le hau0
  have hau : IsAuto k (leastA k S.next) := least_auto hau0
  have hbg2 : (leastA k S.next).length ≤ 4096 := by omega
  have HAU0 := Lib.hid hau0
  obtain ⟨L, hL⟩ : ∃ L, leastA k S.next = L := ⟨_, rfl⟩
  rw [hL] at hwk hau hbg2
  obtain ⟨m, hmL⟩ : ∃ m, L.length = m := ⟨_, rfl⟩
  rw [hmL] at hwk hbg2
  have hm0 : 0 < m := by rw [← hmL]; exact hau.pos
  have HAU := Lib.hid hau
  have HML := Lib.hid hmL
  have HLL := Lib.hid hL
  have HK := Lib.hid (⟨hr.k1, hr.k4⟩ : _ ∧ _)
  have HHR := Lib.hid (⟨hr, h256, h⟩ : _ ∧ _ ∧ _)
  unfold ruleV autoV at hwk
  have HWK := Lib.hid hwk
  have HWX := Lib.hid hwx
  have HW0 := Lib.hid hw0
  have HR0 := Lib.hid hr0
  have HB0 := Lib.hid hb0
  have HSX := Lib.hid hsx
  clear hwk hwx hw0 hr0 hb0 hsx hT hr h256 h hN0 hnl hbg hau0 hle hau hL hmL
  unfold ruleV
  go_enter Tryz.func15, Tryz.ntmps15
  go_wp2_with fail
  rw [HWX.out]
  refine (HWK.out).mono ?_
  rintro e w1 ⟨C, cc, rows, Nz, A1, n1, c1, A2, n2, c2, rfl, hR, hu, hb1⟩
  have hz : Value.agg #[.int .i64 (Nz : Int), .slice A1 n1 c1, .slice A2 n2 c2] = .agg #[.int .i64 0, .slice none 0 0, .slice none 0 0] := hu.none_eq
  rw [hz]
  clear HWK hz hu
  have hs1 := hb1.size
  have hsx := HSX.out
  have hw1 := HW0.out.below hb1 (by omega)
  have hr1 := HR0.out.below hb1 (by omega)
  have hb12 := (Below.refl w1.heap.size w1).alloc (Nat.le_refl _) (.cells #[.int .i64 (k : Int), .slice C m cc] 50)
  have hb23 := (Below.refl (w1.alloc (.cells #[.int .i64 (k : Int), .slice C m cc] 50)).heap.size (w1.alloc (.cells #[.int .i64 (k : Int), .slice C m cc] 50))).alloc (Nat.le_refl _) (.cells #[.int .i64 0, .slice none 0 0, .slice none 0 0] 34)
  have hA2 := heap_new w1 (.cells #[.int .i64 (k : Int), .slice C m cc] 50)
  have hA3 : AutoAt _ w1.heap.size (.int .i64 (k : Int)) (.slice C m cc) := (show AutoAt _ w1.heap.size (.int .i64 (k : Int)) (.slice C m cc) from hA2).below hb23 (by simp)
  have hb13 := hb12.trans (hb23.mono hb12.size)
  obtain ⟨w3, hw3⟩ : ∃ w3, (w1.alloc (.cells #[.int .i64 (k : Int), .slice C m cc] 50)).alloc (.cells #[.int .i64 0, .slice none 0 0, .slice none 0 0] 34) = w3 := ⟨_, rfl⟩
  rw [hw3] at hA3 hb13
  have hbd : Calls Tryz.prog 40 #[.agg #[.int .i64 0, .slice none 0 0, .slice none 0 0]] w3 fun e w' => e = .returned (.bool false) ∧ Below w3.heap.size w3 w' := errBad_c w3 0 none 0 0 none 0 0
  have HUN := Lib.hid hbd
  clear hbd
  have HLI : Hid (ListAt w3 C m L) := Lib.hid (by
    have h1 : RowsAt w1 wx.heap.size (.slice C L.length cc) rows L (fun _ => False) := by rw [HML.out]; exact hR
    have h2 := h1.list.keep hb13
    rwa [HML.out] at h2)
  have HA3 := Lib.hid hA3
  have HW3 := Lib.hid (hw1.below hb13 (by omega))
  have HR3 := Lib.hid (hr1.below hb13 (by omega))
  have HB3 := Lib.hid (HB0.out.trans ((hb1.trans (hb13.mono hb1.size)).mono HB0.out.size))
  have HQ3 := Lib.hid hw3
  have hga1 : w.heap.size + 2 ≤ w1.heap.size := by omega
  have hga3 : w1.heap.size < w3.heap.size := (Array.getElem?_eq_some_iff.1 hA3).1
  clear hb13 hb12 hb23 hA2 hA3 hR hw3 hw1 hr1 hs1 hsx hb1
  go_wp2_with fail
  rw [HQ3.out]
  refine (HUN.out).mono ?_
  rintro e w5 ⟨rfl, hb5⟩
  have HB5 := Lib.hid (HB3.out.trans (hb5.mono HB3.out.size))
  have HLI5 := Lib.hid (HLI.out.keep hb5)
  have HA5 := Lib.hid (HA3.out.below hb5 (by omega))
  have HW5 := Lib.hid (HW3.out.below hb5 (by omega))
  have HR5 := Lib.hid (HR3.out.below hb5 (by omega))
  have hs35 := hb5.size
  have hga5 : w1.heap.size < w5.heap.size := by omega
  clear hb5 HLI HA3 HW3 HR3 HB3 HUN
  rcases Int.lt_or_le N 0 with hN | hN
  · obtain ⟨rfl, rfl⟩ : xx = 0 ∧ tt = some (3, [(sImage, 1)]) := by
      have h := HP.out
      rw [wordsF_neg (ofF_good HHR.out.1 HHR.out.2.1 HHR.out.2.2) hN] at h
      exact ⟨(Prod.mk.inj h).1.symm, (Prod.mk.inj h).2.symm⟩
    have HN := Lib.hid (newB_c w5 sImage 1 3)
    go_wp2_with fail
    refine (HN.out).mono ?_
    rintro e w6 ⟨A6, n6, c6, B6, m6, d6, rfl, hu6, hb6⟩
    obtain ⟨d0, d1, d2, f0, f1, f2⟩ := (HW5.out.below hb6 (by omega)).facts
    have HU := Lib.hid ((hu6.set3 (g := w.heap.size + 1) (by omega) (.int .i64 3) (.slice A6 n6 c6) (.slice B6 m6 d6)).base (base' := w.heap.size) (by omega))
    have HB := Lib.hid (below_set3 (HB5.out.trans (hb6.mono HB5.out.size)) (Nat.le_succ _) (.int .i64 3) (.slice A6 n6 c6) (.slice B6 m6 d6))
    clear hu6 hb6
    go_wp2_with fail
    exact bodyPost_ret (v := .tuple #[.slice none 0 0, .agg #[.int .i64 3, .slice A6 n6 c6, .slice B6 m6 d6]]) (by simp [results, Tryz.results15, go_sem, d0, d1, d2]) rfl ⟨none, 0, 3, A6, n6, c6, B6, m6, d6, rfl, World.ownsRow_nil _ _ _ _, HU.out, HB.out⟩
  · obtain ⟨q, rfl⟩ : ∃ q : Nat, N = (q : Int) := ⟨N.toNat, by omega⟩
    have hN' : ¬ (q : Int) < 0 := by omega
    by_cases hbig : 256 < q
    · obtain ⟨rfl, rfl⟩ : xx = 0 ∧ tt = some (4, [(sImage, 1)]) := by
        have h := HP.out
        rw [wordsF_big (ofF_good HHR.out.1 HHR.out.2.1 HHR.out.2.2) (by omega)] at h
        exact ⟨(Prod.mk.inj h).1.symm, (Prod.mk.inj h).2.symm⟩
      have hbig' : (q : Int) > 256 := by omega
      have HN := Lib.hid (newB_c w5 sImage 1 4)
      clear hN hbig
      go_wp2_with fail
      refine (HN.out).mono ?_
      rintro e w6 ⟨A6, n6, c6, B6, m6, d6, rfl, hu6, hb6⟩
      obtain ⟨d0, d1, d2, f0, f1, f2⟩ := (HW5.out.below hb6 (by omega)).facts
      have HU := Lib.hid ((hu6.set3 (g := w.heap.size + 1) (by omega) (.int .i64 4) (.slice A6 n6 c6) (.slice B6 m6 d6)).base (base' := w.heap.size) (by omega))
      have HB := Lib.hid (below_set3 (HB5.out.trans (hb6.mono HB5.out.size)) (Nat.le_succ _) (.int .i64 4) (.slice A6 n6 c6) (.slice B6 m6 d6))
      clear hu6 hb6
      go_wp2_with fail
      exact bodyPost_ret (v := .tuple #[.slice none 0 0, .agg #[.int .i64 4, .slice A6 n6 c6, .slice B6 m6 d6]]) (by simp [results, Tryz.results15, go_sem, d0, d1, d2]) rfl ⟨none, 0, 4, A6, n6, c6, B6, m6, d6, rfl, World.ownsRow_nil _ _ _ _, HU.out, HB.out⟩
    · obtain ⟨rfl, rfl⟩ : xx = (waysV L q).sum ∧ tt = none := by
        have h := HP.out
        rw [wordsF_run (ofF_good HHR.out.1 HHR.out.2.1 HHR.out.2.2) (by omega), HLL.out] at h
        exact ⟨(Prod.mk.inj h).1.symm, (Prod.mk.inj h).2.symm⟩
      have hbig' : ¬ (q : Int) > 256 := by omega
      have hmk := run_make_row' (P := Tryz.prog) 82 38 (.slice none 0 0) 24 tNats.und tNats.info rfl .i64 .i64 m (by omega) (by omega)
      have hnm : m ≤ maxLen := by simp only [maxLen]; omega
      have hmd := NatsAt.made w5 m hnm
      have hb56 := (Below.refl w5.heap.size w5).alloc (Nat.le_refl _) (.cells (madeCells #[.slice none 0 0] m) 38)
      obtain ⟨w6, hw6⟩ : ∃ w6, w5.alloc (.cells (madeCells #[.slice none 0 0] m) 38) = w6 := ⟨_, rfl⟩
      rw [hw6] at hmd hb56
      obtain ⟨g0, hg0⟩ : ∃ g0, w5.heap.size = g0 := ⟨_, rfl⟩
      have hwg0 : w.heap.size ≤ g0 := by omega
      have hg5 : w5.heap.size ≤ g0 := by omega
      rw [hg0] at hmd
      have HMD : Hid (NatsAt w6 w.heap.size g0 (List.replicate m (none, 0, 0)) (List.replicate 0 1 ++ List.replicate (m - 0) 0)) := Lib.hid (hmd.base hwg0)
      have HB56 := Lib.hid hb56
      have HW6 := Lib.hid hw6
      have HG0 := Lib.hid hg0
      obtain ⟨a0, a1, _, _⟩ := HA5.out.facts
      clear hN hbig hmd hb56 hw6 hg0
      go_wp2_with fail
      rw [HW6.out, HG0.out]
      clear hmk
      go_loopw [9] (fun iv wl => ∃ (i : Nat) (Q : List (Option Addr × Nat × Nat)), iv = .int .i64 (i : Int) ∧ i ≤ m ∧ Hid (NatsAt wl w.heap.size g0 Q (List.replicate i 1 ++ List.replicate (m - i) 0)) ∧ Hid (Below w5.heap.size w5 wl)) (fun iv _ => m - (intOf iv).toNat)
      case atStart => exact ⟨0, _, rfl, Nat.zero_le _, HMD, HB56⟩
      case round =>
        obtain ⟨i, Q, rfl, hi, hQ, hB6⟩ := hrel
        clear HMD HB56
        obtain ⟨v0, rfl⟩ : ∃ v0, v0 = wr := ⟨_, rfl⟩
        by_cases him : i < m
        · have him' : (i : Int) < (m : Int) := by omega
          have hi0 : (0 : Int) ≤ (i : Int) := by omega
          have hlit := World.ownsRow_lit (base := w.heap.size) (e := 75) (size := 1) v0 #[.int .u32 1] 1 (by have := HB5.out.size; have := hB6.out.size; omega) (by decide) rfl
          have hbl := (Below.refl v0.heap.size v0).alloc (Nat.le_refl _) (.cells #[.int .u32 1] 75)
          have hQ1 := hQ.out.below hbl
          obtain ⟨_, _, _, _, q1, p1⟩ := hQ1.at_ (i := i) (by simp; omega)
          have hput := hQ1.put (j := i) (A := some ⟨v0.heap.size, 0, none⟩) (c := 1) (v := 1) (by rw [limbs_one]; exact hlit)
          rw [limbs_one, ones_set him] at hput
          have HPUT := Lib.hid hput
          have HBX := Lib.hid ((hB6.out.trans (hbl.mono hB6.out.size)).setCell (p := ⟨g0, i, none⟩) hg5 (.slice (some ⟨v0.heap.size, 0, none⟩) 1 1))
          clear hput hQ1 hlit
          go_wp2_with fail
          exact ⟨⟨i + 1, _, by go_num, by omega, HPUT, HBX⟩, by simp [intOf]; omega⟩
        · obtain rfl : i = m := by omega
          have him' : ¬ (i : Int) < (i : Int) := by omega
          have HPUT : Hid (NatsAt v0 w.heap.size g0 Q (waysB L 0)) := Lib.hid (by
            have h1 := hQ.out
            rw [Nat.sub_self, List.replicate_zero, List.append_nil] at h1
            rw [waysB, HML.out]
            exact h1)
          have HB6 := Lib.hid hB6.out
          clear hQ hB6
          go_wp2_with fail
          go_loopw [8, 10] (fun gv jv wl => ∃ (g j : Nat) (Q : List (Option Addr × Nat × Nat)), gv = .slice (some ⟨g, 0, none⟩) i i ∧ jv = .int .i64 (j : Int) ∧ j ≤ q ∧ Hid (NatsAt wl w.heap.size g Q (waysB L j)) ∧ Hid (Below w5.heap.size w5 wl)) (fun _ jv _ => q - (intOf jv).toNat)
          case atStart => exact ⟨g0, 0, _, rfl, rfl, Nat.zero_le _, HPUT, HB6⟩
          case round =>
            obtain ⟨g, j, Q, rfl, rfl, hj, hV, hBl⟩ := hrel
            clear HPUT HB6
            obtain ⟨u0, rfl⟩ : ∃ u0, u0 = wr := ⟨_, rfl⟩
            have hlV : (waysB L j).length = i := by rw [waysB_len, HML.out]
            by_cases hjq : j < q
            · have hjq' : (j : Int) < (q : Int) := by omega
              have hj0 : (0 : Int) ≤ (j : Int) := by omega
              have hmk := run_make_row' (P := Tryz.prog) 82 38 (.slice none 0 0) 24 tNats.und tNats.info rfl .i64 .i64 i (by omega) (by omega)
              have hmd := NatsAt.made u0 i hnm
              have hb01 := (Below.refl u0.heap.size u0).alloc (Nat.le_refl _) (.cells (madeCells #[.slice none 0 0] i) 38)
              obtain ⟨u1, hu1⟩ : ∃ u1, u0.alloc (.cells (madeCells #[.slice none 0 0] i) 38) = u1 := ⟨_, rfl⟩
              rw [hu1] at hmd hb01
              obtain ⟨g2, hg2⟩ : ∃ g2, u0.heap.size = g2 := ⟨_, rfl⟩
              have hgg : g ≠ g2 := by have := hV.out.lt.2; omega
              have hwg : w.heap.size ≤ g2 := by have h1 := HB5.out.size; have h2 := hBl.out.size; omega
              rw [hg2] at hmd
              have hm2 : NatsAt u1 w.heap.size g2 (List.replicate i (none, 0, 0)) (doneB L (waysB L j) 0) := by
                unfold doneB
                rw [List.take_zero, List.map_nil, List.nil_append, HML.out]
                exact hmd.base hwg
              have HMD := Lib.hid hm2
              have HB01 := Lib.hid hb01
              have HV1 := Lib.hid hu1
              have HG2 := Lib.hid hg2
              have HLV := Lib.hid hlV
              clear hmd hm2 hb01 hu1 hg2 hlV
              go_wp2_with fail
              rw [HV1.out, HG2.out]
              clear hmk
              go_loopw [12] (fun iv wl => ∃ (p : Nat) (Q2 : List (Option Addr × Nat × Nat)), iv = .int .i64 (p : Int) ∧ p ≤ i ∧ Hid (NatsAt wl w.heap.size g2 Q2 (doneB L (waysB L j) p)) ∧ Hid (Below u0.heap.size u0 wl)) (fun iv _ => i - (intOf iv).toNat)
              case atStart => exact ⟨0, _, rfl, Nat.zero_le _, HMD, HB01⟩
              case round =>
                obtain ⟨p, Q2, rfl, hp, hN2, hB2⟩ := hrel
                clear HMD HB01
                obtain ⟨v2, rfl⟩ : ∃ v2, v2 = wr := ⟨_, rfl⟩
                by_cases hpm : p < i
                · have hpm' : (p : Int) < (i : Int) := by omega
                  have hp0 : (0 : Int) ≤ (p : Int) := by omega
                  have hpl : p < L.length := by rw [HML.out]; exact hpm
                  obtain ⟨adn, l, P, pcap, rfl, hl, hcl5, _, hsl5⟩ := HLI5.out.at_ hpm
                  have hlk : l.length = k := HAU.out.len l (List.mem_of_getElem? hl)
                  have hld : L.getD p [] = l := by rw [List.getD_eq_getElem?_getD, hl]; rfl
                  rw [hlk] at hcl5 hsl5
                  have HPP : Hid (NatsAt v2 w.heap.size g2 Q2 (partB L (waysB L j) p 0)) := Lib.hid (by rw [partB_zero hpl]; exact hN2.out)
                  have HAA := Lib.hid (fun (wz : World) (hz : Below u0.heap.size u0 wz) => (HA5.out.below (pure_trans hBl.out hz) hga5).facts)
                  have HCL := Lib.hid (fun (wz : World) (hz : Below u0.heap.size u0 wz) => cell_later (pure_trans hBl.out hz) hcl5)
                  have HSL := Lib.hid (fun (wz : World) (hz : Below u0.heap.size u0 wz) => hsl5.below (pure_trans hBl.out hz))
                  have HLD := Lib.hid (⟨hld, hlk⟩ : _ ∧ _)
                  have HAY := Lib.hid (fun y (hy : y ∈ l) => HAU.out.ok l (List.mem_of_getElem? hl) y hy)
                  clear hl hcl5 hsl5 hlk hld
                  go_wp2_with fail
                  go_loopw [13] (fun sv wl => ∃ (s : Nat) (Q3 : List (Option Addr × Nat × Nat)), sv = .int .i64 (s : Int) ∧ s ≤ k ∧ Hid (NatsAt wl w.heap.size g2 Q3 (partB L (waysB L j) p s)) ∧ Hid (Below u0.heap.size u0 wl)) (fun sv _ => k - (intOf sv).toNat)
                  case atStart => exact ⟨0, Q2, rfl, Nat.zero_le _, HPP, hB2⟩
                  case round =>
                    obtain ⟨s, Q3, rfl, hs, hN3, hB3⟩ := hrel
                    clear HPP
                    obtain ⟨v3, rfl⟩ : ∃ v3, v3 = wr := ⟨_, rfl⟩
                    obtain ⟨a0, a1, _, _⟩ := HAA.out v3 hB3.out
                    have hk4 : k ≤ 4 := HK.out.2
                    by_cases hsk : s < k
                    · have hsk' : (s : Int) < (k : Int) := by omega
                      have hs0 : (0 : Int) ≤ (s : Int) := by omega
                      have hcl := HCL.out v3 hB3.out
                      obtain ⟨adp, y, rfl, hy, hcy⟩ := (HSL.out v3 hB3.out).int_ hsk
                      have hyL : (L.getD p [])[s]? = some y := by rw [HLD.out.1]; exact hy
                      rcases HAY.out y (List.mem_of_getElem? hy) with rfl | ⟨t, rfl, htm⟩
                      · have HNX : Hid (NatsAt v3 w.heap.size g2 Q3 (partB L (waysB L j) p (s + 1))) := Lib.hid (by rw [partB_neg hyL (by omega)]; exact hN3.out)
                        clear hyL hy
                        go_wp2_with fail
                        exact ⟨⟨s + 1, Q3, by go_num, by omega, HNX, hB3⟩, by simp [intOf]; omega⟩
                      · have ht0 : (0 : Int) ≤ (t : Int) := by omega
                        have ht0' : (t : Int) ≥ 0 := by omega
                        rw [HML.out] at htm
                        have htm' : (t : Int) < (i : Int) := by omega
                        have hst := partB_set (U := waysB L j) hpl hyL (by omega)
                        rw [Int.toNat_natCast] at hst
                        obtain ⟨A3, c3, _, ho3, q3, p3⟩ := hN3.out.at_ (i := p) (by rw [partB_len hpl]; exact hpl)
                        rw [partB_at hpl] at ho3 q3
                        have hul := part_len HAU.out HK.out.2 (m := j) (by omega) hs (L.getD p [])
                        obtain ⟨Ac, ccn, _, hoc0, qc0, pc⟩ := hV.out.at_ (i := t) (by rw [HLV.out]; exact htm)
                        have hoc := own_below hoc0 hB3.out
                        have qc := cell_later hB3.out qc0
                        have hxl := backs_len HAU.out HK.out.2 (m := j) (by omega) t
                        have HST := Lib.hid hst
                        obtain ⟨u, hu⟩ : ∃ u, rowB (waysB L j) ((L.getD p []).take s) = u := ⟨_, rfl⟩
                        obtain ⟨x, hx⟩ : ∃ x, (waysB L j).getD t 0 = x := ⟨_, rfl⟩
                        rw [hu] at ho3 q3 hul HST
                        rw [hx] at hoc qc hxl HST
                        have hadd := fun (wz : World) (hz : Below v3.heap.size v3 wz) => refAdd_n (num_own (own_below ho3 hz)) (num_own (own_below hoc hz)) (by omega) (by omega) (r := u + x) rfl
                        obtain ⟨lu, hlu⟩ : ∃ lu, (limbs u).length = lu := ⟨_, rfl⟩
                        obtain ⟨lx, hlx⟩ : ∃ lx, (limbs x).length = lx := ⟨_, rfl⟩
                        rw [hlu] at hadd q3
                        rw [hlx] at hadd qc
                        have HADD := Lib.hid hadd
                        have HN3 := Lib.hid (hN3.out.below (Below.refl v3.heap.size v3).drew)
                        have hwz : w.heap.size ≤ v3.heap.size := by have h1 := HB5.out.size; have h2 := hBl.out.size; have h3 := hB3.out.size; omega
                        clear hyL hy hst hu hx hadd hlu hlx ho3 hoc hoc0 qc0 hul hxl
                        go_wp2_with fail
                        go_region_with (go_at_call 45; refine (HADD.out _ (Below.refl v3.heap.size v3).drew).mono ?_; rintro e v4 ⟨A4, c4, rfl, _, ho4, hb4⟩; obtain ⟨_, _, _, _, q4, p4⟩ := (HN3.out.below hb4).at_ (i := p) (by rw [partB_len hpl]; exact hpl))
                        all_goals
                          have HNX : Hid (NatsAt (v4.setCell ⟨g2, p, none⟩ (.slice A4 (limbs (u + x)).length c4)) w.heap.size g2 (Q3.set p (A4, (limbs (u + x)).length, c4)) (partB L (waysB L j) p (s + 1))) := Lib.hid (by
                            rw [HST.out]
                            exact (HN3.out.below hb4).put (own_base ho4 (by simpa using hwz)))
                          have HBX := Lib.hid ((hB3.out.trans (((Below.refl v3.heap.size v3).drew.trans (hb4.mono (by simp))).mono hB3.out.size)).setCell (p := ⟨g2, p, none⟩) (by rw [HG2.out]; exact Nat.le_refl _) (.slice A4 (limbs (u + x)).length c4))
                          clear ho4 hb4
                          go_wp2_with fail
                          exact ⟨⟨s + 1, _, by go_num, by omega, HNX, HBX⟩, by simp [intOf]; omega⟩
                    · obtain rfl : s = k := by omega
                      have hsk' : ¬ (s : Int) < (s : Int) := by omega
                      have HNX : Hid (NatsAt v3 w.heap.size g2 Q3 (doneB L (waysB L j) (p + 1))) := Lib.hid (by
                        rw [← partB_full hpl (s := s) (by rw [HLD.out.1, HLD.out.2]; exact Nat.le_refl _)]
                        exact hN3.out)
                      go_wp2_with fail
                      exact ⟨⟨p + 1, Q3, by go_num, by omega, HNX, hB3⟩, by simp [intOf]; omega⟩
                · obtain rfl : p = i := by omega
                  have hpm' : ¬ (p : Int) < (p : Int) := by omega
                  have HNX : Hid (NatsAt v2 w.heap.size g2 Q2 (waysB L (j + 1))) := Lib.hid (by
                    have h1 := hN2.out
                    rw [← HML.out, doneB_all] at h1
                    exact h1)
                  have HBX := Lib.hid (hBl.out.trans (hB2.out.mono hBl.out.size))
                  go_wp2_with fail
                  exact ⟨⟨g2, j + 1, Q2, rfl, by go_num, by omega, HNX, HBX⟩, by simp [intOf]; omega⟩
            · obtain rfl : j = q := by omega
              have hjq' : ¬ (j : Int) < (j : Int) := by omega
              obtain ⟨A5, c5, _, ho5, q5, p5⟩ := hV.out.at_ (i := 0) (by rw [hlV]; exact hm0)
              rw [← ways_same HAU.out] at ho5 q5
              obtain ⟨d0, d1, d2, f0, f1, f2⟩ := (HW5.out.below hBl.out (by omega)).facts
              have hww := HW5.out.below hBl.out (by omega)
              have HO := Lib.hid (own_setW ho5 hww (by decide) (.int .i64 0) (.slice none 0 0) (.slice none 0 0))
              have HB := Lib.hid (below_set3 (HB5.out.trans (hBl.out.mono HB5.out.size)) (Nat.le_succ _) (.int .i64 0) (.slice none 0 0) (.slice none 0 0))
              clear ho5 hww hlV
              go_wp2_with fail
              exact bodyPost_ret (v := .tuple #[.slice A5 (limbs (waysV L j).sum).length c5, .agg #[.int .i64 0, .slice none 0 0, .slice none 0 0]]) (by simp [results, Tryz.results15, go_sem, d0, d1, d2]) rfl ⟨A5, c5, 0, none, 0, 0, none, 0, 0, rfl, HO.out, WantB.zero _ _, HB.out⟩

theorem refWords_u (w : World) (K R : Int) (A : Option Addr) (n c : Nat) (T : List Int) (hT : Sl w A n (T.map (Value.int .i64))) (hm : n ≤ 9223372036854775807) (N : Int) :
    Calls Tryz.prog 15 #[ruleV K R A n c, .int .i64 N] w fun e w' => ∃ (B : Option Addr) (d : Nat) (N1 : Nat) (A1 : Option Addr) (n1 c1 : Nat) (A2 : Option Addr) (n2 c2 : Nat),
      e = .returned (.tuple #[.slice B (limbs (wordsF K R T N).1).length d, .agg #[.int .i64 (N1 : Int), .slice A1 n1 c1, .slice A2 n2 c2]]) ∧
      w'.ownsRow w.heap.size 75 1 (.slice B (limbs (wordsF K R T N).1).length d) (limbs (wordsF K R T N).1).length ((limbs (wordsF K R T N).1).map wv) ∧
      WantB w' w.heap.size (wordsF K R T N).2 (.agg #[.int .i64 (N1 : Int), .slice A1 n1 c1, .slice A2 n2 c2]) ∧ Below w.heap.size w w' := by
  rcases walkF_cases K R T with ⟨tl, h⟩ | ⟨k, r, t, S, rfl, rfl, rfl, hr, hl, h⟩ | ⟨k, r, t, rfl, rfl, rfl, hr, hl, h⟩
  · rw [wordsF_bad (ofF_bad (walkF_bad h))]
    refine (refWords_bad w K R A n c T hT hm N _ (walkF_bad h)).mono ?_
    rintro e w' ⟨N1, A1, n1, c1, A2, n2, c2, rfl, hu, hb⟩
    exact ⟨none, 0, N1, A1, n1, c1, A2, n2, c2, rfl, World.ownsRow_nil _ _ _ _, hu, hb⟩
  · exact refWords_good w k r A n c t hT hm hr hl S h N
  · have hb : walkF (k : Int) (r : Int) (ints t) = (0, [], [], some (4, [(sSubset, 0)])) := by rw [walkF_good hr hl h]
    rw [wordsF_bad (ofF_bad hb)]
    refine (refWords_bad w k r A n c (ints t) hT hm N _ hb).mono ?_
    rintro e w' ⟨N1, A1, n1, c1, A2, n2, c2, rfl, hu, hb⟩
    exact ⟨none, 0, N1, A1, n1, c1, A2, n2, c2, rfl, World.ownsRow_nil _ _ _ _, hu, hb⟩
end Go.Proofs.YthilnpfpllplaaaGreatDoor
