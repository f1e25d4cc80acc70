/- The word behind a word: word.Check where it succeeds, word.Next. Condition: it is a word and reads from memory. -/
import Derived.Test.YthilnpfpllplaaaGreatDoorS4
import Derived.Test.YthilnpfpllplaaaGreatDoorS6
import Derived.Test.YthilnpfpllplaaaGreatDoorS7
namespace Go.Proofs.YthilnpfpllplaaaGreatDoor
open Go.RowKit RuleP

namespace RuleP
theorem wval_digB {k : Nat} (_ : 0 < k) : ∀ {n x : Nat}, x < k ^ n → wval k (digB k n x) = x := by
  intro n
  induction n with
  | zero => intro x hx; simp at hx; subst hx; rfl
  | succ n ih =>
    intro x hx
    rw [digB, wval_snoc, ih (Nat.div_lt_of_lt_mul (by rw [Nat.pow_succ, Nat.mul_comm] at hx; exact hx)), Nat.mul_comm]
    exact Nat.div_add_mod x k
/-- The word behind a word. -/
def nextB (k : Nat) (x : List Nat) : List Nat := if wval k x + 1 < k ^ x.length then digB k x.length (wval k x + 1) else List.replicate (x.length + 1) 0
/-- Behind m symbols from the front on, noughts. -/
def nextR (x : List Nat) (m : Nat) : List Nat := x.take m ++ List.replicate (x.length - m) 0
theorem nextR_all (x : List Nat) : nextR x x.length = x := by simp [nextR]
theorem nextR_at {x : List Nat} {m : Nat} (h : m < x.length) : (nextR x (m + 1))[m]? = some (x.getD m 0) := by
  unfold nextR
  rw [List.getElem?_append_left (by simp; omega), List.getElem?_take, if_pos (by omega), List.getElem?_eq_getElem h, List.getD_eq_getElem?_getD, List.getElem?_eq_getElem h]
  rfl
theorem nextR_set {x : List Nat} {m y : Nat} (h : m < x.length) : (nextR x (m + 1)).set m y = x.take m ++ y :: List.replicate (x.length - (m + 1)) 0 := by
  unfold nextR
  rw [List.take_add_one, List.getElem?_eq_getElem h, Option.toList_some, List.append_assoc, List.set_append_right _ _ (by simp; omega)]
  simp [Nat.min_eq_left (Nat.le_of_lt h)]
theorem nextR_zero {x : List Nat} {m : Nat} (h : m < x.length) : (nextR x (m + 1)).set m 0 = nextR x m := by
  rw [nextR_set h]
  unfold nextR
  rw [show x.length - m = x.length - (m + 1) + 1 from by omega, List.replicate_succ]
theorem wval_rep (k : Nat) (a : List Nat) (j : Nat) : wval k (a ++ List.replicate j 0) = wval k a * k ^ j := by
  rw [wval_append, List.length_replicate]
  have : ∀ j, wval k (List.replicate j 0) = 0 := fun j => by
    induction j with
    | zero => rfl
    | succ j ih => rw [List.replicate_succ', wval_snoc, ih]; simp
  rw [this, Nat.add_zero]
/-- All symbols behind place m are the last symbol. -/
theorem next_step {k : Nat} {x : List Nat} {m : Nat} (hk : 1 ≤ k) (h : m < x.length) (hI : wval k x + 1 = (wval k (x.take (m + 1)) + 1) * k ^ (x.length - (m + 1))) (hd : x.getD m 0 = k - 1) : wval k x + 1 = (wval k (x.take m) + 1) * k ^ (x.length - m) := by
  rw [hI, show x.length - m = x.length - (m + 1) + 1 from by omega, Nat.pow_succ, ← Nat.mul_assoc, Nat.mul_right_comm]
  congr 1
  rw [List.take_add_one, List.getElem?_eq_getElem h, Option.toList_some, wval_snoc]
  have : x[m] = k - 1 := by rw [← hd, List.getD_eq_getElem?_getD, List.getElem?_eq_getElem h]; rfl
  rw [this, Nat.add_mul]
  omega
theorem next_found {k : Nat} {x : List Nat} {m : Nat} (hk : 1 ≤ k) (hs : ∀ y ∈ x, y < k) (h : m < x.length) (hI : wval k x + 1 = (wval k (x.take (m + 1)) + 1) * k ^ (x.length - (m + 1))) (hd : x.getD m 0 + 1 < k) :
    x.take m ++ (x.getD m 0 + 1) :: List.replicate (x.length - (m + 1)) 0 = nextB k x := by
  have hw : wval k (x.take m ++ (x.getD m 0 + 1) :: List.replicate (x.length - (m + 1)) 0) = wval k x + 1 := by
    rw [show x.take m ++ (x.getD m 0 + 1) :: List.replicate (x.length - (m + 1)) 0 = (x.take m ++ [x.getD m 0 + 1]) ++ List.replicate (x.length - (m + 1)) 0 from by simp, wval_rep, hI]
    congr 1
    rw [wval_snoc, List.take_add_one, List.getElem?_eq_getElem h, Option.toList_some, wval_snoc, List.getD_eq_getElem?_getD, List.getElem?_eq_getElem h]
    rfl
  have hl : (x.take m ++ (x.getD m 0 + 1) :: List.replicate (x.length - (m + 1)) 0).length = x.length := by simp; omega
  have hsy : ∀ y ∈ x.take m ++ (x.getD m 0 + 1) :: List.replicate (x.length - (m + 1)) 0, y < k := by
    intro y hy
    rcases List.mem_append.1 hy with hy | hy
    · exact hs y (List.mem_of_mem_take hy)
    · rcases List.mem_cons.1 hy with rfl | hy
      · exact hd
      · have := List.eq_of_mem_replicate hy; omega
  have hlt := wval_lt hsy
  rw [hw, hl] at hlt
  unfold nextB
  rw [if_pos hlt, ← hw, digB_wval (by omega) x.length _ hl hsy]
theorem next_over {k : Nat} {x : List Nat} (hI : wval k x + 1 = (wval k (x.take 0) + 1) * k ^ (x.length - 0)) : List.replicate (x.length + 1) 0 = nextB k x := by
  unfold nextB
  rw [if_neg]
  rw [hI]
  simp [wval]
end RuleP

set_option maxHeartbeats 400000 in
theorem wordOddF_c (w : World) (x k : Int) (b : Addr) (hb : w.cell? b = some (.int .i64 k)) :
    Calls Tryz.prog 99 #[.int .i64 x, .pointer (some b)] w fun e w' => e = .returned (.bool (decide (x < 0 ∨ k ≤ x))) ∧ w = w' := by
  by_cases h : x < 0
  · have h1 : decide (x < 0) = true := decide_eq_true h
    have hd : Hid (decide (x < 0 ∨ k ≤ x) = true) := Lib.hid (decide_eq_true (.inl h))
    go_enter Tryz.func99, Tryz.ntmps99
    go_wp2_with fail
    go_ret
    exact ⟨by first | rfl | (rw [hd.out]; rfl), rfl⟩
  · have h1 : decide (x < 0) = false := decide_eq_false h
    have hd : Hid (decide (x < 0 ∨ k ≤ x) = decide (k ≤ x)) := Lib.hid (by simp [h])
    go_enter Tryz.func99, Tryz.ntmps99
    go_wp2_with fail
    go_ret
    exact ⟨by first | rfl | (rw [hd.out]; rfl), rfl⟩

theorem alphabet_ok (w : World) (k : Nat) (h1 : 1 ≤ k) (h2 : k ≤ 4) : Calls Tryz.prog 97 #[.int .i64 (k : Int)] w fun e w' => e = .returned (.bool true) ∧ w = w' := by
  have a1 : decide ((1 : Int) ≤ (k : Int)) = true := decide_eq_true (by omega)
  have a2 : decide ((k : Int) ≤ 4) = true := decide_eq_true (by omega)
  go_enter Tryz.func97, Tryz.ntmps97
  go_wp2_with fail
  go_ret
  exact ⟨rfl, rfl⟩

theorem wordCheck_ok (w : World) (k : Nat) (A : Option Addr) (n c : Nat) (x : List Nat) (h1 : 1 ≤ k) (h2 : k ≤ 4) (hs : ∀ y ∈ x, y < k) (h : Sl w A n ((ints x).map (Value.int .i64))) (hn : n ≤ 4096) :
    Calls Tryz.prog 64 #[.int .i64 (k : Int), .slice A n c] w fun e w' => e = .returned .nilIface ∧ Below w.heap.size w w' := by
  have hb := (Below.refl w.heap.size w).alloc (Nat.le_refl _) (.cells #[.int .i64 (k : Int)] 3)
  have hi := indexFunc_c (w.alloc (.cells #[.int .i64 (k : Int)] 3)) 99 ⟨w.heap.size, 0, none⟩ (fun x => decide (x < 0 ∨ (k : Int) ≤ x)) A n c (ints x) (h.alloc _) (by omega)
    (fun x wz => run_enter Tryz.func99 (by kernel_rfl) (by kernel_rfl) _ _) (fun x => wordOddF_c _ x k _ (by simp))
  change Calls _ _ _ _ (fun e w' => e = .returned (.int .i64 (place (odd (k : Int) (ints x)))) ∧ _ = w') at hi
  rw [odd_ints hs, show place none = -1 from rfl] at hi
  have HI := Lib.hid hi
  have HA := Lib.hid (alphabet_ok (w.alloc (.cells #[.int .i64 (k : Int)] 3)) k h1 h2)
  have a3 : decide ((4096 : Int) < (n : Int)) = false := decide_eq_false (by omega)
  clear hi h
  go_enter Tryz.func64, Tryz.ntmps64
  go_wp2_with fail
  refine (HA.out).mono ?_
  rintro e w1 ⟨rfl, rfl⟩
  go_wp2_with fail
  refine (HI.out).mono ?_
  rintro e w1 ⟨rfl, rfl⟩
  go_wp2_with fail
  go_ret
  exact ⟨rfl, hb⟩

set_option maxRecDepth 100000 in
set_option maxHeartbeats 2000000 in
theorem next_c (w : World) (k : Nat) (A : Option Addr) (n c : Nat) (x : List Nat) (h1 : 1 ≤ k) (h2 : k ≤ 4) (hs : ∀ y ∈ x, y < k) (hxn : x.length = n) (h : Sl w A n ((ints x).map (Value.int .i64))) (hn : n ≤ 4000) (hn1 : 1 ≤ n) :
    Calls Tryz.prog 35 #[.int .i64 (k : Int), .slice A n c] w fun e w' => ∃ C cc, e = .returned (.tuple #[.slice C (nextB k x).length cc, .nilIface]) ∧ w'.ownsRow w.heap.size 3 1 (.slice C (nextB k x).length cc) (nextB k x).length ((ints (nextB k x)).map (Value.int .i64)) ∧ Below w.heap.size w w' := by
  have HXN := Lib.hid hxn
  have HC := Lib.hid (wordCheck_ok w k A n c x h1 h2 hs h (by omega))
  have HH := Lib.hid h
  have HS := Lib.hid hs
  clear h hs hxn
  go_enter Tryz.func35, Tryz.ntmps35
  go_wp2_with fail
  refine (HC.out).mono ?_
  rintro e w1 ⟨rfl, hb1⟩
  go_wp2_with fail
  refine (clone_c w1 A n c _ (ints_one _) (by omega) (HH.out.below hb1)).mono ?_
  rintro e w2 ⟨C, cc, rfl, hown2, hb2⟩
  obtain ⟨g, cap, hgc, hgb, _⟩ := hown2.form hn1
  injection hgc with hg1 _ hg2
  subst hg1 hg2
  have hbw := hb1.trans (hb2.mono hb1.size)
  have hown := own_base hown2 hb1.size
  clear hown2 hb1 hb2 HC
  go_wp2_with fail
  go_loopw [8] (fun p wr => ∃ (m : Nat) (z : Int), m ≤ n ∧ p = .int .i64 z ∧ z = (m : Int) - 1 ∧ wr.ownsRow w.heap.size 3 1 (.slice (some ⟨g, 0, none⟩) n cc) n ((ints (nextR x m)).map (Value.int .i64)) ∧ Hid (Below w.heap.size w wr) ∧ Hid (wval k x + 1 = (wval k (x.take m) + 1) * k ^ (x.length - m))) (fun p _ => (intOf p + 1).toNat)
  case atStart => exact ⟨n, _, Nat.le_refl _, rfl, rfl, by rw [← HXN.out, nextR_all]; rw [HXN.out]; exact hown, Lib.hid hbw, Lib.hid (by rw [← HXN.out]; simp)⟩
  case round =>
    clear hown hbw
    obtain ⟨m, z, hm, rfl, hz, hown, hb, hI⟩ := hrel
    have hgw := (hown.lt g rfl).1
    cases m with
    | zero =>
      obtain rfl : z = -1 := by omega
      clear hz
      have hge : decide ((0 : Int) ≤ -1) = false := by decide
      have hne : ((n : Int) == 4096) = false := by simp; omega
      have hmk := run_make_row' (P := Tryz.prog) 22 3 (.int .i64 0) 8 tInts.und tInts.info rfl .i64 .i64 (n + 1) (by omega) (by omega)
      have hmk' : ∀ wz : World, (Instr.makeSlice 22 (.int .i64 ((n : Int) + 1)) (.int .i64 ((n : Int) + 1))).run Tryz.prog wz = .ok (.slice (some ⟨wz.heap.size, 0, none⟩) (n + 1) (n + 1)) (wz.alloc (.cells (madeCells #[.int .i64 0] (n + 1)) 3)) := hmk
      have hown0 := make_ints wr (n + 1) (by simp only [maxLen]; omega)
      have HOV := Lib.hid (next_over hI.out)
      have HO := Lib.hid (own_base hown0 hb.out.size)
      have HB := Lib.hid (hb.out.alloc hb.out.size (.cells (madeCells #[.int .i64 0] (n + 1)) 3))
      clear hmk hown hown0
      go_wp2_with fail
      go_ret2
      have e : (nextB k x).length = n + 1 := by rw [← HOV.out, List.length_replicate, HXN.out]
      rw [e]
      refine ⟨_, _, rfl, ?_, HB.out⟩
      have h0 := HO.out
      rw [← HXN.out, HOV.out, HXN.out] at h0
      exact h0
    | succ m =>
      obtain rfl : z = (m : Int) := by omega
      clear hz
      have hml : m < x.length := by have := HXN.out; omega
      obtain ⟨d, hd⟩ : ∃ d, x.getD m 0 = d := ⟨_, rfl⟩
      have hdk : d < k := by
        rw [← hd, List.getD_eq_getElem?_getD, List.getElem?_eq_getElem hml]
        exact HS.out _ (List.getElem_mem hml)
      have hcell : wr.cell? ⟨g, m, none⟩ = some (.int .i64 (d : Int)) := by rw [hown.cellAt m (by omega), ints_map, List.getElem?_map, nextR_at hml, hd]; rfl
      have hfr := hown.frozenAt m
      have hk1 : IntKind.i64.wrap ((k : Int) - 1) = (k : Int) - 1 := IntWalk.i64_in _ (by omega)
      by_cases hlt : d + 1 < k
      · have hst := (hown.stored m (.int .i64 ((d : Int) + 1))).1
        have he : ((ints (nextR x (m + 1))).map (Value.int .i64)).set m (.int .i64 ((d : Int) + 1)) = (ints (nextB k x)).map (Value.int .i64) := by
          rw [show (Value.int .i64 ((d : Int) + 1)) = Value.int .i64 (((d + 1 : Nat) : Nat) : Int) from rfl, ← List.map_set, ints_set, nextR_set hml, ← hd, next_found h1 HS.out hml hI.out (by rw [hd]; exact hlt)]
        rw [he] at hst
        have hbn := hb.out.setCell (p := ⟨g, m, none⟩) hgw (.int .i64 ((d : Int) + 1))
        have hlen : (nextB k x).length = n := by rw [← next_found h1 HS.out hml hI.out (by rw [hd]; exact hlt)]; simp; have := HXN.out; omega
        have c1 : decide ((d : Int) < (k : Int) - 1) = true := decide_eq_true (by omega)
        have HST := Lib.hid hst
        have HBN := Lib.hid hbn
        have HLEN := Lib.hid hlen
        clear hst hbn hown hb hd hlen he
        go_wp2_with fail
        go_ret2
        rw [HLEN.out]
        exact ⟨_, _, rfl, HST.out, HBN.out⟩
      · have hst := (hown.stored m (.int .i64 0)).1
        rw [show (Value.int .i64 0) = Value.int .i64 (((0 : Nat) : Nat) : Int) from rfl, ← List.map_set, ints_set, nextR_zero hml] at hst
        have hbn := hb.out.setCell (p := ⟨g, m, none⟩) hgw (.int .i64 0)
        have c1 : decide ((d : Int) < (k : Int) - 1) = false := decide_eq_false (by omega)
        have hI2 := Lib.hid (next_step h1 hml hI.out (by rw [hd]; omega))
        have HST := Lib.hid hst
        have HBN := Lib.hid hbn
        clear hst hbn hown hb hd hI
        go_wp2_with fail
        exact ⟨⟨m, _, by omega, rfl, by omega, HST.out, HBN, hI2⟩, by simp [intOf]⟩
end Go.Proofs.YthilnpfpllplaaaGreatDoor
