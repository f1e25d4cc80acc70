/- What the bag's methods answer: Put, Len, Get, Has. Condition: the numbers are in range and there is room. -/
import Derived.Test.YtlajiblhnkognaaDoorBagPut
namespace Go.Proofs.YtlajiblhnkognaaDoor
open Go.RowKit BagP

theorem BagIs.mono {w : World} {p : Value} {n : Nat} {S : List (List Nat)} {O O' : Nat → Prop} (h : BagIs w p n S O) (ho : ∀ k, O k → O' k) : BagIs w p n S O' := by
  obtain ⟨bb, mb, sv, rows, D, hp, hb⟩ := h
  exact ⟨bb, mb, sv, rows, D, hp, { hb with row := fun i l hl => (let ⟨v, h1, h2, h3⟩ := hb.row i l hl; ⟨v, h1, h2, fun g hg => ho _ (h3 g hg)⟩), fb := ho _ hb.fb, fm := ho _ hb.fm, fs := fun g hg => ho _ (hb.fs g hg) }⟩

def addS (S : List (List Nat)) (l : List Nat) : List (List Nat) := if l ∈ S then S else S ++ [l]
theorem addS_in {S : List (List Nat)} {l : List Nat} (h : l ∈ S) : addS S l = S := if_pos h
theorem addS_new {S : List (List Nat)} {l : List Nat} (h : l ∉ S) : addS S l = S ++ [l] := if_neg h

set_option maxHeartbeats 400000 in
theorem Put_c {w : World} {p : Value} {n : Nat} {S : List (List Nat)} {O : Nat → Prop} (hB : BagIs w p n S O) (A : Option Addr) (m c : Nat) (xs : List Int) (hm : m ≤ 140737488355328)
    (h : Sl w A m (xs.map (Value.int .i64))) (hx : ∀ x ∈ xs, 0 ≤ x ∧ x < (n : Int)) (hroom : bitsOf n xs ∈ S ∨ S.length < 4096) :
    Calls Tryd.prog 48 #[p, .slice A m c] w fun e w' => e = .returned (.tuple #[.int .i64 (((addS S (bitsOf n xs)).idxOf (bitsOf n xs) : Nat) : Int), .bool (!decide (bitsOf n xs ∈ S)), .nilIface]) ∧
      BagIs w' p n (addS S (bitsOf n xs)) (fun k => O k ∨ w.heap.size ≤ k) ∧ Keeps O w w' := by
  obtain ⟨bb, mb, sv, rows, D, rfl, hb⟩ := hB
  obtain ⟨c0, _, _, _⟩ := blk_cells hb.blk
  go_enter Tryd.func48, Tryd.ntmps48
  go_wp2_with fail
  refine (bits_c w bb n hb.nn c0 A m c xs hm h hx).mono ?_
  rintro e w1 ⟨rfl, hr1, hb1⟩
  have hk1 := Keeps.of_pure hb1 (fun _ => False)
  have hB1 := hb.keeps hk1 (fun _ _ h => h)
  have hs1 := hb1.size
  go_wp2_with fail
  by_cases hin : bitsOf n xs ∈ S
  · obtain ⟨i, hi⟩ := List.getElem?_of_mem hin
    refine (put_old hB1 _ _ (bitsOf n xs) (ok_bitsOf n xs) (length_bitsOf n xs) (Sl.of_own hr1) i hi).mono ?_
    rintro e w2 ⟨rfl, hb2⟩
    have HI := Lib.hid hin
    have HJ := Lib.hid hi
    have hB2 : BagIs w2 (.pointer (some ⟨bb, 0, none⟩)) n S O := ⟨bb, mb, sv, rows, D, rfl, hB1.keeps (Keeps.of_pure hb2 (fun _ => False)) (fun _ _ h => h)⟩
    clear hin hi
    go_wp2_with fail
    go_ret3
    refine ⟨?_, ?_, Keeps.of_pure (pure_trans hb1 hb2) O⟩
    · have e1 : (addS S (bitsOf n xs)).idxOf (bitsOf n xs) = i := by
        rw [addS_in HI.out]
        exact idx_nodup hb.nd HJ.out
      rw [e1, decide_eq_true HI.out]
      rfl
    · rw [addS_in HI.out]
      exact hB2.mono (fun k h => .inl h)
  · have hroom' : S.length < 4096 := hroom.resolve_left hin
    refine (put_new hB1 _ _ (bitsOf n xs) (ok_bitsOf n xs) (length_bitsOf n xs) (own_base hr1 (Nat.zero_le _)) hin hroom').mono ?_
    rintro e w2 ⟨rfl, hB2, hk2⟩
    have HI := Lib.hid hin
    clear hin
    go_wp2_with fail
    go_ret3
    refine ⟨?_, ?_, (hk1.mono (fun _ _ h => h.elim)).trans hk2 (fun _ _ h => h)⟩
    · have e1 : (addS S (bitsOf n xs)).idxOf (bitsOf n xs) = S.length := by
        rw [addS_new HI.out, List.idxOf_append, if_neg HI.out]
        simp
      rw [e1, decide_eq_false HI.out]
      rfl
    · rw [addS_new HI.out]
      refine hB2.mono (fun k h => ?_)
      rcases h with h | h | ⟨ad, e, h⟩
      · exact .inl h
      · right; omega
      · right; cases e; rw [h]; exact Nat.le_refl _

theorem Len_c {w : World} {p : Value} {n : Nat} {S : List (List Nat)} {O : Nat → Prop} (hB : BagIs w p n S O) :
    Calls Tryd.prog 38 #[p] w fun e w' => e = .returned (.int .i64 (S.length : Int)) ∧ w = w' := by
  obtain ⟨bb, mb, sv, rows, D, rfl, hb⟩ := hB
  obtain ⟨A, c, rfl, _, _⟩ := own_slice hb.own
  obtain ⟨_, c1, _, _⟩ := blk_cells hb.blk
  go_enter Tryd.func38, Tryd.ntmps38
  go_wp2
  go_ret
  exact ⟨rfl, rfl⟩

theorem set_c {w : World} {bb mb : Nat} {sv : Value} {rows : List Value} {D : DataW Unit} {n : Nat} {S : List (List Nat)} {O : Nat → Prop} (hB : BagAt w bb mb sv rows D n S O)
    (i : Nat) (hi : i < S.length) (at' : Int) (v : Value) (hv : rows[i]? = some v) :
    Calls Tryd.prog 63 #[.pointer (some ⟨bb, 0, none⟩), .int .i64 (i : Int), .int .i64 at'] w fun e w' => e = .returned (.tuple #[v, .nilIface]) ∧ w = w' := by
  have hbig := hB.big
  obtain ⟨A, c, rfl, _, _⟩ := own_slice hB.own
  obtain ⟨_, c1, _, _⟩ := blk_cells hB.blk
  obtain ⟨ad, rfl, hc⟩ := (Sl.of_own hB.own).2 i v hv
  clear hv
  go_enter Tryd.func63, Tryd.ntmps63
  go_wp2
  go_ret2
  exact ⟨rfl, rfl⟩

theorem bit_test {u j : Nat} (hu : u < 2 ^ 64) : (bits .and .u64 ((u : Int) / 2 ^ j) 1 == 1) = u.testBit j := by
  have e0 : ((2 : Int) ^ j) = ((2 ^ j : Nat) : Int) := (Int.natCast_pow 2 j).symm
  have e1 : ((u : Int) / ((2 ^ j : Nat) : Int)) = ((u / 2 ^ j : Nat) : Int) := by simp
  have h1 : u / 2 ^ j < 18446744073709551616 := Nat.lt_of_le_of_lt (Nat.div_le_self _ _) hu
  have e2 := u64_and_nat (u / 2 ^ j) 1 h1 (by decide)
  rw [e0, e1, show (1 : Int) = ((1 : Nat) : Int) from rfl, e2, nat_mask1, Nat.testBit_eq_decide_div_mod_eq]
  by_cases h : u / 2 ^ j % 2 = 1
  · rw [decide_eq_true h, h]; rfl
  · rw [decide_eq_false h]
    have : u / 2 ^ j % 2 = 0 := by omega
    rw [this]; rfl
theorem getL_step (k : Nat) (l : List Nat) : getL (k + 1) l = getL k l ++ (if hasB l k = true then [(k : Int)] else []) := by
  unfold getL
  rw [List.range_succ, List.filter_append, List.map_append]
  congr 1
  cases h : hasB l k <;> simp [h]

set_option maxRecDepth 100000 in
set_option maxHeartbeats 400000 in
theorem Get_c {w : World} {p : Value} {n : Nat} {S : List (List Nat)} {O : Nat → Prop} (hB : BagIs w p n S O) (i : Nat) (l : List Nat) (hi : S[i]? = some l) :
    Calls Tryd.prog 39 #[p, .int .i64 (i : Int)] w fun e w' => SomeRow w 3 ((getL n l).map (Value.int .i64)) e w' := by
  obtain ⟨bb, mb, sv, rows, D, rfl, hb⟩ := hB
  obtain ⟨v, hv, hr, _⟩ := hb.row i l hi
  obtain ⟨hok, hlen⟩ := hb.okw l (List.mem_of_getElem? hi)
  have hil : i < S.length := (List.getElem?_eq_some_iff.1 hi).1
  obtain ⟨c0, _, _, _⟩ := blk_cells hb.blk
  have hn := hb.nn
  obtain ⟨A, c, rfl, _, _⟩ := own_slice hr
  have hs := Sl.of_own hr
  clear hi
  go_enter Tryd.func39, Tryd.ntmps39
  go_wp2_with (go_at_call 63; refine (set_c hb i hil _ _ hv).mono ?_; rintro e w1 ⟨rfl, rfl⟩)
  go_loopw [8, 23] (fun s i wr => ∃ k : Nat, k ≤ n ∧ i = .int .i64 k ∧ wr.ownsRow w.heap.size 3 1 s ((getL k l).map (Value.int .i64)).length ((getL k l).map (Value.int .i64)) ∧ Below w.heap.size w wr) (fun _ i _ => n - (intOf i).toNat)
  case atStart => exact ⟨0, Nat.zero_le _, rfl, World.ownsRow_nil _ _ _ _, Below.refl _ _⟩
  case round =>
    obtain ⟨k, hk, rfl, hown, hb'⟩ := hrel
    have hkl : ((getL k l).map (Value.int .i64)).length ≤ k := by simp only [getL, List.length_map]; exact Nat.le_trans (List.length_filter_le _ _) (by simp)
    by_cases hlt : k < n
    · obtain ⟨ad, u, rfl, hu, hcu⟩ := (hs.below hb').word_ (wlen_lt hlt)
      have hu64 := hok u (List.mem_of_getElem? hu)
      have HU := Lib.hid hu
      have HV := Lib.hid hu64
      clear hu hu64
      have hkw : k / 64 < wlen n := wlen_lt hlt
      have T := bit_test (j := k % 64) HV.out
      have Hst := getL_step k l
      have hbit : hasB l k = u.testBit (k % 64) := by unfold hasB; rw [List.getD_eq_getElem?_getD, HU.out]; rfl
      rw [← hbit] at T
      have HSt := Lib.hid Hst
      clear hbit Hst
      cases hc : hasB l k
      · rw [hc] at T
        have HC := Lib.hid hc
        clear hc
        go_wp2
        rw [HC.out, if_neg (by simp), List.append_nil] at HSt
        refine ⟨⟨k + 1, by omega, by go_num, by rw [HSt.out]; exact hown, hb'⟩, by simp [intOf]; omega⟩
      · rw [hc] at T
        have HC := Lib.hid hc
        clear hc
        go_wp2_with (at_builtin; refine wpList_push rfl _ _ _ rfl tInts hown rfl _ 0 rfl rfl rfl (by simp only [maxLen]; omega) (by omega) hb'.size ?_; intro g cap w3 hown3 hg3 hat3 hlt3)
        rw [HC.out, if_pos rfl] at HSt
        refine ⟨⟨k + 1, by omega, by go_num, ?_, hb'.grown hg3 hb'.size (fun q hq => (hown.lt q hq).1)⟩, by simp [intOf]; omega⟩
        rw [HSt.out]
        simpa using hown3
    · have hkn : k = n := by omega
      have E := Lib.hid hkn
      clear hkn
      go_wp2
      go_ret2
      rw [E.out] at hown
      exact ⟨_, rfl, hown, hb'⟩

end Go.Proofs.YtlajiblhnkognaaDoor
