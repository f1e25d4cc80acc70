/- What bag.put does with the words of a set: a set that is there keeps its number, a new one gets the next. Condition: there is room. What the bag's methods answer: Put, Len, Get, Has. Condition: the numbers are in range and there is room. bag's errors: bag.wrong; put at the limit; bits, Put, Find of lists that are no sets; Find of a set that is not there. Condition: the error variables hold what E says. A bag's blocks told by their kinds: what is of other kinds stays apart from it. Condition: as the bag's contracts say. What memory holds of the walk over the subsets: subset's walk. Plain lemmas, no program. No condition. -/
import Derived.Test.YthilnpfpllplaaaGreatDoorS2
import Derived.Test.YthilnpfpllplaaaGreatDoorS5
import Derived.Test.YthilnpfpllplaaaGreatDoorS7
import Derived.Test.YthilnpfpllplaaaGreatDoorS8
namespace Go.Proofs.YthilnpfpllplaaaGreatDoor
open Go.RowKit Go.WideMaps Go.Maps BagP

/-- A new set is kept behind the others. -/
def bagMore (O : Nat → Prop) (H : Nat) (A : Option Addr) (k : Nat) : Prop := O k ∨ H ≤ k ∨ ∃ ad, A = some ad ∧ k = ad.block

theorem put_end {w w1 w2 w3 : World} {bb mb : Nat} {SA : Option Addr} {sc : Nat} {rows : List Value} {D : DataW Unit} {n : Nat} {S : List (List Nat)} {O : Nat → Prop} (hB : BagAt w bb mb (.slice SA S.length sc) rows D n S O)
    {A : Option Addr} {c : Nat} {l : List Nat} (ho : Ok64 l) (hl : l.length = wlen n) (hr : w.ownsRow 0 70 1 (.slice A (wlen n) c) (wlen n) (l.map uv)) (hn : l ∉ S) (hroom : S.length < 4096)
    (hb1 : Below w.heap.size w w1) (hne : bb ≠ mb)
    (hmap2 : w2.ownsMap Tryz.prog 9 (plainElem (H := Unit) Tryz.prog 3) mb (S.length + 1) (D.put (.string (keyB l)) (.lit (.int .i64 (S.length : Int))))) (hg2 : w1.grownBy w2 (some mb))
    {g cap : Nat} (hown3 : w3.ownsRow 0 193 1 (.slice (some ⟨g, 0, none⟩) (S.length + 1) cap) (S.length + 1) (rows ++ [.slice A (wlen n) c])) (hg3 : w2.grownBy w3 (Value.slice SA S.length sc).ownBlock)
    (hat3 : (Value.slice SA S.length sc).ownBlock = some g ∨ w2.heap.size < g) (blk3 : w3.heap[bb]? = some (.cells #[.int .i64 (n : Int), .slice SA S.length sc, .map (some mb)] 192 (0, 0))) :
    BagIs (w3.setCell ⟨bb, 1, none⟩ (.slice (some ⟨g, 0, none⟩) (S.length + 1) cap)) (.pointer (some ⟨bb, 0, none⟩)) n (S ++ [l]) (bagMore O w.heap.size A) ∧
      Keeps O w (w3.setCell ⟨bb, 1, none⟩ (.slice (some ⟨g, 0, none⟩) (S.length + 1) cap)) := by
  have k1 : Keeps (fun _ => False) w w1 := Keeps.of_pure hb1 _
  have k2 := Keeps.of_grown hg2
  have k3 := Keeps.of_grown hg3
  have k4 := Keeps.of_setCell w3 ⟨bb, 1, none⟩ (.slice (some ⟨g, 0, none⟩) (S.length + 1) cap)
  have hB1 := hB.keeps k1 (fun _ _ h => h)
  obtain ⟨es1, ck1, hm1, _⟩ := hB1.map
  obtain ⟨es2, ck2, hm2, hm2'⟩ := hmap2
  have hs2 := own_keeps hB1.own k2 (fun g' hg' e => by cases e; exact own_ne_map hB1.own hm1 hg')
  have blk2 := (hg2.block bb hB1.ltb (by simpa using hne)).trans hB1.blk
  have keepRow : ∀ {v : Value} {m : Nat} {xs : List Value}, w.ownsRow 0 70 1 v m xs → (w3.setCell ⟨bb, 1, none⟩ (.slice (some ⟨g, 0, none⟩) (S.length + 1) cap)).ownsRow 0 70 1 v m xs := by
    intro v m xs hv
    have h1 := own_keeps hv k1 (fun _ _ h => h)
    have h2 := own_keeps h1 k2 (fun g' hg' e => by cases e; exact own_ne_map h1 hm1 hg')
    have h3 := own_keeps h2 k3 (fun g' hg' e => own_ne_own h2 hs2 (by decide) hg' e)
    exact own_keeps h3 k4 (fun g' hg' e => by subst e; exact own_ne_blk h3 blk3 (by decide) hg')
  have hrl : rows.length = S.length := by simpa using hB.own.1
  refine ⟨⟨bb, mb, .slice (some ⟨g, 0, none⟩) (S.length + 1) cap, rows ++ [.slice A (wlen n) c], D.put (.string (keyB l)) (.lit (.int .i64 (S.length : Int))), rfl, ?_⟩, ?_⟩
  · exact {
      blk := heap_setCell_same w3 bb 1 _ _ _ blk3
      map := by
        rw [List.length_append]
        refine ⟨es2, ck2, ?_, hm2'⟩
        rw [k4.block mb (Nat.lt_of_lt_of_le (Array.getElem?_eq_some_iff.1 hm2).1 k3.size) (fun e => hne e.symm), k3.block mb (Array.getElem?_eq_some_iff.1 hm2).1 (fun e => own_ne_map hs2 hm2 e)]
        exact hm2
      rel := rel_snoc hB.rel (fun l' hl' => (hB.okw l' hl').1) ho hn
      own := by
        rw [List.length_append]
        exact own_keeps hown3 k4 (fun g' hg' e => by subst e; exact own_ne_blk hown3 blk3 (by decide) hg')
      row := fun i l' hl' => by
        rcases Nat.lt_or_ge i S.length with hlt | hge
        · rw [List.getElem?_append_left hlt] at hl'
          obtain ⟨v, h1, h2, h3⟩ := hB.row i l' hl'
          exact ⟨v, by rw [List.getElem?_append_left (by omega)]; exact h1, keepRow h2, fun g' hg' => .inl (h3 g' hg')⟩
        · rw [List.getElem?_append_right hge] at hl'
          rcases Nat.eq_zero_or_pos (i - S.length) with h0 | h0
          · rw [h0] at hl'
            simp at hl'
            subst hl'
            refine ⟨.slice A (wlen n) c, by rw [List.getElem?_append_right (by omega), hrl, h0]; rfl, keepRow hr, fun g' hg' => ?_⟩
            cases A with
            | none => simp [Value.ownBlock] at hg'
            | some ad => exact .inr (.inr ⟨ad, rfl, by simpa [Value.ownBlock] using hg'.symm⟩)
          · rw [List.getElem?_eq_none (by simp; omega)] at hl'; cases hl'
      fb := .inl hB.fb
      fm := .inl hB.fm
      fs := fun g' hg' => by
        have e : g = g' := by simpa [Value.ownBlock] using hg'
        subst e
        rcases hat3 with h | h
        · exact .inl (hB.fs g h)
        · exact .inr (.inl (by have := hb1.size; have := hg2.size; omega))
      okw := fun l' hl' => by
        rcases List.mem_append.1 hl' with h | h
        · exact hB.okw l' h
        · simp at h; subst h; exact ⟨ho, hl⟩
      nd := by
        rw [List.nodup_append]
        exact ⟨hB.nd, by simp, fun a ha b hb e => by simp at hb; subst hb; subst e; exact hn ha⟩
      big := by rw [List.length_append]; simp; omega
      nn := hB.nn }
  · have j1 : Keeps O w w1 := k1.mono (fun _ _ h => h.elim)
    have j2 : Keeps O w1 w2 := k2.mono (fun k _ e => by cases e; exact hB.fm)
    have j3 : Keeps O w2 w3 := k3.mono (fun k _ e => hB.fs k e)
    have j4 : Keeps O w3 (w3.setCell ⟨bb, 1, none⟩ (.slice (some ⟨g, 0, none⟩) (S.length + 1) cap)) := k4.mono (fun k _ e => by subst e; exact hB.fb)
    exact ((j1.trans j2 (fun _ _ h => h)).trans j3 (fun _ _ h => h)).trans j4 (fun _ _ h => h)

theorem key_of (l : List Nat) (h : 8 * l.length ≤ 1048576) : keyOf Tryz.prog 9 (.string ⟨(keyB l).toArray⟩) = some (.string (keyB l)) := by
  have := keyOf_string_mk Tryz.underlying9 (s := ⟨(keyB l).toArray⟩) (by simp only [ByteArray.size, List.size_toArray, length_keyB, maxLen]; omega)
  simpa using this

set_option maxRecDepth 100000 in
set_option maxHeartbeats 400000 in
theorem put_old {w : World} {bb mb : Nat} {sv : Value} {rows : List Value} {D : DataW Unit} {n : Nat} {S : List (List Nat)} {O : Nat → Prop} (hB : BagAt w bb mb sv rows D n S O)
    (A : Option Addr) (c : Nat) (l : List Nat) (ho : Ok64 l) (hl : l.length = wlen n) (hr : Sl w A (wlen n) (l.map uv)) (i : Nat) (hi : S[i]? = some l) :
    Calls Tryz.prog 132 #[.pointer (some ⟨bb, 0, none⟩), .slice A (wlen n) c] w fun e w' => e = .returned (.tuple #[.int .i64 (i : Int), .bool false, .nilIface]) ∧ Below w.heap.size w w' := by
  have hwl := wlen_le hB.nn
  have hkey := key_of l (by omega)
  obtain ⟨hrel1, hrel2⟩ := hB.rel.2 l ho
  have hh : Maps.has D (.string (keyB l)) = true := by rw [hrel1]; exact decide_eq_true (List.mem_of_getElem? hi)
  have hat := hrel2 i hi
  clear hrel1 hrel2
  have HAT := Lib.hid hat
  have HH := Lib.hid hh
  have HL := Lib.hid hl
  have HI := Lib.hid hi
  clear hat hh hl hi
  go_enter Tryz.func132, Tryz.ntmps132
  go_wp2_with fail
  refine (key_c _ A (wlen n) c l (by omega) hr ho).mono ?_
  rintro e w1 ⟨rfl, hb1⟩
  have hB1 := hB.keeps (Keeps.of_pure hb1 (fun _ => False)) (fun _ _ h => h)
  obtain ⟨c0, c1, c2, f1⟩ := blk_cells hB1.blk
  have hmap := hB1.map
  go_wp2_with (at_lookup; refine wpList_lookup_own_ok_int _ rfl _ _ _ rfl 9 3 .i64 keyLaw Tryz.underlying175 Tryz.underlying3 (zeroInt _) mb _ D rfl hmap _ _ rfl hkey ?_; intro c' hat' _; rw [HH.out])
  obtain rfl : c' = (i : Int) := by
    have := hat'.symm.trans HAT.out
    injection this with this
    injection this
  go_ret3
  exact ⟨rfl, hb1⟩

set_option maxRecDepth 100000 in
set_option maxHeartbeats 1000000 in
theorem put_new {w : World} {bb mb : Nat} {sv : Value} {rows : List Value} {D : DataW Unit} {n : Nat} {S : List (List Nat)} {O : Nat → Prop} (hB : BagAt w bb mb sv rows D n S O)
    (A : Option Addr) (c : Nat) (l : List Nat) (ho : Ok64 l) (hl : l.length = wlen n) (hr : w.ownsRow 0 70 1 (.slice A (wlen n) c) (wlen n) (l.map uv)) (hn : l ∉ S) (hroom : S.length < 4096) :
    Calls Tryz.prog 132 #[.pointer (some ⟨bb, 0, none⟩), .slice A (wlen n) c] w fun e w' => e = .returned (.tuple #[.int .i64 (S.length : Int), .bool true, .nilIface]) ∧
      BagIs w' (.pointer (some ⟨bb, 0, none⟩)) n (S ++ [l]) (bagMore O w.heap.size A) ∧ Keeps O w w' := by
  have hwl := wlen_le hB.nn
  have hkey := key_of l (by omega)
  have hh : Maps.has D (.string (keyB l)) = false := by rw [(hB.rel.2 l ho).1]; exact decide_eq_false hn
  have HH := Lib.hid hh
  have HL := Lib.hid hl
  have hlen : ((S.length : Int) == 4096) = false := by simp; omega
  clear hh hl
  go_enter Tryz.func132, Tryz.ntmps132
  go_wp2_with fail
  refine (key_c _ A (wlen n) c l (by omega) (Sl.of_own hr) ho).mono ?_
  rintro e w1 ⟨rfl, hb1⟩
  have hB1 := hB.keeps (Keeps.of_pure hb1 (fun _ => False)) (fun _ _ h => h)
  have hr1 := own_below hr hb1
  obtain ⟨c0, c1, c2, f1⟩ := blk_cells hB1.blk
  have hmap := hB1.map
  obtain ⟨SA, sc, rfl, _, _⟩ := own_slice hB1.own
  have hne : bb ≠ mb := by
    intro e
    obtain ⟨es, ck, hm, _⟩ := hmap
    have := hB1.blk
    rw [e, hm] at this
    cases this
  have h62 : ∀ v : Value, v.oneCell' = true → True := fun _ _ => trivial
  go_wp2_with (first
    | (at_lookup; refine wpList_lookup_own_ok_int _ rfl _ _ _ rfl 9 3 .i64 keyLaw Tryz.underlying175 Tryz.underlying3 (zeroInt _) mb _ D rfl hmap _ _ rfl hkey ?_; intro c' hat' _; rw [HH.out])
    | (at_mapUpdate; refine wpList_mapUpdate_own _ rfl _ _ _ 175 rfl 9 3 keyLaw Tryz.underlying175 _ mb S.length D rfl hmap (by simp only [maxLen]; omega) _ _ _ rfl rfl hkey _ [] (plainElem_int Tryz.underlying3 (WalkArith.wf_i64 (by omega))) ?_; intro w2 hmap2 hg2; have blk2 := (hg2.block bb hB1.ltb (by simpa using hne)).trans hB1.blk; obtain ⟨d0, d1, d2, g1⟩ := blk_cells blk2; have hown2 := own_keeps hB1.own (Keeps.of_grown hg2) (fun g hg e => by cases e; exact own_ne_map hB1.own hmap.choose_spec.choose_spec.1 hg))
    | (at_builtin; refine wpList_push rfl _ _ _ rfl tU64ss hown2 rfl _ 0 rfl rfl rfl (by simp only [maxLen]; omega) (by omega) (Nat.zero_le _) ?_; intro g cap w3 hown3 hg3 hat3 hlt3; have blk3 := (hg3.block bb (Array.getElem?_eq_some_iff.1 blk2).1 (fun e => own_ne_blk hown2 blk2 (by decide) e.symm)).trans blk2; obtain ⟨e0, e1, e2, i1⟩ := blk_cells blk3))
  go_ret3
  exact ⟨rfl, put_end hB ho HL.out hr hn hroom hb1 hne hmap2 hg2 hown3 hg3 hat3 blk3⟩

end Go.Proofs.YthilnpfpllplaaaGreatDoor

namespace Go.Proofs.YthilnpfpllplaaaGreatDoor
open Go.RowKit BagP

theorem BagIs.mono {w : World} {p : Value} {n : Nat} {S : List (List Nat)} {O O' : Nat → Prop} (h : BagIs w p n S O) (ho : ∀ k, O k → O' k) : BagIs w p n S O' := by
  obtain ⟨bb, mb, sv, rows, D, hp, hb⟩ := h
  exact ⟨bb, mb, sv, rows, D, hp, { hb with row := fun i l hl => (let ⟨v, h1, h2, h3⟩ := hb.row i l hl; ⟨v, h1, h2, fun g hg => ho _ (h3 g hg)⟩), fb := ho _ hb.fb, fm := ho _ hb.fm, fs := fun g hg => ho _ (hb.fs g hg) }⟩

def addS (S : List (List Nat)) (l : List Nat) : List (List Nat) := if l ∈ S then S else S ++ [l]
theorem addS_in {S : List (List Nat)} {l : List Nat} (h : l ∈ S) : addS S l = S := if_pos h
theorem addS_new {S : List (List Nat)} {l : List Nat} (h : l ∉ S) : addS S l = S ++ [l] := if_neg h

set_option maxHeartbeats 400000 in
theorem Put_c {w : World} {p : Value} {n : Nat} {S : List (List Nat)} {O : Nat → Prop} (hB : BagIs w p n S O) (A : Option Addr) (m c : Nat) (xs : List Int) (hm : m ≤ 140737488355328)
    (h : Sl w A m (xs.map (Value.int .i64))) (hx : ∀ x ∈ xs, 0 ≤ x ∧ x < (n : Int)) (hroom : bitsOf n xs ∈ S ∨ S.length < 4096) :
    Calls Tryz.prog 116 #[p, .slice A m c] w fun e w' => e = .returned (.tuple #[.int .i64 (((addS S (bitsOf n xs)).idxOf (bitsOf n xs) : Nat) : Int), .bool (!decide (bitsOf n xs ∈ S)), .nilIface]) ∧
      BagIs w' p n (addS S (bitsOf n xs)) (fun k => O k ∨ w.heap.size ≤ k) ∧ Keeps O w w' := by
  obtain ⟨bb, mb, sv, rows, D, rfl, hb⟩ := hB
  obtain ⟨c0, _, _, _⟩ := blk_cells hb.blk
  go_enter Tryz.func116, Tryz.ntmps116
  go_wp2_with fail
  refine (bits_c w bb n hb.nn c0 A m c xs hm h hx).mono ?_
  rintro e w1 ⟨rfl, hr1, hb1⟩
  have hk1 := Keeps.of_pure hb1 (fun _ => False)
  have hB1 := hb.keeps hk1 (fun _ _ h => h)
  have hs1 := hb1.size
  go_wp2_with fail
  by_cases hin : bitsOf n xs ∈ S
  · obtain ⟨i, hi⟩ := List.getElem?_of_mem hin
    refine (put_old hB1 _ _ (bitsOf n xs) (ok_bitsOf n xs) (length_bitsOf n xs) (Sl.of_own hr1) i hi).mono ?_
    rintro e w2 ⟨rfl, hb2⟩
    have HI := Lib.hid hin
    have HJ := Lib.hid hi
    have hB2 : BagIs w2 (.pointer (some ⟨bb, 0, none⟩)) n S O := ⟨bb, mb, sv, rows, D, rfl, hB1.keeps (Keeps.of_pure hb2 (fun _ => False)) (fun _ _ h => h)⟩
    clear hin hi
    go_wp2_with fail
    go_ret3
    refine ⟨?_, ?_, Keeps.of_pure (pure_trans hb1 hb2) O⟩
    · have e1 : (addS S (bitsOf n xs)).idxOf (bitsOf n xs) = i := by
        rw [addS_in HI.out]
        exact idx_nodup hb.nd HJ.out
      rw [e1, decide_eq_true HI.out]
      rfl
    · rw [addS_in HI.out]
      exact hB2.mono (fun k h => .inl h)
  · have hroom' : S.length < 4096 := hroom.resolve_left hin
    refine (put_new hB1 _ _ (bitsOf n xs) (ok_bitsOf n xs) (length_bitsOf n xs) (own_base hr1 (Nat.zero_le _)) hin hroom').mono ?_
    rintro e w2 ⟨rfl, hB2, hk2⟩
    have HI := Lib.hid hin
    clear hin
    go_wp2_with fail
    go_ret3
    refine ⟨?_, ?_, (hk1.mono (fun _ _ h => h.elim)).trans hk2 (fun _ _ h => h)⟩
    · have e1 : (addS S (bitsOf n xs)).idxOf (bitsOf n xs) = S.length := by
        rw [addS_new HI.out, List.idxOf_append, if_neg HI.out]
        simp
      rw [e1, decide_eq_false HI.out]
      rfl
    · rw [addS_new HI.out]
      refine hB2.mono (fun k h => ?_)
      rcases h with h | h | ⟨ad, e, h⟩
      · exact .inl h
      · right; omega
      · right; cases e; rw [h]; exact Nat.le_refl _

theorem Len_c {w : World} {p : Value} {n : Nat} {S : List (List Nat)} {O : Nat → Prop} (hB : BagIs w p n S O) :
    Calls Tryz.prog 117 #[p] w fun e w' => e = .returned (.int .i64 (S.length : Int)) ∧ w = w' := by
  obtain ⟨bb, mb, sv, rows, D, rfl, hb⟩ := hB
  obtain ⟨A, c, rfl, _, _⟩ := own_slice hb.own
  obtain ⟨_, c1, _, _⟩ := blk_cells hb.blk
  go_enter Tryz.func117, Tryz.ntmps117
  go_wp2
  go_ret
  exact ⟨rfl, rfl⟩

theorem set_c {w : World} {bb mb : Nat} {sv : Value} {rows : List Value} {D : DataW Unit} {n : Nat} {S : List (List Nat)} {O : Nat → Prop} (hB : BagAt w bb mb sv rows D n S O)
    (i : Nat) (hi : i < S.length) (at' : Int) (v : Value) (hv : rows[i]? = some v) :
    Calls Tryz.prog 140 #[.pointer (some ⟨bb, 0, none⟩), .int .i64 (i : Int), .int .i64 at'] w fun e w' => e = .returned (.tuple #[v, .nilIface]) ∧ w = w' := by
  have hbig := hB.big
  obtain ⟨A, c, rfl, _, _⟩ := own_slice hB.own
  obtain ⟨_, c1, _, _⟩ := blk_cells hB.blk
  obtain ⟨ad, rfl, hc⟩ := (Sl.of_own hB.own).2 i v hv
  clear hv
  go_enter Tryz.func140, Tryz.ntmps140
  go_wp2
  go_ret2
  exact ⟨rfl, rfl⟩

theorem bit_test {u j : Nat} (hu : u < 2 ^ 64) : (bits .and .u64 ((u : Int) / 2 ^ j) 1 == 1) = u.testBit j := by
  have e0 : ((2 : Int) ^ j) = ((2 ^ j : Nat) : Int) := (Int.natCast_pow 2 j).symm
  have e1 : ((u : Int) / ((2 ^ j : Nat) : Int)) = ((u / 2 ^ j : Nat) : Int) := by simp
  have h1 : u / 2 ^ j < 18446744073709551616 := Nat.lt_of_le_of_lt (Nat.div_le_self _ _) hu
  have e2 := u64_and_nat (u / 2 ^ j) 1 h1 (by decide)
  rw [e0, e1, show (1 : Int) = ((1 : Nat) : Int) from rfl, e2, nat_mask1, Nat.testBit_eq_decide_div_mod_eq]
  by_cases h : u / 2 ^ j % 2 = 1
  · rw [decide_eq_true h, h]; rfl
  · rw [decide_eq_false h]
    have : u / 2 ^ j % 2 = 0 := by omega
    rw [this]; rfl
theorem getL_step (k : Nat) (l : List Nat) : getL (k + 1) l = getL k l ++ (if hasB l k = true then [(k : Int)] else []) := by
  unfold getL
  rw [List.range_succ, List.filter_append, List.map_append]
  congr 1
  cases h : hasB l k <;> simp [h]

set_option maxRecDepth 100000 in
set_option maxHeartbeats 400000 in
theorem Get_c {w : World} {p : Value} {n : Nat} {S : List (List Nat)} {O : Nat → Prop} (hB : BagIs w p n S O) (i : Nat) (l : List Nat) (hi : S[i]? = some l) :
    Calls Tryz.prog 133 #[p, .int .i64 (i : Int)] w fun e w' => SomeRow w 3 ((getL n l).map (Value.int .i64)) e w' := by
  obtain ⟨bb, mb, sv, rows, D, rfl, hb⟩ := hB
  obtain ⟨v, hv, hr, _⟩ := hb.row i l hi
  obtain ⟨hok, hlen⟩ := hb.okw l (List.mem_of_getElem? hi)
  have hil : i < S.length := (List.getElem?_eq_some_iff.1 hi).1
  obtain ⟨c0, _, _, _⟩ := blk_cells hb.blk
  have hn := hb.nn
  obtain ⟨A, c, rfl, _, _⟩ := own_slice hr
  have hs := Sl.of_own hr
  clear hi
  go_enter Tryz.func133, Tryz.ntmps133
  go_wp2_with (go_at_call 140; refine (set_c hb i hil _ _ hv).mono ?_; rintro e w1 ⟨rfl, rfl⟩)
  go_loopw [8, 23] (fun s i wr => ∃ k : Nat, k ≤ n ∧ i = .int .i64 k ∧ wr.ownsRow w.heap.size 3 1 s ((getL k l).map (Value.int .i64)).length ((getL k l).map (Value.int .i64)) ∧ Below w.heap.size w wr) (fun _ i _ => n - (intOf i).toNat)
  case atStart => exact ⟨0, Nat.zero_le _, rfl, World.ownsRow_nil _ _ _ _, Below.refl _ _⟩
  case round =>
    obtain ⟨k, hk, rfl, hown, hb'⟩ := hrel
    have hkl : ((getL k l).map (Value.int .i64)).length ≤ k := by simp only [getL, List.length_map]; exact Nat.le_trans (List.length_filter_le _ _) (by simp)
    by_cases hlt : k < n
    · obtain ⟨ad, u, rfl, hu, hcu⟩ := (hs.below hb').word_ (wlen_lt hlt)
      have hu64 := hok u (List.mem_of_getElem? hu)
      have HU := Lib.hid hu
      have HV := Lib.hid hu64
      clear hu hu64
      have hkw : k / 64 < wlen n := wlen_lt hlt
      have T := bit_test (j := k % 64) HV.out
      have Hst := getL_step k l
      have hbit : hasB l k = u.testBit (k % 64) := by unfold hasB; rw [List.getD_eq_getElem?_getD, HU.out]; rfl
      rw [← hbit] at T
      have HSt := Lib.hid Hst
      clear hbit Hst
      cases hc : hasB l k
      · rw [hc] at T
        have HC := Lib.hid hc
        clear hc
        go_wp2
        rw [HC.out, if_neg (by simp), List.append_nil] at HSt
        refine ⟨⟨k + 1, by omega, by go_num, by rw [HSt.out]; exact hown, hb'⟩, by simp [intOf]; omega⟩
      · rw [hc] at T
        have HC := Lib.hid hc
        clear hc
        go_wp2_with (at_builtin; refine wpList_push rfl _ _ _ rfl tInts hown rfl _ 0 rfl rfl rfl (by simp only [maxLen]; omega) (by omega) hb'.size ?_; intro g cap w3 hown3 hg3 hat3 hlt3)
        rw [HC.out, if_pos rfl] at HSt
        refine ⟨⟨k + 1, by omega, by go_num, ?_, hb'.grown hg3 hb'.size (fun q hq => (hown.lt q hq).1)⟩, by simp [intOf]; omega⟩
        rw [HSt.out]
        simpa using hown3
    · have hkn : k = n := by omega
      have E := Lib.hid hkn
      clear hkn
      go_wp2
      go_ret2
      rw [E.out] at hown
      exact ⟨_, rfl, hown, hb'⟩

end Go.Proofs.YthilnpfpllplaaaGreatDoor

namespace Go.Proofs.YthilnpfpllplaaaGreatDoor
open Go.RowKit Go.WideMaps Go.Maps BagP

def sBag : ByteArray := ⟨#[98, 97, 103]⟩
theorem bagWrong_c (w : World) (E : Nat → Addr) (hE : Errs w E) (at' : Int) (n : Nat) (h1 : 1 ≤ n) (h2 : n ≤ 11) :
    Calls Tryz.prog 130 #[.int .i64 at', .int .i64 (n : Int)] w fun e w' => e = .returned (errV w.heap.size) ∧ ErrIs w' E n [(sBag, at')] (errV w.heap.size) ∧ Below w.heap.size w w' := by
  have HE := Lib.hid hE
  clear hE
  go_enter Tryz.func130, Tryz.ntmps130
  go_wp2_with fail
  refine (new_c w E HE.out sBag at' n h1 h2).mono ?_
  rintro e w' ⟨rfl, rfl⟩
  go_wp2_with fail
  go_ret
  exact ⟨rfl, ⟨w.heap.size, _, rfl, heap_new _ _, rfl⟩, (Below.refl _ _).alloc (Nat.le_refl _) _⟩

set_option maxRecDepth 100000 in
set_option maxHeartbeats 1000000 in
theorem put_full {w : World} {bb mb : Nat} {sv : Value} {rows : List Value} {D : DataW Unit} {n : Nat} {S : List (List Nat)} {O : Nat → Prop} (hB : BagAt w bb mb sv rows D n S O) (E : Nat → Addr) (hE : Errs w E)
    (A : Option Addr) (c : Nat) (l : List Nat) (ho : Ok64 l) (hl : l.length = wlen n) (hr : Sl w A (wlen n) (l.map uv)) (hn : l ∉ S) (hfull : S.length = 4096) :
    Calls Tryz.prog 132 #[.pointer (some ⟨bb, 0, none⟩), .slice A (wlen n) c] w fun e w' => ∃ b, e = .returned (.tuple #[.int .i64 0, .bool false, errV b]) ∧ ErrIs w' E 4 [(sBag, 0)] (errV b) ∧ Below w.heap.size w w' := by
  have hwl := wlen_le hB.nn
  have hkey := key_of l (by omega)
  have hh : Maps.has D (.string (keyB l)) = false := by rw [(hB.rel.2 l ho).1]; exact decide_eq_false hn
  have HH := Lib.hid hh
  have hlen : ((S.length : Int) == 4096) = true := by rw [hfull]; rfl
  have HE := Lib.hid (fun (wz : World) (hz : Below w.heap.size w wz) => bagWrong_c wz E (hE.below hz) 0 4 (by decide) (by decide))
  clear hh hl hfull hE
  go_enter Tryz.func132, Tryz.ntmps132
  go_wp2_with fail
  refine (key_c _ A (wlen n) c l (by omega) hr ho).mono ?_
  rintro e w1 ⟨rfl, hb1⟩
  have hB1 := hB.keeps (Keeps.of_pure hb1 (fun _ => False)) (fun _ _ h => h)
  obtain ⟨c0, c1, c2, f1⟩ := blk_cells hB1.blk
  have hmap := hB1.map
  obtain ⟨SA, sc, rfl, _, _⟩ := own_slice hB1.own
  go_wp2_with (at_lookup; refine wpList_lookup_own_ok_int _ rfl _ _ _ rfl 9 3 .i64 keyLaw Tryz.underlying175 Tryz.underlying3 (zeroInt _) mb _ D rfl hmap _ _ rfl hkey ?_; intro c' hat' _; rw [HH.out])
  refine (HE.out w1 hb1).mono ?_
  rintro e w2 ⟨rfl, he2, hb2⟩
  go_wp2_with fail
  go_ret3
  exact ⟨_, rfl, he2, hb1.trans (hb2.mono hb1.size)⟩

set_option maxRecDepth 100000 in
set_option maxHeartbeats 1000000 in
/-- A bag at its limit refuses a new set. -/
theorem Put_full {w : World} {p : Value} {n : Nat} {S : List (List Nat)} {O : Nat → Prop} (hB : BagIs w p n S O) (E : Nat → Addr) (hE : Errs w E) (A : Option Addr) (m c : Nat) (xs : List Int) (hm : m ≤ 140737488355328)
    (h : Sl w A m (xs.map (Value.int .i64))) (hx : ∀ x ∈ xs, 0 ≤ x ∧ x < (n : Int)) (hn : bitsOf n xs ∉ S) (hfull : S.length = 4096) :
    Calls Tryz.prog 116 #[p, .slice A m c] w fun e w' => ∃ b, e = .returned (.tuple #[.int .i64 0, .bool false, errV b]) ∧ ErrIs w' E 4 [(sBag, 0)] (errV b) ∧ Below w.heap.size w w' := by
  obtain ⟨bb, mb, sv, rows, D, rfl, hb⟩ := hB
  obtain ⟨c0, _, _, _⟩ := blk_cells hb.blk
  have HF := Lib.hid hfull
  have HN := Lib.hid hn
  have HE := Lib.hid (fun (wz : World) (hz : Below w.heap.size w wz) => hE.below hz)
  clear hfull hn hE
  go_enter Tryz.func116, Tryz.ntmps116
  go_wp2_with fail
  refine (bits_c w bb n hb.nn c0 A m c xs hm h hx).mono ?_
  rintro e w1 ⟨rfl, hr1, hb1⟩
  have hB1 := hb.keeps (Keeps.of_pure hb1 (fun _ => False)) (fun _ _ h => h)
  go_wp2_with fail
  refine (put_full hB1 E (HE.out w1 hb1) _ _ (bitsOf n xs) (ok_bitsOf n xs) (length_bitsOf n xs) (Sl.of_own hr1) HN.out HF.out).mono ?_
  rintro e w2 ⟨b, rfl, he2, hb2⟩
  go_wp2_with fail
  go_ret3
  exact ⟨b, rfl, he2, hb1.trans (hb2.mono hb1.size)⟩

set_option maxRecDepth 100000 in
set_option maxHeartbeats 1000000 in
/-- Put of a set that is there: its number; memory stays. -/
theorem Put_in {w : World} {p : Value} {n : Nat} {S : List (List Nat)} {O : Nat → Prop} (hB : BagIs w p n S O) (A : Option Addr) (m c : Nat) (xs : List Int) (hm : m ≤ 140737488355328)
    (h : Sl w A m (xs.map (Value.int .i64))) (hx : ∀ x ∈ xs, 0 ≤ x ∧ x < (n : Int)) (i : Nat) (hi : S[i]? = some (bitsOf n xs)) :
    Calls Tryz.prog 116 #[p, .slice A m c] w fun e w' => e = .returned (.tuple #[.int .i64 (i : Int), .bool false, .nilIface]) ∧ Below w.heap.size w w' := by
  obtain ⟨bb, mb, sv, rows, D, rfl, hb⟩ := hB
  obtain ⟨c0, _, _, _⟩ := blk_cells hb.blk
  have HI := Lib.hid hi
  clear hi
  go_enter Tryz.func116, Tryz.ntmps116
  go_wp2_with fail
  refine (bits_c w bb n hb.nn c0 A m c xs hm h hx).mono ?_
  rintro e w1 ⟨rfl, hr1, hb1⟩
  have hB1 := hb.keeps (Keeps.of_pure hb1 (fun _ => False)) (fun _ _ h => h)
  go_wp2_with fail
  refine (put_old hB1 _ _ (bitsOf n xs) (ok_bitsOf n xs) (length_bitsOf n xs) (Sl.of_own hr1) i HI.out).mono ?_
  rintro e w2 ⟨rfl, hb2⟩
  go_wp2_with fail
  go_ret3
  exact ⟨rfl, hb1.trans (hb2.mono hb1.size)⟩

end Go.Proofs.YthilnpfpllplaaaGreatDoor

namespace Go.Proofs.YthilnpfpllplaaaGreatDoor
open Go.RowKit BagP

/-- The block is of one of a bag's kinds. -/
def BT (w : World) (k : Nat) : Prop :=
  (∃ cs e, w.heap[k]? = some (.cells cs e (0, 0)) ∧ (e = 192 ∨ e = 193 ∨ e = 70)) ∨ ∃ es c, w.heap[k]? = some (.map es c)
theorem notBT_blk {w : World} {b e : Nat} {cs : Array Value} (h : w.heap[b]? = some (.cells cs e (0, 0))) (he : ¬ (e = 192 ∨ e = 193 ∨ e = 70)) : ¬ BT w b := by
  rintro (⟨cs', e', h', he'⟩ | ⟨es, c, h'⟩)
  · rw [h] at h'
    injection h' with h'
    injection h' with _ h'
    subst h'
    exact he he'
  · rw [h] at h'
    cases h'
theorem notBT_own {w : World} {base e n g : Nat} {v : Value} {xs : List Value} (h : w.ownsRow base e 1 v n xs) (he : ¬ (e = 192 ∨ e = 193 ∨ e = 70)) (hg : v.ownBlock = some g) : ¬ BT w g := by
  obtain ⟨cs, hc⟩ := own_block h hg
  exact notBT_blk hc he
/-- A bag's blocks, told by their kinds, from B on. -/
def BOwn (w : World) (B k : Nat) : Prop := BT w k ∧ B ≤ k
def BagT (w : World) (B : Nat) (p : Value) (n : Nat) (S : List (List Nat)) : Prop := BagIs w p n S (BOwn w B)
theorem BagIs.bt {w : World} {B : Nat} {p : Value} {n : Nat} {S : List (List Nat)} {O : Nat → Prop} (h : BagIs w p n S O) (hO : ∀ k, O k → B ≤ k) : BagT w B p n S := by
  obtain ⟨bb, mb, sv, rows, D, hp, hb⟩ := h
  refine ⟨bb, mb, sv, rows, D, hp, { hb with row := fun i l hl => ?_, fb := ⟨.inl ⟨_, _, hb.blk, .inl rfl⟩, hO _ hb.fb⟩, fm := ⟨?_, hO _ hb.fm⟩, fs := fun g hg => ⟨?_, hO _ (hb.fs g hg)⟩ }⟩
  · obtain ⟨v, h1, h2, h3⟩ := hb.row i l hl
    refine ⟨v, h1, h2, fun g hg => ⟨?_, hO _ (h3 g hg)⟩⟩
    obtain ⟨cs, hc⟩ := own_block h2 hg
    exact .inl ⟨cs, _, hc, .inr (.inr rfl)⟩
  · obtain ⟨es, c, hm, _⟩ := hb.map
    exact .inr ⟨es, c, hm⟩
  · obtain ⟨cs, hc⟩ := own_block hb.own hg
    exact .inl ⟨cs, _, hc, .inr (.inl rfl)⟩
theorem BagT.keeps {w w' : World} {B : Nat} {p : Value} {n : Nat} {S : List (List Nat)} {Q : Nat → Prop} (h : BagT w B p n S) (hk : Keeps Q w w') (hq : ∀ b, Q b → ¬ BOwn w B b) : BagT w' B p n S :=
  BagIs.bt (BagIs.keeps h hk (fun k hb hQ => hq k hQ hb)) (fun _ h => h.2)
theorem BagT.below {w w' : World} {B : Nat} {p : Value} {n : Nat} {S : List (List Nat)} (h : BagT w B p n S) (hb : Below w.heap.size w w') : BagT w' B p n S :=
  h.keeps (Keeps.of_pure hb (fun _ => False)) (fun _ hf => hf.elim)
/-- Put of a list of members: the set is there behind it. -/
theorem putT_c {w : World} {B : Nat} {p : Value} {n : Nat} {S : List (List Nat)} (hB : BagT w B p n S) (hBw : B ≤ w.heap.size) (A : Option Addr) (m c : Nat) (xs : List Int) (hm : m ≤ 140737488355328)
    (h : Sl w A m (xs.map (Value.int .i64))) (hx : ∀ x ∈ xs, 0 ≤ x ∧ x < (n : Int)) (hroom : bitsOf n xs ∈ S ∨ S.length < 4096) :
    Calls Tryz.prog 116 #[p, .slice A m c] w fun e w' => e = .returned (.tuple #[.int .i64 (((addS S (bitsOf n xs)).idxOf (bitsOf n xs) : Nat) : Int), .bool (!decide (bitsOf n xs ∈ S)), .nilIface]) ∧
      BagT w' B p n (addS S (bitsOf n xs)) ∧ Keeps (BOwn w B) w w' :=
  (Put_c hB A m c xs hm h hx hroom).mono fun e w' ⟨h1, h2, h3⟩ => ⟨h1, h2.bt (fun k hk => hk.elim (fun h => h.2) (fun h => by omega)), h3⟩
end Go.Proofs.YthilnpfpllplaaaGreatDoor

namespace Go.Proofs.YthilnpfpllplaaaGreatDoor
open Go.RowKit BagP RuleP SubP

/-- What stays: the rule, where it lies, where the walk and its bag lie, the world ahead of it. -/
structure WalkP where
  w0 : World
  k : Nat
  r : Nat
  t : List Nat
  TA : Option Addr
  tc : Nat
  wb : Nat
  bp : Value
  stop : Bool
def WalkP.N (D : WalkP) : Nat := D.k ^ (2 * D.r)
def WalkP.B (D : WalkP) : Nat := D.w0.heap.size
def WalkP.cells (D : WalkP) (nv wv : Value) : Array Value :=
  #[.int .i64 (D.k : Int), .int .i64 (D.r : Int), .slice D.TA D.t.length D.tc, D.bp, nv, wv, .bool D.stop]
structure WalkOk (D : WalkP) : Prop where
  rule : IsRule D.k D.r D.t
  small : D.t.length ≤ 256
  T : Sl D.w0 D.TA D.t.length ((ints D.t).map (Value.int .i64))
theorem WalkOk.N0 {D : WalkP} (h : WalkOk D) : 0 < D.N := Nat.pow_pos h.rule.k1
theorem WalkOk.N256 {D : WalkP} (h : WalkOk D) : D.N * D.k ≤ 256 := by
  have h1 := (nodes_div h.rule).2
  have h2 := h.small
  have : D.N = D.k ^ (2 * D.r) := rfl
  rw [this]
  omega
theorem WalkOk.k4 {D : WalkP} (h : WalkOk D) : 1 ≤ D.k ∧ D.k ≤ 4 := ⟨h.rule.k1, h.rule.k4⟩
theorem WalkOk.Nle {D : WalkP} (h : WalkOk D) : D.N ≤ 256 := by
  have h1 := h.N256
  have h2 := h.k4.1
  exact Nat.le_trans (Nat.le_mul_of_pos_right _ h2) h1

/-- The walk as memory holds it. -/
structure WalkAt (w : World) (D : WalkP) (S : St) (nv wv : Value) (nr wr : List Value) (X : Nat → Prop) : Prop where
  blk : w.heap[D.wb]? = some (.cells (D.cells nv wv) 150 (0, 0))
  old : Below D.B D.w0 w
  fb : D.B ≤ D.wb
  bag : BagT w D.B D.bp D.N (S.sets.map (wordsOf D.N))
  nx : RowsAt w D.B nv nr S.next X
  wd : RowsAt w D.B wv wr (S.words.map ints) X
  two : ∀ g, nv.ownBlock = some g → wv.ownBlock ≠ some g

namespace WalkAt
variable {w w' : World} {D : WalkP} {S : St} {nv wv nv' wv' : Value} {nr wr nr' wr' : List Value} {X X' : Nat → Prop}
theorem lt (h : WalkAt w D S nv wv nr wr X) : D.wb < w.heap.size := (Array.getElem?_eq_some_iff.1 h.blk).1
theorem facts (h : WalkAt w D S nv wv nr wr X) :
    w.cell? ⟨D.wb, 0, none⟩ = some (.int .i64 (D.k : Int)) ∧ w.cell? ⟨D.wb, 1, none⟩ = some (.int .i64 (D.r : Int)) ∧ w.cell? ⟨D.wb, 2, none⟩ = some (.slice D.TA D.t.length D.tc) ∧ w.cell? ⟨D.wb, 3, none⟩ = some D.bp ∧
    w.cell? ⟨D.wb, 4, none⟩ = some nv ∧ w.cell? ⟨D.wb, 5, none⟩ = some wv ∧ w.cell? ⟨D.wb, 6, none⟩ = some (.bool D.stop) ∧ w.frozen? ⟨D.wb, 4, none⟩ = false ∧ w.frozen? ⟨D.wb, 5, none⟩ = false := by
  have hb := h.blk
  refine ⟨?_, ?_, ?_, ?_, ?_, ?_, ?_, frozen_of_row _ _ 4 _ _ hb, frozen_of_row _ _ 5 _ _ hb⟩ <;> rw [cell_of_row w D.wb _ _ _ _ hb] <;> rfl
theorem tab (h : WalkAt w D S nv wv nr wr X) (hD : WalkOk D) : Sl w D.TA D.t.length ((ints D.t).map (Value.int .i64)) := hD.T.below h.old
theorem mono (h : WalkAt w D S nv wv nr wr X) (hx : ∀ b, X' b → X b ∨ w.heap.size ≤ b) : WalkAt w D S nv wv nr wr X' :=
  { h with nx := h.nx.mono hx, wd := h.wd.mono hx }
theorem wlst (h : WalkAt w D S nv wv nr wr X) : w.ownsRow D.B 22 1 wv S.words.length wr := by
  have := h.wd.lst
  rwa [List.length_map] at this
/-- Writes to rows of numbers that are none of the walk's. -/
theorem keeps {Q : Nat → Prop} (h : WalkAt w D S nv wv nr wr X) (hk : Keeps Q w w') (hq : ∀ b, Q b → X b ∧ D.B ≤ b ∧ ∃ cs, w.heap[b]? = some (.cells cs 3 (0, 0))) : WalkAt w' D S nv wv nr wr X where
  blk := (hk.block _ h.lt (fun hb => by
    obtain ⟨_, _, cs, hc⟩ := hq _ hb
    have := h.blk
    rw [hc] at this
    injection this with this
    injection this with _ this
    exact absurd this (by decide))).trans h.blk
  old := h.old.trans (hk.below h.old.size (fun b hb => (hq b hb).2.1))
  fb := h.fb
  bag := h.bag.keeps hk (fun b hb => by obtain ⟨_, _, cs, hc⟩ := hq b hb; exact fun h => notBT_blk hc (by decide) h.1)
  nx := h.nx.keeps hk (fun b hb => by obtain ⟨_, _, cs, hc⟩ := hq b hb; exact h.nx.not_lst hc (by decide)) (fun b hb => h.nx.not_X (hq b hb).1)
  wd := h.wd.keeps hk (fun b hb => by obtain ⟨_, _, cs, hc⟩ := hq b hb; exact h.wd.not_lst hc (by decide)) (fun b hb => h.wd.not_X (hq b hb).1)
  two := h.two
theorem pure (h : WalkAt w D S nv wv nr wr X) (hb : Below w.heap.size w w') : WalkAt w' D S nv wv nr wr X :=
  h.keeps (Keeps.of_pure hb (fun _ => False)) (fun _ hf => hf.elim)

/-- What the walk may write. -/
def Foot (w : World) (D : WalkP) (nv wv : Value) (b : Nat) : Prop := b = D.wb ∨ BOwn w D.B b ∨ nv.ownBlock = some b ∨ wv.ownBlock = some b
theorem notFoot (h : WalkAt w D S nv wv nr wr X) {base n g : Nat} {xv : Value} {xs : List Value} (hx : w.ownsRow base 3 1 xv n xs) (hg : xv.ownBlock = some g) : ¬ Foot w D nv wv g := by
  rintro (rfl | hb | hb | hb)
  · exact own_ne_blk hx h.blk (by decide) hg
  · exact notBT_own hx (by decide) hg hb.1
  · exact own_ne_own hx h.nx.lst (by decide) hg hb
  · exact own_ne_own hx h.wd.lst (by decide) hg hb

/-- Behind a call of the bag: a set more, or none. -/
theorem bagged (h : WalkAt w D S nv wv nr wr X) (hk : Keeps (BOwn w D.B) w w') {sets : List (List Bool)} (hb : BagT w' D.B D.bp D.N (sets.map (wordsOf D.N))) :
    WalkAt w' D ⟨sets, S.words, S.next⟩ nv wv nr wr X where
  blk := (hk.block _ h.lt (fun h' => notBT_blk h.blk (by decide) h'.1)).trans h.blk
  old := h.old.trans (hk.below h.old.size (fun _ h => h.2))
  fb := h.fb
  bag := hb
  nx := h.nx.keeps hk (fun b hb hg => notBT_own h.nx.lst (by decide) hg hb.1) (fun b hb v hv hg => by obtain ⟨l, _, h2, _⟩ := h.nx.mem hv; exact notBT_own h2 (by decide) hg hb.1)
  wd := h.wd.keeps hk (fun b hb hg => notBT_own h.wd.lst (by decide) hg hb.1) (fun b hb v hv hg => by obtain ⟨l, _, h2, _⟩ := h.wd.mem hv; exact notBT_own h2 (by decide) hg hb.1)
  two := h.two
/-- Something stored in the walk's own block. -/
theorem setW {cs : Array Value} {j : Nat} {u : Value} (blk : w.heap[D.wb]? = some (.cells cs 150 (0, 0))) (hc : cs.setIfInBounds j u = D.cells nv wv) (old : Below D.B D.w0 w) (fb : D.B ≤ D.wb)
    (bag : BagT w D.B D.bp D.N (S.sets.map (wordsOf D.N))) (nx : RowsAt w D.B nv nr S.next X) (wd : RowsAt w D.B wv wr (S.words.map ints) X) (two : ∀ g, nv.ownBlock = some g → wv.ownBlock ≠ some g) :
    WalkAt (w.setCell ⟨D.wb, j, none⟩ u) D S nv wv nr wr X := by
  have hk := Keeps.of_setCell w ⟨D.wb, j, none⟩ u
  have hb : ∀ b, b = (⟨D.wb, j, none⟩ : Addr).block → w.heap[b]? = some (.cells cs 150 (0, 0)) := fun b e => by rw [show b = D.wb from e]; exact blk
  exact {
    blk := by
      have := heap_setCell_same w D.wb j _ _ u blk
      rw [hc] at this
      exact this
    old := old.setCell fb _
    fb := fb
    bag := bag.keeps hk (fun b e h => notBT_blk (hb b e) (by decide) h.1)
    nx := nx.keeps hk (fun b e => nx.not_lst (hb b e) (by decide)) (fun b e => nx.not_el (hb b e) (by decide))
    wd := wd.keeps hk (fun b e => wd.not_lst (hb b e) (by decide)) (fun b e => wd.not_el (hb b e) (by decide))
    two := two }
/-- A word kept behind the others. -/
theorem worded (h : WalkAt w D S nv wv nr wr X) {x : List Nat} {v lv' : Value} (hv : w.ownsRow D.B 3 1 v x.length ((ints x).map (Value.int .i64))) (hX : ∀ g, v.ownBlock = some g → ¬ X g) (hnew : ∀ g, v.ownBlock = some g → ∀ u ∈ wr, u.ownBlock ≠ some g)
    (hl : w'.ownsRow D.B 22 1 lv' (S.words.length + 1) (wr ++ [v])) (hk : Keeps (fun b => wv.ownBlock = some b) w w') (hg : ∀ g, lv'.ownBlock = some g → wv.ownBlock = some g ∨ w.heap.size ≤ g) :
    WalkAt (w'.setCell ⟨D.wb, 5, none⟩ lv') D ⟨S.sets, S.words ++ [x], S.next⟩ nv lv' nr (wr ++ [v]) X := by
  refine setW (cs := D.cells nv wv) ((hk.block _ h.lt (own_ne_blk h.wd.lst h.blk (by decide))).trans h.blk) rfl (h.old.trans (hk.below h.old.size (fun b hb => (h.wd.lst.lt b hb).1))) h.fb
    (h.bag.keeps hk (fun b hb hB => notBT_own h.wd.lst (by decide) hb hB.1))
    (h.nx.keeps hk (fun b hb hb' => h.two b hb' hb) (fun b hb v hv hg => by obtain ⟨l, _, h2, _⟩ := h.nx.mem hv; exact own_ne_own h2 h.wd.lst (by decide) hg hb)) ?_ (fun g h1 h2 => ?_)
  · have := h.wd.put (l := ints x) (v := v) (lv' := lv') (w' := w') (by rw [ints_len]; exact hv) hX hnew (by rw [List.length_map]; exact hl) hk
    rw [List.map_append]
    exact this
  · rcases hg g h2 with h3 | h3
    · exact h.two g h1 h3
    · have := (h.nx.lst.lt g h1).2; omega
/-- Behind a push to the words: the walk's own block. -/
theorem worded_pre (h : WalkAt w D S nv wv nr wr X) (hk : Keeps (fun b => wv.ownBlock = some b) w w') :
    w'.cell? ⟨D.wb, 5, none⟩ = some wv ∧ w'.frozen? ⟨D.wb, 5, none⟩ = false ∧ w.heap.size ≤ w'.heap.size := by
  have hb := (hk.block _ h.lt (own_ne_blk h.wd.lst h.blk (by decide))).trans h.blk
  exact ⟨by rw [cell_of_row w' D.wb _ _ _ _ hb]; rfl, frozen_of_row _ _ 5 _ _ hb, hk.size⟩
theorem nexted_pre (h : WalkAt w D S nv wv nr wr X) (hk : Keeps (fun b => nv.ownBlock = some b) w w') :
    w'.cell? ⟨D.wb, 4, none⟩ = some nv ∧ w'.frozen? ⟨D.wb, 4, none⟩ = false ∧ w.heap.size ≤ w'.heap.size := by
  have hb := (hk.block _ h.lt (own_ne_blk h.nx.lst h.blk (by decide))).trans h.blk
  exact ⟨by rw [cell_of_row w' D.wb _ _ _ _ hb]; rfl, frozen_of_row _ _ 4 _ _ hb, hk.size⟩
/-- A row kept behind the others. -/
theorem nexted (h : WalkAt w D S nv wv nr wr X) {x : List Int} {v lv' : Value} (hv : w.ownsRow D.B 3 1 v x.length (x.map (Value.int .i64))) (hX : ∀ g, v.ownBlock = some g → ¬ X g) (hnew : ∀ g, v.ownBlock = some g → ∀ u ∈ nr, u.ownBlock ≠ some g)
    (hl : w'.ownsRow D.B 22 1 lv' (S.next.length + 1) (nr ++ [v])) (hk : Keeps (fun b => nv.ownBlock = some b) w w') (hg : ∀ g, lv'.ownBlock = some g → nv.ownBlock = some g ∨ w.heap.size ≤ g) :
    WalkAt (w'.setCell ⟨D.wb, 4, none⟩ lv') D ⟨S.sets, S.words, S.next ++ [x]⟩ lv' wv (nr ++ [v]) wr X := by
  refine setW (cs := D.cells nv wv) ((hk.block _ h.lt (own_ne_blk h.nx.lst h.blk (by decide))).trans h.blk) rfl (h.old.trans (hk.below h.old.size (fun b hb => (h.nx.lst.lt b hb).1))) h.fb
    (h.bag.keeps hk (fun b hb hB => notBT_own h.nx.lst (by decide) hb hB.1))
    (h.nx.put (l := x) (v := v) (lv' := lv') (w' := w') hv hX hnew hl hk)
    (h.wd.keeps hk (fun b hb hb' => h.two b hb hb') (fun b hb v hv hg => by obtain ⟨l, _, h2, _⟩ := h.wd.mem hv; exact own_ne_own h2 h.nx.lst (by decide) hg hb)) (fun g h1 h2 => ?_)
  rcases hg g h1 with h3 | h3
  · exact h.two g h3 h2
  · have := (h.wd.lst.lt g h2).2; omega
/-- A row of numbers that is none of the walk's, behind a write of the walk. -/
theorem keeps_int {w' : World} (h : WalkAt w D S nv wv nr wr X) {base n : Nat} {xv : Value} {xs : List Value} (hx : w.ownsRow base 3 1 xv n xs) (hk : Keeps (Foot w D nv wv) w w') : w'.ownsRow base 3 1 xv n xs :=
  own_keeps hx hk (fun _ hg hf => h.notFoot hx hg hf)
end WalkAt
end Go.Proofs.YthilnpfpllplaaaGreatDoor
