/- What the bag's methods answer: Put, Len, Get, Has. Condition: the numbers are in range and there is room. bag's errors: bag.wrong; put at the limit; bits, Put, Find of lists that are no sets; Find of a set that is not there. Condition: the error variables hold what E says. A bag's blocks told by their kinds: what is of other kinds stays apart from it. Condition: as the bag's contracts say. A list of lists of numbers as the call's own memory holds it: the list's row, the rows of its elements, apart from one another. Plain lemmas, no program. No condition. What memory holds of the walk over the subsets: subset's walk. Plain lemmas, no program. No condition. -/
import Derived.Test.YtibplgpolmplpaaGreatDoorX2
import Derived.Test.YtibplgpolmplpaaGreatDoorX3
import Derived.Test.YtibplgpolmplpaaGreatDoorX5
import Derived.Test.YtibplgpolmplpaaGreatDoorX18
namespace Go.Proofs.YtibplgpolmplpaaGreatDoor
open Go.RowKit BagP

theorem BagIs.mono {w : World} {p : Value} {n : Nat} {S : List (List Nat)} {O O' : Nat → Prop} (h : BagIs w p n S O) (ho : ∀ k, O k → O' k) : BagIs w p n S O' := by
  obtain ⟨bb, mb, sv, rows, D, hp, hb⟩ := h
  exact ⟨bb, mb, sv, rows, D, hp, { hb with row := fun i l hl => (let ⟨v, h1, h2, h3⟩ := hb.row i l hl; ⟨v, h1, h2, fun g hg => ho _ (h3 g hg)⟩), fb := ho _ hb.fb, fm := ho _ hb.fm, fs := fun g hg => ho _ (hb.fs g hg) }⟩

def addS (S : List (List Nat)) (l : List Nat) : List (List Nat) := if l ∈ S then S else S ++ [l]
theorem addS_in {S : List (List Nat)} {l : List Nat} (h : l ∈ S) : addS S l = S := if_pos h
theorem addS_new {S : List (List Nat)} {l : List Nat} (h : l ∉ S) : addS S l = S ++ [l] := if_neg h

set_option maxHeartbeats 400000 in
theorem Put_c {w : World} {p : Value} {n : Nat} {S : List (List Nat)} {O : Nat → Prop} (hB : BagIs w p n S O) (A : Option Addr) (m c : Nat) (xs : List Int) (hm : m ≤ 140737488355328)
    (h : Sl w A m (xs.map (Value.int .i64))) (hx : ∀ x ∈ xs, 0 ≤ x ∧ x < (n : Int)) (hroom : bitsOf n xs ∈ S ∨ S.length < 4096) :
    Calls Tryz.prog 78 #[p, .slice A m c] w fun e w' => e = .returned (.tuple #[.int .i64 (((addS S (bitsOf n xs)).idxOf (bitsOf n xs) : Nat) : Int), .bool (!decide (bitsOf n xs ∈ S)), .nilIface]) ∧
      BagIs w' p n (addS S (bitsOf n xs)) (fun k => O k ∨ w.heap.size ≤ k) ∧ Keeps O w w' := by
  obtain ⟨bb, mb, sv, rows, D, rfl, hb⟩ := hB
  obtain ⟨c0, _, _, _⟩ := blk_cells hb.blk
  go_enter Tryz.func78, Tryz.ntmps78
  go_wp2_with fail
  refine (bits_c w bb n hb.nn c0 A m c xs hm h hx).mono ?_
  rintro e w1 ⟨rfl, hr1, hb1⟩
  have hk1 := Keeps.of_pure hb1 (fun _ => False)
  have hB1 := hb.keeps hk1 (fun _ _ h => h)
  have hs1 := hb1.size
  go_wp2_with fail
  by_cases hin : bitsOf n xs ∈ S
  · obtain ⟨i, hi⟩ := List.getElem?_of_mem hin
    refine (put_old hB1 _ _ (bitsOf n xs) (ok_bitsOf n xs) (length_bitsOf n xs) (Sl.of_own hr1) i hi).mono ?_
    rintro e w2 ⟨rfl, hb2⟩
    have HI := Lib.hid hin
    have HJ := Lib.hid hi
    have hB2 : BagIs w2 (.pointer (some ⟨bb, 0, none⟩)) n S O := ⟨bb, mb, sv, rows, D, rfl, hB1.keeps (Keeps.of_pure hb2 (fun _ => False)) (fun _ _ h => h)⟩
    clear hin hi
    go_wp2_with fail
    go_ret3
    refine ⟨?_, ?_, Keeps.of_pure (pure_trans hb1 hb2) O⟩
    · have e1 : (addS S (bitsOf n xs)).idxOf (bitsOf n xs) = i := by
        rw [addS_in HI.out]
        exact idx_nodup hb.nd HJ.out
      rw [e1, decide_eq_true HI.out]
      rfl
    · rw [addS_in HI.out]
      exact hB2.mono (fun k h => .inl h)
  · have hroom' : S.length < 4096 := hroom.resolve_left hin
    refine (put_new hB1 _ _ (bitsOf n xs) (ok_bitsOf n xs) (length_bitsOf n xs) (own_base hr1 (Nat.zero_le _)) hin hroom').mono ?_
    rintro e w2 ⟨rfl, hB2, hk2⟩
    have HI := Lib.hid hin
    clear hin
    go_wp2_with fail
    go_ret3
    refine ⟨?_, ?_, (hk1.mono (fun _ _ h => h.elim)).trans hk2 (fun _ _ h => h)⟩
    · have e1 : (addS S (bitsOf n xs)).idxOf (bitsOf n xs) = S.length := by
        rw [addS_new HI.out, List.idxOf_append, if_neg HI.out]
        simp
      rw [e1, decide_eq_false HI.out]
      rfl
    · rw [addS_new HI.out]
      refine hB2.mono (fun k h => ?_)
      rcases h with h | h | ⟨ad, e, h⟩
      · exact .inl h
      · right; omega
      · right; cases e; rw [h]; exact Nat.le_refl _

theorem Len_c {w : World} {p : Value} {n : Nat} {S : List (List Nat)} {O : Nat → Prop} (hB : BagIs w p n S O) :
    Calls Tryz.prog 79 #[p] w fun e w' => e = .returned (.int .i64 (S.length : Int)) ∧ w = w' := by
  obtain ⟨bb, mb, sv, rows, D, rfl, hb⟩ := hB
  obtain ⟨A, c, rfl, _, _⟩ := own_slice hb.own
  obtain ⟨_, c1, _, _⟩ := blk_cells hb.blk
  go_enter Tryz.func79, Tryz.ntmps79
  go_wp2
  go_ret
  exact ⟨rfl, rfl⟩

theorem set_c {w : World} {bb mb : Nat} {sv : Value} {rows : List Value} {D : DataW Unit} {n : Nat} {S : List (List Nat)} {O : Nat → Prop} (hB : BagAt w bb mb sv rows D n S O)
    (i : Nat) (hi : i < S.length) (at' : Int) (v : Value) (hv : rows[i]? = some v) :
    Calls Tryz.prog 134 #[.pointer (some ⟨bb, 0, none⟩), .int .i64 (i : Int), .int .i64 at'] w fun e w' => e = .returned (.tuple #[v, .nilIface]) ∧ w = w' := by
  have hbig := hB.big
  obtain ⟨A, c, rfl, _, _⟩ := own_slice hB.own
  obtain ⟨_, c1, _, _⟩ := blk_cells hB.blk
  obtain ⟨ad, rfl, hc⟩ := (Sl.of_own hB.own).2 i v hv
  clear hv
  go_enter Tryz.func134, Tryz.ntmps134
  go_wp2
  go_ret2
  exact ⟨rfl, rfl⟩

theorem bit_test {u j : Nat} (hu : u < 2 ^ 64) : (bits .and .u64 ((u : Int) / 2 ^ j) 1 == 1) = u.testBit j := by
  have e0 : ((2 : Int) ^ j) = ((2 ^ j : Nat) : Int) := (Int.natCast_pow 2 j).symm
  have e1 : ((u : Int) / ((2 ^ j : Nat) : Int)) = ((u / 2 ^ j : Nat) : Int) := by simp
  have h1 : u / 2 ^ j < 18446744073709551616 := Nat.lt_of_le_of_lt (Nat.div_le_self _ _) hu
  have e2 := u64_and_nat (u / 2 ^ j) 1 h1 (by decide)
  rw [e0, e1, show (1 : Int) = ((1 : Nat) : Int) from rfl, e2, nat_mask1, Nat.testBit_eq_decide_div_mod_eq]
  by_cases h : u / 2 ^ j % 2 = 1
  · rw [decide_eq_true h, h]; rfl
  · rw [decide_eq_false h]
    have : u / 2 ^ j % 2 = 0 := by omega
    rw [this]; rfl
theorem getL_step (k : Nat) (l : List Nat) : getL (k + 1) l = getL k l ++ (if BagP.hasB l k = true then [(k : Int)] else []) := by
  unfold getL
  rw [List.range_succ, List.filter_append, List.map_append]
  congr 1
  cases h : BagP.hasB l k <;> simp [h]

set_option maxRecDepth 100000 in
set_option maxHeartbeats 400000 in
theorem Get_c {w : World} {p : Value} {n : Nat} {S : List (List Nat)} {O : Nat → Prop} (hB : BagIs w p n S O) (i : Nat) (l : List Nat) (hi : S[i]? = some l) :
    Calls Tryz.prog 118 #[p, .int .i64 (i : Int)] w fun e w' => SomeRow w 3 ((getL n l).map (Value.int .i64)) e w' := by
  obtain ⟨bb, mb, sv, rows, D, rfl, hb⟩ := hB
  obtain ⟨v, hv, hr, _⟩ := hb.row i l hi
  obtain ⟨hok, hlen⟩ := hb.okw l (List.mem_of_getElem? hi)
  have hil : i < S.length := (List.getElem?_eq_some_iff.1 hi).1
  obtain ⟨c0, _, _, _⟩ := blk_cells hb.blk
  have hn := hb.nn
  obtain ⟨A, c, rfl, _, _⟩ := own_slice hr
  have hs := Sl.of_own hr
  clear hi
  go_enter Tryz.func118, Tryz.ntmps118
  go_wp2_with (go_at_call 134; refine (set_c hb i hil _ _ hv).mono ?_; rintro e w1 ⟨rfl, rfl⟩)
  go_loopw [8, 23] (fun s i wr => ∃ k : Nat, k ≤ n ∧ i = .int .i64 k ∧ wr.ownsRow w.heap.size 3 1 s ((getL k l).map (Value.int .i64)).length ((getL k l).map (Value.int .i64)) ∧ Below w.heap.size w wr) (fun _ i _ => n - (intOf i).toNat)
  case atStart => exact ⟨0, Nat.zero_le _, rfl, World.ownsRow_nil _ _ _ _, Below.refl _ _⟩
  case round =>
    obtain ⟨k, hk, rfl, hown, hb'⟩ := hrel
    have hkl : ((getL k l).map (Value.int .i64)).length ≤ k := by simp only [getL, List.length_map]; exact Nat.le_trans (List.length_filter_le _ _) (by simp)
    by_cases hlt : k < n
    · obtain ⟨ad, u, rfl, hu, hcu⟩ := (hs.below hb').word_ (wlen_lt hlt)
      have hu64 := hok u (List.mem_of_getElem? hu)
      have HU := Lib.hid hu
      have HV := Lib.hid hu64
      clear hu hu64
      have hkw : k / 64 < wlen n := wlen_lt hlt
      have T := bit_test (j := k % 64) HV.out
      have Hst := getL_step k l
      have hbit : BagP.hasB l k = u.testBit (k % 64) := by unfold BagP.hasB; rw [List.getD_eq_getElem?_getD, HU.out]; rfl
      rw [← hbit] at T
      have HSt := Lib.hid Hst
      clear hbit Hst
      cases hc : BagP.hasB l k
      · rw [hc] at T
        have HC := Lib.hid hc
        clear hc
        go_wp2
        rw [HC.out, if_neg (by simp), List.append_nil] at HSt
        refine ⟨⟨k + 1, by omega, by go_num, by rw [HSt.out]; exact hown, hb'⟩, by simp [intOf]; omega⟩
      · rw [hc] at T
        have HC := Lib.hid hc
        clear hc
        go_wp2_with (at_builtin; refine wpList_push rfl _ _ _ rfl tInts hown rfl _ 0 rfl rfl rfl (by simp only [maxLen]; omega) (by omega) hb'.size ?_; intro g cap w3 hown3 hg3 hat3 hlt3)
        rw [HC.out, if_pos rfl] at HSt
        refine ⟨⟨k + 1, by omega, by go_num, ?_, hb'.grown hg3 hb'.size (fun q hq => (hown.lt q hq).1)⟩, by simp [intOf]; omega⟩
        rw [HSt.out]
        simpa using hown3
    · have hkn : k = n := by omega
      have E := Lib.hid hkn
      clear hkn
      go_wp2
      go_ret2
      rw [E.out] at hown
      exact ⟨_, rfl, hown, hb'⟩

end Go.Proofs.YtibplgpolmplpaaGreatDoor

namespace Go.Proofs.YtibplgpolmplpaaGreatDoor
open Go.RowKit Go.WideMaps Go.Maps BagP

def sBag : ByteArray := ⟨#[98, 97, 103]⟩
theorem bagWrong_c (w : World) (E : Nat → Addr) (hE : Errs w E) (at' : Int) (n : Nat) (h1 : 1 ≤ n) (h2 : n ≤ 11) :
    Calls Tryz.prog 115 #[.int .i64 at', .int .i64 (n : Int)] w fun e w' => e = .returned (errV w.heap.size) ∧ ErrIs w' E n [(sBag, at')] (errV w.heap.size) ∧ Below w.heap.size w w' := by
  have HE := Lib.hid hE
  clear hE
  go_enter Tryz.func115, Tryz.ntmps115
  go_wp2_with fail
  refine (new_c w E HE.out sBag at' n h1 h2).mono ?_
  rintro e w' ⟨rfl, rfl⟩
  go_wp2_with fail
  go_ret
  exact ⟨rfl, ⟨w.heap.size, _, rfl, heap_new _ _, rfl⟩, (Below.refl _ _).alloc (Nat.le_refl _) _⟩

set_option maxRecDepth 100000 in
set_option maxHeartbeats 1000000 in
theorem put_full {w : World} {bb mb : Nat} {sv : Value} {rows : List Value} {D : DataW Unit} {n : Nat} {S : List (List Nat)} {O : Nat → Prop} (hB : BagAt w bb mb sv rows D n S O) (E : Nat → Addr) (hE : Errs w E)
    (A : Option Addr) (c : Nat) (l : List Nat) (ho : Ok64 l) (hl : l.length = wlen n) (hr : Sl w A (wlen n) (l.map uv)) (hn : l ∉ S) (hfull : S.length = 4096) :
    Calls Tryz.prog 117 #[.pointer (some ⟨bb, 0, none⟩), .slice A (wlen n) c] w fun e w' => ∃ b, e = .returned (.tuple #[.int .i64 0, .bool false, errV b]) ∧ ErrIs w' E 4 [(sBag, 0)] (errV b) ∧ Below w.heap.size w w' := by
  have hwl := wlen_le hB.nn
  have hkey := key_of l (by omega)
  have hh : Maps.has D (.string (keyB l)) = false := by rw [(hB.rel.2 l ho).1]; exact decide_eq_false hn
  have HH := Lib.hid hh
  have hlen : ((S.length : Int) == 4096) = true := by rw [hfull]; rfl
  have HE := Lib.hid (fun (wz : World) (hz : Below w.heap.size w wz) => bagWrong_c wz E (hE.below hz) 0 4 (by decide) (by decide))
  clear hh hl hfull hE
  go_enter Tryz.func117, Tryz.ntmps117
  go_wp2_with fail
  refine (key_c _ A (wlen n) c l (by omega) hr ho).mono ?_
  rintro e w1 ⟨rfl, hb1⟩
  have hB1 := hB.keeps (Keeps.of_pure hb1 (fun _ => False)) (fun _ _ h => h)
  obtain ⟨c0, c1, c2, f1⟩ := blk_cells hB1.blk
  have hmap := hB1.map
  obtain ⟨SA, sc, rfl, _, _⟩ := own_slice hB1.own
  go_wp2_with (at_lookup; refine wpList_lookup_own_ok_int _ rfl _ _ _ rfl 9 3 .i64 keyLaw Tryz.underlying170 Tryz.underlying3 (zeroInt _) mb _ D rfl hmap _ _ rfl hkey ?_; intro c' hat' _; rw [HH.out])
  refine (HE.out w1 hb1).mono ?_
  rintro e w2 ⟨rfl, he2, hb2⟩
  go_wp2_with fail
  go_ret3
  exact ⟨_, rfl, he2, hb1.trans (hb2.mono hb1.size)⟩

set_option maxRecDepth 100000 in
set_option maxHeartbeats 1000000 in
/-- A bag at its limit refuses a new set. -/
theorem Put_full {w : World} {p : Value} {n : Nat} {S : List (List Nat)} {O : Nat → Prop} (hB : BagIs w p n S O) (E : Nat → Addr) (hE : Errs w E) (A : Option Addr) (m c : Nat) (xs : List Int) (hm : m ≤ 140737488355328)
    (h : Sl w A m (xs.map (Value.int .i64))) (hx : ∀ x ∈ xs, 0 ≤ x ∧ x < (n : Int)) (hn : bitsOf n xs ∉ S) (hfull : S.length = 4096) :
    Calls Tryz.prog 78 #[p, .slice A m c] w fun e w' => ∃ b, e = .returned (.tuple #[.int .i64 0, .bool false, errV b]) ∧ ErrIs w' E 4 [(sBag, 0)] (errV b) ∧ Below w.heap.size w w' := by
  obtain ⟨bb, mb, sv, rows, D, rfl, hb⟩ := hB
  obtain ⟨c0, _, _, _⟩ := blk_cells hb.blk
  have HF := Lib.hid hfull
  have HN := Lib.hid hn
  have HE := Lib.hid (fun (wz : World) (hz : Below w.heap.size w wz) => hE.below hz)
  clear hfull hn hE
  go_enter Tryz.func78, Tryz.ntmps78
  go_wp2_with fail
  refine (bits_c w bb n hb.nn c0 A m c xs hm h hx).mono ?_
  rintro e w1 ⟨rfl, hr1, hb1⟩
  have hB1 := hb.keeps (Keeps.of_pure hb1 (fun _ => False)) (fun _ _ h => h)
  go_wp2_with fail
  refine (put_full hB1 E (HE.out w1 hb1) _ _ (bitsOf n xs) (ok_bitsOf n xs) (length_bitsOf n xs) (Sl.of_own hr1) HN.out HF.out).mono ?_
  rintro e w2 ⟨b, rfl, he2, hb2⟩
  go_wp2_with fail
  go_ret3
  exact ⟨b, rfl, he2, hb1.trans (hb2.mono hb1.size)⟩

set_option maxRecDepth 100000 in
set_option maxHeartbeats 1000000 in
/-- Put of a set that is there: its number; memory stays. -/
theorem Put_in {w : World} {p : Value} {n : Nat} {S : List (List Nat)} {O : Nat → Prop} (hB : BagIs w p n S O) (A : Option Addr) (m c : Nat) (xs : List Int) (hm : m ≤ 140737488355328)
    (h : Sl w A m (xs.map (Value.int .i64))) (hx : ∀ x ∈ xs, 0 ≤ x ∧ x < (n : Int)) (i : Nat) (hi : S[i]? = some (bitsOf n xs)) :
    Calls Tryz.prog 78 #[p, .slice A m c] w fun e w' => e = .returned (.tuple #[.int .i64 (i : Int), .bool false, .nilIface]) ∧ Below w.heap.size w w' := by
  obtain ⟨bb, mb, sv, rows, D, rfl, hb⟩ := hB
  obtain ⟨c0, _, _, _⟩ := blk_cells hb.blk
  have HI := Lib.hid hi
  clear hi
  go_enter Tryz.func78, Tryz.ntmps78
  go_wp2_with fail
  refine (bits_c w bb n hb.nn c0 A m c xs hm h hx).mono ?_
  rintro e w1 ⟨rfl, hr1, hb1⟩
  have hB1 := hb.keeps (Keeps.of_pure hb1 (fun _ => False)) (fun _ _ h => h)
  go_wp2_with fail
  refine (put_old hB1 _ _ (bitsOf n xs) (ok_bitsOf n xs) (length_bitsOf n xs) (Sl.of_own hr1) i HI.out).mono ?_
  rintro e w2 ⟨rfl, hb2⟩
  go_wp2_with fail
  go_ret3
  exact ⟨rfl, hb1.trans (hb2.mono hb1.size)⟩

end Go.Proofs.YtibplgpolmplpaaGreatDoor

namespace Go.Proofs.YtibplgpolmplpaaGreatDoor
open Go.RowKit BagP

/-- The block is of one of a bag's kinds. -/
def BT (w : World) (k : Nat) : Prop :=
  (∃ cs e, w.heap[k]? = some (.cells cs e (0, 0)) ∧ (e = 173 ∨ e = 174 ∨ e = 87)) ∨ ∃ es c, w.heap[k]? = some (.map es c)
theorem notBT_blk {w : World} {b e : Nat} {cs : Array Value} (h : w.heap[b]? = some (.cells cs e (0, 0))) (he : ¬ (e = 173 ∨ e = 174 ∨ e = 87)) : ¬ BT w b := by
  rintro (⟨cs', e', h', he'⟩ | ⟨es, c, h'⟩)
  · rw [h] at h'
    injection h' with h'
    injection h' with _ h'
    subst h'
    exact he he'
  · rw [h] at h'
    cases h'
theorem notBT_own {w : World} {base e n g : Nat} {v : Value} {xs : List Value} (h : w.ownsRow base e 1 v n xs) (he : ¬ (e = 173 ∨ e = 174 ∨ e = 87)) (hg : v.ownBlock = some g) : ¬ BT w g := by
  obtain ⟨cs, hc⟩ := own_block h hg
  exact notBT_blk hc he
/-- A bag's blocks, told by their kinds, from B on. -/
def BOwn (w : World) (B k : Nat) : Prop := BT w k ∧ B ≤ k
def BagT (w : World) (B : Nat) (p : Value) (n : Nat) (S : List (List Nat)) : Prop := BagIs w p n S (BOwn w B)
theorem BagIs.bt {w : World} {B : Nat} {p : Value} {n : Nat} {S : List (List Nat)} {O : Nat → Prop} (h : BagIs w p n S O) (hO : ∀ k, O k → B ≤ k) : BagT w B p n S := by
  obtain ⟨bb, mb, sv, rows, D, hp, hb⟩ := h
  refine ⟨bb, mb, sv, rows, D, hp, { hb with row := fun i l hl => ?_, fb := ⟨.inl ⟨_, _, hb.blk, .inl rfl⟩, hO _ hb.fb⟩, fm := ⟨?_, hO _ hb.fm⟩, fs := fun g hg => ⟨?_, hO _ (hb.fs g hg)⟩ }⟩
  · obtain ⟨v, h1, h2, h3⟩ := hb.row i l hl
    refine ⟨v, h1, h2, fun g hg => ⟨?_, hO _ (h3 g hg)⟩⟩
    obtain ⟨cs, hc⟩ := own_block h2 hg
    exact .inl ⟨cs, _, hc, .inr (.inr rfl)⟩
  · obtain ⟨es, c, hm, _⟩ := hb.map
    exact .inr ⟨es, c, hm⟩
  · obtain ⟨cs, hc⟩ := own_block hb.own hg
    exact .inl ⟨cs, _, hc, .inr (.inl rfl)⟩
theorem BagT.keeps {w w' : World} {B : Nat} {p : Value} {n : Nat} {S : List (List Nat)} {Q : Nat → Prop} (h : BagT w B p n S) (hk : Keeps Q w w') (hq : ∀ b, Q b → ¬ BOwn w B b) : BagT w' B p n S :=
  BagIs.bt (BagIs.keeps h hk (fun k hb hQ => hq k hQ hb)) (fun _ h => h.2)
theorem BagT.below {w w' : World} {B : Nat} {p : Value} {n : Nat} {S : List (List Nat)} (h : BagT w B p n S) (hb : Below w.heap.size w w') : BagT w' B p n S :=
  h.keeps (Keeps.of_pure hb (fun _ => False)) (fun _ hf => hf.elim)
/-- Put of a list of members: the set is there behind it. -/
theorem putT_c {w : World} {B : Nat} {p : Value} {n : Nat} {S : List (List Nat)} (hB : BagT w B p n S) (hBw : B ≤ w.heap.size) (A : Option Addr) (m c : Nat) (xs : List Int) (hm : m ≤ 140737488355328)
    (h : Sl w A m (xs.map (Value.int .i64))) (hx : ∀ x ∈ xs, 0 ≤ x ∧ x < (n : Int)) (hroom : bitsOf n xs ∈ S ∨ S.length < 4096) :
    Calls Tryz.prog 78 #[p, .slice A m c] w fun e w' => e = .returned (.tuple #[.int .i64 (((addS S (bitsOf n xs)).idxOf (bitsOf n xs) : Nat) : Int), .bool (!decide (bitsOf n xs ∈ S)), .nilIface]) ∧
      BagT w' B p n (addS S (bitsOf n xs)) ∧ Keeps (BOwn w B) w w' :=
  (Put_c hB A m c xs hm h hx hroom).mono fun e w' ⟨h1, h2, h3⟩ => ⟨h1, h2.bt (fun k hk => hk.elim (fun h => h.2) (fun h => by omega)), h3⟩
end Go.Proofs.YtibplgpolmplpaaGreatDoor

namespace Go.Proofs.YtibplgpolmplpaaGreatDoor
open Go.RowKit RuleP

/-- A list of lists: lt the inner lists' type, et their elements'. -/
structure RowsG (lt et : TypeId) (w : World) (B : Nat) (lv : Value) (rows : List Value) (L : List (List Value)) (X : Nat → Prop) : Prop where
  lst : w.ownsRow B lt 1 lv L.length rows
  el : ∀ (j : Nat) l, L[j]? = some l → ∃ v, rows[j]? = some v ∧ w.ownsRow B et 1 v l.length l ∧ ∀ g, v.ownBlock = some g → ¬ X g
  far : FarV rows
namespace RowsG
variable {lt et : TypeId} {w w' : World} {B : Nat} {lv lv' : Value} {rows : List Value} {L : List (List Value)} {X X' : Nat → Prop}
theorem len (h : RowsG lt et w B lv rows L X) : rows.length = L.length := by simpa using h.lst.1
theorem mem (h : RowsG lt et w B lv rows L X) {v : Value} (hv : v ∈ rows) : ∃ l, l ∈ L ∧ w.ownsRow B et 1 v l.length l ∧ ∀ g, v.ownBlock = some g → ¬ X g := by
  obtain ⟨j, hj⟩ := List.getElem?_of_mem hv
  have hl : j < L.length := by have := (List.getElem?_eq_some_iff.1 hj).1; have := h.len; omega
  obtain ⟨u, h1, h2, h3⟩ := h.el j _ (List.getElem?_eq_getElem hl)
  rw [hj] at h1
  cases h1
  exact ⟨_, List.getElem_mem hl, h2, h3⟩
theorem nil (w : World) (B : Nat) (X : Nat → Prop) : RowsG lt et w B (.slice none 0 0) [] [] X :=
  ⟨World.ownsRow_nil _ _ _ _, fun j l h => by simp at h, fun i j v v' g _ h => by simp at h⟩
theorem mono (h : RowsG lt et w B lv rows L X) (hx : ∀ b, X' b → X b ∨ w.heap.size ≤ b) : RowsG lt et w B lv rows L X' :=
  { h with
    el := fun j l hj => by
      obtain ⟨v, h1, h2, h3⟩ := h.el j l hj
      exact ⟨v, h1, h2, fun g hg hx' => by
        rcases hx g hx' with h' | h'
        · exact h3 g hg h'
        · have := (h2.lt g hg).2; omega⟩ }
theorem base (h : RowsG lt et w B lv rows L X) {B' : Nat} (hb : B' ≤ B) : RowsG lt et w B' lv rows L X :=
  ⟨own_base h.lst hb, fun j l hj => (let ⟨v, h1, h2, h3⟩ := h.el j l hj; ⟨v, h1, own_base h2 hb, h3⟩), h.far⟩
theorem keeps {Q : Nat → Prop} (h : RowsG lt et w B lv rows L X) (hk : Keeps Q w w') (h1 : ∀ b, Q b → lv.ownBlock ≠ some b) (h2 : ∀ b, Q b → ∀ v ∈ rows, v.ownBlock ≠ some b) : RowsG lt et w' B lv rows L X :=
  ⟨own_keeps h.lst hk (fun g hg hQ => h1 g hQ hg), fun j l hj => by
    obtain ⟨v, e1, e2, e3⟩ := h.el j l hj
    exact ⟨v, e1, own_keeps e2 hk (fun g hg hQ => h2 g hQ v (List.mem_of_getElem? e1) hg), e3⟩, h.far⟩
theorem pure (h : RowsG lt et w B lv rows L X) (hb : Below w.heap.size w w') : RowsG lt et w' B lv rows L X :=
  h.keeps (Keeps.of_pure hb (fun _ => False)) (fun _ hf => hf.elim) (fun _ hf => hf.elim)
/-- A block of another kind is none of the list's. -/
theorem not_lst (h : RowsG lt et w B lv rows L X) {b e : Nat} {cs : Array Value} (hb : w.heap[b]? = some (.cells cs e (0, 0))) (he : e ≠ lt) : lv.ownBlock ≠ some b := own_ne_blk h.lst hb he.symm
theorem not_el (h : RowsG lt et w B lv rows L X) {b e : Nat} {cs : Array Value} (hb : w.heap[b]? = some (.cells cs e (0, 0))) (he : e ≠ et) : ∀ v ∈ rows, v.ownBlock ≠ some b := fun v hv => by
  obtain ⟨l, _, h2, _⟩ := h.mem hv
  exact own_ne_blk h2 hb he.symm
theorem not_X (h : RowsG lt et w B lv rows L X) {b : Nat} (hb : X b) : ∀ v ∈ rows, v.ownBlock ≠ some b := fun v hv hg => by
  obtain ⟨l, _, _, h3⟩ := h.mem hv
  exact h3 b hg hb
theorem not_new (h : RowsG lt et w B lv rows L X) {b : Nat} (hb : w.heap.size ≤ b) : lv.ownBlock ≠ some b ∧ ∀ v ∈ rows, v.ownBlock ≠ some b :=
  ⟨fun hg => by have := (h.lst.lt b hg).2; omega, fun v hv hg => by
    obtain ⟨l, _, h2, _⟩ := h.mem hv
    have := (h2.lt b hg).2
    omega⟩
/-- One element more: the list grown beside it. -/
theorem put (hT : et ≠ lt) (h : RowsG lt et w B lv rows L X) {l : List Value} {v : Value} (hv : w.ownsRow B et 1 v l.length l) (hX : ∀ g, v.ownBlock = some g → ¬ X g) (hnew : ∀ g, v.ownBlock = some g → ∀ u ∈ rows, u.ownBlock ≠ some g)
    (hl : w'.ownsRow B lt 1 lv' (L.length + 1) (rows ++ [v])) (hk : Keeps (fun b => lv.ownBlock = some b) w w') :
    RowsG lt et w' B lv' (rows ++ [v]) (L ++ [l]) X := by
  have hrl := h.len
  have hne : ∀ {n : Nat} {u : Value} {xs : List Value}, w.ownsRow B et 1 u n xs → ∀ g, u.ownBlock = some g → ¬ (lv.ownBlock = some g) := fun ho g hg e => own_ne_own ho h.lst hT hg e
  refine ⟨by rw [List.length_append]; exact hl, fun j l' hj => ?_, fun i j u u' g hij hu hu' hg hg' => ?_⟩
  · rcases Nat.lt_or_ge j L.length with hlt | hge
    · rw [List.getElem?_append_left hlt] at hj
      obtain ⟨u, h1, h2, h3⟩ := h.el j l' hj
      exact ⟨u, by rw [List.getElem?_append_left (by omega)]; exact h1, own_keeps h2 hk (hne h2), h3⟩
    · rw [List.getElem?_append_right hge] at hj
      rcases Nat.eq_zero_or_pos (j - L.length) with h0 | h0
      · rw [h0] at hj
        simp at hj
        subst hj
        exact ⟨v, by rw [List.getElem?_append_right (by omega), hrl, h0]; rfl, own_keeps hv hk (hne hv), hX⟩
      · rw [List.getElem?_eq_none (by simp; omega)] at hj; cases hj
  · have hin : ∀ (i : Nat) (u : Value), (rows ++ [v])[i]? = some u → (rows[i]? = some u ∧ u ∈ rows) ∨ (i = rows.length ∧ u = v) := fun i u hu => by
      rcases Nat.lt_or_ge i rows.length with hlt | hge
      · rw [List.getElem?_append_left hlt] at hu
        exact .inl ⟨hu, List.mem_of_getElem? hu⟩
      · rw [List.getElem?_append_right hge] at hu
        rcases Nat.eq_zero_or_pos (i - rows.length) with h0 | h0
        · rw [h0] at hu; simp at hu; exact .inr ⟨by omega, hu.symm⟩
        · rw [List.getElem?_eq_none (by simp; omega)] at hu; cases hu
    rcases hin i u hu with ⟨a1, a2⟩ | ⟨a1, a2⟩ <;> rcases hin j u' hu' with ⟨b1, b2⟩ | ⟨b1, b2⟩
    · exact h.far i j u u' g hij a1 b1 hg hg'
    · subst b2; exact hnew g hg' u a2 hg
    · subst a2; exact hnew g hg u' b2 hg'
    · omega
end RowsG

/-- A list of lists of numbers. -/
def iVs (L : List (List Int)) : List (List Value) := L.map fun l => l.map (Value.int .i64)
def RowsAt (w : World) (B : Nat) (lv : Value) (rows : List Value) (L : List (List Int)) (X : Nat → Prop) : Prop := RowsG 22 3 w B lv rows (iVs L) X
namespace RowsAt
variable {w w' : World} {B : Nat} {lv lv' : Value} {rows : List Value} {L : List (List Int)} {X X' : Nat → Prop}
theorem lst (h : RowsAt w B lv rows L X) : w.ownsRow B 22 1 lv L.length rows := by
  have := RowsG.lst h
  unfold iVs at this
  rwa [List.length_map] at this
theorem el (h : RowsAt w B lv rows L X) (j : Nat) (l : List Int) (hj : L[j]? = some l) : ∃ v, rows[j]? = some v ∧ w.ownsRow B 3 1 v l.length (l.map (Value.int .i64)) ∧ ∀ g, v.ownBlock = some g → ¬ X g := by
  obtain ⟨v, h1, h2, h3⟩ := RowsG.el h j (l.map (Value.int .i64)) (by unfold iVs; rw [List.getElem?_map, hj]; rfl)
  rw [List.length_map] at h2
  exact ⟨v, h1, h2, h3⟩
theorem mk' (h1 : w.ownsRow B 22 1 lv L.length rows) (h2 : ∀ (j : Nat) l, L[j]? = some l → ∃ v, rows[j]? = some v ∧ w.ownsRow B 3 1 v l.length (l.map (Value.int .i64)) ∧ ∀ g, v.ownBlock = some g → ¬ X g) (h3 : FarV rows) : RowsAt w B lv rows L X :=
  ⟨by unfold iVs; rw [List.length_map]; exact h1, fun j l hj => by
    unfold iVs at hj
    rw [List.getElem?_map] at hj
    cases hl : L[j]? with
    | none => rw [hl] at hj; cases hj
    | some l' =>
      rw [hl] at hj
      obtain rfl := Option.some.inj hj
      obtain ⟨v, a1, a2, a3⟩ := h2 j l' hl
      exact ⟨v, a1, by rw [List.length_map]; exact a2, a3⟩, h3⟩
theorem far (h : RowsAt w B lv rows L X) : FarV rows := RowsG.far h
theorem nil (w : World) (B : Nat) (X : Nat → Prop) : RowsAt w B (.slice none 0 0) [] [] X := RowsG.nil w B X
theorem len (h : RowsAt w B lv rows L X) : rows.length = L.length := by have := RowsG.len h; unfold iVs at this; rwa [List.length_map] at this
theorem mem (h : RowsAt w B lv rows L X) {v : Value} (hv : v ∈ rows) : ∃ l, l ∈ iVs L ∧ w.ownsRow B 3 1 v l.length l ∧ ∀ g, v.ownBlock = some g → ¬ X g := RowsG.mem h hv
theorem mono (h : RowsAt w B lv rows L X) (hx : ∀ b, X' b → X b ∨ w.heap.size ≤ b) : RowsAt w B lv rows L X' := RowsG.mono h hx
theorem base (h : RowsAt w B lv rows L X) {B' : Nat} (hb : B' ≤ B) : RowsAt w B' lv rows L X := RowsG.base h hb
theorem keeps {Q : Nat → Prop} (h : RowsAt w B lv rows L X) (hk : Keeps Q w w') (h1 : ∀ b, Q b → lv.ownBlock ≠ some b) (h2 : ∀ b, Q b → ∀ v ∈ rows, v.ownBlock ≠ some b) : RowsAt w' B lv rows L X := RowsG.keeps h hk h1 h2
theorem pure (h : RowsAt w B lv rows L X) (hb : Below w.heap.size w w') : RowsAt w' B lv rows L X := RowsG.pure h hb
theorem not_lst (h : RowsAt w B lv rows L X) {b e : Nat} {cs : Array Value} (hb : w.heap[b]? = some (.cells cs e (0, 0))) (he : e ≠ 22) : lv.ownBlock ≠ some b := RowsG.not_lst h hb he
theorem not_el (h : RowsAt w B lv rows L X) {b e : Nat} {cs : Array Value} (hb : w.heap[b]? = some (.cells cs e (0, 0))) (he : e ≠ 3) : ∀ v ∈ rows, v.ownBlock ≠ some b := RowsG.not_el h hb he
theorem not_X (h : RowsAt w B lv rows L X) {b : Nat} (hb : X b) : ∀ v ∈ rows, v.ownBlock ≠ some b := RowsG.not_X h hb
theorem not_new (h : RowsAt w B lv rows L X) {b : Nat} (hb : w.heap.size ≤ b) : lv.ownBlock ≠ some b ∧ ∀ v ∈ rows, v.ownBlock ≠ some b := RowsG.not_new h hb
theorem put (h : RowsAt w B lv rows L X) {l : List Int} {v : Value} (hv : w.ownsRow B 3 1 v l.length (l.map (Value.int .i64))) (hX : ∀ g, v.ownBlock = some g → ¬ X g) (hnew : ∀ g, v.ownBlock = some g → ∀ u ∈ rows, u.ownBlock ≠ some g)
    (hl : w'.ownsRow B 22 1 lv' (L.length + 1) (rows ++ [v])) (hk : Keeps (fun b => lv.ownBlock = some b) w w') :
    RowsAt w' B lv' (rows ++ [v]) (L ++ [l]) X := by
  have := RowsG.put (by decide) h (l := l.map (Value.int .i64)) (by rw [List.length_map]; exact hv) hX hnew (lv' := lv') (w' := w') (by unfold iVs; rw [List.length_map]; exact hl) hk
  unfold RowsAt iVs at *
  rw [List.map_append]
  exact this
end RowsAt
end Go.Proofs.YtibplgpolmplpaaGreatDoor

namespace Go.Proofs.YtibplgpolmplpaaGreatDoor
open Go.RowKit BagP RuleP SubP

/-- What stays: the rule, where it lies, where the walk and its bag lie, the world ahead of it. -/
structure WalkP where
  w0 : World
  k : Nat
  r : Nat
  t : List Nat
  TA : Option Addr
  tc : Nat
  wb : Nat
  bp : Value
  stop : Bool
def WalkP.N (D : WalkP) : Nat := D.k ^ (2 * D.r)
def WalkP.B (D : WalkP) : Nat := D.w0.heap.size
def WalkP.cells (D : WalkP) (nv wv : Value) : Array Value :=
  #[.int .i64 (D.k : Int), .int .i64 (D.r : Int), .slice D.TA D.t.length D.tc, D.bp, nv, wv, .bool D.stop]
structure WalkOk (D : WalkP) : Prop where
  rule : IsRule D.k D.r D.t
  small : D.t.length ≤ 256
  T : Sl D.w0 D.TA D.t.length ((ints D.t).map (Value.int .i64))
theorem WalkOk.N0 {D : WalkP} (h : WalkOk D) : 0 < D.N := Nat.pow_pos h.rule.k1
theorem WalkOk.N256 {D : WalkP} (h : WalkOk D) : D.N * D.k ≤ 256 := by
  have h1 := (nodes_div h.rule).2
  have h2 := h.small
  have : D.N = D.k ^ (2 * D.r) := rfl
  rw [this]
  omega
theorem WalkOk.k4 {D : WalkP} (h : WalkOk D) : 1 ≤ D.k ∧ D.k ≤ 4 := ⟨h.rule.k1, h.rule.k4⟩
theorem WalkOk.Nle {D : WalkP} (h : WalkOk D) : D.N ≤ 256 := by
  have h1 := h.N256
  have h2 := h.k4.1
  exact Nat.le_trans (Nat.le_mul_of_pos_right _ h2) h1

/-- The walk as memory holds it. -/
structure WalkAt (w : World) (D : WalkP) (S : St) (nv wv : Value) (nr wr : List Value) (X : Nat → Prop) : Prop where
  blk : w.heap[D.wb]? = some (.cells (D.cells nv wv) 68 (0, 0))
  old : Below D.B D.w0 w
  fb : D.B ≤ D.wb
  bag : BagT w D.B D.bp D.N (S.sets.map (wordsOf D.N))
  nx : RowsAt w D.B nv nr S.next X
  wd : RowsAt w D.B wv wr (S.words.map ints) X
  two : ∀ g, nv.ownBlock = some g → wv.ownBlock ≠ some g

namespace WalkAt
variable {w w' : World} {D : WalkP} {S : St} {nv wv nv' wv' : Value} {nr wr nr' wr' : List Value} {X X' : Nat → Prop}
theorem lt (h : WalkAt w D S nv wv nr wr X) : D.wb < w.heap.size := (Array.getElem?_eq_some_iff.1 h.blk).1
theorem facts (h : WalkAt w D S nv wv nr wr X) :
    w.cell? ⟨D.wb, 0, none⟩ = some (.int .i64 (D.k : Int)) ∧ w.cell? ⟨D.wb, 1, none⟩ = some (.int .i64 (D.r : Int)) ∧ w.cell? ⟨D.wb, 2, none⟩ = some (.slice D.TA D.t.length D.tc) ∧ w.cell? ⟨D.wb, 3, none⟩ = some D.bp ∧
    w.cell? ⟨D.wb, 4, none⟩ = some nv ∧ w.cell? ⟨D.wb, 5, none⟩ = some wv ∧ w.cell? ⟨D.wb, 6, none⟩ = some (.bool D.stop) ∧ w.frozen? ⟨D.wb, 4, none⟩ = false ∧ w.frozen? ⟨D.wb, 5, none⟩ = false := by
  have hb := h.blk
  refine ⟨?_, ?_, ?_, ?_, ?_, ?_, ?_, frozen_of_row _ _ 4 _ _ hb, frozen_of_row _ _ 5 _ _ hb⟩ <;> rw [cell_of_row w D.wb _ _ _ _ hb] <;> rfl
theorem tab (h : WalkAt w D S nv wv nr wr X) (hD : WalkOk D) : Sl w D.TA D.t.length ((ints D.t).map (Value.int .i64)) := hD.T.below h.old
theorem mono (h : WalkAt w D S nv wv nr wr X) (hx : ∀ b, X' b → X b ∨ w.heap.size ≤ b) : WalkAt w D S nv wv nr wr X' :=
  { h with nx := h.nx.mono hx, wd := h.wd.mono hx }
theorem wlst (h : WalkAt w D S nv wv nr wr X) : w.ownsRow D.B 22 1 wv S.words.length wr := by
  have := h.wd.lst
  rwa [List.length_map] at this
/-- Writes to rows of numbers that are none of the walk's. -/
theorem keeps {Q : Nat → Prop} (h : WalkAt w D S nv wv nr wr X) (hk : Keeps Q w w') (hq : ∀ b, Q b → X b ∧ D.B ≤ b ∧ ∃ cs, w.heap[b]? = some (.cells cs 3 (0, 0))) : WalkAt w' D S nv wv nr wr X where
  blk := (hk.block _ h.lt (fun hb => by
    obtain ⟨_, _, cs, hc⟩ := hq _ hb
    have := h.blk
    rw [hc] at this
    injection this with this
    injection this with _ this
    exact absurd this (by decide))).trans h.blk
  old := h.old.trans (hk.below h.old.size (fun b hb => (hq b hb).2.1))
  fb := h.fb
  bag := h.bag.keeps hk (fun b hb => by obtain ⟨_, _, cs, hc⟩ := hq b hb; exact fun h => notBT_blk hc (by decide) h.1)
  nx := h.nx.keeps hk (fun b hb => by obtain ⟨_, _, cs, hc⟩ := hq b hb; exact h.nx.not_lst hc (by decide)) (fun b hb => h.nx.not_X (hq b hb).1)
  wd := h.wd.keeps hk (fun b hb => by obtain ⟨_, _, cs, hc⟩ := hq b hb; exact h.wd.not_lst hc (by decide)) (fun b hb => h.wd.not_X (hq b hb).1)
  two := h.two
theorem pure (h : WalkAt w D S nv wv nr wr X) (hb : Below w.heap.size w w') : WalkAt w' D S nv wv nr wr X :=
  h.keeps (Keeps.of_pure hb (fun _ => False)) (fun _ hf => hf.elim)

/-- What the walk may write. -/
def Foot (w : World) (D : WalkP) (nv wv : Value) (b : Nat) : Prop := b = D.wb ∨ BOwn w D.B b ∨ nv.ownBlock = some b ∨ wv.ownBlock = some b
theorem notFoot (h : WalkAt w D S nv wv nr wr X) {base n g : Nat} {xv : Value} {xs : List Value} (hx : w.ownsRow base 3 1 xv n xs) (hg : xv.ownBlock = some g) : ¬ Foot w D nv wv g := by
  rintro (rfl | hb | hb | hb)
  · exact own_ne_blk hx h.blk (by decide) hg
  · exact notBT_own hx (by decide) hg hb.1
  · exact own_ne_own hx h.nx.lst (by decide) hg hb
  · exact own_ne_own hx h.wd.lst (by decide) hg hb

/-- Behind a call of the bag: a set more, or none. -/
theorem bagged (h : WalkAt w D S nv wv nr wr X) (hk : Keeps (BOwn w D.B) w w') {sets : List (List Bool)} (hb : BagT w' D.B D.bp D.N (sets.map (wordsOf D.N))) :
    WalkAt w' D ⟨sets, S.words, S.next⟩ nv wv nr wr X where
  blk := (hk.block _ h.lt (fun h' => notBT_blk h.blk (by decide) h'.1)).trans h.blk
  old := h.old.trans (hk.below h.old.size (fun _ h => h.2))
  fb := h.fb
  bag := hb
  nx := h.nx.keeps hk (fun b hb hg => notBT_own h.nx.lst (by decide) hg hb.1) (fun b hb v hv hg => by obtain ⟨l, _, h2, _⟩ := h.nx.mem hv; exact notBT_own h2 (by decide) hg hb.1)
  wd := h.wd.keeps hk (fun b hb hg => notBT_own h.wd.lst (by decide) hg hb.1) (fun b hb v hv hg => by obtain ⟨l, _, h2, _⟩ := h.wd.mem hv; exact notBT_own h2 (by decide) hg hb.1)
  two := h.two
/-- Something stored in the walk's own block. -/
theorem setW {cs : Array Value} {j : Nat} {u : Value} (blk : w.heap[D.wb]? = some (.cells cs 68 (0, 0))) (hc : cs.setIfInBounds j u = D.cells nv wv) (old : Below D.B D.w0 w) (fb : D.B ≤ D.wb)
    (bag : BagT w D.B D.bp D.N (S.sets.map (wordsOf D.N))) (nx : RowsAt w D.B nv nr S.next X) (wd : RowsAt w D.B wv wr (S.words.map ints) X) (two : ∀ g, nv.ownBlock = some g → wv.ownBlock ≠ some g) :
    WalkAt (w.setCell ⟨D.wb, j, none⟩ u) D S nv wv nr wr X := by
  have hk := Keeps.of_setCell w ⟨D.wb, j, none⟩ u
  have hb : ∀ b, b = (⟨D.wb, j, none⟩ : Addr).block → w.heap[b]? = some (.cells cs 68 (0, 0)) := fun b e => by rw [show b = D.wb from e]; exact blk
  exact {
    blk := by
      have := heap_setCell_same w D.wb j _ _ u blk
      rw [hc] at this
      exact this
    old := old.setCell fb _
    fb := fb
    bag := bag.keeps hk (fun b e h => notBT_blk (hb b e) (by decide) h.1)
    nx := nx.keeps hk (fun b e => nx.not_lst (hb b e) (by decide)) (fun b e => nx.not_el (hb b e) (by decide))
    wd := wd.keeps hk (fun b e => wd.not_lst (hb b e) (by decide)) (fun b e => wd.not_el (hb b e) (by decide))
    two := two }
/-- A word kept behind the others. -/
theorem worded (h : WalkAt w D S nv wv nr wr X) {x : List Nat} {v lv' : Value} (hv : w.ownsRow D.B 3 1 v x.length ((ints x).map (Value.int .i64))) (hX : ∀ g, v.ownBlock = some g → ¬ X g) (hnew : ∀ g, v.ownBlock = some g → ∀ u ∈ wr, u.ownBlock ≠ some g)
    (hl : w'.ownsRow D.B 22 1 lv' (S.words.length + 1) (wr ++ [v])) (hk : Keeps (fun b => wv.ownBlock = some b) w w') (hg : ∀ g, lv'.ownBlock = some g → wv.ownBlock = some g ∨ w.heap.size ≤ g) :
    WalkAt (w'.setCell ⟨D.wb, 5, none⟩ lv') D ⟨S.sets, S.words ++ [x], S.next⟩ nv lv' nr (wr ++ [v]) X := by
  refine setW (cs := D.cells nv wv) ((hk.block _ h.lt (own_ne_blk h.wd.lst h.blk (by decide))).trans h.blk) rfl (h.old.trans (hk.below h.old.size (fun b hb => (h.wd.lst.lt b hb).1))) h.fb
    (h.bag.keeps hk (fun b hb hB => notBT_own h.wd.lst (by decide) hb hB.1))
    (h.nx.keeps hk (fun b hb hb' => h.two b hb' hb) (fun b hb v hv hg => by obtain ⟨l, _, h2, _⟩ := h.nx.mem hv; exact own_ne_own h2 h.wd.lst (by decide) hg hb)) ?_ (fun g h1 h2 => ?_)
  · have := h.wd.put (l := ints x) (v := v) (lv' := lv') (w' := w') (by rw [ints_len]; exact hv) hX hnew (by rw [List.length_map]; exact hl) hk
    rw [List.map_append]
    exact this
  · rcases hg g h2 with h3 | h3
    · exact h.two g h1 h3
    · have := (h.nx.lst.lt g h1).2; omega
/-- Behind a push to the words: the walk's own block. -/
theorem worded_pre (h : WalkAt w D S nv wv nr wr X) (hk : Keeps (fun b => wv.ownBlock = some b) w w') :
    w'.cell? ⟨D.wb, 5, none⟩ = some wv ∧ w'.frozen? ⟨D.wb, 5, none⟩ = false ∧ w.heap.size ≤ w'.heap.size := by
  have hb := (hk.block _ h.lt (own_ne_blk h.wd.lst h.blk (by decide))).trans h.blk
  exact ⟨by rw [cell_of_row w' D.wb _ _ _ _ hb]; rfl, frozen_of_row _ _ 5 _ _ hb, hk.size⟩
theorem nexted_pre (h : WalkAt w D S nv wv nr wr X) (hk : Keeps (fun b => nv.ownBlock = some b) w w') :
    w'.cell? ⟨D.wb, 4, none⟩ = some nv ∧ w'.frozen? ⟨D.wb, 4, none⟩ = false ∧ w.heap.size ≤ w'.heap.size := by
  have hb := (hk.block _ h.lt (own_ne_blk h.nx.lst h.blk (by decide))).trans h.blk
  exact ⟨by rw [cell_of_row w' D.wb _ _ _ _ hb]; rfl, frozen_of_row _ _ 4 _ _ hb, hk.size⟩
/-- A row kept behind the others. -/
theorem nexted (h : WalkAt w D S nv wv nr wr X) {x : List Int} {v lv' : Value} (hv : w.ownsRow D.B 3 1 v x.length (x.map (Value.int .i64))) (hX : ∀ g, v.ownBlock = some g → ¬ X g) (hnew : ∀ g, v.ownBlock = some g → ∀ u ∈ nr, u.ownBlock ≠ some g)
    (hl : w'.ownsRow D.B 22 1 lv' (S.next.length + 1) (nr ++ [v])) (hk : Keeps (fun b => nv.ownBlock = some b) w w') (hg : ∀ g, lv'.ownBlock = some g → nv.ownBlock = some g ∨ w.heap.size ≤ g) :
    WalkAt (w'.setCell ⟨D.wb, 4, none⟩ lv') D ⟨S.sets, S.words, S.next ++ [x]⟩ lv' wv (nr ++ [v]) wr X := by
  refine setW (cs := D.cells nv wv) ((hk.block _ h.lt (own_ne_blk h.nx.lst h.blk (by decide))).trans h.blk) rfl (h.old.trans (hk.below h.old.size (fun b hb => (h.nx.lst.lt b hb).1))) h.fb
    (h.bag.keeps hk (fun b hb hB => notBT_own h.nx.lst (by decide) hb hB.1))
    (h.nx.put (l := x) (v := v) (lv' := lv') (w' := w') hv hX hnew hl hk)
    (h.wd.keeps hk (fun b hb hb' => h.two b hb hb') (fun b hb v hv hg => by obtain ⟨l, _, h2, _⟩ := h.wd.mem hv; exact own_ne_own h2 h.nx.lst (by decide) hg hb)) (fun g h1 h2 => ?_)
  rcases hg g h1 with h3 | h3
  · exact h.two g h3 h2
  · have := (h.wd.lst.lt g h2).2; omega
/-- A row of numbers that is none of the walk's, behind a write of the walk. -/
theorem keeps_int {w' : World} (h : WalkAt w D S nv wv nr wr X) {base n : Nat} {xv : Value} {xs : List Value} (hx : w.ownsRow base 3 1 xv n xs) (hk : Keeps (Foot w D nv wv) w w') : w'.ownsRow base 3 1 xv n xs :=
  own_keeps hx hk (fun _ hg hf => h.notFoot hx hg hf)
end WalkAt
end Go.Proofs.YtibplgpolmplpaaGreatDoor
