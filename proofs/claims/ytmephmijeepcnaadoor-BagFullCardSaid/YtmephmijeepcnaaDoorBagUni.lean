/- What the bag's methods answer: Has and Union. Condition: the numbers are in range and there is room. -/
import Derived.Test.YtmephmijeepcnaaDoorBagGet
namespace Go.Proofs.YtmephmijeepcnaaDoor
open Go.RowKit BagP

set_option maxRecDepth 100000 in
set_option maxHeartbeats 400000 in
theorem Has_c {w : World} {p : Value} {n : Nat} {S : List (List Nat)} {O : Nat → Prop} (hB : BagIs w p n S O) (i : Nat) (l : List Nat) (hi : S[i]? = some l) (x : Nat) (hx : x < n) :
    Calls Tryd.prog 15 #[p, .int .i64 (i : Int), .int .i64 (x : Int)] w fun e w' => e = .returned (.tuple #[.bool (hasB l x), .nilIface]) ∧ w = w' := by
  obtain ⟨bb, mb, sv, rows, D, rfl, hb⟩ := hB
  obtain ⟨v, hv, hr, _⟩ := hb.row i l hi
  obtain ⟨hok, hlen⟩ := hb.okw l (List.mem_of_getElem? hi)
  have hil : i < S.length := (List.getElem?_eq_some_iff.1 hi).1
  obtain ⟨c0, _, _, _⟩ := blk_cells hb.blk
  have hn := hb.nn
  obtain ⟨A, c, rfl, _, _⟩ := own_slice hr
  have hkw : x / 64 < wlen n := wlen_lt hx
  obtain ⟨ad, u, rfl, hu, hcu⟩ := (Sl.of_own hr).word_ hkw
  have T := bit_test (j := x % 64) (hok u (List.mem_of_getElem? hu))
  have hbit : hasB l x = u.testBit (x % 64) := by unfold hasB; rw [List.getD_eq_getElem?_getD, hu]; rfl
  rw [← hbit] at T
  clear hbit hi hu
  go_enter Tryd.func15, Tryd.ntmps15
  go_wp2_with (go_at_call 26; refine (set_c hb i hil _ _ hv).mono ?_; rintro e w1 ⟨rfl, rfl⟩)
  go_ret2
  exact ⟨rfl, rfl⟩

set_option maxRecDepth 100000 in
/-- slices.Clone of words. -/
theorem clone64_c (w : World) (A : Option Addr) (m c : Nat) (l : List Nat) (hm : m ≤ 1048576) (h : Sl w A m (l.map uv)) :
    Calls Tryd.prog 27 #[.slice A m c] w fun e w' => OneRow w 70 (l.map uv) e w' := by
  have hl : l.length = m := by simpa using h.1
  have HL := Lib.hid hl
  clear hl
  cases A with
  | none =>
    have hle : l = [] := by
      cases l with
      | nil => rfl
      | cons y ys => obtain ⟨ad, e', _⟩ := h.2 0 (uv y) (by simp); cases e'
    subst hle
    have he := Lib.run_eql_slice_nil (P := Tryd.prog) w 65 70 none m c 0 0 tU64s.und
    go_enter Tryd.func27, Tryd.ntmps27
    go_wp2
    go_ret
    exact ⟨_, rfl, World.ownsRow_nil _ _ _ _, Below.refl _ _⟩
  | some ad =>
    have he := Lib.run_eql_slice_nil (P := Tryd.prog) w 65 70 (some ad) m c 0 0 tU64s.und
    have hown0 := World.ownsRow_lit (base := w.heap.size) (e := 70) (size := 1) w #[] 0 (Nat.le_refl _) (Nat.zero_le _) rfl
    have h1 := h.alloc (.cells #[] 70)
    go_enter Tryd.func27, Tryd.ntmps27
    go_wp2_with (at_builtin; refine wpList_cat rfl _ _ _ rfl tU64s hown0 rfl h1 rfl (words_one l) (by simp only [maxLen]; omega) (by omega) (by simp) ?_; intro v' w3 hown3 hg3 hat3 _)
    go_ret
    refine ⟨_, rfl, ?_, ((Below.refl _ _).alloc (Nat.le_refl _) _).grown hg3 (by simp) (fun k hk => by simp [Value.ownBlock] at hk; omega)⟩
    simpa [HL.out] using hown3

theorem put_c {w : World} {bb mb : Nat} {sv : Value} {rows : List Value} {D : DataW Unit} {n : Nat} {S : List (List Nat)} {O : Nat → Prop} (hB : BagAt w bb mb sv rows D n S O)
    (A : Option Addr) (c : Nat) (l : List Nat) (ho : Ok64 l) (hl : l.length = wlen n) (hr : w.ownsRow 0 70 1 (.slice A (wlen n) c) (wlen n) (l.map uv)) (H : Nat) (hA : ∀ ad, A = some ad → H ≤ ad.block) (hH : H ≤ w.heap.size) (hroom : l ∈ S ∨ S.length < 4096) :
    Calls Tryd.prog 25 #[.pointer (some ⟨bb, 0, none⟩), .slice A (wlen n) c] w fun e w' => e = .returned (.tuple #[.int .i64 (((addS S l).idxOf l : Nat) : Int), .bool (!decide (l ∈ S)), .nilIface]) ∧
      BagIs w' (.pointer (some ⟨bb, 0, none⟩)) n (addS S l) (fun k => O k ∨ H ≤ k) ∧ Keeps O w w' := by
  by_cases hin : l ∈ S
  · obtain ⟨i, hi⟩ := List.getElem?_of_mem hin
    refine (put_old hB A c l ho hl (Sl.of_own hr) i hi).mono ?_
    rintro e w2 ⟨rfl, hb2⟩
    rw [addS_in hin, idx_nodup hB.nd hi, decide_eq_true hin]
    exact ⟨rfl, BagIs.mono ⟨bb, mb, sv, rows, D, rfl, hB.keeps (Keeps.of_pure hb2 (fun _ => False)) (fun _ _ h => h)⟩ (fun k h => .inl h), Keeps.of_pure hb2 O⟩
  · refine (put_new hB A c l ho hl hr hin (hroom.resolve_left hin)).mono ?_
    rintro e w2 ⟨rfl, hB2, hk2⟩
    have e1 : (addS S l).idxOf l = S.length := by
      rw [addS_new hin, List.idxOf_append, if_neg hin]
      simp
    rw [e1, addS_new hin, decide_eq_false hin]
    refine ⟨rfl, hB2.mono (fun k h => ?_), hk2⟩
    rcases h with h | h | ⟨ad, e, h⟩
    · exact .inl h
    · right; omega
    · right; rw [h]; exact hA ad e

theorem or_words (a b : Nat) (ha : a < 2 ^ 64) (hb : b < 2 ^ 64) : bits .or .u64 (a : Int) (b : Int) = ((a ||| b : Nat) : Int) := u64_or_nat a b ha hb

def orTo (x y : List Nat) (k : Nat) : List Nat := orL (x.take k) (y.take k) ++ x.drop k
theorem orTo_zero (x y : List Nat) : orTo x y 0 = x := by simp [orTo, orL]
theorem orTo_all {x y : List Nat} {m : Nat} (hx : x.length = m) (hy : y.length = m) : orTo x y m = orL x y := by
  unfold orTo
  rw [List.take_of_length_le (by omega), List.take_of_length_le (by omega), List.drop_eq_nil_of_le (by omega), List.append_nil]
theorem orTo_at {x y : List Nat} {k a b : Nat} (hx : x[k]? = some a) (hy : y[k]? = some b) : (orTo x y k)[k]? = some a ∧ (orTo x y k).set k (a ||| b) = orTo x y (k + 1) := by
  have h1 : k < x.length := (List.getElem?_eq_some_iff.1 hx).1
  have h2 : k < y.length := (List.getElem?_eq_some_iff.1 hy).1
  have hl : (orL (x.take k) (y.take k)).length = k := by simp [orL]; omega
  have hd : x.drop k = a :: x.drop (k + 1) := by
    rw [List.drop_eq_getElem_cons h1]
    congr 1
    rw [List.getElem?_eq_getElem h1] at hx
    exact Option.some.inj hx
  constructor
  · unfold orTo
    rw [List.getElem?_append_right (by omega), hl, hd]
    simp
  · unfold orTo
    rw [List.set_append_right _ _ (by omega), hl, hd, Nat.sub_self, List.set_cons_zero, List.take_add_one, List.take_add_one, hx, hy]
    unfold orL
    rw [List.zipWith_append (by simp; omega)]
    simp
theorem ok_orL {x y : List Nat} (hx : Ok64 x) (hy : Ok64 y) : Ok64 (orL x y) := by
  intro z hz
  obtain ⟨i, hi⟩ := List.getElem?_of_mem hz
  unfold orL at hi
  rw [List.getElem?_zipWith] at hi
  cases h1 : x[i]? with
  | none => rw [h1] at hi; simp at hi
  | some a => cases h2 : y[i]? with
    | none => rw [h1, h2] at hi; simp at hi
    | some b =>
      rw [h1, h2] at hi
      simp at hi
      subst hi
      exact Nat.or_lt_two_pow (hx a (List.mem_of_getElem? h1)) (hy b (List.mem_of_getElem? h2))
theorem has_orL {x y : List Nat} (hl : x.length = y.length) (z : Nat) : hasB (orL x y) z = (hasB x z || hasB y z) := by
  unfold hasB orL
  rw [List.getD_eq_getElem?_getD, List.getD_eq_getElem?_getD, List.getD_eq_getElem?_getD, List.getElem?_zipWith]
  rcases Nat.lt_or_ge (z / 64) x.length with h | h
  · rw [List.getElem?_eq_getElem h, List.getElem?_eq_getElem (by omega)]
    simp [Nat.testBit_or]
  · rw [List.getElem?_eq_none h, List.getElem?_eq_none (by omega)]
    simp

set_option maxRecDepth 100000 in
set_option maxHeartbeats 1000000 in
theorem Union_c {w : World} {p : Value} {n : Nat} {S : List (List Nat)} {O : Nat → Prop} (hB : BagIs w p n S O) (i j : Nat) (x y : List Nat) (hi : S[i]? = some x) (hj : S[j]? = some y) (hroom : orL x y ∈ S ∨ S.length < 4096) :
    Calls Tryd.prog 14 #[p, .int .i64 (i : Int), .int .i64 (j : Int)] w fun e w' => e = .returned (.tuple #[.int .i64 (((addS S (orL x y)).idxOf (orL x y) : Nat) : Int), .bool (!decide (orL x y ∈ S)), .nilIface]) ∧
      BagIs w' p n (addS S (orL x y)) (fun k => O k ∨ w.heap.size ≤ k) ∧ Keeps O w w' := by
  obtain ⟨bb, mb, sv, rows, D, rfl, hb⟩ := hB
  obtain ⟨vx, hvx, hrx, _⟩ := hb.row i x hi
  obtain ⟨vy, hvy, hry, _⟩ := hb.row j y hj
  obtain ⟨hokx, hlx⟩ := hb.okw x (List.mem_of_getElem? hi)
  obtain ⟨hoky, hly⟩ := hb.okw y (List.mem_of_getElem? hj)
  have hil : i < S.length := (List.getElem?_eq_some_iff.1 hi).1
  have hjl : j < S.length := (List.getElem?_eq_some_iff.1 hj).1
  have hwl := wlen_le hb.nn
  obtain ⟨Ax, cx, rfl, _, _⟩ := own_slice hrx
  obtain ⟨Ay, cy, rfl, _, _⟩ := own_slice hry
  have hsx := Sl.of_own hrx
  have hsy := Sl.of_own hry
  have HLX := Lib.hid hlx
  have HLY := Lib.hid hly
  clear hlx hly hi hj
  go_enter Tryd.func14, Tryd.ntmps14
  go_wp2_with fail
  refine (set_c hb i hil _ _ hvx).mono ?_
  rintro e w0 ⟨rfl, rfl⟩
  go_wp2_with fail
  refine (set_c hb j hjl _ _ hvy).mono ?_
  rintro e w0 ⟨rfl, rfl⟩
  go_wp2_with fail
  refine (clone64_c w Ax _ cx x (by omega) hsx).mono ?_
  rintro e w1 ⟨v, rfl, hv, hb1⟩
  rw [show (x.map uv).length = wlen n from by rw [List.length_map]; exact HLX.out] at hv
  obtain ⟨Av, cv, rfl, _, _⟩ := own_slice hv
  go_wp2_with fail
  go_loopw [37] (fun s wr => ∃ k : Nat, k ≤ wlen n ∧ s = .int .i64 k ∧ wr.ownsRow w.heap.size 70 1 (.slice Av (wlen n) cv) (wlen n) ((orTo x y k).map uv) ∧ Below w.heap.size w wr) (fun s _ => wlen n - (intOf s).toNat)
  case atStart => exact ⟨0, Nat.zero_le _, rfl, by rw [orTo_zero]; exact hv, hb1⟩
  case round =>
    obtain ⟨k, hk, rfl, hown, hb2⟩ := hrel
    clear hv hb1
    by_cases hlt : k < wlen n
    · obtain ⟨ady, b, rfl, hyk, hcy⟩ := (hsy.below hb2).word_ hlt
      obtain ⟨a, hxk⟩ : ∃ a, x[k]? = some a := ⟨_, List.getElem?_eq_getElem (by rw [HLX.out]; exact hlt)⟩
      obtain ⟨g, cap, hv, hg1, hg2⟩ := hown.form (by omega)
      injection hv with hA _ hc
      subst hA
      obtain ⟨o1, o2⟩ := orTo_at hxk hyk
      have hcell := hown.cellAt k (by omega)
      have hfr := hown.frozenAt k
      rw [List.getElem?_map, o1] at hcell
      simp only [Option.map_some, uv] at hcell
      have hor := or_words a b (hokx a (List.mem_of_getElem? hxk)) (hoky b (List.mem_of_getElem? hyk))
      have hst := hown.stored k (.int .u64 ((a ||| b : Nat) : Int))
      rw [show ((orTo x y k).map uv).set k (.int .u64 ((a ||| b : Nat) : Int)) = (orTo x y (k + 1)).map uv from by rw [← o2, List.map_set]; rfl] at hst
      have R1 := hst.1
      have R2 := hb2.grown hst.2 hb2.size (fun q hq => by cases hq; exact hg1)
      clear hst o1 o2 hxk hyk hown hb2
      go_wp2
      exact ⟨⟨k + 1, by omega, by go_num, R1, R2⟩, by simp [intOf]; omega⟩
    · have hkm : k = wlen n := by omega
      rw [hkm, orTo_all HLX.out HLY.out] at hown
      clear hkm
      go_wp2_with fail
      have hA : ∀ ad, Av = some ad → w.heap.size ≤ ad.block := fun ad e => (hown.lt ad.block (by rw [e]; rfl)).1
      refine (put_c (hb.keeps (Keeps.of_pure hb2 (fun _ => False)) (fun _ _ h => h)) Av cv (orL x y) (ok_orL hokx hoky) ?_ (own_base hown (Nat.zero_le _)) w.heap.size hA hb2.size hroom).mono ?_
      · simp only [orL, List.length_zipWith]
        rw [HLX.out, HLY.out, Nat.min_self]
      · rintro e w3 ⟨rfl, hB3, hk3⟩
        go_wp2_with fail
        go_ret3
        exact ⟨rfl, hB3, (Keeps.of_pure hb2 O).trans hk3 (fun _ _ h => h)⟩

end Go.Proofs.YtmephmijeepcnaaDoor
