/- Errors told further: fault.Under, edenraw.Under, Err.Bad. Condition: the error reads from memory. What is asked of an error, kept beside other writes: edenraw.New, Err.Bad. Condition: the value reads from memory. The document's bag: outside, set, Key, New, Len. Condition: lists read from memory, of at most 1048576 numbers. The document's bag: Key, New, Len, Get, Has. Condition: lists read from memory. The document's bag: New and Get. No condition. -/
import Derived.Test.YtiobnnhjnkcafaaDoorP3
import Derived.Test.YtiobnnhjnkcafaaDoorP4
import Derived.Test.YtiobnnhjnkcafaaDoorP7
namespace Go.Proofs.YtiobnnhjnkcafaaDoor
open Go.RowKit

end Go.Proofs.YtiobnnhjnkcafaaDoor

namespace Go.Proofs.YtiobnnhjnkcafaaDoor
open Go.RowKit

/-- The number of an error; nought for none. -/
def tnum : Option Tale → Nat
  | none => 0
  | some t => t.1
/-- The value asks for no error, or for the error of the tale; its lists lie from block base on. -/
def WantB (w : World) (base : Nat) (t : Option Tale) (u : Value) : Prop :=
  ∃ (N : Nat) (A1 : Option Addr) (n1 c1 : Nat) (A2 : Option Addr) (n2 c2 : Nat), u = .agg #[.int .i64 (N : Int), .slice A1 n1 c1, .slice A2 n2 c2] ∧ WantV w t u ∧ (∀ ad, A1 = some ad → base ≤ ad.block) ∧ (∀ ad, A2 = some ad → base ≤ ad.block) ∧
    N = tnum t
theorem WantB.want {w : World} {base : Nat} {t : Option Tale} {u : Value} (h : WantB w base t u) : WantV w t u := by obtain ⟨_, _, _, _, _, _, _, _, h, _⟩ := h; exact h
theorem WantB.keeps {w w' : World} {O : Nat → Prop} {base : Nat} {t : Option Tale} {u : Value} (h : WantB w base t u) (hk : Keeps O w w') (ho : ∀ b, O b → b < base) : WantB w' base t u := by
  obtain ⟨N, A1, n1, c1, A2, n2, c2, rfl, hw, b1, b2, hN⟩ := h
  refine ⟨N, A1, n1, c1, A2, n2, c2, rfl, ?_, b1, b2, hN⟩
  cases t with
  | none => exact hw
  | some t =>
    obtain ⟨A1', c1', A2', c2', e, p1, p2, p3, p4, s1, s2⟩ := hw
    injection e with e
    injection e with e
    injection e with e0 e
    injection e with e1 e
    injection e with e2 e
    injection e1 with f1 f2 f3
    injection e2 with g1 g2 g3
    subst f1 f3 g1 g3
    refine ⟨A1, c1, A2, c2, by rw [e0, f2, g2], p1, p2, p3, p4, s1.keeps hk (fun ad e' hO => ?_), s2.keeps hk (fun ad e' hO => ?_)⟩
    · have := b1 ad e'; have := ho _ hO; omega
    · have := b2 ad e'; have := ho _ hO; omega
theorem WantB.below {w w' : World} {base : Nat} {t : Option Tale} {u : Value} (h : WantB w base t u) (hb : Below w.heap.size w w') : WantB w' base t u := by
  obtain ⟨N, A1, n1, c1, A2, n2, c2, rfl, hw, b1, b2, hN⟩ := h
  exact ⟨N, A1, n1, c1, A2, n2, c2, rfl, hw.below hb, b1, b2, hN⟩
theorem WantB.base {w : World} {base base' : Nat} {t : Option Tale} {u : Value} (h : WantB w base t u) (hb : base' ≤ base) : WantB w base' t u := by
  obtain ⟨N, A1, n1, c1, A2, n2, c2, rfl, hw, b1, b2, hN⟩ := h
  exact ⟨N, A1, n1, c1, A2, n2, c2, rfl, hw, fun ad e => Nat.le_trans hb (b1 ad e), fun ad e => Nat.le_trans hb (b2 ad e), hN⟩
/-- No error asked for. -/
theorem WantB.zero (w : World) (base : Nat) : WantB w base none (.agg #[.int .i64 0, .slice none 0 0, .slice none 0 0]) :=
  ⟨0, none, 0, 0, none, 0, 0, rfl, rfl, fun _ e => (by cases e), fun _ e => (by cases e), rfl⟩
theorem WantB.set3 {w : World} {base g : Nat} {t : Option Tale} {u : Value} (h : WantB w base t u) (hg : g < base) (u0 u1 u2 : Value) : WantB (((w.setCell ⟨g, 0, none⟩ u0).setCell ⟨g, 1, none⟩ u1).setCell ⟨g, 2, none⟩ u2) base t u :=
  h.keeps (keeps_set3 w g u0 u1 u2) (fun b e => by omega)

theorem WantB.num {w : World} {base : Nat} {t : Option Tale} {N : Nat} {A1 A2 : Option Addr} {n1 c1 n2 c2 : Nat} (h : WantB w base t (.agg #[.int .i64 (N : Int), .slice A1 n1 c1, .slice A2 n2 c2])) : N = tnum t := by
  obtain ⟨_, _, _, _, _, _, _, he, _, _, _, hN⟩ := h
  injection he with he
  injection he with he
  injection he with he1 _
  injection he1 with _ he1
  have e := Int.ofNat.inj he1
  rw [e]
  exact hN
/-- No error asked for: the value is nought. -/
theorem WantB.none_eq {w : World} {base : Nat} {u : Value} (h : WantB w base none u) : u = .agg #[.int .i64 0, .slice none 0 0, .slice none 0 0] := h.want

/-- The block holds what is asked of an error. -/
def WantAt (w : World) (g : Nat) (x0 x1 x2 : Value) : Prop := w.heap[g]? = some (.cells #[x0, x1, x2] 33 (0, 0))
namespace WantAt
variable {w w' : World} {g : Nat} {x0 x1 x2 : Value}
theorem facts (h : WantAt w g x0 x1 x2) : w.cell? ⟨g, 0, none⟩ = some x0 ∧ w.cell? ⟨g, 1, none⟩ = some x1 ∧ w.cell? ⟨g, 2, none⟩ = some x2 ∧ w.frozen? ⟨g, 0, none⟩ = false ∧ w.frozen? ⟨g, 1, none⟩ = false ∧ w.frozen? ⟨g, 2, none⟩ = false := by
  obtain ⟨a, b, c, _⟩ := blk_cells h
  exact ⟨a, b, c, frozen_of_row _ _ 0 _ _ h, frozen_of_row _ _ 1 _ _ h, frozen_of_row _ _ 2 _ _ h⟩
theorem below {B : Nat} (h : WantAt w g x0 x1 x2) (hb : Below B w w') (hg : g < B) : WantAt w' g x0 x1 x2 := (hb.block g hg).trans h
theorem keeps {O : Nat → Prop} (h : WantAt w g x0 x1 x2) (hk : Keeps O w w') (ho : ¬ O g) : WantAt w' g x0 x1 x2 := (hk.block g (Array.getElem?_eq_some_iff.1 h).1 ho).trans h
theorem new (w : World) (x0 x1 x2 : Value) : WantAt (w.alloc (.cells #[x0, x1, x2] 33)) w.heap.size x0 x1 x2 := heap_new _ _
theorem alloc (h : WantAt w g x0 x1 x2) (o : Obj) : WantAt (w.alloc o) g x0 x1 x2 := (Below.heap_alloc w o g (Array.getElem?_eq_some_iff.1 h).1).trans h
theorem lt (h : WantAt w g x0 x1 x2) : g < w.heap.size := (Array.getElem?_eq_some_iff.1 h).1
theorem set3 (h : WantAt w g x0 x1 x2) (u0 u1 u2 : Value) : WantAt (((w.setCell ⟨g, 0, none⟩ u0).setCell ⟨g, 1, none⟩ u1).setCell ⟨g, 2, none⟩ u2) g u0 u1 u2 := by
  unfold WantAt at *
  have h0 := (Array.getElem?_eq_some_iff.1 h).1
  simp only [World.setCell]
  simp [Array.getElem?_modify, h]
end WantAt

theorem own_setW {w : World} {base e n g : Nat} {v : Value} {xs : List Value} {x0 x1 x2 : Value} (h : w.ownsRow base e 1 v n xs) (hr : WantAt w g x0 x1 x2) (hne : e ≠ 33) (u0 u1 u2 : Value) :
    (((w.setCell ⟨g, 0, none⟩ u0).setCell ⟨g, 1, none⟩ u1).setCell ⟨g, 2, none⟩ u2).ownsRow base e 1 v n xs :=
  own_keeps h (keeps_set3 w g u0 u1 u2) (fun g' hg' e' => by subst e'; exact own_ne_blk h hr hne hg')

/-- edenraw.New: what an error must be that one package tells. -/
theorem newB_c (w : World) (op : ByteArray) (at' : Int) (n : Nat) :
    Calls Tryd.prog 14 #[.string op, .int .i64 at', .int .i64 (n : Int)] w fun e w' => ∃ (A1 : Option Addr) (n1 c1 : Nat) (A2 : Option Addr) (n2 c2 : Nat), e = .returned (.agg #[.int .i64 (n : Int), .slice A1 n1 c1, .slice A2 n2 c2]) ∧
      WantB w' w.heap.size (some (n, [(op, at')])) (.agg #[.int .i64 (n : Int), .slice A1 n1 c1, .slice A2 n2 c2]) ∧ Below w.heap.size w w' :=
  (rawNew_x w op at' n).mono fun _ _ ⟨h1, h2, h3, h4⟩ => ⟨_, _, _, _, _, _, h1, ⟨n, _, _, _, _, _, _, rfl, want_of h2 h3, fun ad e => by cases e; simp, fun ad e => by cases e; simp; omega, rfl⟩, h4⟩
end Go.Proofs.YtiobnnhjnkcafaaDoor

namespace Go.Proofs.YtiobnnhjnkcafaaDoor
open Go.RowKit Go.WideMaps Go.Maps BagP RuleP

/-- The first place that can be no member; -1: none. -/
def outI (n : Nat) (xs : List Int) : Int := match BagR.outB n xs with | some i => (i : Int) | none => -1
theorem outI_some {n : Nat} {xs : List Int} {k : Nat} {x : Int} (h1 : xs[k]? = some x) (h2 : x < 0 ∨ (n : Int) ≤ x) (h3 : ∀ (j : Nat) (y : Int), j < k → xs[j]? = some y → 0 ≤ y ∧ y < (n : Int)) : outI n xs = (k : Int) := by
  have e : BagR.outB n xs = some k := by
    unfold BagR.outB
    rw [List.findIdx?_eq_some_iff_getElem]
    obtain ⟨hk, hx⟩ := List.getElem?_eq_some_iff.1 h1
    refine ⟨hk, by rw [hx]; exact decide_eq_true h2, fun j hj => ?_⟩
    have := h3 j _ hj (List.getElem?_eq_getElem (by omega))
    simp
    omega
  unfold outI
  rw [e]
theorem outI_none {n : Nat} {xs : List Int} (h : ∀ (j : Nat) (y : Int), xs[j]? = some y → 0 ≤ y ∧ y < (n : Int)) : outI n xs = -1 := by
  have e : BagR.outB n xs = none := by
    unfold BagR.outB
    rw [List.findIdx?_eq_none_iff]
    intro x hx
    obtain ⟨j, hj⟩ := List.getElem?_of_mem hx
    have := h j x hj
    simp
    omega
  unfold outI
  rw [e]

set_option maxRecDepth 100000 in
set_option maxHeartbeats 1000000 in
theorem rout_c (w : World) (bb n : Nat) (hc : w.cell? ⟨bb, 0, none⟩ = some (.int .i64 (n : Int))) (A : Option Addr) (m c : Nat) (xs : List Int) (h : Sl w A m (xs.map (Value.int .i64))) (hm : m ≤ 1048576) :
    Calls Tryd.prog 39 #[.pointer (some ⟨bb, 0, none⟩), .slice A m c] w fun e w' => e = .returned (.int .i64 (outI n xs)) ∧ Below w.heap.size w w' := by
  have hl : xs.length = m := by simpa using h.1
  have HL := Lib.hid hl
  clear hl
  go_enter Tryd.func39, Tryd.ntmps39
  go_wp2
  go_loopw [5] (fun i wr => ∃ k q : Nat, k ≤ m ∧ i = .int .i64 (k : Int) ∧ wr = w.drewN q ∧ Hid (∀ (j : Nat) (y : Int), j < k → xs[j]? = some y → 0 ≤ y ∧ y < (n : Int))) (fun i _ => m - (intOf i).toNat)
  case atStart => exact ⟨0, 0, Nat.zero_le _, rfl, rfl, Lib.hid (fun j y hj => by omega)⟩
  case round =>
    obtain ⟨k, q, hk, rfl, rfl, hall⟩ := hrel
    by_cases hlt : k < m
    · obtain ⟨ad, x, rfl, hx, hcx⟩ := h.int_ hlt
      have HX := Lib.hid hx
      clear hx
      by_cases hneg : x < 0
      · have HO := Lib.hid (outI_some (n := n) HX.out (.inl hneg) hall.out)
        go_wp2
        go_quiet (fail)
        go_wp2
        go_ret
        rw [HO.out]
        exact ⟨rfl, below_drewN (pure_drewN _ _) _⟩
      · by_cases hbig : (n : Int) ≤ x
        · have HO := Lib.hid (outI_some (n := n) HX.out (.inr hbig) hall.out)
          go_wp2
          go_quiet (fail)
          go_wp2
          go_ret
          rw [HO.out]
          exact ⟨rfl, below_drewN (pure_drewN _ _) _⟩
        · have HO : Hid (∀ (j : Nat) (y : Int), j < k + 1 → xs[j]? = some y → 0 ≤ y ∧ y < (n : Int)) := Lib.hid (fun j y hj hy => by
            rcases Nat.lt_or_ge j k with h1 | h1
            · exact hall.out j y h1 hy
            · obtain rfl : j = k := by omega
              obtain rfl : x = y := Option.some.inj (HX.out.symm.trans hy)
              omega)
          go_wp2
          go_quiet (fail)
          go_wp2
          go_roundw
          case rel => exact ⟨k + 1, _, by omega, by go_num, rfl, HO⟩
          case measure => simp [intOf]; omega
    · have HO := Lib.hid (outI_none (n := n) (xs := xs) (fun j y hy => hall.out j y (by have := (List.getElem?_eq_some_iff.1 hy).1; have := HL.out; omega) hy))
      go_wp2
      go_ret
      rw [HO.out]
      exact ⟨rfl, pure_drewN _ _⟩

theorem ded_le (ys : List Int) (k : Nat) : ((BagR.dedTo ys k).map (Value.int .i64)).length ≤ k := by rw [List.length_map]; exact BagR.dedTo_len ys k
set_option maxRecDepth 100000 in
set_option maxHeartbeats 2000000 in
theorem rset_c (w : World) (A : Option Addr) (m c : Nat) (xs : List Int) (h : Sl w A m (xs.map (Value.int .i64))) (hm : m ≤ 1048576) :
    Calls Tryd.prog 40 #[.slice A m c] w fun e w' => ∃ (v : Value) (ys : List Int), ys = (xs.mergeSort fun x y => decide (x ≤ y)) ∧ e = .returned v ∧ w'.ownsRow w.heap.size 3 1 v ((BagR.dedTo ys m).map (Value.int .i64)).length ((BagR.dedTo ys m).map (Value.int .i64)) ∧ Below w.heap.size w w' := by
  have HCP := Lib.hid (copy_c w A m c _ h (ints_one xs) (by omega))
  obtain ⟨ys, hys⟩ : ∃ ys, (xs.mergeSort fun x y => decide (x ≤ y)) = ys := ⟨_, rfl⟩
  have HYS := Lib.hid hys
  clear h
  go_enter Tryd.func40, Tryd.ntmps40
  go_wp2_with fail
  refine HCP.out.mono ?_
  rintro e w1 ⟨C, cc, rfl, hr1, hb1⟩
  have HS1 := Lib.hid (sortInts_c w1 w.heap.size m cc C xs hr1 (by omega))
  rw [hys] at HS1
  have HB1 := Lib.hid (fun (w2 : World) (hg : w1.grownBy w2 (Value.slice C m cc).ownBlock) => hb1.grown hg hb1.size (fun j hj => (hr1.lt j hj).1))
  clear hys hr1 hb1 HCP
  go_wp2_with fail
  refine HS1.out.mono ?_
  rintro e w2 ⟨rfl, hr2, hg2⟩
  have hb2 := HB1.out w2 hg2
  have hs2 := Sl.of_own hr2
  have HB2 := Lib.hid hb2
  have HZ2 := Lib.hid hb2.size
  clear HS1 HB1 hr2 hg2 hb2
  go_wp2_with fail
  go_loopw [4, 5] (fun o i wr => ∃ k : Nat, k ≤ m ∧ i = .int .i64 (k : Int) ∧ Hid (wr.ownsRow w2.heap.size 3 1 o ((BagR.dedTo ys k).map (Value.int .i64)).length ((BagR.dedTo ys k).map (Value.int .i64))) ∧ Hid (Below w2.heap.size w2 wr)) (fun _ i _ => m - (intOf i).toNat)
  case atStart => exact ⟨0, Nat.zero_le _, rfl, Lib.hid (World.ownsRow_nil _ _ _ _), Lib.hid (Below.refl _ _)⟩
  case round =>
    obtain ⟨k, hk, rfl, hown, hb⟩ := hrel
    have hdl := ded_le ys k
    by_cases hlt : k < m
    · obtain ⟨ad, x, rfl, hx, hcx⟩ := (hs2.below hb.out).int_ hlt
      have hxd : ys.getD k 0 = x := by rw [List.getD_eq_getElem?_getD, hx]; rfl
      have HX := Lib.hid hxd
      have HBN := Lib.hid (fun (nq : Nat) => (⟨own_below hown.out (pure_drewN wr nq), pure_trans hb.out (pure_drewN wr nq)⟩ : _ ∧ Below w2.heap.size w2 (wr.drewN nq)))
      have HCX := Lib.hid (fun (nq : Nat) => cell_later (pure_drewN wr nq) hcx)
      clear hx hxd
      rcases Nat.eq_zero_or_pos k with h0 | h0
      · have HST : Hid (BagR.dedTo ys (k + 1) = BagR.dedTo ys k ++ [x]) := Lib.hid (by rw [BagR.dedTo_succ, if_pos (.inl h0), HX.out])
        have hz : ((k : Int) == 0) = true := by rw [h0]; rfl
        clear h0
        go_wp2_with fail
        go_quiet (fail)
        obtain ⟨hO, hB⟩ := HBN.out nq
        have hcx2 := HCX.out nq
        have hzb := hB.size
        clear HBN HCX hcx
        go_wp2_with (at_builtin; refine wpList_push rfl _ _ _ rfl tInts hO rfl _ 0 rfl rfl rfl (by simp only [maxLen]; omega) (by omega) hzb ?_; intro g cap w3 hown3 hg3 hat3 hlt3)
        refine ⟨⟨k + 1, by omega, by go_num, Lib.hid ?_, Lib.hid (hB.grown hg3 hzb (fun j hj => (hO.lt j hj).1))⟩, by simp [intOf]; omega⟩
        rw [HST.out]
        simpa using hown3
      · obtain ⟨j, hj⟩ : ∃ j, k = j + 1 := ⟨k - 1, by omega⟩
        obtain ⟨ad', y, e', hy, hcy⟩ := (hs2.below hb.out).int_ (show j < m by omega)
        cases e'
        have hz : ((k : Int) == 0) = false := by rw [beq_eq_false_iff_ne]; omega
        have hk1 : (k : Int) - 1 = (j : Int) := by omega
        have hyd : ys.getD j 0 = y := by rw [List.getD_eq_getElem?_getD, hy]; rfl
        have HJ := Lib.hid hj
        have HY := Lib.hid hyd
        clear hj hy hyd
        by_cases e : x = y
        · have hne : (x != y) = false := by rw [e]; simp
          have HST : Hid (BagR.dedTo ys (k + 1) = BagR.dedTo ys k) := Lib.hid (by
            have hj := HJ.out
            rw [BagR.dedTo_succ, if_neg, List.append_nil]
            rintro (h | h)
            · omega
            · rw [hj, Nat.add_sub_cancel, ← hj, HX.out, HY.out] at h; exact h e)
          clear e
          go_wp2_with fail
          go_quiet (fail)
          obtain ⟨hO, hB⟩ := HBN.out nq
          go_wp2_with fail
          exact ⟨⟨k + 1, by omega, by go_num, Lib.hid (by rw [HST.out]; exact hO), Lib.hid hB⟩, by simp [intOf]; omega⟩
        · have hne : (x != y) = true := by simp [e]
          have HST : Hid (BagR.dedTo ys (k + 1) = BagR.dedTo ys k ++ [x]) := Lib.hid (by
            have hj := HJ.out
            rw [BagR.dedTo_succ, if_pos, HX.out]
            refine .inr ?_
            rw [hj, Nat.add_sub_cancel, ← hj, HX.out, HY.out]
            exact e)
          clear e
          go_wp2_with fail
          go_quiet (fail)
          obtain ⟨hO, hB⟩ := HBN.out nq
          have hcx2 := HCX.out nq
          have hzb := hB.size
          clear HBN HCX hcx hcy
          go_wp2_with (at_builtin; refine wpList_push rfl _ _ _ rfl tInts hO rfl _ 0 rfl rfl rfl (by simp only [maxLen]; omega) (by omega) hzb ?_; intro g cap w3 hown3 hg3 hat3 hlt3)
          refine ⟨⟨k + 1, by omega, by go_num, Lib.hid ?_, Lib.hid (hB.grown hg3 hzb (fun j hj => (hO.lt j hj).1))⟩, by simp [intOf]; omega⟩
          rw [HST.out]
          simpa using hown3
    · obtain rfl : m = k := by omega
      have hO := own_base hown.out (show w.heap.size ≤ w2.heap.size from HZ2.out)
      have HBB := Lib.hid (HB2.out.trans (hb.out.mono HZ2.out))
      go_wp2_with fail
      go_ret
      exact ⟨_, ys, HYS.out.symm, rfl, hO, HBB.out⟩
end Go.Proofs.YtiobnnhjnkcafaaDoor

namespace Go.Proofs.YtiobnnhjnkcafaaDoor
open Go.RowKit Go.WideMaps Go.Maps BagP RuleP

theorem byteN_val2 (x : Nat) (h : x < 65536) : (byteN x).map bv = [.int .u8 ((x : Int) / 256), .int .u8 ((x : Int) % 256)] := by
  unfold byteN bv
  simp
  omega
theorem bytesN_take {l : List Nat} {k x : Nat} (h : l[k]? = some x) : bytesN (l.take (k + 1)) = bytesN (l.take k) ++ byteN x := by
  rw [List.take_add_one, h, Option.toList_some, bytesN_snoc]
set_option maxRecDepth 100000 in
set_option maxHeartbeats 2000000 in
theorem rkey_c (w : World) (A : Option Addr) (m c : Nat) (l : List Nat) (h : Sl w A m (iR l)) (ho : okB2 l) (hm : m ≤ 1048576) :
    Calls Tryd.prog 41 #[.slice A m c] w fun e w' => e = .returned (.string ⟨(bytesN l).toArray⟩) ∧ Below w.heap.size w w' := by
  have h' : Sl w A m ((ints l).map (Value.int .i64)) := h
  have hl : l.length = m := by have := h.1; rwa [iR_len] at this
  have HL := Lib.hid hl
  have HO := Lib.hid ho
  clear hl h ho
  obtain ⟨i0, hi, hz0, hz1, hz2⟩ := info_parts tBytes.info
  go_enter Tryd.func41, Tryd.ntmps41
  go_wp2_with (at_make; refine wpList_make_own _ rfl _ _ _ rfl w.heap.size 5 i0 (.int .u8 0) 1 tBytes.und hi hz0 hz1 _ _ (2 * (m : Int)) (2 * m) rfl rfl (by simp) (by rw [hz2]; omega) (by simp only [maxLen]; omega) (Nat.le_refl _) ?_; intro w1 hown1 hg1)
  go_loopw [3, 4] (fun sv iv wr => ∃ (k M : Nat) (C : Option Addr) (cc : Nat), k ≤ m ∧ Hid (M = 2 * k) ∧ iv = .int .i64 (k : Int) ∧ sv = .slice C M cc ∧ wr.ownsRow w.heap.size 5 1 (.slice C M cc) M ((bytesN (l.take k)).map bv) ∧ Below w.heap.size w wr) (fun _ iv _ => m - (intOf iv).toNat)
  case atStart => exact ⟨0, 0, _, _, Nat.zero_le _, Lib.hid rfl, rfl, rfl, hown1, (Below.refl _ _).grown hg1 (Nat.le_refl _) (by simp)⟩
  case round =>
    obtain ⟨k, M, C, cc, hk, hM, rfl, rfl, hown, hb⟩ := hrel
    clear hown1 hg1
    by_cases hlt : k < m
    · obtain ⟨ad, y, rfl, hy, hcx0⟩ := h'.int_ hlt
      obtain ⟨x, hx, rfl⟩ : ∃ x : Nat, l[k]? = some x ∧ y = (x : Int) := by
        unfold ints at hy
        rw [List.getElem?_map] at hy
        cases hq : l[k]? with
        | none => rw [hq] at hy; cases hy
        | some x => rw [hq] at hy; exact ⟨x, rfl, (Option.some.inj hy).symm⟩
      have hxl := HO.out x (List.mem_of_getElem? hx)
      have hcx := cell_later hb hcx0
      have HF := Lib.hid (bytesN_take hx)
      have HV := Lib.hid (byteN_val2 x hxl)
      have d1 : (x : Int).tmod 256 = (x : Int) % 256 := Int.tmod_eq_emod_of_nonneg (by omega)
      have d2 : (x : Int).tdiv 256 = (x : Int) / 256 := Int.tdiv_eq_ediv_of_nonneg (by omega)
      have d3 : IntKind.u8.wrap ((x : Int) / 256) = (x : Int) / 256 := IntWalk.u8_in _ (by omega)
      have d5 : IntKind.i64.wrap ((x : Int) / 256) = (x : Int) / 256 := IntWalk.i64_in _ (by omega)
      have d4 : IntKind.u8.wrap ((x : Int) % 256) = (x : Int) % 256 := IntWalk.u8_in _ (by omega)
      clear hy hx
      have hul : M + 2 ≤ 2000000002 := by have := hM.out; omega
      go_wp2_with fail
      go_region_held3 (fun w' => w'.cell? (ad.add k) = some (.int .i64 (x : Int)))
        (first | go_keep)
        (first
          | (refine step_append_lies _ ?_ (.tmp 15) (.tmp 28) 123 ?_ w.heap.size 5 i0 (.int .u8 0) 1 1 tBytes.und hi hz0 hz1 hz2 rfl Nat.one_pos (.slice C M cc) M ((bytesN (l.take k)).map bv) ?_ ?_ ⟨wr.heap.size, 0, none⟩ 2 2 [.int .u8 ((x : Int) / 256), .int .u8 ((x : Int) % 256)] ?_ ?_ ?_ ?_ ?_ ?_ ?_ ?_ _ rfl ?_
             · rfl
             · rfl
             · rfl
             · exact hown.alloc _
             · rfl
             · rfl
             · (intro j u hj; match j, hj with | 0, hj => (simp at hj; subst hj; simp [Addr.add, d2, d5, d3]) | 1, hj => (simp at hj; subst hj; simp [Addr.add, d1, d4]))
             · (intro u hu; simp at hu; rcases hu with rfl | rfl <;> rfl)
             · decide
             · (simp only [maxLen]; omega)
             · omega
             · (have := hb.size; simp; omega)
             intro gg cap w3 hown3 hgrow hat hlt3
             have hk3 := grown_keeps hgrow
             have z3 := hk3.cell hcx (fun e => absurd (hown.lt _ e).1 (Nat.not_le_of_lt (World.block_lt_of_cell? _ _ hcx0)))
             dsimp only))
      rw [show ((bytesN (l.take k)).map bv) ++ [.int .u8 ((x : Int) / 256), .int .u8 ((x : Int) % 256)] = (bytesN (l.take (k + 1))).map bv from by rw [HF.out, List.map_append, HV.out]] at hown3
      have hb3 : Below w.heap.size w w3 := hb.trans (hk3.below hb.size (fun b hb' => (hown.lt _ hb').1))
      have hM2 : Hid (M + 2 = 2 * (k + 1)) := Lib.hid (by have := hM.out; omega)
      clear hown hgrow hat hk3 hcx d1 d2 d3 d4 d5
      go_wp2_with fail
      exact ⟨⟨k + 1, M + 2, _, cap, by omega, hM2, by go_num, rfl, hown3, hb3⟩, by simp [intOf]; omega⟩
    · have E := Lib.hid (show k = m by omega)
      rw [show bytesN (l.take k) = bytesN l from by rw [E.out, List.take_of_length_le (by rw [HL.out]; exact Nat.le_refl _)]] at hown
      have hconv := run_own_string (P := Tryd.prog) wr 123 9 5 tBytes.und Tryd.underlying5 Tryd.underlying9 hown
      go_wp2
      go_ret
      exact ⟨rfl, hb⟩

/-! ### the document's bag, or none -/
def RBagO (w : World) (p : Value) (o : BagD) (O : Nat → Prop) : Prop :=
  match o with
  | none => p = .pointer none
  | some (n, S) => RBagIs w p n (S.map (BagR.getN n)) O ∧ BagR.GoodS n S
theorem RBagO.keeps {w w' : World} {p : Value} {o : BagD} {O O2 : Nat → Prop} (h : RBagO w p o O) (hk : Keeps O2 w w') (ho : ∀ k, O k → ¬ O2 k) : RBagO w' p o O := by
  cases o with
  | none => exact h
  | some x => exact ⟨RBagIs.keeps h.1 hk ho, h.2⟩
theorem RBagO.below {w w' : World} {p : Value} {o : BagD} {O : Nat → Prop} (h : RBagO w p o O) (hb : Below w.heap.size w w') : RBagO w' p o O := h.keeps (Keeps.of_pure hb (fun _ => False)) (fun _ _ h => h)
theorem RBagO.restrict {w : World} {p : Value} {o : BagD} {O : Nat → Prop} (h : RBagO w p o O) : RBagO w p o (fun k => O k ∧ k < w.heap.size) := by
  cases o with
  | none => exact h
  | some x => exact ⟨RBagIs.restrict h.1, h.2⟩
theorem RBagO.mono {w : World} {p : Value} {o : BagD} {O O' : Nat → Prop} (h : RBagO w p o O) (ho : ∀ k, O k → O' k) : RBagO w p o O' := by
  cases o with
  | none => exact h
  | some x => exact ⟨RBagIs.mono h.1 ho, h.2⟩
theorem rlen_c (w : World) (p : Value) (o : BagD) (O : Nat → Prop) (hB : RBagO w p o O) :
    Calls Tryd.prog 9 #[p] w fun e w' => e = .returned (.int .i64 (lenO o : Int)) ∧ w = w' := by
  cases o with
  | none =>
    obtain rfl : p = .pointer none := hB
    go_enter Tryd.func9, Tryd.ntmps9
    go_wp2
    go_ret
    exact ⟨rfl, rfl⟩
  | some x =>
    obtain ⟨n, S⟩ := x
    obtain ⟨bb, mb, sv, rows, D, rfl, hb⟩ := hB.1
    obtain ⟨A, c, rfl, _, _⟩ := own_slice hb.own
    obtain ⟨_, c1, _, _⟩ := blk_cells hb.blk
    go_enter Tryd.func9, Tryd.ntmps9
    go_wp2
    go_ret
    exact ⟨rfl, rfl⟩
end Go.Proofs.YtiobnnhjnkcafaaDoor

namespace Go.Proofs.YtiobnnhjnkcafaaDoor
open Go.RowKit Go.WideMaps Go.Maps BagP RuleP

/-- What New answers. -/
def newO (n : Int) : BagR.Tl × BagD := if n < 0 then (some (3, [(BagR.bagS, 0)]), none) else if 8192 < n then (some (4, [(BagR.bagS, 0)]), none) else (none, some (n.toNat, []))
/-- An answer of two: a value, and an error or none. -/
def Ans2 (w : World) (t : Option Tale) (Q : Value → World → Prop) (e : Ending) (w' : World) : Prop :=
  ∃ (v : Value) (N : Nat) (A1 : Option Addr) (n1 c1 : Nat) (A2 : Option Addr) (n2 c2 : Nat), e = .returned (.tuple #[v, .agg #[.int .i64 (N : Int), .slice A1 n1 c1, .slice A2 n2 c2]]) ∧ WantB w' w.heap.size t (.agg #[.int .i64 (N : Int), .slice A1 n1 c1, .slice A2 n2 c2]) ∧ Q v w' ∧ Below w.heap.size w w'

set_option maxRecDepth 100000 in
set_option maxHeartbeats 1000000 in
theorem rnew_neg (w : World) (n : Int) (h : n < 0) : Calls Tryd.prog 6 #[.int .i64 n] w (Ans2 w (some (3, [(BagR.bagS, 0)])) fun v _ => v = .pointer none) := by
  have hw0 := WantAt.new w (.int .i64 0) (.slice none 0 0) (.slice none 0 0)
  have hb0 := (Below.refl w.heap.size w).alloc (Nat.le_refl _) (.cells #[.int .i64 0, .slice none 0 0, .slice none 0 0] 33)
  have HN := Lib.hid (newB_c (w.alloc (.cells #[.int .i64 0, .slice none 0 0, .slice none 0 0] 33)) sBag 0 3)
  go_enter Tryd.func6, Tryd.ntmps6
  go_wp2_with fail
  refine (HN.out).mono ?_
  rintro e w1 ⟨A1, n1, c1, A2, n2, c2, rfl, hu, hb1⟩
  have hw1 := hw0.below hb1 (by simp)
  have hu2 := hu.set3 (g := w.heap.size) (by simp) (.int .i64 3) (.slice A1 n1 c1) (.slice A2 n2 c2)
  have hb2 := below_set3 (hb0.trans (hb1.mono (by simp))) (Nat.le_refl _) (.int .i64 3) (.slice A1 n1 c1) (.slice A2 n2 c2)
  obtain ⟨d0, d1, d2, f0, f1, f2⟩ := hw1.facts
  have HU := Lib.hid (hu2.base (base' := w.heap.size) (by simp))
  have HB := Lib.hid hb2
  clear hu hu2 hb1 hb2 hw1 hw0 hb0
  go_wp2_with fail
  exact bodyPost_ret (v := .tuple #[.pointer none, .agg #[.int .i64 3, .slice A1 n1 c1, .slice A2 n2 c2]]) (by simp [results, Tryd.results6, go_sem, d0, d1, d2]) rfl ⟨.pointer none, 3, A1, n1, c1, A2, n2, c2, rfl, HU.out, rfl, HB.out⟩
set_option maxRecDepth 100000 in
set_option maxHeartbeats 1000000 in
theorem rnew_big (w : World) (n : Int) (h : 8192 < n) : Calls Tryd.prog 6 #[.int .i64 n] w (Ans2 w (some (4, [(BagR.bagS, 0)])) fun v _ => v = .pointer none) := by
  have h0 : ¬ n < 0 := by omega
  have hw0 := WantAt.new w (.int .i64 0) (.slice none 0 0) (.slice none 0 0)
  have hb0 := (Below.refl w.heap.size w).alloc (Nat.le_refl _) (.cells #[.int .i64 0, .slice none 0 0, .slice none 0 0] 33)
  have HN := Lib.hid (newB_c (w.alloc (.cells #[.int .i64 0, .slice none 0 0, .slice none 0 0] 33)) sBag 0 4)
  go_enter Tryd.func6, Tryd.ntmps6
  go_wp2_with fail
  refine (HN.out).mono ?_
  rintro e w1 ⟨A1, n1, c1, A2, n2, c2, rfl, hu, hb1⟩
  have hw1 := hw0.below hb1 (by simp)
  have hu2 := hu.set3 (g := w.heap.size) (by simp) (.int .i64 4) (.slice A1 n1 c1) (.slice A2 n2 c2)
  have hb2 := below_set3 (hb0.trans (hb1.mono (by simp))) (Nat.le_refl _) (.int .i64 4) (.slice A1 n1 c1) (.slice A2 n2 c2)
  obtain ⟨d0, d1, d2, f0, f1, f2⟩ := hw1.facts
  have HU := Lib.hid (hu2.base (base' := w.heap.size) (by simp))
  have HB := Lib.hid hb2
  clear hu hu2 hb1 hb2 hw1 hw0 hb0
  go_wp2_with fail
  exact bodyPost_ret (v := .tuple #[.pointer none, .agg #[.int .i64 4, .slice A1 n1 c1, .slice A2 n2 c2]]) (by simp [results, Tryd.results6, go_sem, d0, d1, d2]) rfl ⟨.pointer none, 4, A1, n1, c1, A2, n2, c2, rfl, HU.out, rfl, HB.out⟩

set_option maxRecDepth 100000 in
set_option maxHeartbeats 1000000 in
theorem rnew_good (w : World) (n : Nat) (hn : n ≤ 8192) : Calls Tryd.prog 6 #[.int .i64 (n : Int)] w (Ans2 w none fun v w' => RBagIs w' v n [] (fun k => w.heap.size ≤ k)) := by
  have hmm := @run_makeMap Tryd.prog
  have t1 : ¬ ((n : Int) < 0) := by omega
  have t2 : ¬ (8192 < (n : Int)) := by omega
  have hw0 := WantAt.new w (.int .i64 0) (.slice none 0 0) (.slice none 0 0)
  have hw2 := (hw0.alloc (.map #[] 0)).alloc (.cells #[.int .i64 (n : Int), .slice none 0 0, .map (some (w.heap.size + 1))] 47)
  have hmap := (World.ownsMap_made (w.alloc (.cells #[.int .i64 0, .slice none 0 0, .slice none 0 0] 33)) Tryd.prog 9 (plainElem (H := Unit) Tryd.prog 3)).alloc (.cells #[.int .i64 (n : Int), .slice none 0 0, .map (some (w.heap.size + 1))] 47)
  have hblk := heap_new ((w.alloc (.cells #[.int .i64 0, .slice none 0 0, .slice none 0 0] 33)).alloc (.map #[] 0)) (.cells #[.int .i64 (n : Int), .slice none 0 0, .map (some (w.heap.size + 1))] 47)
  have hb2 := (((Below.refl w.heap.size w).alloc (Nat.le_refl _) (.cells #[.int .i64 0, .slice none 0 0, .slice none 0 0] 33)).alloc (by simp) (.map #[] 0)).alloc (by simp; omega) (.cells #[.int .i64 (n : Int), .slice none 0 0, .map (some (w.heap.size + 1))] 47)
  simp only [World.size_alloc] at hmap hblk
  obtain ⟨W, hW⟩ : ∃ W, ((w.alloc (.cells #[.int .i64 0, .slice none 0 0, .slice none 0 0] 33)).alloc (.map #[] 0)).alloc (.cells #[.int .i64 (n : Int), .slice none 0 0, .map (some (w.heap.size + 1))] 47) = W := ⟨_, rfl⟩
  rw [hW] at hw2 hmap hblk hb2
  have hB : RBagAt W (w.heap.size + 1 + 1) (w.heap.size + 1) (.slice none 0 0) [] (.map []) n [] (fun k => w.heap.size < k) := {
    blk := hblk
    map := hmap
    rel := SubP.relK_nil _ _
    own := World.ownsRow_nil _ _ _ _
    row := fun i l h => by simp at h
    fb := by omega
    fm := by omega
    fs := fun g h => by simp [Value.ownBlock] at h
    okw := fun l h => by simp at h
    nd := List.nodup_nil
    big := by simp
    nn := hn }
  have HB3 := Lib.hid hB
  have HBW := Lib.hid hb2
  obtain ⟨d0, d1, d2, f0, f1, f2⟩ := hw2.facts
  have HWW := Lib.hid hW
  clear hw0 hw2 hmap hblk hb2 hB hW
  go_enter Tryd.func6, Tryd.ntmps6
  go_wp2_with fail
  rw [HWW.out]
  exact bodyPost_ret (v := .tuple #[.pointer (some ⟨w.heap.size + 1 + 1, 0, none⟩), .agg #[.int .i64 0, .slice none 0 0, .slice none 0 0]]) (by simp [results, Tryd.results6, go_sem, d0, d1, d2]) rfl
    ⟨_, 0, none, 0, 0, none, 0, 0, rfl, WantB.zero _ _, RBagIs.mono ⟨_, _, _, _, _, rfl, HB3.out⟩ (fun k h => Nat.le_of_lt h), HBW.out⟩

set_option maxRecDepth 100000 in
set_option maxHeartbeats 1000000 in
theorem rget_nil (w : World) (i : Int) : Calls Tryd.prog 22 #[.pointer none, .int .i64 i] w (Ans2 w (some (11, [(BagR.bagS, 0)])) fun v _ => v = .slice none 0 0) := by
  have hw0 := WantAt.new w (.int .i64 0) (.slice none 0 0) (.slice none 0 0)
  have hb0 := (Below.refl w.heap.size w).alloc (Nat.le_refl _) (.cells #[.int .i64 0, .slice none 0 0, .slice none 0 0] 33)
  have HN := Lib.hid (newB_c (w.alloc (.cells #[.int .i64 0, .slice none 0 0, .slice none 0 0] 33)) sBag 0 11)
  go_enter Tryd.func22, Tryd.ntmps22
  go_wp2_with fail
  refine (HN.out).mono ?_
  rintro e w1 ⟨A1, n1, c1, A2, n2, c2, rfl, hu, hb1⟩
  have hw1 := hw0.below hb1 (by simp)
  have hu2 := hu.set3 (g := w.heap.size) (by simp) (.int .i64 11) (.slice A1 n1 c1) (.slice A2 n2 c2)
  have hb2 := below_set3 (hb0.trans (hb1.mono (by simp))) (Nat.le_refl _) (.int .i64 11) (.slice A1 n1 c1) (.slice A2 n2 c2)
  obtain ⟨d0, d1, d2, f0, f1, f2⟩ := hw1.facts
  have HU := Lib.hid (hu2.base (base' := w.heap.size) (by simp))
  have HB := Lib.hid hb2
  clear hu hu2 hb1 hb2 hw1 hw0 hb0
  go_wp2_with fail
  exact bodyPost_ret (v := .tuple #[.slice none 0 0, .agg #[.int .i64 11, .slice A1 n1 c1, .slice A2 n2 c2]]) (by simp [results, Tryd.results22, go_sem, d0, d1, d2]) rfl ⟨.slice none 0 0, 11, A1, n1, c1, A2, n2, c2, rfl, HU.out, rfl, HB.out⟩
set_option maxRecDepth 100000 in
set_option maxHeartbeats 1000000 in
theorem rget_out {w : World} {bb mb : Nat} {sv : Value} {rows : List Value} {D : DataW Unit} {n : Nat} {L : List (List Nat)} {O : Nat → Prop} (hB : RBagAt w bb mb sv rows D n L O) (i : Int) (hi : i < 0 ∨ (L.length : Int) ≤ i) : Calls Tryd.prog 22 #[.pointer (some ⟨bb, 0, none⟩), .int .i64 i] w (Ans2 w (some (3, [(BagR.bagS, 0)])) fun v _ => v = .slice none 0 0) := by
  have hw0 := WantAt.new w (.int .i64 0) (.slice none 0 0) (.slice none 0 0)
  have hb0 := (Below.refl w.heap.size w).alloc (Nat.le_refl _) (.cells #[.int .i64 0, .slice none 0 0, .slice none 0 0] 33)
  obtain ⟨A, c, rfl, _, _⟩ := own_slice hB.own
  obtain ⟨_, c1', _, _⟩ := blk_cells (hB.keeps (Keeps.of_pure hb0 (fun _ => False)) (fun _ _ h => h)).blk
  rcases hi with h0 | h1
  · have HN := Lib.hid (newB_c (w.alloc (.cells #[.int .i64 0, .slice none 0 0, .slice none 0 0] 33)) sBag 0 3)
    go_enter Tryd.func22, Tryd.ntmps22
    go_wp2_with fail
    refine (HN.out).mono ?_
    rintro e w1 ⟨A1, n1, c1, A2, n2, c2, rfl, hu, hb1⟩
    have hw1 := hw0.below hb1 (by simp)
    have hu2 := hu.set3 (g := w.heap.size) (by simp) (.int .i64 3) (.slice A1 n1 c1) (.slice A2 n2 c2)
    have hb2 := below_set3 (hb0.trans (hb1.mono (by simp))) (Nat.le_refl _) (.int .i64 3) (.slice A1 n1 c1) (.slice A2 n2 c2)
    obtain ⟨d0, d1, d2, f0, f1, f2⟩ := hw1.facts
    have HU := Lib.hid (hu2.base (base' := w.heap.size) (by simp))
    have HB := Lib.hid hb2
    clear hu hu2 hb1 hb2 hw1 hw0 hb0
    go_wp2_with fail
    exact bodyPost_ret (v := .tuple #[.slice none 0 0, .agg #[.int .i64 3, .slice A1 n1 c1, .slice A2 n2 c2]]) (by simp [results, Tryd.results22, go_sem, d0, d1, d2]) rfl ⟨.slice none 0 0, 3, A1, n1, c1, A2, n2, c2, rfl, HU.out, rfl, HB.out⟩
  · have h0 : ¬ i < 0 := by omega
    have HN := Lib.hid (newB_c (w.alloc (.cells #[.int .i64 0, .slice none 0 0, .slice none 0 0] 33)) sBag 0 3)
    go_enter Tryd.func22, Tryd.ntmps22
    go_wp2_with fail
    refine (HN.out).mono ?_
    rintro e w1 ⟨A1, n1, c1, A2, n2, c2, rfl, hu, hb1⟩
    have hw1 := hw0.below hb1 (by simp)
    have hu2 := hu.set3 (g := w.heap.size) (by simp) (.int .i64 3) (.slice A1 n1 c1) (.slice A2 n2 c2)
    have hb2 := below_set3 (hb0.trans (hb1.mono (by simp))) (Nat.le_refl _) (.int .i64 3) (.slice A1 n1 c1) (.slice A2 n2 c2)
    obtain ⟨d0, d1, d2, f0, f1, f2⟩ := hw1.facts
    have HU := Lib.hid (hu2.base (base' := w.heap.size) (by simp))
    have HB := Lib.hid hb2
    clear hu hu2 hb1 hb2 hw1 hw0 hb0
    go_wp2_with fail
    exact bodyPost_ret (v := .tuple #[.slice none 0 0, .agg #[.int .i64 3, .slice A1 n1 c1, .slice A2 n2 c2]]) (by simp [results, Tryd.results22, go_sem, d0, d1, d2]) rfl ⟨.slice none 0 0, 3, A1, n1, c1, A2, n2, c2, rfl, HU.out, rfl, HB.out⟩

set_option maxRecDepth 100000 in
set_option maxHeartbeats 1000000 in
theorem rget_in {w : World} {bb mb : Nat} {sv : Value} {rows : List Value} {D : DataW Unit} {n : Nat} {L : List (List Nat)} {O : Nat → Prop} (hB : RBagAt w bb mb sv rows D n L O) (i : Nat) (l : List Nat) (hi : L[i]? = some l) :
    Calls Tryd.prog 22 #[.pointer (some ⟨bb, 0, none⟩), .int .i64 (i : Int)] w (Ans2 w none fun v w' => w'.ownsRow w.heap.size 3 1 v l.length (iR l)) := by
  have hw0 := WantAt.new w (.int .i64 0) (.slice none 0 0) (.slice none 0 0)
  have hb0 := (Below.refl w.heap.size w).alloc (Nat.le_refl _) (.cells #[.int .i64 0, .slice none 0 0, .slice none 0 0] 33)
  have hB0 := hB.keeps (Keeps.of_pure hb0 (fun _ => False)) (fun _ _ h => h)
  obtain ⟨A, c, rfl, _, _⟩ := own_slice hB0.own
  obtain ⟨_, c1', _, _⟩ := blk_cells hB0.blk
  have hil : i < L.length := (List.getElem?_eq_some_iff.1 hi).1
  obtain ⟨v, hv, hr, _⟩ := hB0.row i l hi
  obtain ⟨C, cc, rfl, _, _⟩ := own_slice hr
  obtain ⟨ad, rfl, hcr⟩ := (Sl.of_own hB0.own).2 i _ hv
  have hll := (hB0.okw l (List.mem_of_getElem? hi)).2
  have HC := Lib.hid (copy_c (w.alloc (.cells #[.int .i64 0, .slice none 0 0, .slice none 0 0] 33)) C l.length cc (iR l) (Sl.of_own hr) (ints_one _) (by omega))
  have hbig := hB0.big
  have h0 : ¬ (i : Int) < 0 := by omega
  have h1 : ¬ (L.length : Int) ≤ (i : Int) := by omega
  have h2 : (i : Int) < (L.length : Int) := by omega
  clear hv hr hi hB hB0
  go_enter Tryd.func22, Tryd.ntmps22
  go_wp2_with fail
  refine (HC.out).mono ?_
  rintro e w1 ⟨C', cc', rfl, hr1, hb1⟩
  have hw1 := hw0.below hb1 (by simp)
  have HO := Lib.hid (own_base (own_setW hr1 hw1 (by decide) (.int .i64 0) (.slice none 0 0) (.slice none 0 0)) (show w.heap.size ≤ _ by simp))
  have HB := Lib.hid (below_set3 (hb0.trans (hb1.mono (by simp))) (Nat.le_refl _) (.int .i64 0) (.slice none 0 0) (.slice none 0 0))
  obtain ⟨d0, d1, d2, f0, f1, f2⟩ := hw1.facts
  clear hr1 hb1 hw1 hw0 hb0
  go_wp2_with fail
  exact bodyPost_ret (v := .tuple #[.slice C' l.length cc', .agg #[.int .i64 0, .slice none 0 0, .slice none 0 0]]) (by simp [results, Tryd.results22, go_sem, d0, d1, d2]) rfl ⟨_, 0, none, 0, 0, none, 0, 0, rfl, WantB.zero _ _, HO.out, HB.out⟩
theorem rgetO_c (w : World) (p : Value) (o : BagD) (O : Nat → Prop) (hB : RBagO w p o O) (i : Int) :
    Calls Tryd.prog 22 #[p, .int .i64 i] w (Ans2 w (getO o i).2 fun v w' => w'.ownsRow w.heap.size 3 1 v (getO o i).1.length ((getO o i).1.map (Value.int .i64))) := by
  cases o with
  | none =>
    obtain rfl : p = .pointer none := hB
    refine (rget_nil w i).mono ?_
    rintro e w' ⟨v, N, A1, n1, c1, A2, n2, c2, h1, h2, rfl, h4⟩
    exact ⟨_, N, A1, n1, c1, A2, n2, c2, h1, h2, World.ownsRow_nil _ _ _ _, h4⟩
  | some x =>
    obtain ⟨n, S⟩ := x
    obtain ⟨⟨bb, mb, sv, rows, D, rfl, hb⟩, hg⟩ := hB
    simp only [getO]
    by_cases hi : BagR.inS S i
    · obtain ⟨j, rfl, hj, hat⟩ := inS_at hi
      have e1 : BagR.getF n S (j : Int) = (getL n (S.getD j []), none) := by unfold BagR.getF; rw [if_pos hi, Int.toNat_natCast]
      rw [e1, BagR.getL_getN]
      refine (rget_in hb j (BagR.getN n (S.getD j [])) (by rw [List.getElem?_map, hat]; rfl)).mono ?_
      rintro e w' ⟨v, N, A1, n1, c1, A2, n2, c2, h1, h2, h3, h4⟩
      exact ⟨v, N, A1, n1, c1, A2, n2, c2, h1, h2, by rw [ints_len]; exact h3, h4⟩
    · have e1 : BagR.getF n S i = ([], some (3, [(BagR.bagS, 0)])) := by unfold BagR.getF; rw [if_neg hi]
      rw [e1]
      refine (rget_out hb i (by unfold BagR.inS at hi; rw [List.length_map]; omega)).mono ?_
      rintro e w' ⟨v, N, A1, n1, c1, A2, n2, c2, h1, h2, rfl, h4⟩
      exact ⟨_, N, A1, n1, c1, A2, n2, c2, h1, h2, World.ownsRow_nil _ _ _ _, h4⟩
end Go.Proofs.YtiobnnhjnkcafaaDoor
