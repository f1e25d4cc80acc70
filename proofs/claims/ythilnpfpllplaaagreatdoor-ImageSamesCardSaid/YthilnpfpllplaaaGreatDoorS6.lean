/- What is a rule: rule.Check, rule.Small. Condition: the table reads from memory; the error variables hold what E says. Errors told further: fault.Under, edenraw.Under, Err.Bad. Condition: the error reads from memory. What is asked of an error, kept beside other writes: edenraw.New, Err.Bad. Condition: the value reads from memory. Sums: rules whose table is a sum take sums of words to sums of images. Plain lists, no program. No condition. The preimages of a word in the order of words: plain lists, no program. No condition. What a search among preimages has found, step by step: plain lists, no program. No condition. From which nodes on labels can be written, step by step: plain lists, no program. No condition. A struct of three cells in a block of the call's own: read, written, and the errors beside it. No condition. -/
import Derived.Test.YthilnpfpllplaaaGreatDoorS1
import Derived.Test.YthilnpfpllplaaaGreatDoorS4
import Derived.Test.YthilnpfpllplaaaGreatDoorS5
namespace Go.Proofs.YthilnpfpllplaaaGreatDoor
open Go.RowKit RuleP

/-- A rule as a value. -/
def ruleV (K R : Int) (A : Option Addr) (n c : Nat) : Value := .agg #[.int .i64 K, .int .i64 R, .slice A n c]
theorem below_box {w w1 : World} {o : Obj} (h : Below (w.alloc o).heap.size (w.alloc o) w1) : Below w.heap.size w w1 := ((Below.refl _ _).alloc (Nat.le_refl _) o).trans (h.mono (by simp))
theorem box_cells {w w1 : World} {x0 x1 x2 : Value} {t : TypeId} (h : Below (w.alloc (.cells #[x0, x1, x2] t)).heap.size (w.alloc (.cells #[x0, x1, x2] t)) w1) :
    w1.cell? ⟨w.heap.size, 0, none⟩ = some x0 ∧ w1.cell? ⟨w.heap.size, 1, none⟩ = some x1 ∧ w1.cell? ⟨w.heap.size, 2, none⟩ = some x2 := by
  obtain ⟨a, b, c, _⟩ := blk_cells (heap_new w (.cells #[x0, x1, x2] t))
  exact ⟨cell_later h a, cell_later h b, cell_later h c⟩

theorem ErrV.some {w : World} {E : Nat → Addr} {n : Nat} {l : List (ByteArray × Int)} {v : Value} (h : ErrIs w E n l v) : ErrV w E (some (n, l)) v := h
set_option maxRecDepth 100000 in
set_option maxHeartbeats 2000000 in
theorem check_c (w : World) (E : Nat → Addr) (hE : Errs w E) (K R : Int) (A : Option Addr) (n c : Nat) (T : List Int) (hT : Sl w A n (T.map (Value.int .i64))) (hm : n ≤ 9223372036854775807) :
    Calls Tryz.prog 90 #[ruleV K R A n c] w fun e w' => ∃ v, e = .returned v ∧ ErrV w' E (check K R T) v ∧ Below w.heap.size w w' := by
  have hl : T.length = n := by simpa using hT.1
  have HL := Lib.hid hl
  clear hl
  have hE1 : Errs (w.alloc (.cells #[.int .i64 K, .int .i64 R, .slice A n c] 24)) E := hE.below ((Below.refl _ _).alloc (Nat.le_refl _) _)
  have HE := Lib.hid hE1
  have hT1 := hT.alloc (.cells #[.int .i64 K, .int .i64 R, .slice A n c] 24)
  have HT := Lib.hid hT1
  clear hE hE1 hT hT1
  unfold ruleV
  by_cases hk : K < 1 ∨ 4 < K
  · have hc : Hid (check K R T = some (1, [(sRule, 0)])) := Lib.hid (by unfold check; rw [if_pos hk])
    have hk' : K < 1 ∨ (1 ≤ K ∧ 4 < K) := by omega
    clear hk
    rcases hk' with hk | ⟨hk, hk'⟩
    all_goals
      go_enter Tryz.func90, Tryz.ntmps90
      go_wp2_with fail
      refine (ruleWrong_c _ E HE.out 0 1 (by decide) (by decide)).mono ?_
      rintro e w1 ⟨rfl, he, hb⟩
      have hP := ErrV.some he; rw [← hc.out] at hP; rw [World.size_alloc] at hP
      have HP := Lib.hid hP
      have HB := Lib.hid (below_box hb)
      clear he hb hP
      go_wp2_with fail
      go_ret
      exact ⟨_, rfl, HP.out, HB.out⟩
  by_cases hr : R < 0 ∨ 3 < R
  · have hc : Hid (check K R T = some (1, [(sRule, 1)])) := Lib.hid (by unfold check; rw [if_neg hk, if_pos hr])
    have hs : K < 1 ∨ 4 < K ∨ R < 0 ∨ 3 < R := by omega
    have hk1 : 1 ≤ K := by omega
    have hk4 : K ≤ 4 := by omega
    clear hk hr
    go_enter Tryz.func90, Tryz.ntmps90
    go_wp2_with fail
    refine (size_err _ E HE.out K R hs).mono ?_
    rintro e w1 ⟨b, rfl, _, hb⟩
    have HE1 := Lib.hid (HE.out.below hb)
    unfold errV
    go_wp2_with fail
    refine (ruleWrong_c _ E HE1.out 1 1 (by decide) (by decide)).mono ?_
    rintro e w2 ⟨rfl, he, hb2⟩
    have hP := ErrV.some he; rw [← hc.out] at hP
    have HP := Lib.hid hP
    have HB := Lib.hid ((below_box hb).trans (hb2.mono (below_box hb).size))
    clear he hb hb2 hP
    go_wp2_with fail
    go_ret
    exact ⟨_, rfl, HP.out, HB.out⟩
  obtain ⟨k, rfl⟩ : ∃ k : Nat, K = (k : Int) := ⟨K.toNat, by omega⟩
  obtain ⟨r, rfl⟩ : ∃ r : Nat, R = (r : Int) := ⟨R.toNat, by omega⟩
  have hk1 : 1 ≤ k := by omega
  have hk4 : k ≤ 4 := by omega
  have hr3 : r ≤ 3 := by omega
  have hsz := size_ok (w.alloc (.cells #[.int .i64 (k : Int), .int .i64 (r : Int), .slice A n c] 24)) k r hk1 hk4 hr3
  have HSZ := Lib.hid hsz
  by_cases hn : T.length ≠ k ^ (2 * r + 1)
  · have hc : Hid (check (k : Int) (r : Int) T = some (1, [(sRule, 2)])) := Lib.hid (by unfold check; rw [if_neg hk, if_neg hr, if_pos (by simpa using hn)])
    obtain ⟨L, hL⟩ : ∃ L, k ^ (2 * r + 1) = L := ⟨_, rfl⟩
    rw [hL] at hn HSZ
    have hne : ((n : Int) != (L : Int)) = true := by have := HL.out; simp; omega
    clear hk hr hL hsz hn
    go_enter Tryz.func90, Tryz.ntmps90
    go_wp2_with fail
    refine (HSZ.out).mono ?_
    rintro e w1 ⟨rfl, rfl⟩
    go_wp2_with fail
    refine (ruleWrong_c _ E HE.out 2 1 (by decide) (by decide)).mono ?_
    rintro e w1 ⟨rfl, he, hb⟩
    have hP := ErrV.some he; rw [← hc.out] at hP; rw [World.size_alloc] at hP
    have HP := Lib.hid hP
    have HB := Lib.hid (below_box hb)
    clear he hb hP
    go_wp2_with fail
    go_ret
    exact ⟨_, rfl, HP.out, HB.out⟩
  have hn' : T.length = k ^ (2 * r + 1) := Decidable.not_not.1 hn
  have hc : check (k : Int) (r : Int) T = match odd (k : Int) T with
      | some i => some (1, [(sRule, 3 + (i : Int))])
      | none => none := by unfold check; rw [if_neg hk, if_neg hr, if_neg (by simpa using hn)]; cases odd (k : Int) T <;> rfl
  rw [← hn', HL.out] at HSZ
  have hnn : ((n : Int) != (n : Int)) = false := by simp
  have hle : n ≤ 16384 := by
    have := pow_le (k := k) (r := r) hk4 hr3
    rw [← hn', HL.out] at this
    exact this
  have hod := ruleOdd_c (w.alloc (.cells #[.int .i64 (k : Int), .int .i64 (r : Int), .slice A n c] 24)) (k : Int) A n c T HT.out hm
  have HOD := Lib.hid hod
  clear hk hr hsz hn hn' hod
  cases ho : odd (k : Int) T with
  | some i =>
    rw [ho] at hc HOD
    have HC := Lib.hid hc
    have hi : i < n := by have := odd_some ho; have := HL.out; omega
    have hpl : place (some i) = (i : Int) := rfl
    rw [hpl] at HOD
    clear hc ho hpl
    go_enter Tryz.func90, Tryz.ntmps90
    go_wp2_with fail
    refine (HSZ.out).mono ?_
    rintro e w1 ⟨rfl, rfl⟩
    go_wp2_with fail
    refine (HOD.out).mono ?_
    rintro e w1 ⟨rfl, hb1⟩
    have HE1 := Lib.hid (HE.out.below hb1)
    go_wp2_with fail
    refine (ruleWrong_c _ E HE1.out (3 + (i : Int)) 1 (by decide) (by decide)).mono ?_
    rintro e w2 ⟨rfl, he, hb2⟩
    have hP := ErrV.some he; rw [← HC.out] at hP
    have HP := Lib.hid hP
    have HB := Lib.hid ((below_box hb1).trans (hb2.mono (below_box hb1).size))
    clear he hb1 hb2 hP
    go_wp2_with fail
    go_ret
    exact ⟨_, rfl, HP.out, HB.out⟩
  | none =>
    rw [ho] at hc HOD
    have HC := Lib.hid hc
    have hpl : place none = -1 := rfl
    rw [hpl] at HOD
    clear hc ho hpl
    go_enter Tryz.func90, Tryz.ntmps90
    go_wp2_with fail
    refine (HSZ.out).mono ?_
    rintro e w1 ⟨rfl, rfl⟩
    go_wp2_with fail
    refine (HOD.out).mono ?_
    rintro e w1 ⟨rfl, hb1⟩
    have HB := Lib.hid (below_box hb1)
    clear hb1
    go_wp2_with fail
    go_ret
    exact ⟨_, rfl, by rw [HC.out]; rfl, HB.out⟩

set_option maxRecDepth 100000 in
set_option maxHeartbeats 1000000 in
theorem small_c (w : World) (E : Nat → Addr) (hE : Errs w E) (K R : Int) (A : Option Addr) (n c : Nat) (T : List Int) (hT : Sl w A n (T.map (Value.int .i64))) (hm : n ≤ 9223372036854775807) :
    Calls Tryz.prog 128 #[ruleV K R A n c] w fun e w' => ∃ v, e = .returned v ∧ ErrV w' E (small K R T) v ∧ Below w.heap.size w w' := by
  have hl : T.length = n := by simpa using hT.1
  have HL := Lib.hid hl
  clear hl
  have hE1 : Errs (w.alloc (.cells #[.int .i64 K, .int .i64 R, .slice A n c] 24)) E := hE.below ((Below.refl _ _).alloc (Nat.le_refl _) _)
  have HE := Lib.hid hE1
  have hT1 := hT.alloc (.cells #[.int .i64 K, .int .i64 R, .slice A n c] 24)
  have HCK := Lib.hid (check_c _ E hE1 K R A n c T hT1 hm)
  clear hE hE1 hT hT1
  unfold ruleV at *
  cases ho : check K R T with
  | some t =>
    have hs : Hid (small K R T = some t) := Lib.hid (by unfold small; rw [ho])
    rw [ho] at HCK
    clear ho
    go_enter Tryz.func128, Tryz.ntmps128
    go_wp2_with fail
    refine (HCK.out).mono ?_
    rintro e w1 ⟨v, rfl, he, hb⟩
    obtain ⟨u, p, rfl⟩ := ErrIs.iface (show ErrIs w1 E t.1 t.2 v from he)
    have hP : ErrV w1 E (some t) (.iface u p) := he
    rw [← hs.out] at hP
    have HP := Lib.hid hP
    have HB := Lib.hid (below_box hb)
    clear he hb hP
    go_wp2_with fail
    go_ret
    exact ⟨_, rfl, HP.out, HB.out⟩
  | none =>
    rw [ho] at HCK
    by_cases h256 : 256 < n
    · have hs : Hid (small K R T = some (4, [(sRule, 0)])) := Lib.hid (by unfold small; rw [ho]; simp only; rw [if_pos (by rw [HL.out]; exact h256)])
      clear ho
      go_enter Tryz.func128, Tryz.ntmps128
      go_wp2_with fail
      refine (HCK.out).mono ?_
      rintro e w1 ⟨v, rfl, rfl, hb⟩
      obtain ⟨b0, b1, b2⟩ := box_cells hb
      have HE1 := Lib.hid (HE.out.below hb)
      have HB1 := Lib.hid (below_box hb)
      clear hb
      go_wp2_with fail
      refine (ruleWrong_c _ E HE1.out 0 4 (by decide) (by decide)).mono ?_
      rintro e w2 ⟨rfl, he, hb2⟩
      have hP := ErrV.some he; rw [← hs.out] at hP
      have HP := Lib.hid hP
      have HB := Lib.hid (HB1.out.trans (hb2.mono HB1.out.size))
      clear he hb2 hP
      go_wp2_with fail
      go_ret
      exact ⟨_, rfl, HP.out, HB.out⟩
    · have hs : Hid (small K R T = none) := Lib.hid (by unfold small; rw [ho]; simp only; rw [if_neg (by rw [HL.out]; exact h256)])
      clear ho
      go_enter Tryz.func128, Tryz.ntmps128
      go_wp2_with fail
      refine (HCK.out).mono ?_
      rintro e w1 ⟨v, rfl, rfl, hb⟩
      obtain ⟨b0, b1, b2⟩ := box_cells hb
      have HB := Lib.hid (below_box hb)
      clear hb
      go_wp2_with fail
      go_ret
      exact ⟨_, rfl, by rw [hs.out]; rfl, HB.out⟩
end Go.Proofs.YthilnpfpllplaaaGreatDoor

namespace Go.Proofs.YthilnpfpllplaaaGreatDoor
open Go.RowKit

/-- An error told further by another package. -/
def under (op : ByteArray) (i : Int) : Option Tale → Option Tale
  | none => none
  | some t => some (t.1, (op, i) :: t.2)
theorem under_ok {op : ByteArray} {i : Int} {t : Option Tale} (h : TaleOk t) : TaleOk (under op i t) := by
  intro x hx
  cases t with
  | none => cases hx
  | some t => cases hx; exact h t rfl

theorem under_c (w : World) (E : Nat → Addr) (op : ByteArray) (i : Int) (t : Option Tale) (v : Value) (h : ErrV w E t v) :
    Calls Tryz.prog 71 #[.string op, .int .i64 i, v] w fun e w' => ∃ v', e = .returned v' ∧ ErrV w' E (under op i t) v' ∧ Below w.heap.size w w' := by
  cases t with
  | none =>
    obtain rfl : v = .nilIface := h
    go_enter Tryz.func71, Tryz.ntmps71
    go_wp2_with fail
    go_ret
    exact ⟨_, rfl, rfl, Below.refl _ _⟩
  | some t =>
    have h' : ErrIs w E t.1 t.2 v := h
    obtain ⟨u, p, rfl⟩ := h'.iface
    have HP := Lib.hid h'
    clear h h'
    go_enter Tryz.func71, Tryz.ntmps71
    go_wp2_with fail
    go_ret
    have hb := (Below.refl w.heap.size w).alloc (Nat.le_refl _) (.cells #[.string op, .int .i64 i, .iface u p] 90)
    exact ⟨_, rfl, ⟨w.heap.size, _, rfl, heap_new _ _, ErrIs.below hb HP.out⟩, hb⟩
end Go.Proofs.YthilnpfpllplaaaGreatDoor

namespace Go.Proofs.YthilnpfpllplaaaGreatDoor
open Go.RowKit

/-- The number of an error; nought for none. -/
def tnum : Option Tale → Nat
  | none => 0
  | some t => t.1
/-- The value asks for no error, or for the error of the tale; its lists lie from block base on. -/
def WantB (w : World) (base : Nat) (t : Option Tale) (u : Value) : Prop :=
  ∃ (N : Nat) (A1 : Option Addr) (n1 c1 : Nat) (A2 : Option Addr) (n2 c2 : Nat), u = .agg #[.int .i64 (N : Int), .slice A1 n1 c1, .slice A2 n2 c2] ∧ WantV w t u ∧ (∀ ad, A1 = some ad → base ≤ ad.block) ∧ (∀ ad, A2 = some ad → base ≤ ad.block) ∧
    N = tnum t
theorem WantB.want {w : World} {base : Nat} {t : Option Tale} {u : Value} (h : WantB w base t u) : WantV w t u := by obtain ⟨_, _, _, _, _, _, _, _, h, _⟩ := h; exact h
theorem WantB.keeps {w w' : World} {O : Nat → Prop} {base : Nat} {t : Option Tale} {u : Value} (h : WantB w base t u) (hk : Keeps O w w') (ho : ∀ b, O b → b < base) : WantB w' base t u := by
  obtain ⟨N, A1, n1, c1, A2, n2, c2, rfl, hw, b1, b2, hN⟩ := h
  refine ⟨N, A1, n1, c1, A2, n2, c2, rfl, ?_, b1, b2, hN⟩
  cases t with
  | none => exact hw
  | some t =>
    obtain ⟨A1', c1', A2', c2', e, p1, p2, p3, p4, s1, s2⟩ := hw
    injection e with e
    injection e with e
    injection e with e0 e
    injection e with e1 e
    injection e with e2 e
    injection e1 with f1 f2 f3
    injection e2 with g1 g2 g3
    subst f1 f3 g1 g3
    refine ⟨A1, c1, A2, c2, by rw [e0, f2, g2], p1, p2, p3, p4, s1.keeps hk (fun ad e' hO => ?_), s2.keeps hk (fun ad e' hO => ?_)⟩
    · have := b1 ad e'; have := ho _ hO; omega
    · have := b2 ad e'; have := ho _ hO; omega
theorem WantB.below {w w' : World} {base : Nat} {t : Option Tale} {u : Value} (h : WantB w base t u) (hb : Below w.heap.size w w') : WantB w' base t u := by
  obtain ⟨N, A1, n1, c1, A2, n2, c2, rfl, hw, b1, b2, hN⟩ := h
  exact ⟨N, A1, n1, c1, A2, n2, c2, rfl, hw.below hb, b1, b2, hN⟩
theorem WantB.base {w : World} {base base' : Nat} {t : Option Tale} {u : Value} (h : WantB w base t u) (hb : base' ≤ base) : WantB w base' t u := by
  obtain ⟨N, A1, n1, c1, A2, n2, c2, rfl, hw, b1, b2, hN⟩ := h
  exact ⟨N, A1, n1, c1, A2, n2, c2, rfl, hw, fun ad e => Nat.le_trans hb (b1 ad e), fun ad e => Nat.le_trans hb (b2 ad e), hN⟩
/-- No error asked for. -/
theorem WantB.zero (w : World) (base : Nat) : WantB w base none (.agg #[.int .i64 0, .slice none 0 0, .slice none 0 0]) :=
  ⟨0, none, 0, 0, none, 0, 0, rfl, rfl, fun _ e => (by cases e), fun _ e => (by cases e), rfl⟩
theorem WantB.set3 {w : World} {base g : Nat} {t : Option Tale} {u : Value} (h : WantB w base t u) (hg : g < base) (u0 u1 u2 : Value) : WantB (((w.setCell ⟨g, 0, none⟩ u0).setCell ⟨g, 1, none⟩ u1).setCell ⟨g, 2, none⟩ u2) base t u :=
  h.keeps (keeps_set3 w g u0 u1 u2) (fun b e => by omega)

theorem WantB.num {w : World} {base : Nat} {t : Option Tale} {N : Nat} {A1 A2 : Option Addr} {n1 c1 n2 c2 : Nat} (h : WantB w base t (.agg #[.int .i64 (N : Int), .slice A1 n1 c1, .slice A2 n2 c2])) : N = tnum t := by
  obtain ⟨_, _, _, _, _, _, _, he, _, _, _, hN⟩ := h
  injection he with he
  injection he with he
  injection he with he1 _
  injection he1 with _ he1
  have e := Int.ofNat.inj he1
  rw [e]
  exact hN
/-- No error asked for: the value is nought. -/
theorem WantB.none_eq {w : World} {base : Nat} {u : Value} (h : WantB w base none u) : u = .agg #[.int .i64 0, .slice none 0 0, .slice none 0 0] := h.want

/-- The block holds what is asked of an error. -/
def WantAt (w : World) (g : Nat) (x0 x1 x2 : Value) : Prop := w.heap[g]? = some (.cells #[x0, x1, x2] 34 (0, 0))
namespace WantAt
variable {w w' : World} {g : Nat} {x0 x1 x2 : Value}
theorem facts (h : WantAt w g x0 x1 x2) : w.cell? ⟨g, 0, none⟩ = some x0 ∧ w.cell? ⟨g, 1, none⟩ = some x1 ∧ w.cell? ⟨g, 2, none⟩ = some x2 ∧ w.frozen? ⟨g, 0, none⟩ = false ∧ w.frozen? ⟨g, 1, none⟩ = false ∧ w.frozen? ⟨g, 2, none⟩ = false := by
  obtain ⟨a, b, c, _⟩ := blk_cells h
  exact ⟨a, b, c, frozen_of_row _ _ 0 _ _ h, frozen_of_row _ _ 1 _ _ h, frozen_of_row _ _ 2 _ _ h⟩
theorem below {B : Nat} (h : WantAt w g x0 x1 x2) (hb : Below B w w') (hg : g < B) : WantAt w' g x0 x1 x2 := (hb.block g hg).trans h
theorem keeps {O : Nat → Prop} (h : WantAt w g x0 x1 x2) (hk : Keeps O w w') (ho : ¬ O g) : WantAt w' g x0 x1 x2 := (hk.block g (Array.getElem?_eq_some_iff.1 h).1 ho).trans h
theorem new (w : World) (x0 x1 x2 : Value) : WantAt (w.alloc (.cells #[x0, x1, x2] 34)) w.heap.size x0 x1 x2 := heap_new _ _
theorem alloc (h : WantAt w g x0 x1 x2) (o : Obj) : WantAt (w.alloc o) g x0 x1 x2 := (Below.heap_alloc w o g (Array.getElem?_eq_some_iff.1 h).1).trans h
theorem lt (h : WantAt w g x0 x1 x2) : g < w.heap.size := (Array.getElem?_eq_some_iff.1 h).1
theorem set3 (h : WantAt w g x0 x1 x2) (u0 u1 u2 : Value) : WantAt (((w.setCell ⟨g, 0, none⟩ u0).setCell ⟨g, 1, none⟩ u1).setCell ⟨g, 2, none⟩ u2) g u0 u1 u2 := by
  unfold WantAt at *
  have h0 := (Array.getElem?_eq_some_iff.1 h).1
  simp only [World.setCell]
  simp [Array.getElem?_modify, h]
end WantAt

theorem own_setW {w : World} {base e n g : Nat} {v : Value} {xs : List Value} {x0 x1 x2 : Value} (h : w.ownsRow base e 1 v n xs) (hr : WantAt w g x0 x1 x2) (hne : e ≠ 34) (u0 u1 u2 : Value) :
    (((w.setCell ⟨g, 0, none⟩ u0).setCell ⟨g, 1, none⟩ u1).setCell ⟨g, 2, none⟩ u2).ownsRow base e 1 v n xs :=
  own_keeps h (keeps_set3 w g u0 u1 u2) (fun g' hg' e' => by subst e'; exact own_ne_blk h hr hne hg')

/-- edenraw.New: what an error must be that one package tells. -/
theorem newB_c (w : World) (op : ByteArray) (at' : Int) (n : Nat) :
    Calls Tryz.prog 41 #[.string op, .int .i64 at', .int .i64 (n : Int)] w fun e w' => ∃ (A1 : Option Addr) (n1 c1 : Nat) (A2 : Option Addr) (n2 c2 : Nat), e = .returned (.agg #[.int .i64 (n : Int), .slice A1 n1 c1, .slice A2 n2 c2]) ∧
      WantB w' w.heap.size (some (n, [(op, at')])) (.agg #[.int .i64 (n : Int), .slice A1 n1 c1, .slice A2 n2 c2]) ∧ Below w.heap.size w w' :=
  (rawNew_x w op at' n).mono fun _ _ ⟨h1, h2, h3, h4⟩ => ⟨_, _, _, _, _, _, h1, ⟨n, _, _, _, _, _, _, rfl, want_of h2 h3, fun ad e => by cases e; simp, fun ad e => by cases e; simp; omega, rfl⟩, h4⟩
end Go.Proofs.YthilnpfpllplaaaGreatDoor

namespace Go.Proofs.YthilnpfpllplaaaGreatDoor
namespace RuleP

/-- A number's digits in base k, the highest first. -/
def digB : Nat → Nat → Nat → List Nat
  | _, 0, _ => []
  | k, n + 1, x => digB k n (x / k) ++ [x % k]
theorem digB_len (k n x : Nat) : (digB k n x).length = n := by
  induction n generalizing x with
  | zero => rfl
  | succ n ih => simp [digB, ih]
theorem digB_sym {k : Nat} (hk : 0 < k) (n x : Nat) : ∀ y ∈ digB k n x, y < k := by
  induction n generalizing x with
  | zero => intro y hy; simp [digB] at hy
  | succ n ih =>
    intro y hy
    rcases List.mem_append.1 hy with hy | hy
    · exact ih _ y hy
    · simp at hy; subst hy; exact Nat.mod_lt _ hk
theorem list_snoc {n : Nat} {w : List Nat} (h : w.length = n + 1) : ∃ v x, w = v ++ [x] ∧ v.length = n := by
  have hne : w ≠ [] := by intro e; subst e; simp at h
  exact ⟨w.dropLast, w.getLast hne, (List.dropLast_concat_getLast hne).symm, by simp [h]⟩
theorem digB_wval {k : Nat} (hk : 0 < k) : ∀ (n : Nat) (w : List Nat), w.length = n → (∀ x ∈ w, x < k) → digB k n (wval k w) = w := by
  intro n
  induction n with
  | zero => intro w h _; simp at h; subst h; rfl
  | succ n ih =>
    intro w h hs
    obtain ⟨v, x, rfl, hv⟩ := list_snoc h
    have hx : x < k := hs x (by simp)
    rw [wval_snoc, digB, Nat.mul_comm, Nat.mul_add_div hk, Nat.div_eq_of_lt hx, Nat.add_zero, Nat.mul_add_mod, Nat.mod_eq_of_lt hx, ih v hv (fun y hy => hs y (by simp [hy]))]

def lin (k : Nat) (x f : List Nat) : Nat := (List.zipWith (· * ·) x f).sum % k
theorem lin_lt {k : Nat} (hk : 0 < k) (x f : List Nat) : lin k x f < k := Nat.mod_lt _ hk
/-- The table is a sum. -/
def SumT (k r : Nat) (t f : List Nat) : Prop := t.length = k ^ (2 * r + 1) ∧ ∀ (i : Nat), i < k ^ (2 * r + 1) → t[i]? = some (lin k (digB k (2 * r + 1) i) f)
theorem SumT.rule {k r : Nat} {t f : List Nat} (h : SumT k r t f) (k1 : 1 ≤ k) (k4 : k ≤ 4) (r3 : r ≤ 3) : IsRule k r t := ⟨k1, k4, r3, h.1, fun x hx => by
  obtain ⟨i, hi⟩ := List.getElem?_of_mem hx
  have := (List.getElem?_eq_some_iff.1 hi).1
  rw [h.1] at this
  rw [h.2 i this] at hi
  cases hi
  exact lin_lt k1 _ _⟩
theorem SumT.at_ {k r : Nat} {t f : List Nat} (h : SumT k r t f) (k1 : 1 ≤ k) {w : List Nat} (hl : w.length = 2 * r + 1) (hs : ∀ x ∈ w, x < k) : t.getD (wval k w) 0 = lin k w f := by
  have h1 := wval_lt hs
  rw [hl] at h1
  rw [List.getD_eq_getElem?_getD, h.2 _ h1, digB_wval k1 _ w hl hs]
  rfl
end RuleP
end Go.Proofs.YthilnpfpllplaaaGreatDoor

namespace Go.Proofs.YthilnpfpllplaaaGreatDoor
namespace RuleP

/-- The words along which the labels w stand, from node u on (N nodes). -/
def sols (k N : Nat) (t : List Nat) : Nat → List Nat → List (List Nat)
  | _, [] => [[]]
  | u, c :: w => (List.range k).flatMap fun s => if t.getD (u * k + s) 0 = c then (sols k N t ((u * k + s) % N) w).map (s :: ·) else []
/-- What the first s symbols give. -/
def solsTo (k N : Nat) (t : List Nat) (u c : Nat) (w : List Nat) (s : Nat) : List (List Nat) :=
  (List.range s).flatMap fun s => if t.getD (u * k + s) 0 = c then (sols k N t ((u * k + s) % N) w).map (s :: ·) else []
theorem solsTo_all (k N : Nat) (t : List Nat) (u c : Nat) (w : List Nat) : solsTo k N t u c w k = sols k N t u (c :: w) := rfl
theorem solsTo_hit {k N : Nat} {t : List Nat} {u c s : Nat} (w : List Nat) (h : t.getD (u * k + s) 0 = c) : solsTo k N t u c w (s + 1) = solsTo k N t u c w s ++ (sols k N t ((u * k + s) % N) w).map (s :: ·) := by
  simp only [solsTo, List.range_succ, List.flatMap_append, List.flatMap_cons, List.flatMap_nil, List.append_nil, if_pos h]
theorem solsTo_miss {k N : Nat} {t : List Nat} {u c s : Nat} (w : List Nat) (h : t.getD (u * k + s) 0 ≠ c) : solsTo k N t u c w (s + 1) = solsTo k N t u c w s := by
  simp only [solsTo, List.range_succ, List.flatMap_append, List.flatMap_cons, List.flatMap_nil, List.append_nil, if_neg h]
/-- The words that have the image w, in order: those from the first n nodes on. -/
def befTo (k r : Nat) (t w : List Nat) (n : Nat) : List (List Nat) := (List.range n).flatMap fun u => (sols k (k ^ (2 * r)) t u w).map (digB k (2 * r) u ++ ·)
def before (k r : Nat) (t w : List Nat) : List (List Nat) := befTo k r t w (k ^ (2 * r))
theorem befTo_succ (k r : Nat) (t w : List Nat) (n : Nat) : befTo k r t w (n + 1) = befTo k r t w n ++ (sols k (k ^ (2 * r)) t n w).map (digB k (2 * r) n ++ ·) := by
  simp only [befTo, List.range_succ, List.flatMap_append, List.flatMap_cons, List.flatMap_nil, List.append_nil]
/-- The first most of what has been found, and whether that was not all. -/
structure Found (most : Nat) (P L : List (List Nat)) (more : Bool) : Prop where
  list : L = P.take most
  more : more = decide (most < P.length)
theorem Found.start (most : Nat) : Found most [] [] false := ⟨by simp, by simp⟩
theorem Found.stay {most : Nat} {P L : List (List Nat)} (h : Found most P L true) (Q : List (List Nat)) : Found most (P ++ Q) L true := by
  have h1 : most < P.length := of_decide_eq_true h.more.symm
  exact ⟨by rw [List.take_append_of_le_length (by omega)]; exact h.list, (decide_eq_true (by simp; omega)).symm⟩
theorem Found.all {most : Nat} {P L : List (List Nat)} (h : Found most P L false) : L = P ∧ P.length ≤ most := by
  have h1 : ¬ most < P.length := of_decide_eq_false h.more.symm
  exact ⟨by rw [h.list, List.take_of_length_le (by omega)], by omega⟩
theorem Found.put {most : Nat} {P L : List (List Nat)} (h : Found most P L false) (hl : L.length < most) (x : List Nat) : Found most (P ++ [x]) (L ++ [x]) false := by
  obtain ⟨rfl, h2⟩ := h.all
  exact ⟨by rw [List.take_of_length_le (by simp; omega)], (decide_eq_false (by simp; omega)).symm⟩
theorem Found.full {most : Nat} {P L : List (List Nat)} (h : Found most P L false) (hl : ¬ L.length < most) (x : List Nat) : Found most (P ++ [x]) L true := by
  obtain ⟨rfl, h2⟩ := h.all
  exact ⟨by rw [List.take_append_of_le_length (by omega), List.take_of_length_le (by omega)], (decide_eq_true (by simp; omega)).symm⟩

end RuleP
end Go.Proofs.YthilnpfpllplaaaGreatDoor

namespace Go.Proofs.YthilnpfpllplaaaGreatDoor
namespace RuleP

/-- What the search has found behind the first s symbols, and the rest. -/
theorem solsTo_rest {k N : Nat} {t : List Nat} {u c : Nat} {w : List Nat} {s : Nat} (h : s ≤ k) : ∃ Q, sols k N t u (c :: w) = solsTo k N t u c w s ++ Q := by
  refine ⟨((List.range (k - s)).map (s + ·)).flatMap fun s => if t.getD (u * k + s) 0 = c then (sols k N t ((u * k + s) % N) w).map (s :: ·) else [], ?_⟩
  unfold solsTo
  rw [sols, show k = s + (k - s) from by omega, List.range_add, List.flatMap_append]
  simp
/-- The words found ahead, and those from this place on behind x. -/
def onP (P : List (List Nat)) (x : List Nat) (S : List (List Nat)) : List (List Nat) := P ++ S.map (x ++ ·)
theorem onP_nil (P : List (List Nat)) (x : List Nat) : onP P x [] = P := by simp [onP]
theorem onP_append (P : List (List Nat)) (x : List Nat) (S S' : List (List Nat)) : onP P x (S ++ S') = onP (onP P x S) x S' := by simp [onP, List.append_assoc]
theorem onP_hit (P : List (List Nat)) (x : List Nat) (S S' : List (List Nat)) (s : Nat) : onP (onP P x S) (x ++ [s]) S' = onP P x (S ++ S'.map (s :: ·)) := by
  simp [onP, List.append_assoc]
theorem onP_stay {most : Nat} {P L : List (List Nat)} {x : List Nat} {k N u c s : Nat} {t w : List Nat} (h : Found most (onP P x (solsTo k N t u c w s)) L true) (hs : s ≤ k) : Found most (onP P x (sols k N t u (c :: w))) L true := by
  obtain ⟨Q, hQ⟩ := solsTo_rest (k := k) (N := N) (t := t) (u := u) (c := c) (w := w) hs
  rw [hQ, onP_append]
  exact h.stay _
theorem sols_some {k N : Nat} {t : List Nat} {u c : Nat} {w : List Nat} {s : Nat} (hs : s ≤ k) (h : solsTo k N t u c w s ≠ []) : sols k N t u (c :: w) ≠ [] := by
  obtain ⟨Q, hQ⟩ := solsTo_rest (k := k) (N := N) (t := t) (u := u) (c := c) (w := w) hs
  rw [hQ]
  intro e
  exact h (List.append_eq_nil_iff.1 e).1
theorem any_hit {S S' : List (List Nat)} {s : Nat} {b : Bool} (_ : b = decide (S ≠ [])) (h' : S' ≠ []) : true = decide (S ++ S'.map (s :: ·) ≠ []) := by
  symm
  refine decide_eq_true (fun e => h' ?_)
  have := (List.append_eq_nil_iff.1 e).2
  simpa using this
theorem any_miss {S S' : List (List Nat)} {s : Nat} {b : Bool} (h : b = decide (S ≠ [])) (h' : S' = []) : b = decide (S ++ S'.map (s :: ·) ≠ []) := by
  subst h'
  simpa using h
/-- More than could be kept were found: something was found. -/
theorem Found.any {most : Nat} {P L : List (List Nat)} {x : List Nat} {S : List (List Nat)} (h : Found most (onP P x S) L true) (h' : P.length ≤ most) : S ≠ [] := by
  have h1 : most < (onP P x S).length := of_decide_eq_true h.more.symm
  intro e
  subst e
  simp [onP] at h1
  omega
theorem drop_cons {w : List Nat} {i : Nat} (h : i < w.length) : w.drop i = w.getD i 0 :: w.drop (i + 1) := by
  rw [List.drop_eq_getElem_cons h, List.getD_eq_getElem?_getD, List.getElem?_eq_getElem h]
  rfl
end RuleP
end Go.Proofs.YthilnpfpllplaaaGreatDoor

namespace Go.Proofs.YthilnpfpllplaaaGreatDoor
namespace RuleP

theorem list_set_same {α : Type} {l : List α} {i : Nat} {x : α} (h : l[i]? = some x) : l.set i x = l := by
  apply List.ext_getElem?
  intro j
  by_cases hj : i = j
  · subst hj
    rw [List.getElem?_set_self (List.getElem?_eq_some_iff.1 h).1, h]
  · rw [List.getElem?_set_ne hj]
end RuleP
end Go.Proofs.YthilnpfpllplaaaGreatDoor

namespace Go.Proofs.YthilnpfpllplaaaGreatDoor
open Go.RowKit

/-- The block holds a rule. -/
def RuleAt (w : World) (g : Nat) (x0 x1 x2 : Value) : Prop := w.heap[g]? = some (.cells #[x0, x1, x2] 24 (0, 0))
theorem RuleAt.facts {w : World} {g : Nat} {x0 x1 x2 : Value} (h : RuleAt w g x0 x1 x2) :
    w.cell? ⟨g, 0, none⟩ = some x0 ∧ w.cell? ⟨g, 1, none⟩ = some x1 ∧ w.cell? ⟨g, 2, none⟩ = some x2 ∧ w.frozen? ⟨g, 0, none⟩ = false ∧ w.frozen? ⟨g, 1, none⟩ = false ∧ w.frozen? ⟨g, 2, none⟩ = false := by
  obtain ⟨a, b, c, _⟩ := blk_cells h
  exact ⟨a, b, c, frozen_of_row _ _ 0 _ _ h, frozen_of_row _ _ 1 _ _ h, frozen_of_row _ _ 2 _ _ h⟩
theorem RuleAt.below {w w' : World} {g B : Nat} {x0 x1 x2 : Value} (h : RuleAt w g x0 x1 x2) (hb : Below B w w') (hg : g < B) : RuleAt w' g x0 x1 x2 := (hb.block g hg).trans h
theorem RuleAt.keeps {w w' : World} {g : Nat} {O : Nat → Prop} {x0 x1 x2 : Value} (h : RuleAt w g x0 x1 x2) (hk : Keeps O w w') (ho : ¬ O g) : RuleAt w' g x0 x1 x2 := (hk.block g (Array.getElem?_eq_some_iff.1 h).1 ho).trans h
theorem RuleAt.new (w : World) (x0 x1 x2 : Value) : RuleAt (w.alloc (.cells #[x0, x1, x2] 24)) w.heap.size x0 x1 x2 := heap_new _ _
theorem RuleAt.alloc {w : World} {g : Nat} {x0 x1 x2 : Value} (h : RuleAt w g x0 x1 x2) (o : Obj) : RuleAt (w.alloc o) g x0 x1 x2 := (Below.heap_alloc w o g (Array.getElem?_eq_some_iff.1 h).1).trans h
theorem RuleAt.lt {w : World} {g : Nat} {x0 x1 x2 : Value} (h : RuleAt w g x0 x1 x2) : g < w.heap.size := (Array.getElem?_eq_some_iff.1 h).1

theorem ErrIs.keeps {w w' : World} {E : Nat → Addr} {n : Nat} {O : Nat → Prop} (hk : Keeps O w w') (ho : ∀ k cs, O k → w.heap[k]? ≠ some (.cells cs 90 (0, 0))) : ∀ {l : List (ByteArray × Int)} {v : Value}, ErrIs w E n l v → ErrIs w' E n l v
  | [], _, h => h
  | (_, _) :: _, _, ⟨b, v', h1, h2, h3⟩ => ⟨b, v', h1, (hk.block b (Array.getElem?_eq_some_iff.1 h2).1 (fun hO => ho b _ hO h2)).trans h2, ErrIs.keeps hk ho h3⟩
theorem ErrIs.set3 {w : World} {E : Nat → Addr} {n g : Nat} {x0 x1 x2 : Value} {l : List (ByteArray × Int)} {v : Value} (h : ErrIs w E n l v) (hr : RuleAt w g x0 x1 x2) (u0 u1 u2 : Value) :
    ErrIs (((w.setCell ⟨g, 0, none⟩ u0).setCell ⟨g, 1, none⟩ u1).setCell ⟨g, 2, none⟩ u2) E n l v :=
  ErrIs.keeps (keeps_set3 w g u0 u1 u2) (fun k cs hk e => by subst hk; rw [show w.heap[k]? = _ from hr] at e; injection e with e; injection e with _ e; exact absurd e (by decide)) h
theorem own_set3 {w : World} {base e n g : Nat} {v : Value} {xs : List Value} {x0 x1 x2 : Value} (h : w.ownsRow base e 1 v n xs) (hr : RuleAt w g x0 x1 x2) (hne : e ≠ 24) (u0 u1 u2 : Value) :
    (((w.setCell ⟨g, 0, none⟩ u0).setCell ⟨g, 1, none⟩ u1).setCell ⟨g, 2, none⟩ u2).ownsRow base e 1 v n xs :=
  own_keeps h (keeps_set3 w g u0 u1 u2) (fun g' hg' e' => by subst e'; exact own_ne_blk h hr hne hg')
theorem RuleAt.set3 {w : World} {g : Nat} {x0 x1 x2 : Value} (h : RuleAt w g x0 x1 x2) (u0 u1 u2 : Value) : RuleAt (((w.setCell ⟨g, 0, none⟩ u0).setCell ⟨g, 1, none⟩ u1).setCell ⟨g, 2, none⟩ u2) g u0 u1 u2 := by
  unfold RuleAt at *
  have h0 := (Array.getElem?_eq_some_iff.1 h).1
  simp only [World.setCell]
  simp [Array.getElem?_modify, h]
end Go.Proofs.YthilnpfpllplaaaGreatDoor
