/- Errors told further: fault.Under, edenraw.Under, Err.Bad. Condition: the error reads from memory. What is asked of an error, kept beside other writes: edenraw.New, Err.Bad. Condition: the value reads from memory. Sums: rules whose table is a sum take sums of words to sums of images. Plain lists, no program. No condition. The preimages of a word in the order of words: plain lists, no program. No condition. What a search among preimages has found, step by step: plain lists, no program. No condition. From which nodes on labels can be written, step by step: plain lists, no program. No condition. What is told of a small rule, how many nodes there are: overlap.wrong, small, nodes, Nodes, Edge. Condition: the table reads from memory; the error variables hold what E says. What is told of a rule and a word: overlap.check. Condition: the lists read from memory; the error variables hold what E says. A part of a slice in memory. Plain lemmas, no program. No condition. Rows of numbers that the call makes. Plain lemmas, no program. No condition. A list of numbers copied: slices.Clone. Condition: the list reads from memory. A list copied: edenraw.Copy. Condition: the list reads from memory. What memory holds of a search among preimages: overlap's dead. Plain lemmas, no program. No condition. -/
import Derived.Test.YthilnpfpllplaaaGreatDoorQ1
import Derived.Test.YthilnpfpllplaaaGreatDoorQ2
import Derived.Test.YthilnpfpllplaaaGreatDoorQ3
namespace Go.Proofs.YthilnpfpllplaaaGreatDoor
open Go.RowKit

/-- An error told further by another package. -/
def under (op : ByteArray) (i : Int) : Option Tale → Option Tale
  | none => none
  | some t => some (t.1, (op, i) :: t.2)
theorem under_ok {op : ByteArray} {i : Int} {t : Option Tale} (h : TaleOk t) : TaleOk (under op i t) := by
  intro x hx
  cases t with
  | none => cases hx
  | some t => cases hx; exact h t rfl

theorem under_c (w : World) (E : Nat → Addr) (op : ByteArray) (i : Int) (t : Option Tale) (v : Value) (h : ErrV w E t v) :
    Calls Tryz.prog 71 #[.string op, .int .i64 i, v] w fun e w' => ∃ v', e = .returned v' ∧ ErrV w' E (under op i t) v' ∧ Below w.heap.size w w' := by
  cases t with
  | none =>
    obtain rfl : v = .nilIface := h
    go_enter Tryz.func71, Tryz.ntmps71
    go_wp2_with fail
    go_ret
    exact ⟨_, rfl, rfl, Below.refl _ _⟩
  | some t =>
    have h' : ErrIs w E t.1 t.2 v := h
    obtain ⟨u, p, rfl⟩ := h'.iface
    have HP := Lib.hid h'
    clear h h'
    go_enter Tryz.func71, Tryz.ntmps71
    go_wp2_with fail
    go_ret
    have hb := (Below.refl w.heap.size w).alloc (Nat.le_refl _) (.cells #[.string op, .int .i64 i, .iface u p] 90)
    exact ⟨_, rfl, ⟨w.heap.size, _, rfl, heap_new _ _, ErrIs.below hb HP.out⟩, hb⟩
end Go.Proofs.YthilnpfpllplaaaGreatDoor

namespace Go.Proofs.YthilnpfpllplaaaGreatDoor
open Go.RowKit

/-- The number of an error; nought for none. -/
def tnum : Option Tale → Nat
  | none => 0
  | some t => t.1
/-- The value asks for no error, or for the error of the tale; its lists lie from block base on. -/
def WantB (w : World) (base : Nat) (t : Option Tale) (u : Value) : Prop :=
  ∃ (N : Nat) (A1 : Option Addr) (n1 c1 : Nat) (A2 : Option Addr) (n2 c2 : Nat), u = .agg #[.int .i64 (N : Int), .slice A1 n1 c1, .slice A2 n2 c2] ∧ WantV w t u ∧ (∀ ad, A1 = some ad → base ≤ ad.block) ∧ (∀ ad, A2 = some ad → base ≤ ad.block) ∧
    N = tnum t
theorem WantB.want {w : World} {base : Nat} {t : Option Tale} {u : Value} (h : WantB w base t u) : WantV w t u := by obtain ⟨_, _, _, _, _, _, _, _, h, _⟩ := h; exact h
theorem WantB.keeps {w w' : World} {O : Nat → Prop} {base : Nat} {t : Option Tale} {u : Value} (h : WantB w base t u) (hk : Keeps O w w') (ho : ∀ b, O b → b < base) : WantB w' base t u := by
  obtain ⟨N, A1, n1, c1, A2, n2, c2, rfl, hw, b1, b2, hN⟩ := h
  refine ⟨N, A1, n1, c1, A2, n2, c2, rfl, ?_, b1, b2, hN⟩
  cases t with
  | none => exact hw
  | some t =>
    obtain ⟨A1', c1', A2', c2', e, p1, p2, p3, p4, s1, s2⟩ := hw
    injection e with e
    injection e with e
    injection e with e0 e
    injection e with e1 e
    injection e with e2 e
    injection e1 with f1 f2 f3
    injection e2 with g1 g2 g3
    subst f1 f3 g1 g3
    refine ⟨A1, c1, A2, c2, by rw [e0, f2, g2], p1, p2, p3, p4, s1.keeps hk (fun ad e' hO => ?_), s2.keeps hk (fun ad e' hO => ?_)⟩
    · have := b1 ad e'; have := ho _ hO; omega
    · have := b2 ad e'; have := ho _ hO; omega
theorem WantB.below {w w' : World} {base : Nat} {t : Option Tale} {u : Value} (h : WantB w base t u) (hb : Below w.heap.size w w') : WantB w' base t u := by
  obtain ⟨N, A1, n1, c1, A2, n2, c2, rfl, hw, b1, b2, hN⟩ := h
  exact ⟨N, A1, n1, c1, A2, n2, c2, rfl, hw.below hb, b1, b2, hN⟩
theorem WantB.base {w : World} {base base' : Nat} {t : Option Tale} {u : Value} (h : WantB w base t u) (hb : base' ≤ base) : WantB w base' t u := by
  obtain ⟨N, A1, n1, c1, A2, n2, c2, rfl, hw, b1, b2, hN⟩ := h
  exact ⟨N, A1, n1, c1, A2, n2, c2, rfl, hw, fun ad e => Nat.le_trans hb (b1 ad e), fun ad e => Nat.le_trans hb (b2 ad e), hN⟩
/-- No error asked for. -/
theorem WantB.zero (w : World) (base : Nat) : WantB w base none (.agg #[.int .i64 0, .slice none 0 0, .slice none 0 0]) :=
  ⟨0, none, 0, 0, none, 0, 0, rfl, rfl, fun _ e => (by cases e), fun _ e => (by cases e), rfl⟩
theorem WantB.set3 {w : World} {base g : Nat} {t : Option Tale} {u : Value} (h : WantB w base t u) (hg : g < base) (u0 u1 u2 : Value) : WantB (((w.setCell ⟨g, 0, none⟩ u0).setCell ⟨g, 1, none⟩ u1).setCell ⟨g, 2, none⟩ u2) base t u :=
  h.keeps (keeps_set3 w g u0 u1 u2) (fun b e => by omega)

theorem WantB.num {w : World} {base : Nat} {t : Option Tale} {N : Nat} {A1 A2 : Option Addr} {n1 c1 n2 c2 : Nat} (h : WantB w base t (.agg #[.int .i64 (N : Int), .slice A1 n1 c1, .slice A2 n2 c2])) : N = tnum t := by
  obtain ⟨_, _, _, _, _, _, _, he, _, _, _, hN⟩ := h
  injection he with he
  injection he with he
  injection he with he1 _
  injection he1 with _ he1
  have e := Int.ofNat.inj he1
  rw [e]
  exact hN
/-- No error asked for: the value is nought. -/
theorem WantB.none_eq {w : World} {base : Nat} {u : Value} (h : WantB w base none u) : u = .agg #[.int .i64 0, .slice none 0 0, .slice none 0 0] := h.want

/-- The block holds what is asked of an error. -/
def WantAt (w : World) (g : Nat) (x0 x1 x2 : Value) : Prop := w.heap[g]? = some (.cells #[x0, x1, x2] 34 (0, 0))
namespace WantAt
variable {w w' : World} {g : Nat} {x0 x1 x2 : Value}
theorem facts (h : WantAt w g x0 x1 x2) : w.cell? ⟨g, 0, none⟩ = some x0 ∧ w.cell? ⟨g, 1, none⟩ = some x1 ∧ w.cell? ⟨g, 2, none⟩ = some x2 ∧ w.frozen? ⟨g, 0, none⟩ = false ∧ w.frozen? ⟨g, 1, none⟩ = false ∧ w.frozen? ⟨g, 2, none⟩ = false := by
  obtain ⟨a, b, c, _⟩ := blk_cells h
  exact ⟨a, b, c, frozen_of_row _ _ 0 _ _ h, frozen_of_row _ _ 1 _ _ h, frozen_of_row _ _ 2 _ _ h⟩
theorem below {B : Nat} (h : WantAt w g x0 x1 x2) (hb : Below B w w') (hg : g < B) : WantAt w' g x0 x1 x2 := (hb.block g hg).trans h
theorem keeps {O : Nat → Prop} (h : WantAt w g x0 x1 x2) (hk : Keeps O w w') (ho : ¬ O g) : WantAt w' g x0 x1 x2 := (hk.block g (Array.getElem?_eq_some_iff.1 h).1 ho).trans h
theorem new (w : World) (x0 x1 x2 : Value) : WantAt (w.alloc (.cells #[x0, x1, x2] 34)) w.heap.size x0 x1 x2 := heap_new _ _
theorem alloc (h : WantAt w g x0 x1 x2) (o : Obj) : WantAt (w.alloc o) g x0 x1 x2 := (Below.heap_alloc w o g (Array.getElem?_eq_some_iff.1 h).1).trans h
theorem lt (h : WantAt w g x0 x1 x2) : g < w.heap.size := (Array.getElem?_eq_some_iff.1 h).1
theorem set3 (h : WantAt w g x0 x1 x2) (u0 u1 u2 : Value) : WantAt (((w.setCell ⟨g, 0, none⟩ u0).setCell ⟨g, 1, none⟩ u1).setCell ⟨g, 2, none⟩ u2) g u0 u1 u2 := by
  unfold WantAt at *
  have h0 := (Array.getElem?_eq_some_iff.1 h).1
  simp only [World.setCell]
  simp [Array.getElem?_modify, h]
end WantAt

theorem own_setW {w : World} {base e n g : Nat} {v : Value} {xs : List Value} {x0 x1 x2 : Value} (h : w.ownsRow base e 1 v n xs) (hr : WantAt w g x0 x1 x2) (hne : e ≠ 34) (u0 u1 u2 : Value) :
    (((w.setCell ⟨g, 0, none⟩ u0).setCell ⟨g, 1, none⟩ u1).setCell ⟨g, 2, none⟩ u2).ownsRow base e 1 v n xs :=
  own_keeps h (keeps_set3 w g u0 u1 u2) (fun g' hg' e' => by subst e'; exact own_ne_blk h hr hne hg')

/-- edenraw.New: what an error must be that one package tells. -/
theorem newB_c (w : World) (op : ByteArray) (at' : Int) (n : Nat) :
    Calls Tryz.prog 41 #[.string op, .int .i64 at', .int .i64 (n : Int)] w fun e w' => ∃ (A1 : Option Addr) (n1 c1 : Nat) (A2 : Option Addr) (n2 c2 : Nat), e = .returned (.agg #[.int .i64 (n : Int), .slice A1 n1 c1, .slice A2 n2 c2]) ∧
      WantB w' w.heap.size (some (n, [(op, at')])) (.agg #[.int .i64 (n : Int), .slice A1 n1 c1, .slice A2 n2 c2]) ∧ Below w.heap.size w w' :=
  (rawNew_x w op at' n).mono fun _ _ ⟨h1, h2, h3, h4⟩ => ⟨_, _, _, _, _, _, h1, ⟨n, _, _, _, _, _, _, rfl, want_of h2 h3, fun ad e => by cases e; simp, fun ad e => by cases e; simp; omega, rfl⟩, h4⟩
end Go.Proofs.YthilnpfpllplaaaGreatDoor

namespace Go.Proofs.YthilnpfpllplaaaGreatDoor
namespace RuleP

/-- A number's digits in base k, the highest first. -/
def digB : Nat → Nat → Nat → List Nat
  | _, 0, _ => []
  | k, n + 1, x => digB k n (x / k) ++ [x % k]
theorem digB_len (k n x : Nat) : (digB k n x).length = n := by
  induction n generalizing x with
  | zero => rfl
  | succ n ih => simp [digB, ih]
theorem list_snoc {n : Nat} {w : List Nat} (h : w.length = n + 1) : ∃ v x, w = v ++ [x] ∧ v.length = n := by
  have hne : w ≠ [] := by intro e; subst e; simp at h
  exact ⟨w.dropLast, w.getLast hne, (List.dropLast_concat_getLast hne).symm, by simp [h]⟩
theorem digB_wval {k : Nat} (hk : 0 < k) : ∀ (n : Nat) (w : List Nat), w.length = n → (∀ x ∈ w, x < k) → digB k n (wval k w) = w := by
  intro n
  induction n with
  | zero => intro w h _; simp at h; subst h; rfl
  | succ n ih =>
    intro w h hs
    obtain ⟨v, x, rfl, hv⟩ := list_snoc h
    have hx : x < k := hs x (by simp)
    rw [wval_snoc, digB, Nat.mul_comm, Nat.mul_add_div hk, Nat.div_eq_of_lt hx, Nat.add_zero, Nat.mul_add_mod, Nat.mod_eq_of_lt hx, ih v hv (fun y hy => hs y (by simp [hy]))]

def lin (k : Nat) (x f : List Nat) : Nat := (List.zipWith (· * ·) x f).sum % k
theorem lin_lt {k : Nat} (hk : 0 < k) (x f : List Nat) : lin k x f < k := Nat.mod_lt _ hk
/-- The table is a sum. -/
def SumT (k r : Nat) (t f : List Nat) : Prop := t.length = k ^ (2 * r + 1) ∧ ∀ (i : Nat), i < k ^ (2 * r + 1) → t[i]? = some (lin k (digB k (2 * r + 1) i) f)
theorem SumT.rule {k r : Nat} {t f : List Nat} (h : SumT k r t f) (k1 : 1 ≤ k) (k4 : k ≤ 4) (r3 : r ≤ 3) : IsRule k r t := ⟨k1, k4, r3, h.1, fun x hx => by
  obtain ⟨i, hi⟩ := List.getElem?_of_mem hx
  have := (List.getElem?_eq_some_iff.1 hi).1
  rw [h.1] at this
  rw [h.2 i this] at hi
  cases hi
  exact lin_lt k1 _ _⟩
theorem SumT.at_ {k r : Nat} {t f : List Nat} (h : SumT k r t f) (k1 : 1 ≤ k) {w : List Nat} (hl : w.length = 2 * r + 1) (hs : ∀ x ∈ w, x < k) : t.getD (wval k w) 0 = lin k w f := by
  have h1 := wval_lt hs
  rw [hl] at h1
  rw [List.getD_eq_getElem?_getD, h.2 _ h1, digB_wval k1 _ w hl hs]
  rfl
end RuleP
end Go.Proofs.YthilnpfpllplaaaGreatDoor

namespace Go.Proofs.YthilnpfpllplaaaGreatDoor
namespace RuleP

/-- The words along which the labels w stand, from node u on (N nodes). -/
def sols (k N : Nat) (t : List Nat) : Nat → List Nat → List (List Nat)
  | _, [] => [[]]
  | u, c :: w => (List.range k).flatMap fun s => if t.getD (u * k + s) 0 = c then (sols k N t ((u * k + s) % N) w).map (s :: ·) else []
/-- What the first s symbols give. -/
def solsTo (k N : Nat) (t : List Nat) (u c : Nat) (w : List Nat) (s : Nat) : List (List Nat) :=
  (List.range s).flatMap fun s => if t.getD (u * k + s) 0 = c then (sols k N t ((u * k + s) % N) w).map (s :: ·) else []
theorem solsTo_all (k N : Nat) (t : List Nat) (u c : Nat) (w : List Nat) : solsTo k N t u c w k = sols k N t u (c :: w) := rfl
theorem solsTo_hit {k N : Nat} {t : List Nat} {u c s : Nat} (w : List Nat) (h : t.getD (u * k + s) 0 = c) : solsTo k N t u c w (s + 1) = solsTo k N t u c w s ++ (sols k N t ((u * k + s) % N) w).map (s :: ·) := by
  simp only [solsTo, List.range_succ, List.flatMap_append, List.flatMap_cons, List.flatMap_nil, List.append_nil, if_pos h]
theorem solsTo_miss {k N : Nat} {t : List Nat} {u c s : Nat} (w : List Nat) (h : t.getD (u * k + s) 0 ≠ c) : solsTo k N t u c w (s + 1) = solsTo k N t u c w s := by
  simp only [solsTo, List.range_succ, List.flatMap_append, List.flatMap_cons, List.flatMap_nil, List.append_nil, if_neg h]
/-- The words that have the image w, in order: those from the first n nodes on. -/
def befTo (k r : Nat) (t w : List Nat) (n : Nat) : List (List Nat) := (List.range n).flatMap fun u => (sols k (k ^ (2 * r)) t u w).map (digB k (2 * r) u ++ ·)
def before (k r : Nat) (t w : List Nat) : List (List Nat) := befTo k r t w (k ^ (2 * r))
theorem befTo_succ (k r : Nat) (t w : List Nat) (n : Nat) : befTo k r t w (n + 1) = befTo k r t w n ++ (sols k (k ^ (2 * r)) t n w).map (digB k (2 * r) n ++ ·) := by
  simp only [befTo, List.range_succ, List.flatMap_append, List.flatMap_cons, List.flatMap_nil, List.append_nil]
/-- The first most of what has been found, and whether that was not all. -/
structure Found (most : Nat) (P L : List (List Nat)) (more : Bool) : Prop where
  list : L = P.take most
  more : more = decide (most < P.length)
theorem Found.start (most : Nat) : Found most [] [] false := ⟨by simp, by simp⟩
theorem Found.stay {most : Nat} {P L : List (List Nat)} (h : Found most P L true) (Q : List (List Nat)) : Found most (P ++ Q) L true := by
  have h1 : most < P.length := of_decide_eq_true h.more.symm
  exact ⟨by rw [List.take_append_of_le_length (by omega)]; exact h.list, (decide_eq_true (by simp; omega)).symm⟩
theorem Found.all {most : Nat} {P L : List (List Nat)} (h : Found most P L false) : L = P ∧ P.length ≤ most := by
  have h1 : ¬ most < P.length := of_decide_eq_false h.more.symm
  exact ⟨by rw [h.list, List.take_of_length_le (by omega)], by omega⟩
theorem Found.put {most : Nat} {P L : List (List Nat)} (h : Found most P L false) (hl : L.length < most) (x : List Nat) : Found most (P ++ [x]) (L ++ [x]) false := by
  obtain ⟨rfl, h2⟩ := h.all
  exact ⟨by rw [List.take_of_length_le (by simp; omega)], (decide_eq_false (by simp; omega)).symm⟩
theorem Found.full {most : Nat} {P L : List (List Nat)} (h : Found most P L false) (hl : ¬ L.length < most) (x : List Nat) : Found most (P ++ [x]) L true := by
  obtain ⟨rfl, h2⟩ := h.all
  exact ⟨by rw [List.take_append_of_le_length (by omega), List.take_of_length_le (by omega)], (decide_eq_true (by simp; omega)).symm⟩

end RuleP
end Go.Proofs.YthilnpfpllplaaaGreatDoor

namespace Go.Proofs.YthilnpfpllplaaaGreatDoor
namespace RuleP

/-- What the search has found behind the first s symbols, and the rest. -/
theorem solsTo_rest {k N : Nat} {t : List Nat} {u c : Nat} {w : List Nat} {s : Nat} (h : s ≤ k) : ∃ Q, sols k N t u (c :: w) = solsTo k N t u c w s ++ Q := by
  refine ⟨((List.range (k - s)).map (s + ·)).flatMap fun s => if t.getD (u * k + s) 0 = c then (sols k N t ((u * k + s) % N) w).map (s :: ·) else [], ?_⟩
  unfold solsTo
  rw [sols, show k = s + (k - s) from by omega, List.range_add, List.flatMap_append]
  simp
/-- The words found ahead, and those from this place on behind x. -/
def onP (P : List (List Nat)) (x : List Nat) (S : List (List Nat)) : List (List Nat) := P ++ S.map (x ++ ·)
theorem onP_nil (P : List (List Nat)) (x : List Nat) : onP P x [] = P := by simp [onP]
theorem onP_append (P : List (List Nat)) (x : List Nat) (S S' : List (List Nat)) : onP P x (S ++ S') = onP (onP P x S) x S' := by simp [onP, List.append_assoc]
theorem onP_hit (P : List (List Nat)) (x : List Nat) (S S' : List (List Nat)) (s : Nat) : onP (onP P x S) (x ++ [s]) S' = onP P x (S ++ S'.map (s :: ·)) := by
  simp [onP, List.append_assoc]
theorem onP_stay {most : Nat} {P L : List (List Nat)} {x : List Nat} {k N u c s : Nat} {t w : List Nat} (h : Found most (onP P x (solsTo k N t u c w s)) L true) (hs : s ≤ k) : Found most (onP P x (sols k N t u (c :: w))) L true := by
  obtain ⟨Q, hQ⟩ := solsTo_rest (k := k) (N := N) (t := t) (u := u) (c := c) (w := w) hs
  rw [hQ, onP_append]
  exact h.stay _
theorem sols_some {k N : Nat} {t : List Nat} {u c : Nat} {w : List Nat} {s : Nat} (hs : s ≤ k) (h : solsTo k N t u c w s ≠ []) : sols k N t u (c :: w) ≠ [] := by
  obtain ⟨Q, hQ⟩ := solsTo_rest (k := k) (N := N) (t := t) (u := u) (c := c) (w := w) hs
  rw [hQ]
  intro e
  exact h (List.append_eq_nil_iff.1 e).1
theorem any_hit {S S' : List (List Nat)} {s : Nat} {b : Bool} (_ : b = decide (S ≠ [])) (h' : S' ≠ []) : true = decide (S ++ S'.map (s :: ·) ≠ []) := by
  symm
  refine decide_eq_true (fun e => h' ?_)
  have := (List.append_eq_nil_iff.1 e).2
  simpa using this
theorem any_miss {S S' : List (List Nat)} {s : Nat} {b : Bool} (h : b = decide (S ≠ [])) (h' : S' = []) : b = decide (S ++ S'.map (s :: ·) ≠ []) := by
  subst h'
  simpa using h
/-- More than could be kept were found: something was found. -/
theorem Found.any {most : Nat} {P L : List (List Nat)} {x : List Nat} {S : List (List Nat)} (h : Found most (onP P x S) L true) (h' : P.length ≤ most) : S ≠ [] := by
  have h1 : most < (onP P x S).length := of_decide_eq_true h.more.symm
  intro e
  subst e
  simp [onP] at h1
  omega
theorem drop_cons {w : List Nat} {i : Nat} (h : i < w.length) : w.drop i = w.getD i 0 :: w.drop (i + 1) := by
  rw [List.drop_eq_getElem_cons h, List.getD_eq_getElem?_getD, List.getElem?_eq_getElem h]
  rfl
end RuleP
end Go.Proofs.YthilnpfpllplaaaGreatDoor

namespace Go.Proofs.YthilnpfpllplaaaGreatDoor
namespace RuleP

theorem list_set_same {α : Type} {l : List α} {i : Nat} {x : α} (h : l[i]? = some x) : l.set i x = l := by
  apply List.ext_getElem?
  intro j
  by_cases hj : i = j
  · subst hj
    rw [List.getElem?_set_self (List.getElem?_eq_some_iff.1 h).1, h]
  · rw [List.getElem?_set_ne hj]
end RuleP
end Go.Proofs.YthilnpfpllplaaaGreatDoor

namespace Go.Proofs.YthilnpfpllplaaaGreatDoor
open Go.RowKit RuleP

def sOver : ByteArray := ⟨#[111, 118, 101, 114, 108, 97, 112]⟩

/-- What overlap tells of a rule that is no small one. -/
def smallO (K R : Int) (T : List Int) : Option Tale := under sOver 0 (small K R T)
theorem smallO_none {K R : Int} {T : List Int} (h : smallO K R T = none) : ∃ (k r : Nat) (t : List Nat), K = (k : Int) ∧ R = (r : Int) ∧ T = ints t ∧ IsRule k r t ∧ t.length ≤ 256 := by
  have hs : small K R T = none := by
    unfold smallO under at h
    split at h
    · assumption
    · cases h
  unfold small at hs
  split at hs
  · cases hs
  · rename_i hc
    obtain ⟨k, r, t, rfl, rfl, rfl, hr⟩ := check_none hc
    refine ⟨k, r, t, rfl, rfl, rfl, hr, ?_⟩
    split at hs
    · cases hs
    · rw [ints_len] at *
      omega
theorem small_rule {k r : Nat} {t : List Nat} (h : IsRule k r t) (hl : t.length ≤ 256) : small k r (ints t) = none := by
  unfold small
  rw [check_rule h]
  simp only
  rw [if_neg (by rw [ints_len]; omega)]
theorem smallO_rule {k r : Nat} {t : List Nat} (h : IsRule k r t) (hl : t.length ≤ 256) : smallO k r (ints t) = none := by
  unfold smallO
  rw [small_rule h hl]
  rfl

set_option maxRecDepth 100000 in
theorem overSmall_c (w : World) (E : Nat → Addr) (hE : Errs w E) (K R : Int) (A : Option Addr) (n c : Nat) (T : List Int) (hT : Sl w A n (T.map (Value.int .i64))) (hm : n ≤ 9223372036854775807) :
    Calls Tryz.prog 110 #[ruleV K R A n c] w fun e w' => ∃ v, e = .returned v ∧ ErrV w' E (smallO K R T) v ∧ Below w.heap.size w w' := by
  have hb0 := (Below.refl w.heap.size w).alloc (Nat.le_refl _) (.cells #[.int .i64 K, .int .i64 R, .slice A n c] 24)
  have hr0 := RuleAt.new w (.int .i64 K) (.int .i64 R) (.slice A n c)
  obtain ⟨r0, r1, r2, _⟩ := hr0.facts
  have HS := Lib.hid (small_c _ E (hE.below hb0) K R A n c T (hT.below hb0) hm)
  have HS' := Lib.hid (small_c w E hE K R A n c T hT hm)
  have HB := Lib.hid hb0
  clear hb0 hr0 hT hE
  unfold ruleV at *
  go_enter Tryz.func110, Tryz.ntmps110
  go_wp2_with fail
  refine (HS.out).mono ?_
  rintro e w1 ⟨v, rfl, he, hb⟩
  have HU := Lib.hid (under_c w1 E sOver 0 _ v he)
  have HB1 := Lib.hid (below_box hb)
  clear he hb
  go_wp2_with fail
  refine (HU.out).mono ?_
  rintro e w2 ⟨v', rfl, he, hb⟩
  have HE := Lib.hid he
  have HB2 := Lib.hid (HB1.out.trans (hb.mono HB1.out.size))
  clear he hb
  go_wp2_with fail
  go_ret
  exact ⟨_, rfl, HE.out, HB2.out⟩

theorem nodes_div {k r : Nat} {t : List Nat} (h : IsRule k r t) : t.length / k = k ^ (2 * r) ∧ t.length = k ^ (2 * r) * k := by
  have h1 := h.k1
  have e : t.length = k ^ (2 * r) * k := by rw [h.len, Nat.pow_succ]
  exact ⟨by rw [e]; exact Nat.mul_div_cancel _ (by omega), e⟩

theorem nodes_c (w : World) {k r n c : Nat} {A : Option Addr} (hk : 1 ≤ k) (hn : n ≤ 16384) :
    Calls Tryz.prog 88 #[ruleV (k : Int) (r : Int) A n c] w fun e w' => e = .returned (.int .i64 ((n / k : Nat) : Int)) ∧ Below w.heap.size w w' := by
  have hk0 : ((k : Int) == 0) = false := by simp; omega
  have hk0' : ¬ ((k : Int) = 0) := by omega
  have hle : n / k ≤ n := Nat.div_le_self _ _
  have hd : wrap64 ((n : Int) / (k : Int)) = ((n / k : Nat) : Int) := by
    rw [show (n : Int) / (k : Int) = ((n / k : Nat) : Int) from rfl]
    generalize n / k = q at hle
    exact IntWalk.wrap64_in _ (by omega)
  unfold ruleV
  go_enter Tryz.func88, Tryz.ntmps88
  go_wp2_with fail
  go_ret
  exact ⟨by rw [← hd]; rfl, (Below.refl _ _).alloc (Nat.le_refl _) _⟩
end Go.Proofs.YthilnpfpllplaaaGreatDoor

namespace Go.Proofs.YthilnpfpllplaaaGreatDoor
open Go.RowKit RuleP

end Go.Proofs.YthilnpfpllplaaaGreatDoor

namespace Go.Proofs.YthilnpfpllplaaaGreatDoor
open Go.RowKit

theorem sl_take' {w : World} {A : Option Addr} {n m : Nat} {xs ys : List Value} (h : Sl w A m (xs ++ ys)) (hn : xs.length = n) : Sl w A n xs :=
  ⟨hn, fun k v hv => h.2 k v (by rw [List.getElem?_append_left (List.getElem?_eq_some_iff.1 hv).1]; exact hv)⟩

theorem own_le {w : World} {base e n c : Nat} {A : Option Addr} {xs : List Value} (h : w.ownsRow base e 1 (.slice A n c) n xs) : n ≤ c ∧ c ≤ maxLen := by
  obtain ⟨A', c', e, h1, h2⟩ := own_slice h
  cases e
  exact ⟨h1, h2⟩
theorem grown_keeps {w w1 : World} {o : Obj} {row : Option Nat} (h : ((w.alloc o).drew).grownBy w1 row) : Keeps (fun b => row = some b) w w1 :=
  (Keeps.of_pure (((Below.refl _ _).alloc (Nat.le_refl _) o).drew) (fun b => row = some b)).trans (Keeps.of_grown h) (fun _ _ h => h)

theorem push_keeps {w0 w' : World} {g : Nat} {v : Value} (hor : (v.ownBlock = some g ∧ w0.grownBy w' (some g)) ∨ (w0.heap.size < g ∧ w0.grownBy w' none)) : Keeps (fun b => v.ownBlock = some b) w0 w' := by
  rcases hor with ⟨h1, h2⟩ | ⟨_, h2⟩
  · exact (Keeps.of_grown h2).mono (fun b _ e => by cases e; exact h1)
  · exact keeps_new (Keeps.refl _ _) h2
theorem push_below {wx w0 w' : World} {base e n g : Nat} {v : Value} {xs : List Value} (hb : Below base wx w0) (hown : w0.ownsRow base e 1 v n xs) (hor : (v.ownBlock = some g ∧ w0.grownBy w' (some g)) ∨ (w0.heap.size < g ∧ w0.grownBy w' none)) (hs : base ≤ w0.heap.size) : Below base wx w' :=
  hb.trans ((push_keeps hor).below hs (fun _ hb' => (hown.lt _ hb').1))

end Go.Proofs.YthilnpfpllplaaaGreatDoor

namespace Go.Proofs.YthilnpfpllplaaaGreatDoor
open Go.RowKit RuleP

theorem make_ints (w : World) (n : Nat) (h : n ≤ maxLen) : (w.alloc (.cells (madeCells #[.int .i64 0] n) 3)).ownsRow w.heap.size 3 1 (.slice (some ⟨w.heap.size, 0, none⟩) n n) n ((ints (List.replicate n 0)).map (Value.int .i64)) := by
  have := World.ownsRow_lit (base := w.heap.size) (e := 3) (size := 1) w (madeCells #[.int .i64 0] n) n (Nat.le_refl _) h (by rw [size_madeCells]; simp)
  rw [toList_madeCells_one] at this
  rw [ints_map, List.map_replicate]
  exact this
theorem lit_ints (w : World) (xs : List Int) (n : Nat) (h : xs.length = n) (hn : n ≤ maxLen) (e : TypeId) : Sl (w.alloc (.cells (xs.map (Value.int .i64)).toArray e)) (some ⟨w.heap.size, 0, none⟩) n (xs.map (Value.int .i64)) :=
  Sl.of_own (World.ownsRow_lit (base := 0) (e := e) (size := 1) w (xs.map (Value.int .i64)).toArray n (Nat.zero_le _) hn (by simp [h]))
end Go.Proofs.YthilnpfpllplaaaGreatDoor

namespace Go.Proofs.YthilnpfpllplaaaGreatDoor
open Go.RowKit

set_option maxRecDepth 100000 in
/-- slices.Clone of numbers. -/
theorem clone_c (w : World) (A : Option Addr) (m c : Nat) (xs : List Value) (h1 : ∀ u ∈ xs, u.oneCell' = true) (hm : m * 8 ≤ 140737488355328) (h : Sl w A m xs) :
    Calls Tryz.prog 65 #[.slice A m c] w fun e w' => ∃ C cc, e = .returned (.slice C m cc) ∧ w'.ownsRow w.heap.size 3 1 (.slice C m cc) m xs ∧ Below w.heap.size w w' := by
  have hl : xs.length = m := h.1
  have HL := Lib.hid hl
  have H1 := Lib.hid h1
  clear hl h1
  cases A with
  | none =>
    have hle : xs = [] := by
      cases xs with
      | nil => rfl
      | cons y ys => obtain ⟨ad, e', _⟩ := h.2 0 y (by simp); cases e'
    subst hle
    obtain rfl : m = 0 := HL.out.symm
    have he := Lib.run_eql_slice_nil (P := Tryz.prog) w 22 3 none 0 c 0 0 tInts.und
    go_enter Tryz.func65, Tryz.ntmps65
    go_wp2
    go_ret
    exact ⟨none, 0, rfl, World.ownsRow_nil _ _ _ _, Below.refl _ _⟩
  | some ad =>
    have he := Lib.run_eql_slice_nil (P := Tryz.prog) w 22 3 (some ad) m c 0 0 tInts.und
    have hown0 := World.ownsRow_lit (base := w.heap.size) (e := 3) (size := 1) w #[] 0 (Nat.le_refl _) (Nat.zero_le _) rfl
    have hs := h.alloc (.cells #[] 3)
    go_enter Tryz.func65, Tryz.ntmps65
    go_wp2_with (at_builtin; refine wpList_cat rfl _ _ _ rfl tInts hown0 rfl hs rfl H1.out (by simp only [maxLen]; omega) (by omega) (by simp) ?_; intro v' w3 hown3 hg3 hat3 _)
    rw [Nat.zero_add] at hown3
    obtain ⟨C, cc, rfl, _, _⟩ := own_slice hown3
    go_ret
    refine ⟨C, cc, rfl, by simpa using hown3, ((Below.refl _ _).alloc (Nat.le_refl _) _).grown hg3 (by simp) (fun k hk => by simp [Value.ownBlock] at hk; omega)⟩
end Go.Proofs.YthilnpfpllplaaaGreatDoor

namespace Go.Proofs.YthilnpfpllplaaaGreatDoor
open Go.RowKit

end Go.Proofs.YthilnpfpllplaaaGreatDoor

namespace Go.Proofs.YthilnpfpllplaaaGreatDoor
open Go.RowKit RuleP

/-- What stays: the rule, the word, where they lie, where the search lies, the world ahead of it. -/
structure DeadP where
  w0 : World
  k : Nat
  r : Nat
  most : Nat
  t : List Nat
  W : List Nat
  TA : Option Addr
  tc : Nat
  WA : Option Addr
  wc : Nat
  db : Nat
  atv : Value
  G : List Value
def DeadP.N (D : DeadP) : Nat := D.k ^ (2 * D.r)
def DeadP.B (D : DeadP) : Nat := D.w0.heap.size
def DeadP.cells (D : DeadP) (lv : Value) (more : Bool) : Array Value :=
  #[.int .i64 (D.k : Int), .int .i64 (D.r : Int), .slice D.TA D.t.length D.tc, .slice D.WA D.W.length D.wc, D.atv, .int .i64 (D.most : Int), lv, .bool more]
/-- What holds of the rule and the word. -/
structure DeadOk (D : DeadP) : Prop where
  rule : IsRule D.k D.r D.t
  small : D.t.length ≤ 256
  sym : ∀ x ∈ D.W, x < D.k
  len : D.W.length ≤ 256
  most : D.most ≤ 256
  T : Sl D.w0 D.TA D.t.length ((ints D.t).map (Value.int .i64))
  V : Sl D.w0 D.WA D.W.length ((ints D.W).map (Value.int .i64))

/-- Row i of the marks: where a mark stands, nothing goes on. -/
def DeadRow (w : World) (D : DeadP) (i : Nat) : Prop :=
  ∃ (g : Nat) (fl : List Bool), D.G[i]? = some (.slice (some ⟨g, 0, none⟩) D.N D.N) ∧ w.ownsRow D.B 4 1 (.slice (some ⟨g, 0, none⟩) D.N D.N) D.N (fl.map Value.bool) ∧
    ∀ u, fl[u]? = some true → sols D.k D.N D.t u (D.W.drop i) = []
def FarV (l : List Value) : Prop := ∀ (i j : Nat) (v v' : Value) (g : Nat), i ≠ j → l[i]? = some v → l[j]? = some v' → v.ownBlock = some g → v'.ownBlock ≠ some g

/-- The search as memory holds it. -/
structure DeadAt (w : World) (D : DeadP) (lv : Value) (rows : List Value) (L : List (List Nat)) (more : Bool) (X : Nat → Prop) : Prop where
  blk : w.heap[D.db]? = some (.cells (D.cells lv more) 138 (0, 0))
  old : Below D.B D.w0 w
  atb : w.ownsRow D.B 139 1 D.atv D.W.length D.G
  row : ∀ i, i < D.W.length → DeadRow w D i
  inj : FarV D.G
  lst : w.ownsRow D.B 22 1 lv L.length rows
  el : ∀ (j : Nat) l, L[j]? = some l → ∃ v, rows[j]? = some v ∧ w.ownsRow D.B 3 1 v l.length ((ints l).map (Value.int .i64)) ∧ ∀ g, v.ownBlock = some g → ¬ X g
  far : FarV rows
  fb : D.B ≤ D.db

variable {w w' w1 w2 : World} {D : DeadP} {lv lv' : Value} {rows rows' : List Value} {L : List (List Nat)} {more : Bool} {X X' : Nat → Prop}

theorem DeadRow.keeps {Q : Nat → Prop} {i : Nat} (h : DeadRow w D i) (hk : Keeps Q w w') (hq : ∀ b, Q b → ∀ v n xs, w.ownsRow D.B 4 1 v n xs → v.ownBlock ≠ some b) : DeadRow w' D i := by
  obtain ⟨g, fl, h1, h2, h4⟩ := h
  exact ⟨g, fl, h1, own_keeps h2 hk (fun g' hg' hQ => hq g' hQ _ _ _ h2 hg'), h4⟩

theorem DeadAt.lt (h : DeadAt w D lv rows L more X) : D.db < w.heap.size := (Array.getElem?_eq_some_iff.1 h.blk).1
theorem DeadAt.facts (h : DeadAt w D lv rows L more X) :
    w.cell? ⟨D.db, 0, none⟩ = some (.int .i64 (D.k : Int)) ∧ w.cell? ⟨D.db, 1, none⟩ = some (.int .i64 (D.r : Int)) ∧ w.cell? ⟨D.db, 2, none⟩ = some (.slice D.TA D.t.length D.tc) ∧ w.cell? ⟨D.db, 3, none⟩ = some (.slice D.WA D.W.length D.wc) ∧
    w.cell? ⟨D.db, 4, none⟩ = some D.atv ∧ w.cell? ⟨D.db, 5, none⟩ = some (.int .i64 (D.most : Int)) ∧ w.cell? ⟨D.db, 6, none⟩ = some lv ∧ w.cell? ⟨D.db, 7, none⟩ = some (.bool more) ∧ w.frozen? ⟨D.db, 6, none⟩ = false ∧ w.frozen? ⟨D.db, 7, none⟩ = false := by
  have hb := h.blk
  refine ⟨?_, ?_, ?_, ?_, ?_, ?_, ?_, ?_, frozen_of_row _ _ 6 _ _ hb, frozen_of_row _ _ 7 _ _ hb⟩ <;> rw [cell_of_row w D.db _ _ _ _ hb] <;> rfl
theorem DeadAt.tab (h : DeadAt w D lv rows L more X) (hD : DeadOk D) : Sl w D.TA D.t.length ((ints D.t).map (Value.int .i64)) := hD.T.below h.old
theorem DeadAt.word (h : DeadAt w D lv rows L more X) (hD : DeadOk D) : Sl w D.WA D.W.length ((ints D.W).map (Value.int .i64)) := hD.V.below h.old
theorem DeadAt.mono (h : DeadAt w D lv rows L more X) (hx : ∀ b, X' b → X b ∨ w.heap.size ≤ b) : DeadAt w D lv rows L more X' :=
  { h with
    el := fun j l hj => by
      obtain ⟨v, h1, h2, h3⟩ := h.el j l hj
      exact ⟨v, h1, h2, fun g hg hx' => by
        rcases hx g hx' with h' | h'
        · exact h3 g hg h'
        · have := (h2.lt g hg).2; omega⟩ }

/-- What a call of the search may write. -/
def Foot (D : DeadP) (lv : Value) (b : Nat) : Prop := b = D.db ∨ (∃ (i : Nat) (v : Value), D.G[i]? = some v ∧ v.ownBlock = some b) ∨ lv.ownBlock = some b
theorem DeadAt.notFoot (h : DeadAt w D lv rows L more X) {base n g : Nat} {xv : Value} {xs : List Value} (hx : w.ownsRow base 3 1 xv n xs) (hg : xv.ownBlock = some g) : ¬ Foot D lv g := by
  rintro (rfl | ⟨i, v, hi, hv⟩ | hv)
  · exact own_ne_blk hx h.blk (by decide) hg
  · have hlt : i < D.W.length := by have := (List.getElem?_eq_some_iff.1 hi).1; have := h.atb.1; simp at this; omega
    obtain ⟨g', fl, e1, e2, _⟩ := h.row i hlt
    rw [hi] at e1
    cases e1
    exact own_ne_own hx e2 (by decide) hg hv
  · exact own_ne_own hx h.lst (by decide) hg hv
/-- Writes to rows of numbers that are none of the list's. -/
theorem DeadAt.keeps {Q : Nat → Prop} (h : DeadAt w D lv rows L more X) (hk : Keeps Q w w') (hq : ∀ b, Q b → X b ∧ D.B ≤ b ∧ ∃ cs, w.heap[b]? = some (.cells cs 3 (0, 0))) : DeadAt w' D lv rows L more X := by
  have hne : ∀ {e n : Nat} {v : Value} {xs : List Value} (b : Nat), Q b → w.ownsRow D.B e 1 v n xs → e ≠ 3 → v.ownBlock ≠ some b := fun b hb ho he => by
    obtain ⟨_, _, cs, hc⟩ := hq b hb
    exact own_ne_blk ho hc he
  exact {
    blk := (hk.block _ h.lt (fun hb => by
      obtain ⟨_, _, cs, hc⟩ := hq _ hb
      have := h.blk
      rw [hc] at this
      injection this with this
      injection this with _ this
      exact absurd this (by decide))).trans h.blk
    old := h.old.trans (hk.below h.old.size (fun b hb => (hq b hb).2.1))
    atb := own_keeps h.atb hk (fun g hg hb => hne g hb h.atb (by decide) hg)
    row := fun i hi => (h.row i hi).keeps hk (fun b hb v n xs ho hv => hne b hb ho (by decide) hv)
    inj := h.inj
    lst := own_keeps h.lst hk (fun g hg hb => hne g hb h.lst (by decide) hg)
    el := fun j l hj => by
      obtain ⟨v, h1, h2, h3⟩ := h.el j l hj
      exact ⟨v, h1, own_keeps h2 hk (fun g hg hb => h3 g hg (hq g hb).1), h3⟩
    far := h.far
    fb := h.fb }
theorem DeadAt.pure (h : DeadAt w D lv rows L more X) (hb : Below w.heap.size w w') : DeadAt w' D lv rows L more X :=
  h.keeps (Keeps.of_pure hb (fun _ => False)) (fun _ hf => hf.elim)

theorem cells_set6 (D : DeadP) (lv u : Value) (more : Bool) : (D.cells lv more).setIfInBounds 6 u = D.cells u more := rfl
theorem cells_set7 (D : DeadP) (lv : Value) (more b : Bool) : (D.cells lv more).setIfInBounds 7 (.bool b) = D.cells lv b := rfl

/-- Something stored in the search's own block. -/
theorem DeadAt.set (h : DeadAt w D lv rows L more X) {j : Nat} {u lv' : Value} {more' : Bool} {rows' : List Value} {L' : List (List Nat)} (hc : (D.cells lv more).setIfInBounds j u = D.cells lv' more')
    (hl : w.ownsRow D.B 22 1 lv' L'.length rows') (he : ∀ (j : Nat) l, L'[j]? = some l → ∃ v, rows'[j]? = some v ∧ w.ownsRow D.B 3 1 v l.length ((ints l).map (Value.int .i64)) ∧ ∀ g, v.ownBlock = some g → ¬ X g)
    (hf : FarV rows') : DeadAt (w.setCell ⟨D.db, j, none⟩ u) D lv' rows' L' more' X := by
  have hk := Keeps.of_setCell w ⟨D.db, j, none⟩ u
  have hne : ∀ {e n : Nat} {v : Value} {xs : List Value}, w.ownsRow D.B e 1 v n xs → e ≠ 138 → ∀ g, v.ownBlock = some g → ¬ (g = (⟨D.db, j, none⟩ : Addr).block) := fun ho he g hg e => by
    have e' : g = D.db := e
    subst e'
    exact own_ne_blk ho h.blk he hg
  exact {
    blk := by
      have := heap_setCell_same w D.db j _ _ u h.blk
      rw [hc] at this
      exact this
    old := h.old.setCell h.fb _
    atb := own_keeps h.atb hk (hne h.atb (by decide))
    row := fun i hi => (h.row i hi).keeps hk (fun b hb v n xs ho hv => hne ho (by decide) b hv hb)
    inj := h.inj
    lst := own_keeps hl hk (hne hl (by decide))
    el := fun j' l hj => by
      obtain ⟨v, h1, h2, h3⟩ := he j' l hj
      exact ⟨v, h1, own_keeps h2 hk (hne h2 (by decide)), h3⟩
    far := hf
    fb := h.fb }
theorem DeadAt.full (h : DeadAt w D lv rows L more X) : DeadAt (w.setCell ⟨D.db, 7, none⟩ (.bool true)) D lv rows L true X :=
  h.set (cells_set7 D lv more true) h.lst h.el h.far

/-- A new word kept behind the others, the list grown beside it. -/
theorem DeadAt.put (h : DeadAt w D lv rows L more X) {l : List Nat} {v lv' : Value} (hv : w.ownsRow D.B 3 1 v l.length ((ints l).map (Value.int .i64))) (hX : ∀ g, v.ownBlock = some g → ¬ X g) (hnew : ∀ g, v.ownBlock = some g → ∀ u ∈ rows, u.ownBlock ≠ some g)
    (hl : w'.ownsRow D.B 22 1 lv' (L.length + 1) (rows ++ [v])) (hk : Keeps (fun b => lv.ownBlock = some b) w w') :
    DeadAt (w'.setCell ⟨D.db, 6, none⟩ lv') D lv' (rows ++ [v]) (L ++ [l]) more X := by
  have hrl : rows.length = L.length := by simpa using h.lst.1
  have hne : ∀ {e n : Nat} {u : Value} {xs : List Value}, w.ownsRow D.B e 1 u n xs → e ≠ 22 → ∀ g, u.ownBlock = some g → ¬ (lv.ownBlock = some g) := fun ho he g hg e => own_ne_own ho h.lst he hg e
  have hb : w'.heap[D.db]? = some (.cells (D.cells lv more) 138 (0, 0)) := (hk.block _ h.lt (own_ne_blk h.lst h.blk (by decide))).trans h.blk
  have hold : Below D.B D.w0 w' := h.old.trans (hk.below h.old.size (fun b hb' => (h.lst.lt b hb').1))
  have hkS := Keeps.of_setCell w' ⟨D.db, 6, none⟩ lv'
  have hneS : ∀ {e n : Nat} {u : Value} {xs : List Value}, w'.ownsRow D.B e 1 u n xs → e ≠ 138 → ∀ g, u.ownBlock = some g → ¬ (g = (⟨D.db, 6, none⟩ : Addr).block) := fun ho he g hg e => by
    have e' : g = D.db := e
    subst e'
    exact own_ne_blk ho hb he hg
  have hat := own_keeps h.atb hk (hne h.atb (by decide))
  exact {
    blk := by
      have := heap_setCell_same w' D.db 6 _ _ lv' hb
      rw [cells_set6] at this
      exact this
    old := hold.setCell h.fb _
    atb := own_keeps hat hkS (hneS hat (by decide))
    row := fun i hi => ((h.row i hi).keeps hk (fun b hb v n xs ho hv => hne ho (by decide) b hv hb)).keeps hkS (fun b hb v n xs ho hv => hneS ho (by decide) b hv hb)
    inj := h.inj
    lst := by
      rw [List.length_append]
      exact own_keeps hl hkS (hneS hl (by decide))
    el := fun j l' hj => by
      have keepI : ∀ {n : Nat} {u : Value} {xs : List Value}, w.ownsRow D.B 3 1 u n xs → (w'.setCell ⟨D.db, 6, none⟩ lv').ownsRow D.B 3 1 u n xs := fun ho => by
        have h1 := own_keeps ho hk (hne ho (by decide))
        exact own_keeps h1 hkS (hneS h1 (by decide))
      rcases Nat.lt_or_ge j L.length with hlt | hge
      · rw [List.getElem?_append_left hlt] at hj
        obtain ⟨u, h1, h2, h3⟩ := h.el j l' hj
        exact ⟨u, by rw [List.getElem?_append_left (by omega)]; exact h1, keepI h2, h3⟩
      · rw [List.getElem?_append_right hge] at hj
        rcases Nat.eq_zero_or_pos (j - L.length) with h0 | h0
        · rw [h0] at hj
          simp at hj
          subst hj
          exact ⟨v, by rw [List.getElem?_append_right (by omega), hrl, h0]; rfl, keepI hv, hX⟩
        · rw [List.getElem?_eq_none (by simp; omega)] at hj; cases hj
    far := fun i j u u' g hij hu hu' hg hg' => by
      have hin : ∀ (i : Nat) (u : Value), (rows ++ [v])[i]? = some u → (rows[i]? = some u ∧ u ∈ rows) ∨ (i = rows.length ∧ u = v) := fun i u hu => by
        rcases Nat.lt_or_ge i rows.length with hlt | hge
        · rw [List.getElem?_append_left hlt] at hu
          exact .inl ⟨hu, List.mem_of_getElem? hu⟩
        · rw [List.getElem?_append_right hge] at hu
          rcases Nat.eq_zero_or_pos (i - rows.length) with h0 | h0
          · rw [h0] at hu; simp at hu; exact .inr ⟨by omega, hu.symm⟩
          · rw [List.getElem?_eq_none (by simp; omega)] at hu; cases hu
      rcases hin i u hu with ⟨a1, a2⟩ | ⟨a1, a2⟩ <;> rcases hin j u' hu' with ⟨b1, b2⟩ | ⟨b1, b2⟩
      · exact h.far i j u u' g hij a1 b1 hg hg'
      · subst b2; exact hnew g hg' u a2 hg
      · subst a2; exact hnew g hg u' b2 hg'
      · omega
    fb := h.fb }

/-- A mark set where nothing goes on. -/
theorem DeadAt.mark (h : DeadAt w D lv rows L more X) {i u g : Nat} (hi : i < D.W.length) (hu : u < D.N) (hg : D.G[i]? = some (.slice (some ⟨g, 0, none⟩) D.N D.N)) (b : Bool) (hb : b = true → sols D.k D.N D.t u (D.W.drop i) = []) :
    DeadAt (w.setCell ⟨g, u, none⟩ (.bool b)) D lv rows L more X := by
  have hk := Keeps.of_setCell w ⟨g, u, none⟩ (.bool b)
  obtain ⟨g', fl, e1, e2, e4⟩ := h.row i hi
  rw [hg] at e1
  injection e1 with e1
  injection e1 with e1
  injection e1 with e1
  injection e1 with e1
  subst e1
  have hne : ∀ {e n : Nat} {v : Value} {xs : List Value}, w.ownsRow D.B e 1 v n xs → e ≠ 4 → ∀ g', v.ownBlock = some g' → ¬ (g' = (⟨g, u, none⟩ : Addr).block) := fun ho he g' hg' e => by
    have e' : g' = g := e
    subst e'
    exact own_ne_own ho e2 he hg' rfl
  exact {
    blk := (hk.block _ h.lt (fun e => by
      have e' : D.db = g := e
      rw [← e'] at e2
      exact own_ne_blk e2 h.blk (by decide) rfl)).trans h.blk
    old := h.old.setCell (e2.lt g rfl).1 _
    atb := own_keeps h.atb hk (hne h.atb (by decide))
    row := fun j hj => by
      by_cases hij : j = i
      · subst hij
        refine ⟨g, fl.set u b, hg, ?_, fun u' hu' => ?_⟩
        · have := (e2.stored u (.bool b)).1
          rw [← List.map_set] at this
          exact this
        · by_cases huu : u = u'
          · subst huu
            have hlen : u < fl.length := by have := e2.1; simp at this; omega
            rw [List.getElem?_set_self hlen] at hu'
            exact hb (Option.some.inj hu')
          · rw [List.getElem?_set_ne huu] at hu'
            exact e4 u' hu'
      · obtain ⟨g2, fl2, f1, f2, f4⟩ := h.row j hj
        exact ⟨g2, fl2, f1, own_keeps f2 hk (fun g' hg' e => h.inj j i _ _ g' hij f1 hg hg' (by rw [show g' = g from e]; rfl)), f4⟩
    inj := h.inj
    lst := own_keeps h.lst hk (hne h.lst (by decide))
    el := fun j l hj => by
      obtain ⟨v, h1, h2, h3⟩ := h.el j l hj
      exact ⟨v, h1, own_keeps h2 hk (hne h2 (by decide)), h3⟩
    far := h.far
    fb := h.fb }

/-- Behind a push to the list: the search's own block. -/
theorem DeadAt.pushed (h : DeadAt w D lv rows L more X) (hk : Keeps (fun b => lv.ownBlock = some b) w w') :
    w'.cell? ⟨D.db, 6, none⟩ = some lv ∧ w'.frozen? ⟨D.db, 6, none⟩ = false ∧ w.heap.size ≤ w'.heap.size := by
  have hb : w'.heap[D.db]? = some (.cells (D.cells lv more) 138 (0, 0)) := (hk.block _ h.lt (own_ne_blk h.lst h.blk (by decide))).trans h.blk
  exact ⟨by rw [cell_of_row w' D.db _ _ _ _ hb]; rfl, frozen_of_row _ _ 6 _ _ hb, hk.size⟩
end Go.Proofs.YthilnpfpllplaaaGreatDoor
