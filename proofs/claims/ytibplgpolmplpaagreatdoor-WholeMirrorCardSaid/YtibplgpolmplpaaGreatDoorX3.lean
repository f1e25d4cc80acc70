/- Sums: rules whose table is a sum take sums of words to sums of images. Plain lists, no program. No condition. The preimages of a word in the order of words: plain lists, no program. No condition. What a search among preimages has found, step by step: plain lists, no program. No condition. From which nodes on labels can be written, step by step: plain lists, no program. No condition. A struct of three cells in a block of the call's own: read, written, and the errors beside it. No condition. What is told of a small rule, how many nodes there are: overlap.wrong, small, nodes, Nodes, Edge. Condition: the table reads from memory; the error variables hold what E says. What is told of a rule and a word: overlap.check. Condition: the lists read from memory; the error variables hold what E says. A part of a slice in memory. Plain lemmas, no program. No condition. Rows of numbers that the call makes. Plain lemmas, no program. No condition. A list of numbers copied: slices.Clone. Condition: the list reads from memory. A list copied: edenraw.Copy. Condition: the list reads from memory. What memory holds of a search among preimages: overlap's dead. Plain lemmas, no program. No condition. append(s, x) of one element in a region that draws its order: what is told of the row, the old one kept. Plain laws, no program. No condition. The word behind a word: word.Check where it succeeds, word.Next. Condition: it is a word and reads from memory. overlap.Before where it refuses, overlap.Has, Nodes, Edge. Condition: the lists read from memory; the error variables hold what E says. Where an edge leads: overlap.Edge. Condition: the list reads from memory; the error variables hold what E says. -/
import Derived.Deep.RegionHeld3
import Derived.Deep.RegionLaw
import Derived.StillTailTactics
import Derived.Test.YtibplgpolmplpaaGreatDoorX1
import Derived.Test.YtibplgpolmplpaaGreatDoorX2
namespace Go.Proofs.YtibplgpolmplpaaGreatDoor
namespace RuleP

/-- A number's digits in base k, the highest first. -/
def digB : Nat → Nat → Nat → List Nat
  | _, 0, _ => []
  | k, n + 1, x => digB k n (x / k) ++ [x % k]
theorem digB_len (k n x : Nat) : (digB k n x).length = n := by
  induction n generalizing x with
  | zero => rfl
  | succ n ih => simp [digB, ih]
theorem digB_sym {k : Nat} (hk : 0 < k) (n x : Nat) : ∀ y ∈ digB k n x, y < k := by
  induction n generalizing x with
  | zero => intro y hy; simp [digB] at hy
  | succ n ih =>
    intro y hy
    rcases List.mem_append.1 hy with hy | hy
    · exact ih _ y hy
    · simp at hy; subst hy; exact Nat.mod_lt _ hk
theorem list_snoc {n : Nat} {w : List Nat} (h : w.length = n + 1) : ∃ v x, w = v ++ [x] ∧ v.length = n := by
  have hne : w ≠ [] := by intro e; subst e; simp at h
  exact ⟨w.dropLast, w.getLast hne, (List.dropLast_concat_getLast hne).symm, by simp [h]⟩
theorem digB_wval {k : Nat} (hk : 0 < k) : ∀ (n : Nat) (w : List Nat), w.length = n → (∀ x ∈ w, x < k) → digB k n (wval k w) = w := by
  intro n
  induction n with
  | zero => intro w h _; simp at h; subst h; rfl
  | succ n ih =>
    intro w h hs
    obtain ⟨v, x, rfl, hv⟩ := list_snoc h
    have hx : x < k := hs x (by simp)
    rw [wval_snoc, digB, Nat.mul_comm, Nat.mul_add_div hk, Nat.div_eq_of_lt hx, Nat.add_zero, Nat.mul_add_mod, Nat.mod_eq_of_lt hx, ih v hv (fun y hy => hs y (by simp [hy]))]

/-- The sum of the first j symbols, each times its factor. -/
def linP (k : Nat) (x f : List Nat) (j : Nat) : Nat := (List.zipWith (· * ·) (x.take j) (f.take j)).sum % k
def lin (k : Nat) (x f : List Nat) : Nat := (List.zipWith (· * ·) x f).sum % k
theorem linP_succ {k : Nat} {x f : List Nat} {j a b : Nat} (ha : x[j]? = some a) (hb : f[j]? = some b) : linP k x f (j + 1) = (linP k x f j + a * b) % k := by
  unfold linP
  have h1 : j < x.length := (List.getElem?_eq_some_iff.1 ha).1
  have h2 : j < f.length := (List.getElem?_eq_some_iff.1 hb).1
  rw [List.take_add_one, List.take_add_one, ha, hb, Option.toList_some, Option.toList_some, List.zipWith_append (by simp; omega)]
  simp
theorem linP_all {k : Nat} {x f : List Nat} {j : Nat} (h : x.length ≤ j ∨ f.length ≤ j) : linP k x f j = lin k x f := by
  unfold linP lin
  congr 2
  rcases h with h | h
  · rw [List.take_of_length_le h]
    apply List.ext_getElem?
    intro i
    simp only [List.getElem?_zipWith]
    rcases Nat.lt_or_ge i j with h1 | h1
    · rw [List.getElem?_take, if_pos h1]
    · rw [List.getElem?_eq_none (by omega : x.length ≤ i)]
  · rw [List.take_of_length_le h]
    apply List.ext_getElem?
    intro i
    simp only [List.getElem?_zipWith]
    rcases Nat.lt_or_ge i j with h1 | h1
    · rw [List.getElem?_take, if_pos h1]
    · rw [List.getElem?_eq_none (by omega : f.length ≤ i)]
      cases (List.take j x)[i]? <;> cases x[i]? <;> rfl
theorem lin_lt {k : Nat} (hk : 0 < k) (x f : List Nat) : lin k x f < k := Nat.mod_lt _ hk
/-- The sum of two words, place by place. -/
def addW (k : Nat) (a b : List Nat) : List Nat := List.zipWith (fun x y => (x + y) % k) a b
theorem sum_add {k : Nat} : ∀ (a b f : List Nat), a.length = b.length → (List.zipWith (· * ·) (addW k a b) f).sum % k = ((List.zipWith (· * ·) a f).sum + (List.zipWith (· * ·) b f).sum) % k := by
  intro a
  induction a with
  | nil => intro b f h; cases b with
    | nil => simp [addW]
    | cons y b => simp at h
  | cons x a ih => intro b f h; cases b with
    | nil => simp at h
    | cons y b => cases f with
      | nil => simp [addW]
      | cons z f =>
        have hi := ih b f (by simpa using h)
        simp only [addW, List.zipWith_cons_cons, List.sum_cons] at hi ⊢
        have e1 : (x + y) % k * z % k = (x * z + y * z) % k := by rw [Nat.mod_mul_mod, Nat.add_mul]
        rw [Nat.add_mod, hi, e1, ← Nat.add_mod]
        congr 1
        omega
theorem lin_add {k : Nat} {a b : List Nat} (f : List Nat) (h : a.length = b.length) : lin k (addW k a b) f = (lin k a f + lin k b f) % k := by
  unfold lin
  rw [sum_add a b f h, Nat.add_mod]
theorem addW_len {k : Nat} {a b : List Nat} (h : a.length = b.length) : (addW k a b).length = a.length := by simp [addW, h]
theorem addW_sym {k : Nat} (hk : 0 < k) (a b : List Nat) : ∀ x ∈ addW k a b, x < k := by
  intro x hx
  obtain ⟨i, hi⟩ := List.getElem?_of_mem hx
  unfold addW at hi
  rw [List.getElem?_zipWith] at hi
  split at hi
  · cases hi; exact Nat.mod_lt _ hk
  · cases hi
theorem win_add (k : Nat) (a b : List Nat) (i m : Nat) : win (addW k a b) i m = addW k (win a i m) (win b i m) := by
  unfold win addW
  rw [List.drop_zipWith, List.take_zipWith]

/-- The table is a sum. -/
def SumT (k r : Nat) (t f : List Nat) : Prop := t.length = k ^ (2 * r + 1) ∧ ∀ (i : Nat), i < k ^ (2 * r + 1) → t[i]? = some (lin k (digB k (2 * r + 1) i) f)
theorem SumT.rule {k r : Nat} {t f : List Nat} (h : SumT k r t f) (k1 : 1 ≤ k) (k4 : k ≤ 4) (r3 : r ≤ 3) : IsRule k r t := ⟨k1, k4, r3, h.1, fun x hx => by
  obtain ⟨i, hi⟩ := List.getElem?_of_mem hx
  have := (List.getElem?_eq_some_iff.1 hi).1
  rw [h.1] at this
  rw [h.2 i this] at hi
  cases hi
  exact lin_lt k1 _ _⟩
theorem SumT.at_ {k r : Nat} {t f : List Nat} (h : SumT k r t f) (k1 : 1 ≤ k) {w : List Nat} (hl : w.length = 2 * r + 1) (hs : ∀ x ∈ w, x < k) : t.getD (wval k w) 0 = lin k w f := by
  have h1 := wval_lt hs
  rw [hl] at h1
  rw [List.getD_eq_getElem?_getD, h.2 _ h1, digB_wval k1 _ w hl hs]
  rfl
/-- The image of the sum is the sum of the images. -/
theorem image_add {k r : Nat} {t f : List Nat} (h : SumT k r t f) (k1 : 1 ≤ k) {a b : List Nat} (hl : a.length = b.length) (ha : ∀ x ∈ a, x < k) (hb : ∀ x ∈ b, x < k) {i x y : Nat} (hx : (image k r t a)[i]? = some x) (hy : (image k r t b)[i]? = some y) :
    (image k r t (addW k a b))[i]? = some ((x + y) % k) := by
  have hi := (List.getElem?_eq_some_iff.1 hx).1
  rw [image_len] at hi
  have hia : i + 2 * r < a.length := by omega
  have hib : i + 2 * r < b.length := by omega
  have hic : i + 2 * r < (addW k a b).length := by rw [addW_len hl]; exact hia
  rw [image_at hia] at hx
  rw [image_at hib] at hy
  rw [image_at hic, win_add]
  have wa := win_len (w := a) (i := i) (m := 2 * r + 1) (by omega)
  have wb := win_len (w := b) (i := i) (m := 2 * r + 1) (by omega)
  rw [h.at_ k1 wa (win_sym ha _ _)] at hx
  rw [h.at_ k1 wb (win_sym hb _ _)] at hy
  rw [h.at_ k1 (by rw [addW_len (by rw [wa, wb]), wa]) (addW_sym k1 _ _), lin_add f (by rw [wa, wb])]
  cases hx
  cases hy
  rfl
end RuleP
end Go.Proofs.YtibplgpolmplpaaGreatDoor

namespace Go.Proofs.YtibplgpolmplpaaGreatDoor
namespace RuleP

/-- The words along which the labels w stand, from node u on (N nodes). -/
def sols (k N : Nat) (t : List Nat) : Nat → List Nat → List (List Nat)
  | _, [] => [[]]
  | u, c :: w => (List.range k).flatMap fun s => if t.getD (u * k + s) 0 = c then (sols k N t ((u * k + s) % N) w).map (s :: ·) else []
/-- The words that have the image w, in order: those from the first n nodes on. -/
def befTo (k r : Nat) (t w : List Nat) (n : Nat) : List (List Nat) := (List.range n).flatMap fun u => (sols k (k ^ (2 * r)) t u w).map (digB k (2 * r) u ++ ·)
def before (k r : Nat) (t w : List Nat) : List (List Nat) := befTo k r t w (k ^ (2 * r))
/-- The first most of what has been found, and whether that was not all. -/
structure Found (most : Nat) (P L : List (List Nat)) (more : Bool) : Prop where
  list : L = P.take most
  more : more = decide (most < P.length)
theorem Found.start (most : Nat) : Found most [] [] false := ⟨by simp, by simp⟩
theorem Found.all {most : Nat} {P L : List (List Nat)} (h : Found most P L false) : L = P ∧ P.length ≤ most := by
  have h1 : ¬ most < P.length := of_decide_eq_false h.more.symm
  exact ⟨by rw [h.list, List.take_of_length_le (by omega)], by omega⟩
theorem Found.put {most : Nat} {P L : List (List Nat)} (h : Found most P L false) (hl : L.length < most) (x : List Nat) : Found most (P ++ [x]) (L ++ [x]) false := by
  obtain ⟨rfl, h2⟩ := h.all
  exact ⟨by rw [List.take_of_length_le (by simp; omega)], (decide_eq_false (by simp; omega)).symm⟩
theorem Found.full {most : Nat} {P L : List (List Nat)} (h : Found most P L false) (hl : ¬ L.length < most) (x : List Nat) : Found most (P ++ [x]) L true := by
  obtain ⟨rfl, h2⟩ := h.all
  exact ⟨by rw [List.take_append_of_le_length (by omega), List.take_of_length_le (by omega)], (decide_eq_true (by simp; omega)).symm⟩

end RuleP
end Go.Proofs.YtibplgpolmplpaaGreatDoor

namespace Go.Proofs.YtibplgpolmplpaaGreatDoor
namespace RuleP

/-- The words found ahead, and those from this place on behind x. -/
def onP (P : List (List Nat)) (x : List Nat) (S : List (List Nat)) : List (List Nat) := P ++ S.map (x ++ ·)
/-- More than could be kept were found: something was found. -/
theorem Found.any {most : Nat} {P L : List (List Nat)} {x : List Nat} {S : List (List Nat)} (h : Found most (onP P x S) L true) (h' : P.length ≤ most) : S ≠ [] := by
  have h1 : most < (onP P x S).length := of_decide_eq_true h.more.symm
  intro e
  subst e
  simp [onP] at h1
  omega
end RuleP
end Go.Proofs.YtibplgpolmplpaaGreatDoor

namespace Go.Proofs.YtibplgpolmplpaaGreatDoor
namespace RuleP

end RuleP
end Go.Proofs.YtibplgpolmplpaaGreatDoor

namespace Go.Proofs.YtibplgpolmplpaaGreatDoor
open Go.RowKit

/-- The block holds a rule. -/
def RuleAt (w : World) (g : Nat) (x0 x1 x2 : Value) : Prop := w.heap[g]? = some (.cells #[x0, x1, x2] 24 (0, 0))
theorem RuleAt.facts {w : World} {g : Nat} {x0 x1 x2 : Value} (h : RuleAt w g x0 x1 x2) :
    w.cell? ⟨g, 0, none⟩ = some x0 ∧ w.cell? ⟨g, 1, none⟩ = some x1 ∧ w.cell? ⟨g, 2, none⟩ = some x2 ∧ w.frozen? ⟨g, 0, none⟩ = false ∧ w.frozen? ⟨g, 1, none⟩ = false ∧ w.frozen? ⟨g, 2, none⟩ = false := by
  obtain ⟨a, b, c, _⟩ := blk_cells h
  exact ⟨a, b, c, frozen_of_row _ _ 0 _ _ h, frozen_of_row _ _ 1 _ _ h, frozen_of_row _ _ 2 _ _ h⟩
theorem RuleAt.below {w w' : World} {g B : Nat} {x0 x1 x2 : Value} (h : RuleAt w g x0 x1 x2) (hb : Below B w w') (hg : g < B) : RuleAt w' g x0 x1 x2 := (hb.block g hg).trans h
theorem RuleAt.keeps {w w' : World} {g : Nat} {O : Nat → Prop} {x0 x1 x2 : Value} (h : RuleAt w g x0 x1 x2) (hk : Keeps O w w') (ho : ¬ O g) : RuleAt w' g x0 x1 x2 := (hk.block g (Array.getElem?_eq_some_iff.1 h).1 ho).trans h
theorem RuleAt.new (w : World) (x0 x1 x2 : Value) : RuleAt (w.alloc (.cells #[x0, x1, x2] 24)) w.heap.size x0 x1 x2 := heap_new _ _
theorem RuleAt.alloc {w : World} {g : Nat} {x0 x1 x2 : Value} (h : RuleAt w g x0 x1 x2) (o : Obj) : RuleAt (w.alloc o) g x0 x1 x2 := (Below.heap_alloc w o g (Array.getElem?_eq_some_iff.1 h).1).trans h
theorem RuleAt.lt {w : World} {g : Nat} {x0 x1 x2 : Value} (h : RuleAt w g x0 x1 x2) : g < w.heap.size := (Array.getElem?_eq_some_iff.1 h).1

theorem ErrIs.keeps {w w' : World} {E : Nat → Addr} {n : Nat} {O : Nat → Prop} (hk : Keeps O w w') (ho : ∀ k cs, O k → w.heap[k]? ≠ some (.cells cs 134 (0, 0))) : ∀ {l : List (ByteArray × Int)} {v : Value}, ErrIs w E n l v → ErrIs w' E n l v
  | [], _, h => h
  | (_, _) :: _, _, ⟨b, v', h1, h2, h3⟩ => ⟨b, v', h1, (hk.block b (Array.getElem?_eq_some_iff.1 h2).1 (fun hO => ho b _ hO h2)).trans h2, ErrIs.keeps hk ho h3⟩
theorem ErrIs.set3 {w : World} {E : Nat → Addr} {n g : Nat} {x0 x1 x2 : Value} {l : List (ByteArray × Int)} {v : Value} (h : ErrIs w E n l v) (hr : RuleAt w g x0 x1 x2) (u0 u1 u2 : Value) :
    ErrIs (((w.setCell ⟨g, 0, none⟩ u0).setCell ⟨g, 1, none⟩ u1).setCell ⟨g, 2, none⟩ u2) E n l v :=
  ErrIs.keeps (keeps_set3 w g u0 u1 u2) (fun k cs hk e => by subst hk; rw [show w.heap[k]? = _ from hr] at e; injection e with e; injection e with _ e; exact absurd e (by decide)) h
theorem own_set3 {w : World} {base e n g : Nat} {v : Value} {xs : List Value} {x0 x1 x2 : Value} (h : w.ownsRow base e 1 v n xs) (hr : RuleAt w g x0 x1 x2) (hne : e ≠ 24) (u0 u1 u2 : Value) :
    (((w.setCell ⟨g, 0, none⟩ u0).setCell ⟨g, 1, none⟩ u1).setCell ⟨g, 2, none⟩ u2).ownsRow base e 1 v n xs :=
  own_keeps h (keeps_set3 w g u0 u1 u2) (fun g' hg' e' => by subst e'; exact own_ne_blk h hr hne hg')
theorem RuleAt.set3 {w : World} {g : Nat} {x0 x1 x2 : Value} (h : RuleAt w g x0 x1 x2) (u0 u1 u2 : Value) : RuleAt (((w.setCell ⟨g, 0, none⟩ u0).setCell ⟨g, 1, none⟩ u1).setCell ⟨g, 2, none⟩ u2) g u0 u1 u2 := by
  unfold RuleAt at *
  have h0 := (Array.getElem?_eq_some_iff.1 h).1
  simp only [World.setCell]
  simp [Array.getElem?_modify, h]
end Go.Proofs.YtibplgpolmplpaaGreatDoor

namespace Go.Proofs.YtibplgpolmplpaaGreatDoor
open Go.RowKit RuleP

def sOver : ByteArray := ⟨#[111, 118, 101, 114, 108, 97, 112]⟩

/-- What overlap tells of a rule that is no small one. -/
def smallO (K R : Int) (T : List Int) : Option Tale := under sOver 0 (small K R T)
theorem smallO_none {K R : Int} {T : List Int} (h : smallO K R T = none) : ∃ (k r : Nat) (t : List Nat), K = (k : Int) ∧ R = (r : Int) ∧ T = ints t ∧ IsRule k r t ∧ t.length ≤ 256 := by
  have hs : small K R T = none := by
    unfold smallO under at h
    split at h
    · assumption
    · cases h
  unfold small at hs
  split at hs
  · cases hs
  · rename_i hc
    obtain ⟨k, r, t, rfl, rfl, rfl, hr⟩ := check_none hc
    refine ⟨k, r, t, rfl, rfl, rfl, hr, ?_⟩
    split at hs
    · cases hs
    · rw [ints_len] at *
      omega
theorem small_rule {k r : Nat} {t : List Nat} (h : IsRule k r t) (hl : t.length ≤ 256) : small k r (ints t) = none := by
  unfold small
  rw [check_rule h]
  simp only
  rw [if_neg (by rw [ints_len]; omega)]
theorem smallO_rule {k r : Nat} {t : List Nat} (h : IsRule k r t) (hl : t.length ≤ 256) : smallO k r (ints t) = none := by
  unfold smallO
  rw [small_rule h hl]
  rfl

set_option maxRecDepth 100000 in
theorem overSmall_c (w : World) (E : Nat → Addr) (hE : Errs w E) (K R : Int) (A : Option Addr) (n c : Nat) (T : List Int) (hT : Sl w A n (T.map (Value.int .i64))) (hm : n ≤ 9223372036854775807) :
    Calls Tryz.prog 92 #[ruleV K R A n c] w fun e w' => ∃ v, e = .returned v ∧ ErrV w' E (smallO K R T) v ∧ Below w.heap.size w w' := by
  have hb0 := (Below.refl w.heap.size w).alloc (Nat.le_refl _) (.cells #[.int .i64 K, .int .i64 R, .slice A n c] 24)
  have hr0 := RuleAt.new w (.int .i64 K) (.int .i64 R) (.slice A n c)
  obtain ⟨r0, r1, r2, _⟩ := hr0.facts
  have HS := Lib.hid (small_c _ E (hE.below hb0) K R A n c T (hT.below hb0) hm)
  have HS' := Lib.hid (small_c w E hE K R A n c T hT hm)
  have HB := Lib.hid hb0
  clear hb0 hr0 hT hE
  unfold ruleV at *
  go_enter Tryz.func92, Tryz.ntmps92
  go_wp2_with fail
  refine (HS.out).mono ?_
  rintro e w1 ⟨v, rfl, he, hb⟩
  have HU := Lib.hid (under_c w1 E sOver 0 _ v he)
  have HB1 := Lib.hid (below_box hb)
  clear he hb
  go_wp2_with fail
  refine (HU.out).mono ?_
  rintro e w2 ⟨v', rfl, he, hb⟩
  have HE := Lib.hid he
  have HB2 := Lib.hid (HB1.out.trans (hb.mono HB1.out.size))
  clear he hb
  go_wp2_with fail
  go_ret
  exact ⟨_, rfl, HE.out, HB2.out⟩

theorem nodes_div {k r : Nat} {t : List Nat} (h : IsRule k r t) : t.length / k = k ^ (2 * r) ∧ t.length = k ^ (2 * r) * k := by
  have h1 := h.k1
  have e : t.length = k ^ (2 * r) * k := by rw [h.len, Nat.pow_succ]
  exact ⟨by rw [e]; exact Nat.mul_div_cancel _ (by omega), e⟩

theorem nodes_c (w : World) {k r n c : Nat} {A : Option Addr} (hk : 1 ≤ k) (hn : n ≤ 16384) :
    Calls Tryz.prog 93 #[ruleV (k : Int) (r : Int) A n c] w fun e w' => e = .returned (.int .i64 ((n / k : Nat) : Int)) ∧ Below w.heap.size w w' := by
  have hk0 : ((k : Int) == 0) = false := by simp; omega
  have hk0' : ¬ ((k : Int) = 0) := by omega
  have hle : n / k ≤ n := Nat.div_le_self _ _
  have hd : wrap64 ((n : Int) / (k : Int)) = ((n / k : Nat) : Int) := by
    rw [show (n : Int) / (k : Int) = ((n / k : Nat) : Int) from rfl]
    generalize n / k = q at hle
    exact IntWalk.wrap64_in _ (by omega)
  unfold ruleV
  go_enter Tryz.func93, Tryz.ntmps93
  go_wp2_with fail
  go_ret
  exact ⟨by rw [← hd]; rfl, (Below.refl _ _).alloc (Nat.le_refl _) _⟩
end Go.Proofs.YtibplgpolmplpaaGreatDoor

namespace Go.Proofs.YtibplgpolmplpaaGreatDoor
open Go.RowKit RuleP

end Go.Proofs.YtibplgpolmplpaaGreatDoor

namespace Go.Proofs.YtibplgpolmplpaaGreatDoor
open Go.RowKit

theorem sl_part {w : World} {A : Option Addr} {n : Nat} {xs : List Value} (h : Sl w A n xs) {i m : Nat} (_ : i + m ≤ n) : ∀ ad, A = some ad → ∀ (j : Nat) u, ((xs.drop i).take m)[j]? = some u → w.cell? ((ad.add i).add j) = some u := by
  intro ad e j u hu
  rw [List.getElem?_take] at hu
  split at hu
  · rw [List.getElem?_drop] at hu
    obtain ⟨ad', e', hc⟩ := h.2 _ _ hu
    rw [e] at e'
    cases e'
    rw [add_of_add]
    exact hc
  · cases hu


theorem own_le {w : World} {base e n c : Nat} {A : Option Addr} {xs : List Value} (h : w.ownsRow base e 1 (.slice A n c) n xs) : n ≤ c ∧ c ≤ maxLen := by
  obtain ⟨A', c', e, h1, h2⟩ := own_slice h
  cases e
  exact ⟨h1, h2⟩
theorem push_keeps {w0 w' : World} {g : Nat} {v : Value} (hor : (v.ownBlock = some g ∧ w0.grownBy w' (some g)) ∨ (w0.heap.size < g ∧ w0.grownBy w' none)) : Keeps (fun b => v.ownBlock = some b) w0 w' := by
  rcases hor with ⟨h1, h2⟩ | ⟨_, h2⟩
  · exact (Keeps.of_grown h2).mono (fun b _ e => by cases e; exact h1)
  · exact keeps_new (Keeps.refl _ _) h2
theorem push_below {wx w0 w' : World} {base e n g : Nat} {v : Value} {xs : List Value} (hb : Below base wx w0) (hown : w0.ownsRow base e 1 v n xs) (hor : (v.ownBlock = some g ∧ w0.grownBy w' (some g)) ∨ (w0.heap.size < g ∧ w0.grownBy w' none)) (hs : base ≤ w0.heap.size) : Below base wx w' :=
  hb.trans ((push_keeps hor).below hs (fun _ hb' => (hown.lt _ hb').1))

end Go.Proofs.YtibplgpolmplpaaGreatDoor

namespace Go.Proofs.YtibplgpolmplpaaGreatDoor
open Go.RowKit RuleP

theorem make_ints (w : World) (n : Nat) (h : n ≤ maxLen) : (w.alloc (.cells (madeCells #[.int .i64 0] n) 3)).ownsRow w.heap.size 3 1 (.slice (some ⟨w.heap.size, 0, none⟩) n n) n ((ints (List.replicate n 0)).map (Value.int .i64)) := by
  have := World.ownsRow_lit (base := w.heap.size) (e := 3) (size := 1) w (madeCells #[.int .i64 0] n) n (Nat.le_refl _) h (by rw [size_madeCells]; simp)
  rw [toList_madeCells_one] at this
  rw [ints_map, List.map_replicate]
  exact this
theorem ints_set (l : List Nat) (j x : Nat) : (ints l).set j (x : Int) = ints (l.set j x) := by simp [ints, List.map_set]
theorem lit_ints (w : World) (xs : List Int) (n : Nat) (h : xs.length = n) (hn : n ≤ maxLen) (e : TypeId) : Sl (w.alloc (.cells (xs.map (Value.int .i64)).toArray e)) (some ⟨w.heap.size, 0, none⟩) n (xs.map (Value.int .i64)) :=
  Sl.of_own (World.ownsRow_lit (base := 0) (e := e) (size := 1) w (xs.map (Value.int .i64)).toArray n (Nat.zero_le _) hn (by simp [h]))
end Go.Proofs.YtibplgpolmplpaaGreatDoor

namespace Go.Proofs.YtibplgpolmplpaaGreatDoor
open Go.RowKit

set_option maxRecDepth 100000 in
/-- slices.Clone of numbers. -/
theorem clone_c (w : World) (A : Option Addr) (m c : Nat) (xs : List Value) (h1 : ∀ u ∈ xs, u.oneCell' = true) (hm : m * 8 ≤ 140737488355328) (h : Sl w A m xs) :
    Calls Tryz.prog 64 #[.slice A m c] w fun e w' => ∃ C cc, e = .returned (.slice C m cc) ∧ w'.ownsRow w.heap.size 3 1 (.slice C m cc) m xs ∧ Below w.heap.size w w' := by
  have hl : xs.length = m := h.1
  have HL := Lib.hid hl
  have H1 := Lib.hid h1
  clear hl h1
  cases A with
  | none =>
    have hle : xs = [] := by
      cases xs with
      | nil => rfl
      | cons y ys => obtain ⟨ad, e', _⟩ := h.2 0 y (by simp); cases e'
    subst hle
    obtain rfl : m = 0 := HL.out.symm
    have he := Lib.run_eql_slice_nil (P := Tryz.prog) w 22 3 none 0 c 0 0 tInts.und
    go_enter Tryz.func64, Tryz.ntmps64
    go_wp2
    go_ret
    exact ⟨none, 0, rfl, World.ownsRow_nil _ _ _ _, Below.refl _ _⟩
  | some ad =>
    have he := Lib.run_eql_slice_nil (P := Tryz.prog) w 22 3 (some ad) m c 0 0 tInts.und
    have hown0 := World.ownsRow_lit (base := w.heap.size) (e := 3) (size := 1) w #[] 0 (Nat.le_refl _) (Nat.zero_le _) rfl
    have hs := h.alloc (.cells #[] 3)
    go_enter Tryz.func64, Tryz.ntmps64
    go_wp2_with (at_builtin; refine wpList_cat rfl _ _ _ rfl tInts hown0 rfl hs rfl H1.out (by simp only [maxLen]; omega) (by omega) (by simp) ?_; intro v' w3 hown3 hg3 hat3 _)
    rw [Nat.zero_add] at hown3
    obtain ⟨C, cc, rfl, _, _⟩ := own_slice hown3
    go_ret
    refine ⟨C, cc, rfl, by simpa using hown3, ((Below.refl _ _).alloc (Nat.le_refl _) _).grown hg3 (by simp) (fun k hk => by simp [Value.ownBlock] at hk; omega)⟩
end Go.Proofs.YtibplgpolmplpaaGreatDoor

namespace Go.Proofs.YtibplgpolmplpaaGreatDoor
open Go.RowKit

end Go.Proofs.YtibplgpolmplpaaGreatDoor

namespace Go.Proofs.YtibplgpolmplpaaGreatDoor
open Go.RowKit RuleP

/-- What stays: the rule, the word, where they lie, where the search lies, the world ahead of it. -/
structure DeadP where
  w0 : World
  k : Nat
  r : Nat
  most : Nat
  t : List Nat
  W : List Nat
  TA : Option Addr
  tc : Nat
  WA : Option Addr
  wc : Nat
  db : Nat
  atv : Value
  G : List Value
def DeadP.N (D : DeadP) : Nat := D.k ^ (2 * D.r)
def DeadP.B (D : DeadP) : Nat := D.w0.heap.size
def DeadP.cells (D : DeadP) (lv : Value) (more : Bool) : Array Value :=
  #[.int .i64 (D.k : Int), .int .i64 (D.r : Int), .slice D.TA D.t.length D.tc, .slice D.WA D.W.length D.wc, D.atv, .int .i64 (D.most : Int), lv, .bool more]
/-- Row i of the marks: where a mark stands, nothing goes on. -/
def DeadRow (w : World) (D : DeadP) (i : Nat) : Prop :=
  ∃ (g : Nat) (fl : List Bool), D.G[i]? = some (.slice (some ⟨g, 0, none⟩) D.N D.N) ∧ w.ownsRow D.B 4 1 (.slice (some ⟨g, 0, none⟩) D.N D.N) D.N (fl.map Value.bool) ∧
    ∀ u, fl[u]? = some true → sols D.k D.N D.t u (D.W.drop i) = []
def FarV (l : List Value) : Prop := ∀ (i j : Nat) (v v' : Value) (g : Nat), i ≠ j → l[i]? = some v → l[j]? = some v' → v.ownBlock = some g → v'.ownBlock ≠ some g

variable {w w' w1 w2 : World} {D : DeadP} {lv lv' : Value} {rows rows' : List Value} {L : List (List Nat)} {more : Bool} {X X' : Nat → Prop}

theorem DeadRow.keeps {Q : Nat → Prop} {i : Nat} (h : DeadRow w D i) (hk : Keeps Q w w') (hq : ∀ b, Q b → ∀ v n xs, w.ownsRow D.B 4 1 v n xs → v.ownBlock ≠ some b) : DeadRow w' D i := by
  obtain ⟨g, fl, h1, h2, h4⟩ := h
  exact ⟨g, fl, h1, own_keeps h2 hk (fun g' hg' hQ => hq g' hQ _ _ _ h2 hg'), h4⟩

/-- What a call of the search may write. -/
def Foot (D : DeadP) (lv : Value) (b : Nat) : Prop := b = D.db ∨ (∃ (i : Nat) (v : Value), D.G[i]? = some v ∧ v.ownBlock = some b) ∨ lv.ownBlock = some b
end Go.Proofs.YtibplgpolmplpaaGreatDoor

namespace Go.Proofs.YtibplgpolmplpaaGreatDoor
open Go.RowKit

theorem run_push3 {P : Program} (w : World) (t ty : TypeId) {e : TypeId} {z : Value} {bytes : Nat} (hT : ElemT P t e z bytes) {base : Nat} {v : Value} {n : Nat} {xs : List Value} (hown : w.ownsRow base e 1 v n xs)
    (ad : Addr) (c : Nat) (u : Value) (hc : w.cell? ad = some u) (hu : u.oneCell' = true) (h63 : n + 1 ≤ maxLen) (hbytes : (n + 1) * bytes ≤ 140737488355328) (hbase : base ≤ w.heap.size) :
    ∃ g cap w', (Builtin.append_ #[t, t] ty #[v, .slice (some ad) 1 c]).run P w = .ok (.slice (some ⟨g, 0, none⟩) (n + 1) cap) w' ∧ w'.ownsRow base e 1 (.slice (some ⟨g, 0, none⟩) (n + 1) cap) (n + 1) (xs ++ [u]) ∧
      ((v = .slice (some ⟨g, 0, none⟩) n cap ∧ w.grownBy w' (some g)) ∨ (w.heap.size ≤ g ∧ w.grownBy w' none)) ∧ g < w'.heap.size := by
  obtain ⟨i, hi, hz, hz1, hz2⟩ := info_parts hT.info
  have hcell : ∀ j u', [u][j]? = some u' → w.cell? (ad.add j) = some u' := by
    intro j u' hj
    match j, hj with
    | 0, hj => simp at hj; subst hj; simpa [Addr.add] using hc
  have hone : ∀ u' ∈ [u], u'.oneCell' = true := by intro u' hu'; simp at hu'; subst hu'; exact hu
  have h1z : z.cells.size = 1 := by rw [hT.one]; rfl
  rcases hown.2 with ⟨rfl, rfl⟩ | ⟨g, cap, cur, rfl, hbg, hg, hnc, hcm, hsz, htake⟩
  · obtain rfl : xs = [] := List.eq_nil_of_length_eq_zero (by simpa using hown.1)
    obtain ⟨v', w', hrun, r1, r2, _⟩ := run_append_own (P := P) w w.heap.size t ty e i z 1 bytes hT.und hi hz hz1 hz2 h1z (by decide) (.slice none 0 0) 0 [] (World.ownsRow_nil w _ e 1) ad 1 c [u] rfl hcell hone h63 hbytes (Nat.le_refl _)
    obtain ⟨g, cap, rfl, hb, hlt⟩ := r1.form (by omega)
    exact ⟨g, cap, w', hrun, own_base r1 hbase, .inr ⟨hb, r2⟩, hlt⟩
  · by_cases hroom : n + 1 ≤ cap
    · obtain ⟨w', hrun, r1, r2⟩ := run_append_fits (P := P) w base t ty e i 1 hT.und hi hz1 g n cap xs hown ad 1 c [u] rfl hcell hone hroom
      exact ⟨g, cap, w', hrun, r1, .inl ⟨rfl, r2⟩, (r1.lt g rfl).2⟩
    · obtain ⟨v', w', hrun, r1, r2⟩ := run_append_arg_grows (P := P) w t ty e i z 1 bytes hT.und hi hz hz1 hz2 h1z (by decide) ⟨g, 0, none⟩ n cap xs (by simpa using hown.1) (fun j u' hj => hown.cells (g := g) rfl j u' hj) ad 1 c [u] rfl hcell (by omega) h63 hbytes
      obtain ⟨g', cap', rfl, hb, hlt⟩ := r1.form (by omega)
      exact ⟨g', cap', w', hrun, own_base r1 hbase, .inr ⟨hb, r2⟩, hlt⟩

/-- At a step of a region that draws its order. -/
theorem step_push3 {P : Program} {w : World} {ops : Array Oper} {o : Oper} {a : Act} {K : Act → World → Prop} {Q : Exit → Act → World → Prop} {F : Prop} (hw : Region.wanted o (yielded ops a.tmps) = true) (s x : Operand) (t : TypeId)
    (ho : o.op = .call { callee := .builtin .append, args := #[s, x], argTypes := #[t, t] }) {e : TypeId} {z : Value} {bytes : Nat} (hT : ElemT P t e z bytes)
    {base : Nat} {v : Value} {n : Nat} {xs : List Value} (hown : w.ownsRow base e 1 v n xs) (hs : a.eval s = v) (ad : Addr) (c : Nat) (hx : a.eval x = .slice (some ad) 1 c) (u : Value) (hc : w.cell? ad = some u) (hu : u.oneCell' = true)
    (h63 : n + 1 ≤ maxLen) (hbytes : (n + 1) * bytes ≤ 140737488355328) (hbase : base ≤ w.heap.size)
    (h : ∀ g cap w', w'.ownsRow base e 1 (.slice (some ⟨g, 0, none⟩) (n + 1) cap) (n + 1) (xs ++ [u]) → ((v = .slice (some ⟨g, 0, none⟩) n cap ∧ w.grownBy w' (some g)) ∨ (w.heap.size ≤ g ∧ w.grownBy w' none)) → g < w'.heap.size →
      K (a.put o.dst (.slice (some ⟨g, 0, none⟩) (n + 1) cap)) w') :
    if Region.wanted o (yielded ops a.tmps) = true then Oper.wp P o a w K Q else F := by
  rw [if_pos hw]
  obtain ⟨g, cap, w', hr, h2, h3, h4⟩ := run_push3 (P := P) w t o.type hT hown ad c u hc hu h63 hbytes hbase
  unfold Oper.wp execOp
  simp only [ho, resolve, invoke, builtin, Sem.run_bind, Sem.run_pure, Result.andThen_ok, List.map_toArray, List.map_cons, List.map_nil, hs, hx, hr]
  exact h g cap w' h2 h3 h4

/-- What an append behind a box has written. -/
theorem push3_keeps {w w' : World} {o : Obj} {v : Value} {g n cap : Nat} (hor : (v = .slice (some ⟨g, 0, none⟩) n cap ∧ (w.alloc o).grownBy w' (some g)) ∨ ((w.alloc o).heap.size ≤ g ∧ (w.alloc o).grownBy w' none)) :
    Keeps (fun b => v.ownBlock = some b) w w' ∧ (v.ownBlock = some g ∨ w.heap.size ≤ g) := by
  have h0 : Keeps (fun b => v.ownBlock = some b) w (w.alloc o) := Keeps.of_pure ((Below.refl _ _).alloc (Nat.le_refl _) _) _
  rcases hor with ⟨rfl, h⟩ | ⟨h1, h⟩
  · exact ⟨h0.trans ((Keeps.of_grown h).mono (fun b _ e => e)) (fun _ _ h => h), .inl rfl⟩
  · exact ⟨h0.trans (Keeps.of_grown h) (fun b _ e => by cases e), .inr (by simp at h1; omega)⟩
/-- The row as a block of its type. -/
theorem own_block {w : World} {base e n g : Nat} {v : Value} {xs : List Value} (h : w.ownsRow base e 1 v n xs) (hg : v.ownBlock = some g) : ∃ cs, w.heap[g]? = some (.cells cs e (0, 0)) := by
  rcases h.2 with ⟨rfl, _⟩ | ⟨g', cap, cur, rfl, _, hh, _⟩
  · cases hg
  · have e' : g' = g := by simpa [Value.ownBlock] using hg
    subst e'
    exact ⟨_, hh⟩
end Go.Proofs.YtibplgpolmplpaaGreatDoor

namespace Go.Proofs.YtibplgpolmplpaaGreatDoor
open Go.RowKit RuleP

namespace RuleP
theorem wval_digB {k : Nat} (_ : 0 < k) : ∀ {n x : Nat}, x < k ^ n → wval k (digB k n x) = x := by
  intro n
  induction n with
  | zero => intro x hx; simp at hx; subst hx; rfl
  | succ n ih =>
    intro x hx
    rw [digB, wval_snoc, ih (Nat.div_lt_of_lt_mul (by rw [Nat.pow_succ, Nat.mul_comm] at hx; exact hx)), Nat.mul_comm]
    exact Nat.div_add_mod x k
end RuleP

end Go.Proofs.YtibplgpolmplpaaGreatDoor

namespace Go.Proofs.YtibplgpolmplpaaGreatDoor
open Go.RowKit RuleP

/-- Has the word a preimage. -/
def hasB (k r : Nat) (t W : List Nat) : Bool := decide (before k r t W ≠ [])

/-- How many nodes. -/
def nodesN (K R : Int) : Nat := K.toNat ^ (2 * R.toNat)

set_option maxRecDepth 100000 in
theorem overNodes_c (w : World) (E : Nat → Addr) (hE : Errs w E) (K R : Int) (A : Option Addr) (n c : Nat) (T : List Int) (hT : Sl w A n (T.map (Value.int .i64))) (hm : n ≤ 9223372036854775807) :
    Calls Tryz.prog 41 #[ruleV K R A n c] w fun e w' => ∃ v, e = .returned (.tuple #[.int .i64 (if smallO K R T = none then (nodesN K R : Int) else 0), v]) ∧ ErrV w' E (smallO K R T) v ∧ Below w.heap.size w w' := by
  have hr0 := RuleAt.new w (.int .i64 K) (.int .i64 R) (.slice A n c)
  have hb0 := (Below.refl w.heap.size w).alloc (Nat.le_refl _) (.cells #[.int .i64 K, .int .i64 R, .slice A n c] 24)
  obtain ⟨r0, r1, r2, _⟩ := hr0.facts
  have HS := Lib.hid (overSmall_c _ E (hE.below hb0) K R A n c T (hT.below hb0) hm)
  have HR := Lib.hid hr0
  have hl : T.length = n := by simpa using hT.1
  clear hr0 hb0 hT hE
  cases ho : smallO K R T with
  | some t =>
    rw [ho] at HS
    rw [if_neg (by simp)]
    unfold ruleV at *
    clear ho
    go_enter Tryz.func41, Tryz.ntmps41
    go_wp2_with fail
    refine (HS.out).mono ?_
    rintro e w1 ⟨v, rfl, he, hb⟩
    obtain ⟨u, p, rfl⟩ := ErrIs.iface (show ErrIs w1 E t.1 t.2 v from he)
    have HP := Lib.hid he
    have HB1 := Lib.hid (below_box hb)
    clear he hb
    go_wp2_with fail
    go_ret2
    exact ⟨_, rfl, HP.out, HB1.out⟩
  | none =>
    rw [if_pos rfl]
    obtain ⟨k, r, t, rfl, rfl, rfl, hr, h256⟩ := smallO_none ho
    rw [ho] at HS
    have hk1 := hr.k1
    have hnd := (nodes_div hr).1
    rw [ints_len] at hl
    subst hl
    have HND := Lib.hid (fun wz => nodes_c wz (k := k) (r := r) (A := A) (n := t.length) (c := c) hk1 (by omega))
    rw [hnd] at HND
    unfold ruleV at *
    clear ho hr hnd
    go_enter Tryz.func41, Tryz.ntmps41
    go_wp2_with fail
    refine (HS.out).mono ?_
    rintro e w1 ⟨v, rfl, rfl, hb⟩
    obtain ⟨q0, q1, q2, _⟩ := (HR.out.below hb (by simp)).facts
    have HB1 := Lib.hid (below_box hb)
    clear hb
    go_wp2_with fail
    refine (HND.out _).mono ?_
    rintro e w2 ⟨rfl, hb2⟩
    have HB2 := Lib.hid (HB1.out.trans (hb2.mono HB1.out.size))
    clear hb2
    go_wp2_with fail
    go_ret2
    exact ⟨_, rfl, rfl, HB2.out⟩
end Go.Proofs.YtibplgpolmplpaaGreatDoor

namespace Go.Proofs.YtibplgpolmplpaaGreatDoor
open Go.RowKit RuleP

set_option maxRecDepth 100000 in
set_option maxHeartbeats 2000000 in
theorem edge_good (w : World) (E : Nat → Addr) (hE : Errs w E) (k r u s : Nat) (A : Option Addr) (n c : Nat) (t : List Nat) (hT : Sl w A n ((ints t).map (Value.int .i64))) (hr : IsRule k r t) (h256 : t.length ≤ 256) (hu : u < k ^ (2 * r)) (hs : s < k) :
    Calls Tryz.prog 108 #[ruleV k r A n c, .int .i64 (u : Int), .int .i64 (s : Int)] w fun e w' => e = .returned (.tuple #[.int .i64 (((u * k + s) % k ^ (2 * r) : Nat) : Int), .int .i64 ((t.getD (u * k + s) 0 : Nat) : Int), .nilIface]) ∧ Below w.heap.size w w' := by
  have hr0 := RuleAt.new w (.int .i64 k) (.int .i64 r) (.slice A n c)
  have hb0 := (Below.refl w.heap.size w).alloc (Nat.le_refl _) (.cells #[.int .i64 (k : Int), .int .i64 (r : Int), .slice A n c] 24)
  obtain ⟨r0, r1, r2, _⟩ := hr0.facts
  have hl : t.length = n := by simpa [ints] using hT.1
  subst hl
  have hsm := overSmall_c _ E (hE.below hb0) k r A t.length c (ints t) (hT.below hb0) (by omega)
  rw [smallO_rule hr h256] at hsm
  have HS := Lib.hid hsm
  have HT := Lib.hid hT
  have HR := Lib.hid hr0
  have hk1 := hr.k1
  have hk4 := hr.k4
  obtain ⟨hnd, hNk⟩ := nodes_div hr
  have HND := Lib.hid (fun wz => nodes_c wz (k := k) (r := r) (A := A) (n := t.length) (c := c) hk1 (by omega))
  rw [hnd] at HND
  obtain ⟨N, hNN⟩ : ∃ N, k ^ (2 * r) = N := ⟨_, rfl⟩
  rw [hNN] at HND hu hNk ⊢
  have hN0 : 0 < N := by omega
  have hq1 : u * k + s < t.length := by
    rw [hNk]
    have : (u + 1) * k ≤ N * k := Nat.mul_le_mul_right _ hu
    rw [Nat.add_mul, Nat.one_mul] at this
    omega
  obtain ⟨q, hq⟩ : ∃ q, u * k = q := ⟨_, rfl⟩
  have hqi : IntKind.i64.wrap ((u : Int) * (k : Int)) = (q : Int) := by
    rw [show (u : Int) * (k : Int) = (q : Int) by rw [← hq]; simp]
    exact IntWalk.i64_in _ (by rw [hq] at hq1; omega)
  rw [hq] at hq1 ⊢
  obtain ⟨e0, hee⟩ : ∃ e0, q + s = e0 := ⟨_, rfl⟩
  have hei : IntKind.i64.wrap ((q : Int) + (s : Int)) = (e0 : Int) := by
    rw [show (q : Int) + (s : Int) = (e0 : Int) by omega]
    exact IntWalk.i64_in _ (by omega)
  rw [hee] at hq1 ⊢
  have n0 : ¬ N = 0 := by omega
  have n1 : ¬ ((N : Int) = 0) := by omega
  have n2 : ((N : Int) == 0) = false := by simp; omega
  have n3 : IntKind.i64.wrap ((e0 : Int).tmod (N : Int)) = ((e0 % N : Nat) : Int) := by
    rw [show (e0 : Int).tmod (N : Int) = ((e0 % N : Nat) : Int) from rfl]
    have hml : e0 % N ≤ e0 := Nat.mod_le _ _
    generalize e0 % N = z at hml
    exact IntWalk.i64_in _ (by omega)
  have a1 : decide ((u : Int) < 0) = false := decide_eq_false (by omega)
  have a2 : decide ((N : Int) ≤ (u : Int)) = false := decide_eq_false (by omega)
  have a3 : decide ((s : Int) < 0) = false := decide_eq_false (by omega)
  have a4 : decide ((k : Int) ≤ (s : Int)) = false := decide_eq_false (by omega)
  have a5 : ¬ N ≤ u := by omega
  have a6 : ¬ k ≤ s := by omega
  obtain ⟨y, hy⟩ : ∃ y, t.getD e0 0 = y := ⟨_, rfl⟩
  rw [hy]
  have HY := Lib.hid hy
  have HN3 := Lib.hid n3
  unfold ruleV at *
  clear hb0 hr0 hT hE hr hnd hNk hNN hq hee hsm hy
  go_enter Tryz.func108, Tryz.ntmps108
  go_wp2_with fail
  refine (HS.out).mono ?_
  rintro e w1 ⟨v, rfl, rfl, hb⟩
  have hr1 := HR.out.below hb (by simp)
  obtain ⟨q0, q1, q2, _⟩ := hr1.facts
  have HB1 := Lib.hid (below_box hb)
  have HR1 := Lib.hid hr1
  clear hb hr1
  go_wp2_with fail
  refine (HND.out _).mono ?_
  rintro e w2 ⟨rfl, hb2⟩
  have hr2 := HR1.out.below hb2 HR1.out.lt
  obtain ⟨p0, p1, p2, _⟩ := hr2.facts
  have HR2 := Lib.hid hr2
  have HB2 := Lib.hid (HB1.out.trans (hb2.mono HB1.out.size))
  clear hb2 hr2
  have hT2 := HT.out.below HB2.out
  rw [ints_map] at hT2
  obtain ⟨ta, y', rfl, hye, htc⟩ := hT2.word_ hq1
  obtain rfl : y' = y := by
    have := HY.out
    rw [List.getD_eq_getElem?_getD, hye] at this
    exact this
  have HT2 := Lib.hid hT2
  clear hT2 hye
  go_wp2_with fail
  go_region_held3 (fun w' => w'.cell? ⟨w.heap.size, 0, none⟩ = some (.int .i64 (k : Int)) ∧ w'.cell? ⟨w.heap.size, 1, none⟩ = some (.int .i64 (r : Int)) ∧ w'.cell? ⟨w.heap.size, 2, none⟩ = some (.slice (some ta) t.length c) ∧ w'.cell? (ta.add e0) = some (.int .i64 (y' : Int)))
    (first | (refine ⟨?_, ?_, ?_, ?_⟩ <;> assumption) | go_keep)
    (first
      | (go_at_call 93
         refine (HND.out _).mono ?_
         rintro e3 w3 ⟨rfl, hb3⟩
         have x0 := cell_later hb3 p0
         have x1 := cell_later hb3 p1
         have x2 := cell_later hb3 p2
         have x3 := cell_later hb3 htc))
  have HB3 := Lib.hid (HB2.out.trans ((Below.refl w2.heap.size w2).drew.trans hb3 |>.mono HB2.out.size))
  clear hb3 x0 x1 x2 x3 p0 p1 p2 htc
  go_wp2_with fail
  go_ret3
  exact ⟨rfl, HB3.out⟩
end Go.Proofs.YtibplgpolmplpaaGreatDoor
