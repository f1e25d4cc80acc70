/- What a bag answers to any call, and how the document's sets (rising lists) lie beside the program's (words of bits): plain lists, no program. No condition. bag's answers where something is wrong: no bag, a number that no member can be, a set that is not there, a bag that cannot be. Condition: the error variables hold what E says. -/
import Derived.Test.YtiobnnhjnkcafaaDoorP4
import Derived.Test.YtiobnnhjnkcafaaDoorP5
namespace Go.Proofs.YtiobnnhjnkcafaaDoor
open BagP RuleP
namespace BagR

/-- Of the first i numbers those that differ from the one ahead. -/
def dedTo (l : List Int) : Nat → List Int
  | 0 => []
  | i + 1 => dedTo l i ++ if i = 0 ∨ l.getD i 0 ≠ l.getD (i - 1) 0 then [l.getD i 0] else []
theorem dedTo_succ (l : List Int) (i : Nat) : dedTo l (i + 1) = dedTo l i ++ if i = 0 ∨ l.getD i 0 ≠ l.getD (i - 1) 0 then [l.getD i 0] else [] := rfl
theorem dedTo_len (l : List Int) : ∀ i, (dedTo l i).length ≤ i
  | 0 => Nat.le_refl _
  | i + 1 => by
    rw [dedTo_succ, List.length_append]
    have := dedTo_len l i
    split <;> simp <;> omega
theorem getD_in {l : List Int} {i : Nat} (h : i < l.length) : l[i]? = some (l.getD i 0) := by rw [List.getD_eq_getElem?_getD, List.getElem?_eq_getElem h]; rfl
theorem dedTo_mem {l : List Int} : ∀ {i : Nat}, i ≤ l.length → ∀ x, x ∈ dedTo l i ↔ x ∈ l.take i
  | 0, _, x => by simp [dedTo]
  | i + 1, h, x => by
    rw [dedTo_succ, List.take_add_one, getD_in (by omega), List.mem_append, List.mem_append, dedTo_mem (by omega)]
    by_cases hc : i = 0 ∨ l.getD i 0 ≠ l.getD (i - 1) 0
    · rw [if_pos hc]; simp
    · rw [if_neg hc]
      have h1 : l.getD i 0 = l.getD (i - 1) 0 := Classical.not_not.1 (fun e => hc (.inr e))
      have h0 : 0 < i := Nat.pos_of_ne_zero (fun e => hc (.inl e))
      have hm : l.getD (i - 1) 0 ∈ l.take i := List.mem_take_iff_getElem.2 ⟨i - 1, by omega, by rw [List.getD_eq_getElem?_getD, List.getElem?_eq_getElem (by omega)]; rfl⟩
      constructor
      · rintro (h | h)
        · exact .inl h
        · simp at h
      · rintro (h | h)
        · exact .inl h
        · have e : x = l.getD i 0 := by simpa using h
          rw [e, h1]
          exact .inl hm
theorem dedTo_rise {l : List Int} (hs : l.Pairwise (· ≤ ·)) : ∀ {i : Nat}, i ≤ l.length → (dedTo l i).Pairwise (· < ·) ∧ ∀ x ∈ dedTo l i, 0 < i → x ≤ l.getD (i - 1) 0
  | 0, _ => ⟨List.Pairwise.nil, fun x hx => by simp [dedTo] at hx⟩
  | i + 1, h => by
    obtain ⟨h1, h2⟩ := dedTo_rise hs (i := i) (by omega)
    have hle : ∀ j, j < i → l.getD j 0 ≤ l.getD i 0 := fun j hj => by
      have := List.pairwise_iff_getElem.1 hs j i (by omega) (by omega) hj
      rw [List.getD_eq_getElem?_getD, List.getD_eq_getElem?_getD, List.getElem?_eq_getElem (by omega), List.getElem?_eq_getElem (by omega)]
      exact this
    have hmx : ∀ x ∈ dedTo l i, x ≤ l.getD i 0 := fun x hx => by
      rcases Nat.eq_zero_or_pos i with rfl | h0
      · simp [dedTo] at hx
      · exact Int.le_trans (h2 x hx h0) (hle (i - 1) (by omega))
    rw [dedTo_succ]
    by_cases hc : i = 0 ∨ l.getD i 0 ≠ l.getD (i - 1) 0
    · rw [if_pos hc]
      refine ⟨List.pairwise_append.2 ⟨h1, List.pairwise_singleton .., fun x hx y hy => ?_⟩, fun x hx _ => ?_⟩
      · rw [List.mem_singleton.1 hy]
        rcases Nat.eq_zero_or_pos i with rfl | h0
        · simp [dedTo] at hx
        · have hne : l.getD i 0 ≠ l.getD (i - 1) 0 := hc.resolve_left (by omega)
          have a1 := h2 x hx h0
          have a2 := hle (i - 1) (by omega)
          omega
      · rcases List.mem_append.1 hx with hx | hx
        · exact hmx x hx
        · rw [List.mem_singleton.1 hx]; exact Int.le_refl _
    · rw [if_neg hc, List.append_nil]
      exact ⟨h1, fun x hx _ => hmx x hx⟩
/-- Two rising lists that name the same numbers are one. -/
theorem rise_ext : ∀ {a b : List Int}, a.Pairwise (· < ·) → b.Pairwise (· < ·) → (∀ x, x ∈ a ↔ x ∈ b) → a = b
  | [], [], _, _, _ => rfl
  | [], y :: _, _, _, h => absurd ((h y).2 (List.mem_cons_self ..)) (by simp)
  | x :: _, [], _, _, h => absurd ((h x).1 (List.mem_cons_self ..)) (by simp)
  | x :: a, y :: b, ha, hb, h => by
    rw [List.pairwise_cons] at ha hb
    have e : x = y := by
      rcases List.mem_cons.1 ((h x).1 (List.mem_cons_self ..)) with e | hx
      · exact e
      · rcases List.mem_cons.1 ((h y).2 (List.mem_cons_self ..)) with e | hy
        · exact e.symm
        · have := ha.1 y hy
          have := hb.1 x hx
          omega
    subst e
    rw [rise_ext ha.2 hb.2 fun z => ?_]
    constructor
    · intro hz
      rcases List.mem_cons.1 ((h z).1 (List.mem_cons_of_mem _ hz)) with e | hz'
      · have := ha.1 z hz; omega
      · exact hz'
    · intro hz
      rcases List.mem_cons.1 ((h z).2 (List.mem_cons_of_mem _ hz)) with e | hz'
      · have := hb.1 z hz; omega
      · exact hz'
theorem mem_bits {n : Nat} {xs : List Int} (hx : ∀ x ∈ xs, 0 ≤ x ∧ x < (n : Int)) (x : Int) : x ∈ getL n (bitsOf n xs) ↔ x ∈ xs := by
  rw [mem_getL]
  constructor
  · rintro ⟨y, _, h2, rfl⟩
    rw [has_bitsOf hx] at h2
    exact of_decide_eq_true h2
  · intro h
    obtain ⟨h1, h2⟩ := hx x h
    refine ⟨x.toNat, by omega, ?_, by omega⟩
    rw [has_bitsOf hx, show ((x.toNat : Nat) : Int) = x by omega]
    exact decide_eq_true h
/-- The document's set of a list: sorted, each once. -/
theorem set_eq {n : Nat} {xs ys : List Int} (hx : ∀ x ∈ xs, 0 ≤ x ∧ x < (n : Int)) (hs : ys.Pairwise (· ≤ ·)) (hm : ∀ x, x ∈ ys ↔ x ∈ xs) : dedTo ys ys.length = getL n (bitsOf n xs) := by
  refine rise_ext (dedTo_rise hs (Nat.le_refl _)).1 (getL_rising n _) fun x => ?_
  rw [dedTo_mem (Nat.le_refl _), List.take_length, hm, mem_bits hx]

/-- A set's words: as many as there must be, no bit of n or beyond. -/
structure Good (n : Nat) (l : List Nat) : Prop where
  len : l.length = wlen n
  ok : Ok64 l
  top : ∀ y, n ≤ y → hasB l y = false
theorem good_bits {n : Nat} {xs : List Int} (hx : ∀ x ∈ xs, 0 ≤ x ∧ x < (n : Int)) : Good n (bitsOf n xs) where
  len := length_bitsOf n xs
  ok := ok_bitsOf n xs
  top := fun y hy => by
    rw [has_bitsOf hx]
    exact decide_eq_false fun h => by have := (hx _ h).2; omega
theorem good_ext {n : Nat} {a b : List Nat} (ha : Good n a) (hb : Good n b) (h : ∀ y, y < n → hasB a y = hasB b y) : a = b :=
  ext_words (by rw [ha.len, hb.len]) ha.ok hb.ok fun y _ => by
    rcases Nat.lt_or_ge y n with hy | hy
    · exact h y hy
    · rw [ha.top y hy, hb.top y hy]
theorem getL_range (n : Nat) (l : List Nat) : ∀ x ∈ getL n l, 0 ≤ x ∧ x < (n : Int) := fun x hx => by
  obtain ⟨y, h1, _, rfl⟩ := mem_getL.1 hx
  omega
theorem mem_getN {n y : Nat} {l : List Nat} : ((y : Nat) : Int) ∈ getL n l ↔ y < n ∧ hasB l y = true := by
  rw [mem_getL]
  constructor
  · rintro ⟨z, h1, h2, e⟩
    obtain rfl : y = z := Int.ofNat.inj e
    exact ⟨h1, h2⟩
  · rintro ⟨h1, h2⟩
    exact ⟨y, h1, h2, rfl⟩
theorem getL_inj {n : Nat} {a b : List Nat} (ha : Good n a) (hb : Good n b) (h : getL n a = getL n b) : a = b :=
  good_ext ha hb fun y hy => by
    have e : ((y : Nat) : Int) ∈ getL n a ↔ ((y : Nat) : Int) ∈ getL n b := by rw [h]
    rw [mem_getN, mem_getN] at e
    cases h1 : hasB a y <;> cases h2 : hasB b y
    · rfl
    · have := (e.2 ⟨hy, h2⟩).2; rw [h1] at this; cases this
    · have := (e.1 ⟨hy, h1⟩).2; rw [h2] at this; cases this
    · rfl
theorem has_orL' : ∀ {x y : List Nat} (_ : x.length = y.length) (z : Nat), hasB (orL x y) z = (hasB x z || hasB y z) := by
  intro x y hl z
  unfold hasB orL
  rw [List.getD_eq_getElem?_getD, List.getD_eq_getElem?_getD, List.getD_eq_getElem?_getD, List.getElem?_zipWith]
  rcases Nat.lt_or_ge (z / 64) x.length with h | h
  · rw [List.getElem?_eq_getElem h, List.getElem?_eq_getElem (by omega)]
    simp [Nat.testBit_or]
  · rw [List.getElem?_eq_none (by omega), List.getElem?_eq_none (by omega)]
    simp
theorem good_or {n : Nat} {x y : List Nat} (hx : Good n x) (hy : Good n y) : Good n (orL x y) where
  len := by unfold orL; rw [List.length_zipWith, hx.len, hy.len, Nat.min_self]
  ok := by
    intro u hu
    unfold orL at hu
    obtain ⟨i, hi⟩ := List.getElem?_of_mem hu
    rw [List.getElem?_zipWith] at hi
    cases h1 : x[i]? with
    | none => rw [h1] at hi; cases hi
    | some a =>
      cases h2 : y[i]? with
      | none => rw [h1, h2] at hi; cases hi
      | some b =>
        rw [h1, h2] at hi
        cases hi
        exact Nat.or_lt_two_pow (hx.ok a (List.mem_of_getElem? h1)) (hy.ok b (List.mem_of_getElem? h2))
  top := fun z hz => by rw [has_orL' (by rw [hx.len, hy.len]), hx.top z hz, hy.top z hz]; rfl
/-- The union is the set of both lists together. -/
theorem bits_union {n : Nat} {x y : List Nat} (hx : Good n x) (hy : Good n y) : bitsOf n (getL n x ++ getL n y) = orL x y := by
  have hr : ∀ z ∈ getL n x ++ getL n y, 0 ≤ z ∧ z < (n : Int) := fun z hz => (List.mem_append.1 hz).elim (getL_range n x z) (getL_range n y z)
  refine good_ext (good_bits hr) (good_or hx hy) fun z hz => ?_
  rw [has_bitsOf hr, has_orL' (by rw [hx.len, hy.len])]
  cases h1 : hasB x z <;> cases h2 : hasB y z
  · exact decide_eq_false fun h => by
      rcases List.mem_append.1 h with h | h
      · have := (mem_getN.1 h).2; rw [h1] at this; cases this
      · have := (mem_getN.1 h).2; rw [h2] at this; cases this
  · exact decide_eq_true (List.mem_append.2 (.inr (mem_getN.2 ⟨hz, h2⟩)))
  · exact decide_eq_true (List.mem_append.2 (.inl (mem_getN.2 ⟨hz, h1⟩)))
  · exact decide_eq_true (List.mem_append.2 (.inl (mem_getN.2 ⟨hz, h1⟩)))
/-- Is x told by the rising list? -/
theorem mem_has {n : Nat} {l : List Nat} (x : Int) : decide (x ∈ getL n l) = (decide (0 ≤ x ∧ x < (n : Int)) && hasB l x.toNat) := by
  by_cases h : 0 ≤ x ∧ x < (n : Int)
  · rw [decide_eq_true h, Bool.true_and]
    obtain ⟨y, rfl⟩ : ∃ y : Nat, x = (y : Int) := ⟨x.toNat, by omega⟩
    rw [Int.toNat_natCast]
    cases hb : hasB l y with
    | true => exact decide_eq_true (mem_getN.2 ⟨by omega, hb⟩)
    | false => exact decide_eq_false fun e => by have := (mem_getN.1 e).2; rw [hb] at this; cases this
  · rw [decide_eq_false h, Bool.false_and]
    exact decide_eq_false fun e => h (getL_range n l x e)

/-! ### keys of the document's map -/
def getN (n : Nat) (l : List Nat) : List Nat := (List.range n).filter (hasB l)
theorem getL_getN (n : Nat) (l : List Nat) : getL n l = ints (getN n l) := rfl
theorem getN_lt {n : Nat} {l : List Nat} : ∀ x ∈ getN n l, x < n := fun x hx => List.mem_range.1 (List.mem_filter.1 hx).1
theorem getN_inj {n : Nat} {a b : List Nat} (ha : Good n a) (hb : Good n b) (h : getN n a = getN n b) : a = b := getL_inj ha hb (by rw [getL_getN, getL_getN, h])
theorem mem_sets {n : Nat} {S : List (List Nat)} (hS : ∀ l ∈ S, Good n l) {l : List Nat} (hl : Good n l) : getN n l ∈ S.map (getN n) ↔ l ∈ S := by
  constructor
  · intro hm
    obtain ⟨a, ha, e⟩ := List.mem_map.1 hm
    rw [← getN_inj (hS a ha) hl e]
    exact ha
  · exact fun hm => List.mem_map_of_mem hm
theorem idx_sets {n : Nat} : ∀ {S : List (List Nat)}, (∀ l ∈ S, Good n l) → ∀ {l : List Nat}, Good n l → (S.map (getN n)).idxOf (getN n l) = S.idxOf l
  | [], _, _, _ => rfl
  | a :: S, hS, l, hl => by
    rw [List.map_cons, List.idxOf_cons, List.idxOf_cons]
    by_cases e : a = l
    · subst e; simp
    · have : getN n a ≠ getN n l := fun h => e (getN_inj (hS a (List.mem_cons_self ..)) hl h)
      have h1 : (a == l) = false := by simpa using e
      have h2 : (getN n a == getN n l) = false := by simpa using this
      rw [h1, h2]
      simp only [cond_false]
      rw [idx_sets (fun b hb => hS b (List.mem_cons_of_mem _ hb)) hl]

/-! ### what is answered -/
abbrev Tl := Option (Nat × List (ByteArray × Int))
def bagS : ByteArray := ⟨#[98, 97, 103]⟩
def outB (n : Nat) (xs : List Int) : Option Nat := xs.findIdx? fun x => decide (x < 0 ∨ (n : Int) ≤ x)
def putL (S : List (List Nat)) (l : List Nat) : (Nat × Bool × Tl) × List (List Nat) :=
  if l ∈ S then ((S.idxOf l, false, none), S) else if 4096 ≤ S.length then ((0, false, some (4, [(bagS, 0)])), S) else ((S.length, true, none), S ++ [l])
def putF (n : Nat) (S : List (List Nat)) (xs : List Int) : (Nat × Bool × Tl) × List (List Nat) :=
  match outB n xs with
  | some i => ((0, false, some (3, [(bagS, (i : Int))])), S)
  | none => putL S (bitsOf n xs)
def findF (n : Nat) (S : List (List Nat)) (xs : List Int) : Int × Tl :=
  match outB n xs with
  | some i => (0, some (3, [(bagS, (i : Int))]))
  | none => (if bitsOf n xs ∈ S then ((S.idxOf (bitsOf n xs) : Nat) : Int) else -1, none)
def inS (S : List (List Nat)) (i : Int) : Prop := 0 ≤ i ∧ i < (S.length : Int)
instance (S : List (List Nat)) (i : Int) : Decidable (inS S i) := inferInstanceAs (Decidable (_ ∧ _))
def getF (n : Nat) (S : List (List Nat)) (i : Int) : List Int × Tl := if inS S i then (getL n (S.getD i.toNat []), none) else ([], some (3, [(bagS, 0)]))
def hasF (n : Nat) (S : List (List Nat)) (i x : Int) : Bool × Tl := if inS S i then (decide (x ∈ getL n (S.getD i.toNat [])), none) else (false, some (3, [(bagS, 0)]))
def unionF (S : List (List Nat)) (i j : Int) : (Nat × Bool × Tl) × List (List Nat) :=
  if inS S i then if inS S j then putL S (orL (S.getD i.toNat []) (S.getD j.toNat [])) else ((0, false, some (3, [(bagS, 1)])), S) else ((0, false, some (3, [(bagS, 0)])), S)
/-- The sets are kept as they must be. -/
structure GoodS (n : Nat) (S : List (List Nat)) : Prop where
  good : ∀ l ∈ S, Good n l
  nd : S.Nodup
  big : S.length ≤ 4096
theorem GoodS.nil (n : Nat) : GoodS n [] := ⟨fun l hl => by simp at hl, List.nodup_nil, Nat.zero_le _⟩
theorem GoodS.putL {n : Nat} {S : List (List Nat)} (h : GoodS n S) {l : List Nat} (hl : Good n l) : GoodS n (putL S l).2 := by
  unfold BagR.putL
  by_cases h1 : l ∈ S
  · rw [if_pos h1]; exact h
  · rw [if_neg h1]
    by_cases h2 : 4096 ≤ S.length
    · rw [if_pos h2]; exact h
    · rw [if_neg h2]
      refine ⟨fun a ha => ?_, ?_, by simp; omega⟩
      · rcases List.mem_append.1 ha with ha | ha
        · exact h.good a ha
        · rw [List.mem_singleton.1 ha]; exact hl
      · rw [List.nodup_append]
        exact ⟨h.nd, by simp, fun a ha b hb e => by rw [List.mem_singleton.1 hb] at e; rw [e] at ha; exact h1 ha⟩
theorem out_none {n : Nat} {xs : List Int} (h : outB n xs = none) : ∀ x ∈ xs, 0 ≤ x ∧ x < (n : Int) := by
  unfold outB at h
  rw [List.findIdx?_eq_none_iff] at h
  intro x hx
  have := h x hx
  simp at this
  omega
theorem GoodS.putF {n : Nat} {S : List (List Nat)} (h : GoodS n S) (xs : List Int) : GoodS n (putF n S xs).2 := by
  unfold BagR.putF
  cases ho : outB n xs with
  | some i => exact h
  | none => exact h.putL (good_bits (out_none ho))
theorem GoodS.at_ {n : Nat} {S : List (List Nat)} (h : GoodS n S) {i : Int} (hi : inS S i) : S[i.toNat]? = some (S.getD i.toNat []) ∧ Good n (S.getD i.toNat []) := by
  have h1 : i.toNat < S.length := by have := hi.1; have := hi.2; omega
  have e : S[i.toNat]? = some (S.getD i.toNat []) := by rw [List.getD_eq_getElem?_getD, List.getElem?_eq_getElem h1]; rfl
  exact ⟨e, h.good _ (List.mem_of_getElem? e)⟩
theorem GoodS.unionF {n : Nat} {S : List (List Nat)} (h : GoodS n S) (i j : Int) : GoodS n (unionF S i j).2 := by
  unfold BagR.unionF
  by_cases h1 : inS S i
  · rw [if_pos h1]
    by_cases h2 : inS S j
    · rw [if_pos h2]; exact h.putL (good_or (h.at_ h1).2 (h.at_ h2).2)
    · rw [if_neg h2]; exact h
  · rw [if_neg h1]; exact h
end BagR
end Go.Proofs.YtiobnnhjnkcafaaDoor

namespace Go.Proofs.YtiobnnhjnkcafaaDoor
open Go.RowKit Go.WideMaps Go.Maps BagP

theorem out_some {n : Nat} {xs : List Int} {i : Nat} (h : BagR.outB n xs = some i) : ∃ x, xs[i]? = some x ∧ (x < 0 ∨ (n : Int) ≤ x) ∧ ∀ (k : Nat) (y : Int), k < i → xs[k]? = some y → 0 ≤ y ∧ y < (n : Int) := by
  unfold BagR.outB at h
  rw [List.findIdx?_eq_some_iff_getElem] at h
  obtain ⟨hi, h1, h2⟩ := h
  refine ⟨xs[i], List.getElem?_eq_getElem hi, of_decide_eq_true h1, fun k y hk hy => ?_⟩
  have h3 := h2 k hk
  have e : xs[k] = y := by rw [List.getElem?_eq_getElem (by omega)] at hy; exact Option.some.inj hy
  rw [e] at h3
  simp at h3
  omega

theorem newBag_neg (w : World) (E : Nat → Addr) (hE : Errs w E) (n : Int) (h : n < 0) :
    Calls Tryd.prog 5 #[.int .i64 n] w fun e w' => ∃ b, e = .returned (.tuple #[.pointer none, errV b]) ∧ ErrIs w' E 3 [(sBag, 0)] (errV b) ∧ Below w.heap.size w w' := by
  have HE := Lib.hid hE
  clear hE
  go_enter Tryd.func5, Tryd.ntmps5
  go_wp2_with fail
  refine (bagWrong_c w E HE.out 0 3 (by decide) (by decide)).mono ?_
  rintro e w1 ⟨rfl, he, hb⟩
  go_wp2_with fail
  go_ret2
  exact ⟨_, rfl, he, hb⟩
theorem newBag_big (w : World) (E : Nat → Addr) (hE : Errs w E) (n : Int) (h : 8192 < n) :
    Calls Tryd.prog 5 #[.int .i64 n] w fun e w' => ∃ b, e = .returned (.tuple #[.pointer none, errV b]) ∧ ErrIs w' E 4 [(sBag, 0)] (errV b) ∧ Below w.heap.size w w' := by
  have HE := Lib.hid hE
  have h0 : ¬ n < 0 := by omega
  clear hE
  go_enter Tryd.func5, Tryd.ntmps5
  go_wp2_with fail
  refine (bagWrong_c w E HE.out 0 4 (by decide) (by decide)).mono ?_
  rintro e w1 ⟨rfl, he, hb⟩
  go_wp2_with fail
  go_ret2
  exact ⟨_, rfl, he, hb⟩

/-- No bag. -/
theorem bits_nil (w : World) (E : Nat → Addr) (hE : Errs w E) (A : Option Addr) (m c : Nat) :
    Calls Tryd.prog 30 #[.pointer none, .slice A m c] w fun e w' => ∃ b, e = .returned (.tuple #[.slice none 0 0, errV b]) ∧ ErrIs w' E 11 [(sBag, 0)] (errV b) ∧ Below w.heap.size w w' := by
  have HE := Lib.hid hE
  clear hE
  go_enter Tryd.func30, Tryd.ntmps30
  go_wp2_with fail
  refine (bagWrong_c w E HE.out 0 11 (by decide) (by decide)).mono ?_
  rintro e w1 ⟨rfl, he, hb⟩
  go_wp2_with fail
  go_ret2
  exact ⟨_, rfl, he, hb⟩
set_option maxRecDepth 100000 in
set_option maxHeartbeats 1000000 in
/-- The first number that no member can be. -/
theorem bits_bad (w : World) (E : Nat → Addr) (hE : Errs w E) (bb n : Nat) (hn : n ≤ 8192) (hc : w.cell? ⟨bb, 0, none⟩ = some (.int .i64 (n : Int))) (A : Option Addr) (m c : Nat) (xs : List Int) (hm : m ≤ 140737488355328)
    (h : Sl w A m (xs.map (Value.int .i64))) (i : Nat) (hi : BagR.outB n xs = some i) :
    Calls Tryd.prog 30 #[.pointer (some ⟨bb, 0, none⟩), .slice A m c] w fun e w' => ∃ b, e = .returned (.tuple #[.slice none 0 0, errV b]) ∧ ErrIs w' E 3 [(sBag, (i : Int))] (errV b) ∧ Below w.heap.size w w' := by
  obtain ⟨x0, hx0, hout, hx⟩ := out_some hi
  have hl : xs.length = m := by simpa using h.1
  have him : i < m := by rw [← hl]; exact (List.getElem?_eq_some_iff.1 hx0).1
  have hwl := wlen_le hn
  have hmk := run_make_row' (P := Tryd.prog) 79 82 (.int .u64 0) 8 tU64s.und tU64s.info rfl .i64 .i64 (wlen n) (by omega) (by omega)
  have hq : ((n : Int) + 63) / 64 = (wlen n : Int) := by unfold wlen; omega
  have HX0 := Lib.hid hx0
  have HOUT := Lib.hid hout
  have HE := Lib.hid hE
  clear hl hi hx0 hout hE
  go_enter Tryd.func30, Tryd.ntmps30
  go_wp2
  clear hmk hq
  go_loopw [21] (fun iv wr => ∃ k : Nat, k ≤ i ∧ iv = .int .i64 k ∧ wr.ownsRow w.heap.size 82 1 (.slice (some ⟨w.heap.size, 0, none⟩) (wlen n) (wlen n)) (wlen n) ((bitsTo (zeros n) (xs.take k)).map uv) ∧ Below w.heap.size w wr) (fun iv _ => i - (intOf iv).toNat)
  case atStart =>
    refine ⟨0, Nat.zero_le _, rfl, ?_, (Below.refl _ _).alloc (Nat.le_refl _) _⟩
    have := World.ownsRow_lit (base := w.heap.size) (e := 82) (size := 1) w (madeCells #[.int .u64 0] (wlen n)) (wlen n) (Nat.le_refl _) (by simp only [maxLen]; omega) (by rw [size_madeCells]; simp)
    rw [toList_madeCells_one] at this
    simpa [bitsTo, zeros, uv] using this
  case round =>
    obtain ⟨k, hk, rfl, hown, hb⟩ := hrel
    by_cases hlt : k < i
    · obtain ⟨ad, x, rfl, hxk, hcx⟩ := (h.below hb).int_ (show k < m by omega)
      obtain ⟨hx0, hxn⟩ := hx k x hlt hxk
      obtain ⟨y, rfl⟩ := Int.eq_ofNat_of_zero_le hx0
      have hcb := cell_later hb hc
      have hL : ((bitsTo (zeros n) (xs.take k)).map uv).length = wlen n := by rw [List.length_map, length_bitsTo]; simp [zeros]
      have hyw : y / 64 < wlen n := wlen_lt (by omega)
      have hcell := hown.cellAt (y / 64) (by omega)
      have hfr := hown.frozenAt (y / 64)
      rw [List.getElem?_map] at hcell
      obtain ⟨u, hu⟩ : ∃ u, (bitsTo (zeros n) (xs.take k))[y / 64]? = some u := ⟨_, List.getElem?_eq_getElem (by rw [List.length_map] at hL; omega)⟩
      rw [hu] at hcell
      simp only [Option.map_some, uv] at hcell
      have hkm : k < m := by omega
      have HU := Lib.hid hu
      have HX := Lib.hid hxk
      have HL2 := Lib.hid hL
      have HO := Lib.hid hown
      clear hu hxk hL hown hx0
      go_wp2
      go_region
      have hst := HO.out.stored (y / 64) (.int .u64 (bits .or .u64 (u : Int) (IntKind.u64.wrap (2 ^ (y % 64)))))
      have hval : ((bitsTo (zeros n) (xs.take k)).map uv).set (y / 64) (.int .u64 (bits .or .u64 (u : Int) (IntKind.u64.wrap (2 ^ (y % 64))))) = (bitsTo (zeros n) (xs.take (k + 1))).map uv := by
        rw [or_shift (ok_bitsTo _ (ok_zeros n) u (List.mem_of_getElem? HU.out)), bits_step HU.out HX.out, List.map_set]
        rfl
      rw [hval] at hst
      have R1 := hst.1
      have R2 := hb.grown hst.2 hb.size (fun j hj => by cases hj; exact Nat.le_refl _)
      clear hst hval hcell hfr hb HO
      go_wp2
      go_roundw
      case rel => exact ⟨k + 1, by omega, by go_num, R1.drew, R2.drew⟩
      case measure => simp [intOf]; omega
    · obtain rfl : k = i := by omega
      obtain ⟨ad, x, rfl, hxk, hcx⟩ := (h.below hb).int_ him
      obtain rfl : x = x0 := Option.some.inj (hxk.symm.trans HX0.out)
      have hcb := cell_later hb hc
      have HEB := Lib.hid (HE.out.below hb)
      have HB := Lib.hid hb
      clear hx hxk hb hown HE
      rcases HOUT.out with hneg | hbig
      · go_wp2_with fail
        refine (bagWrong_c wr E HEB.out (k : Int) 3 (by decide) (by decide)).mono ?_
        rintro e w2 ⟨rfl, he, hb2⟩
        go_wp2_with fail
        go_ret2
        exact ⟨_, rfl, he, HB.out.trans (hb2.mono HB.out.size)⟩
      · have hnneg : ¬ x < 0 := by omega
        go_wp2_with fail
        refine (bagWrong_c wr E HEB.out (k : Int) 3 (by decide) (by decide)).mono ?_
        rintro e w2 ⟨rfl, he, hb2⟩
        go_wp2_with fail
        go_ret2
        exact ⟨_, rfl, he, HB.out.trans (hb2.mono HB.out.size)⟩

set_option maxRecDepth 100000 in
theorem Put_err (w : World) (E : Nat → Addr) (p : Value) (A : Option Addr) (m c N : Nat) (at' : Int)
    (h : Calls Tryd.prog 30 #[p, .slice A m c] w fun e w' => ∃ b, e = .returned (.tuple #[.slice none 0 0, errV b]) ∧ ErrIs w' E N [(sBag, at')] (errV b) ∧ Below w.heap.size w w') :
    Calls Tryd.prog 12 #[p, .slice A m c] w fun e w' => ∃ b, e = .returned (.tuple #[.int .i64 0, .bool false, errV b]) ∧ ErrIs w' E N [(sBag, at')] (errV b) ∧ Below w.heap.size w w' := by
  have H := Lib.hid h
  clear h
  go_enter Tryd.func12, Tryd.ntmps12
  go_wp2_with fail
  refine H.out.mono ?_
  rintro e w1 ⟨b, rfl, he, hb⟩
  unfold errV
  go_wp2_with fail
  go_ret3
  exact ⟨b, rfl, he, hb⟩
set_option maxRecDepth 100000 in
theorem Find_err (w : World) (E : Nat → Addr) (p : Value) (A : Option Addr) (m c N : Nat) (at' : Int)
    (h : Calls Tryd.prog 30 #[p, .slice A m c] w fun e w' => ∃ b, e = .returned (.tuple #[.slice none 0 0, errV b]) ∧ ErrIs w' E N [(sBag, at')] (errV b) ∧ Below w.heap.size w w') :
    Calls Tryd.prog 20 #[p, .slice A m c] w fun e w' => ∃ b, e = .returned (.tuple #[.int .i64 0, errV b]) ∧ ErrIs w' E N [(sBag, at')] (errV b) ∧ Below w.heap.size w w' := by
  have H := Lib.hid h
  clear h
  go_enter Tryd.func20, Tryd.ntmps20
  go_wp2_with fail
  refine H.out.mono ?_
  rintro e w1 ⟨b, rfl, he, hb⟩
  unfold errV
  go_wp2_with fail
  go_ret2
  exact ⟨b, rfl, he, hb⟩

theorem set_nil (w : World) (E : Nat → Addr) (hE : Errs w E) (i at' : Int) :
    Calls Tryd.prog 29 #[.pointer none, .int .i64 i, .int .i64 at'] w fun e w' => ∃ b, e = .returned (.tuple #[.slice none 0 0, errV b]) ∧ ErrIs w' E 11 [(sBag, 0)] (errV b) ∧ Below w.heap.size w w' := by
  have HE := Lib.hid hE
  clear hE
  go_enter Tryd.func29, Tryd.ntmps29
  go_wp2_with fail
  refine (bagWrong_c w E HE.out 0 11 (by decide) (by decide)).mono ?_
  rintro e w1 ⟨rfl, he, hb⟩
  go_wp2_with fail
  go_ret2
  exact ⟨_, rfl, he, hb⟩
theorem set_out {w : World} {bb mb : Nat} {sv : Value} {rows : List Value} {D : DataW Unit} {n : Nat} {S : List (List Nat)} {O : Nat → Prop} (hB : BagAt w bb mb sv rows D n S O) (E : Nat → Addr) (hE : Errs w E) (i at' : Int) (hi : ¬ BagR.inS S i) :
    Calls Tryd.prog 29 #[.pointer (some ⟨bb, 0, none⟩), .int .i64 i, .int .i64 at'] w fun e w' => ∃ b, e = .returned (.tuple #[.slice none 0 0, errV b]) ∧ ErrIs w' E 3 [(sBag, at')] (errV b) ∧ Below w.heap.size w w' := by
  obtain ⟨A, c, rfl, _, _⟩ := own_slice hB.own
  obtain ⟨_, c1, _, _⟩ := blk_cells hB.blk
  have HE := Lib.hid hE
  clear hE
  unfold BagR.inS at hi
  by_cases h0 : i < 0
  · clear hi
    go_enter Tryd.func29, Tryd.ntmps29
    go_wp2_with fail
    refine (bagWrong_c w E HE.out at' 3 (by decide) (by decide)).mono ?_
    rintro e w1 ⟨rfl, he, hb⟩
    go_wp2_with fail
    go_ret2
    exact ⟨_, rfl, he, hb⟩
  · have h1 : (S.length : Int) ≤ i := by omega
    clear hi
    go_enter Tryd.func29, Tryd.ntmps29
    go_wp2_with fail
    refine (bagWrong_c w E HE.out at' 3 (by decide) (by decide)).mono ?_
    rintro e w1 ⟨rfl, he, hb⟩
    go_wp2_with fail
    go_ret2
    exact ⟨_, rfl, he, hb⟩

/-- What set refuses. -/
abbrev SetErr (w : World) (E : Nat → Addr) (p : Value) (i at' : Int) (N : Nat) (a2 : Int) : Prop :=
  Calls Tryd.prog 29 #[p, .int .i64 i, .int .i64 at'] w fun e w' => ∃ b, e = .returned (.tuple #[.slice none 0 0, errV b]) ∧ ErrIs w' E N [(sBag, a2)] (errV b) ∧ Below w.heap.size w w'
set_option maxRecDepth 100000 in
theorem Get_err (w : World) (E : Nat → Addr) (p : Value) (i : Int) (N : Nat) (a2 : Int) (h : SetErr w E p i 0 N a2) :
    Calls Tryd.prog 10 #[p, .int .i64 i] w fun e w' => ∃ b, e = .returned (.tuple #[.slice none 0 0, errV b]) ∧ ErrIs w' E N [(sBag, a2)] (errV b) ∧ Below w.heap.size w w' := by
  have H := Lib.hid h
  clear h
  go_enter Tryd.func10, Tryd.ntmps10
  go_wp2_with fail
  refine H.out.mono ?_
  rintro e w1 ⟨b, rfl, he, hb⟩
  unfold errV
  go_wp2_with fail
  go_ret2
  exact ⟨b, rfl, he, hb⟩
set_option maxRecDepth 100000 in
theorem Has_err (w : World) (E : Nat → Addr) (p : Value) (i x : Int) (N : Nat) (a2 : Int) (h : SetErr w E p i 0 N a2) :
    Calls Tryd.prog 23 #[p, .int .i64 i, .int .i64 x] w fun e w' => ∃ b, e = .returned (.tuple #[.bool false, errV b]) ∧ ErrIs w' E N [(sBag, a2)] (errV b) ∧ Below w.heap.size w w' := by
  have H := Lib.hid h
  clear h
  go_enter Tryd.func23, Tryd.ntmps23
  go_wp2_with fail
  refine H.out.mono ?_
  rintro e w1 ⟨b, rfl, he, hb⟩
  unfold errV
  go_wp2_with fail
  go_ret2
  exact ⟨b, rfl, he, hb⟩
set_option maxRecDepth 100000 in
theorem Union_err1 (w : World) (E : Nat → Addr) (p : Value) (i j : Int) (N : Nat) (a2 : Int) (h : SetErr w E p i 0 N a2) :
    Calls Tryd.prog 25 #[p, .int .i64 i, .int .i64 j] w fun e w' => ∃ b, e = .returned (.tuple #[.int .i64 0, .bool false, errV b]) ∧ ErrIs w' E N [(sBag, a2)] (errV b) ∧ Below w.heap.size w w' := by
  have H := Lib.hid h
  clear h
  go_enter Tryd.func25, Tryd.ntmps25
  go_wp2_with fail
  refine H.out.mono ?_
  rintro e w1 ⟨b, rfl, he, hb⟩
  unfold errV
  go_wp2_with fail
  go_ret3
  exact ⟨b, rfl, he, hb⟩
set_option maxRecDepth 100000 in
theorem Union_err2 {w : World} {bb mb : Nat} {sv : Value} {rows : List Value} {D : DataW Unit} {n : Nat} {S : List (List Nat)} {O : Nat → Prop} (hB : BagAt w bb mb sv rows D n S O) (E : Nat → Addr) (i : Nat) (hi : i < S.length) (j : Int) (N : Nat) (a2 : Int) (h : SetErr w E (.pointer (some ⟨bb, 0, none⟩)) j 1 N a2) :
    Calls Tryd.prog 25 #[.pointer (some ⟨bb, 0, none⟩), .int .i64 (i : Int), .int .i64 j] w fun e w' => ∃ b, e = .returned (.tuple #[.int .i64 0, .bool false, errV b]) ∧ ErrIs w' E N [(sBag, a2)] (errV b) ∧ Below w.heap.size w w' := by
  obtain ⟨l, hl⟩ : ∃ l, S[i]? = some l := ⟨_, List.getElem?_eq_getElem hi⟩
  obtain ⟨v, hv, hr, _⟩ := hB.row i l hl
  obtain ⟨Ax, cx, rfl, _, _⟩ := own_slice hr
  have H := Lib.hid h
  clear h hl hr
  go_enter Tryd.func25, Tryd.ntmps25
  go_wp2_with fail
  refine (set_c hB i hi _ _ hv).mono ?_
  rintro e w0 ⟨rfl, rfl⟩
  go_wp2_with fail
  refine H.out.mono ?_
  rintro e w1 ⟨b, rfl, he, hb⟩
  unfold errV
  go_wp2_with fail
  go_ret3
  exact ⟨b, rfl, he, hb⟩
theorem Len_nil (w : World) : Calls Tryd.prog 28 #[.pointer none] w fun e w' => e = .returned (.int .i64 0) ∧ w = w' := by
  go_enter Tryd.func28, Tryd.ntmps28
  go_wp2
  go_ret
  exact ⟨rfl, rfl⟩
set_option maxRecDepth 100000 in
/-- Has of a number that no member can be: no. -/
theorem Has_out {w : World} {p : Value} {n : Nat} {S : List (List Nat)} {O : Nat → Prop} (hB : BagIs w p n S O) (i : Nat) (hi : i < S.length) (x : Int) (hx : ¬ (0 ≤ x ∧ x < (n : Int))) :
    Calls Tryd.prog 23 #[p, .int .i64 (i : Int), .int .i64 x] w fun e w' => e = .returned (.tuple #[.bool false, .nilIface]) ∧ w = w' := by
  obtain ⟨bb, mb, sv, rows, D, rfl, hb⟩ := hB
  obtain ⟨l, hl⟩ : ∃ l, S[i]? = some l := ⟨_, List.getElem?_eq_getElem hi⟩
  obtain ⟨v, hv, hr, _⟩ := hb.row i l hl
  obtain ⟨c0, _, _, _⟩ := blk_cells hb.blk
  have hn := hb.nn
  obtain ⟨A, c, rfl, _, _⟩ := own_slice hr
  clear hl
  by_cases h0 : x < 0
  · clear hx
    go_enter Tryd.func23, Tryd.ntmps23
    go_wp2_with (go_at_call 29; refine (set_c hb i hi _ _ hv).mono ?_; rintro e w1 ⟨rfl, rfl⟩)
    go_ret2
    exact ⟨rfl, rfl⟩
  · have h1 : (n : Int) ≤ x := by omega
    clear hx
    go_enter Tryd.func23, Tryd.ntmps23
    go_wp2_with (go_at_call 29; refine (set_c hb i hi _ _ hv).mono ?_; rintro e w1 ⟨rfl, rfl⟩)
    go_ret2
    exact ⟨rfl, rfl⟩
end Go.Proofs.YtiobnnhjnkcafaaDoor
