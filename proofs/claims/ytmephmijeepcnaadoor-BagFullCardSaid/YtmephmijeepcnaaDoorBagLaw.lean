/- The bag's methods as the statements use them, and the fixed answers: awake returns true. No condition. -/
import Derived.Test.YtmephmijeepcnaaDoorBagUni
import Derived.Test.YtmephmijeepcnaaDoorRaw
namespace Go.Proofs.YtmephmijeepcnaaDoor
open Go.RowKit BagP

theorem own_lt {w : World} {base e n g : Nat} {v : Value} {xs : List Value} (h : w.ownsRow base e 1 v n xs) (hg : v.ownBlock = some g) : g < w.heap.size := (h.lt g hg).2
/-- A bag lies in blocks that are there. -/
theorem BagIs.restrict {w : World} {p : Value} {n : Nat} {S : List (List Nat)} {O : Nat → Prop} (h : BagIs w p n S O) : BagIs w p n S (fun k => O k ∧ k < w.heap.size) := by
  obtain ⟨bb, mb, sv, rows, D, hp, hb⟩ := h
  exact ⟨bb, mb, sv, rows, D, hp, { hb with
    row := fun i l hl => (let ⟨v, h1, h2, h3⟩ := hb.row i l hl; ⟨v, h1, h2, fun g hg => ⟨h3 g hg, own_lt h2 hg⟩⟩)
    fb := ⟨hb.fb, hb.ltb⟩
    fm := ⟨hb.fm, hb.map.lt⟩
    fs := fun g hg => ⟨hb.fs g hg, own_lt hb.own hg⟩ }⟩

theorem PutH {w : World} {p : Value} {n : Nat} {S S' : List (List Nat)} {H i : Nat} {f : Bool} {l : List Nat} (hB : BagIs w p n S (fun k => H ≤ k)) (hH : H ≤ w.heap.size) (A : Option Addr) (m c : Nat) (xs : List Int) (hm : m ≤ 140737488355328)
    (h : Sl w A m (xs.map (Value.int .i64))) (hx : ∀ x ∈ xs, 0 ≤ x ∧ x < (n : Int)) (hl : bitsOf n xs = l) (hroom : l ∈ S ∨ S.length < 4096) (hS : addS S l = S') (hi : S'.idxOf l = i) (hf : (!decide (l ∈ S)) = f) :
    Calls Tryd.prog 9 #[p, .slice A m c] w fun e w' => e = .returned (.tuple #[.int .i64 (i : Int), .bool f, .nilIface]) ∧ BagIs w' p n S' (fun k => H ≤ k) ∧ Below H w w' := by
  subst hl hS hi hf
  refine (Put_c hB A m c xs hm h hx hroom).mono ?_
  rintro e w' ⟨rfl, hB', hk⟩
  exact ⟨rfl, hB'.mono (fun k h => by rcases h with h | h <;> omega), hk.below hH (fun _ h => h)⟩

theorem UnionH {w : World} {p : Value} {n : Nat} {S S' : List (List Nat)} {H k : Nat} {f : Bool} {x y l : List Nat} (hB : BagIs w p n S (fun k => H ≤ k)) (hH : H ≤ w.heap.size) (i j : Nat) (hi : S[i]? = some x) (hj : S[j]? = some y)
    (hl : orL x y = l) (hroom : l ∈ S ∨ S.length < 4096) (hS : addS S l = S') (hk : S'.idxOf l = k) (hf : (!decide (l ∈ S)) = f) :
    Calls Tryd.prog 14 #[p, .int .i64 (i : Int), .int .i64 (j : Int)] w fun e w' => e = .returned (.tuple #[.int .i64 (k : Int), .bool f, .nilIface]) ∧ BagIs w' p n S' (fun k => H ≤ k) ∧ Below H w w' := by
  subst hl hS hk hf
  refine (Union_c hB i j x y hi hj hroom).mono ?_
  rintro e w' ⟨rfl, hB', hk⟩
  exact ⟨rfl, hB'.mono (fun k h => by rcases h with h | h <;> omega), hk.below hH (fun _ h => h)⟩

theorem PutO {w : World} {p : Value} {n : Nat} {S S' : List (List Nat)} {O : Nat → Prop} {i : Nat} {f : Bool} {l : List Nat} (hB : BagIs w p n S O) (hO : ∀ k, w.heap.size ≤ k → O k) (A : Option Addr) (m c : Nat) (xs : List Int) (hm : m ≤ 140737488355328)
    (h : Sl w A m (xs.map (Value.int .i64))) (hx : ∀ x ∈ xs, 0 ≤ x ∧ x < (n : Int)) (hl : bitsOf n xs = l) (hroom : l ∈ S ∨ S.length < 4096) (hS : addS S l = S') (hi : S'.idxOf l = i) (hf : (!decide (l ∈ S)) = f) :
    Calls Tryd.prog 9 #[p, .slice A m c] w fun e w' => e = .returned (.tuple #[.int .i64 (i : Int), .bool f, .nilIface]) ∧ BagIs w' p n S' O ∧ Keeps O w w' := by
  subst hl hS hi hf
  refine (Put_c hB A m c xs hm h hx hroom).mono ?_
  rintro e w' ⟨rfl, hB', hk⟩
  exact ⟨rfl, hB'.mono (fun k h => by rcases h with h | h; exact h; exact hO k h), hk⟩
theorem UnionO {w : World} {p : Value} {n : Nat} {S S' : List (List Nat)} {O : Nat → Prop} {k : Nat} {f : Bool} {x y l : List Nat} (hB : BagIs w p n S O) (hO : ∀ k, w.heap.size ≤ k → O k) (i j : Nat) (hi : S[i]? = some x) (hj : S[j]? = some y)
    (hl : orL x y = l) (hroom : l ∈ S ∨ S.length < 4096) (hS : addS S l = S') (hk : S'.idxOf l = k) (hf : (!decide (l ∈ S)) = f) :
    Calls Tryd.prog 14 #[p, .int .i64 (i : Int), .int .i64 (j : Int)] w fun e w' => e = .returned (.tuple #[.int .i64 (k : Int), .bool f, .nilIface]) ∧ BagIs w' p n S' O ∧ Keeps O w w' := by
  subst hl hS hk hf
  refine (Union_c hB i j x y hi hj hroom).mono ?_
  rintro e w' ⟨rfl, hB', hk⟩
  exact ⟨rfl, hB'.mono (fun k h => by rcases h with h | h; exact h; exact hO k h), hk⟩

/-- The literal list in a new block. -/
theorem lit_sl (w : World) (l : List Int) (n : Nat) (hn : l.length = n) (hm : n ≤ maxLen) : Sl (w.alloc (.cells (l.map (Value.int .i64)).toArray 3)) (some ⟨w.heap.size, 0, none⟩) n (l.map (Value.int .i64)) := by
  have := World.ownsRow_lit (base := 0) (e := 3) (size := 1) w (l.map (Value.int .i64)).toArray n (Nat.zero_le _) hm (by simp [hn])
  exact Sl.of_own this

set_option maxRecDepth 100000 in
set_option maxHeartbeats 400000 in
theorem awake_c (w : World) : Calls Tryd.prog 7 #[] w fun e w' => e = .returned (.bool true) ∧ Below w.heap.size w w' := by
  have hbits1 : bitsOf 5 [3, 1] = [10] := by decide
  have hbits2 : bitsOf 5 [1, 3, 3] = [10] := by decide
  have H1 := Lib.hid hbits1
  have H2 := Lib.hid hbits2
  clear hbits1 hbits2
  go_enter Tryd.func7, Tryd.ntmps7
  go_wp2_with fail
  refine (newBag_c w 5 (by decide)).mono ?_
  rintro e w1 ⟨rfl, hB1, hb1⟩
  have hs1 := hb1.size
  go_wp2_with fail
  refine (PutH (H := w.heap.size) (hB1.below ((Below.refl _ _).alloc (Nat.le_refl _) _)) (by simp; omega) _ 2 _ [3, 1] (by decide) (lit_sl w1 [3, 1] 2 rfl (by decide)) (by decide) H1.out (.inr (by decide)) (S' := [[10]]) rfl (i := 0) rfl (f := true) rfl).mono ?_
  rintro e w2 ⟨rfl, hB2, hb2⟩
  have hs2 := hb2.size
  simp at hs2
  go_wp2_with fail
  refine (PutH (H := w.heap.size) (hB2.below ((Below.refl _ _).alloc (Nat.le_refl _) _)) (by simp; omega) _ 3 _ [1, 3, 3] (by decide) (lit_sl w2 [1, 3, 3] 3 rfl (by decide)) (by decide) H2.out (.inr (by decide)) (S' := [[10]]) (by decide) (i := 0) rfl (f := false) (by decide)).mono ?_
  rintro e w3 ⟨rfl, hB3, hb3⟩
  have hs3 := hb3.size
  simp at hs3
  go_wp2_with fail
  refine (Get_c hB3 0 [10] rfl).mono ?_
  rintro e w4 ⟨v, rfl, hv, hb4⟩
  have hget : getL 5 [10] = [1, 3] := by decide
  rw [hget] at hv
  clear hget
  obtain ⟨A, c, rfl, _, _⟩ := own_slice hv
  have hs4 := hb4.size
  go_wp2_with fail
  refine (ints_c _ A _ 2 2 c _ [1, 3] [1, 3] ((Sl.of_own hv).alloc _) (lit_sl w4 [1, 3] 2 rfl (by decide)) (by decide) (by decide)).mono ?_
  rintro e w5 ⟨rfl, q, rfl⟩
  go_wp2_with fail
  go_ret
  refine ⟨rfl, below_drewN ?_ q⟩
  have e1 : Below w.heap.size w w2 := (hb1.alloc hs1 _).trans hb2
  have e2 : Below w.heap.size w w3 := (e1.alloc (by omega) _).trans hb3
  have e3 : Below w.heap.size w w4 := e2.trans (hb4.mono (by omega))
  exact e3.alloc (by omega) _

end Go.Proofs.YtmephmijeepcnaaDoor
