/- slices.Backward of ints: each round gets a place and its number, the last first. Condition: the slice reads from memory. -/
import Derived.Test.YtfgnghgmffaepaaDoorTypes
import Derived.RangeFuncNested
import Derived.RangeFuncBound
import Derived.RangeFuncCalls
import Derived.RangeFuncLeaves
import Derived.RangeFuncBox
import Derived.Shelf.Abstract
import Derived.WalkKit
import Derived.OwnWalkIn
import Derived.TacticsInMore
import Derived.LoopNIn
import Derived.LoopIn
namespace Go.Proofs.YtfgnghgmffaepaaDoor
open Go.RowKit Go.Shelf

attribute [local go_sem] Oper.semAt_some

/-- What has come when k rounds are over. -/
def upto {α : Type} (f : Nat → α) (k : Nat) : List α := (List.range k).map f
theorem upto_succ {α : Type} (f : Nat → α) (k : Nat) : upto f (k + 1) = upto f k ++ [f k] := by simp [upto, List.range_succ]
theorem upto_len {α : Type} (f : Nat → α) (k : Nat) : (upto f k).length = k := by simp [upto]
/-- What a round keeps: what lay below, and the slice's own variable. -/
def KpB (n₀ Bs : Nat) (W W' : World) : Prop := Below n₀ W W' ∧ W'.heap[Bs]? = W.heap[Bs]?
theorem KpB.t {n₀ Bs : Nat} {A B C : World} (h : KpB n₀ Bs A B) (k : KpB n₀ Bs B C) : KpB n₀ Bs A C := ⟨h.1.trans k.1, k.2.trans h.2⟩
theorem KpB.b {n₀ Bs : Nat} {w : World} (hn : n₀ ≤ w.heap.size) (hB : Bs < w.heap.size) (W : World) (l : Nat) (o o' : Obj) (hl : w.heap.size ≤ l) (h : W.heap[l]? = some o) (h1 : o.isCells = false) (h2 : o.isWalk = false) : KpB n₀ Bs W (W.putObj l o') :=
  ⟨belowK_b hn W l o o' hl h h1 h2, (grownBy_putObj' W l o').block Bs (by have := (Array.getElem?_eq_some_iff.1 h).1; omega) (by intro e; cases e; omega)⟩

/-- The things that stand for the rounds: each has a place and a number. -/
def BackSeq {α : Type} (zs : List Int) (fi : α → Nat) (gx : α → Int) (sq : Nat → α) : Prop := ∀ j, j < zs.length → fi (sq j) = zs.length - 1 - j ∧ gx (sq j) = zs[zs.length - 1 - j]?.getD 0

set_option maxRecDepth 100000 in
set_option maxHeartbeats 2000000 in
theorem back1_in {α : Type} (fi : α → Nat) (gx : α → Int) (sq : Nat → α) (F : Fence) (n : Nat) (hf : F.fn 88) (hro : F.round = none) (hn : 1 ≤ n) (l Bs n₀ len cap : Nat) (ad : Addr) (zs : List Int) (hsq : BackSeq zs fi gx sq) (hz : zs.length = len) (hlen : len ≤ 1000000000) (hb : ad.block < n₀) (J Jx : List α → World → Prop)
    (hY : ∀ pre x W, J pre W → pre.length < len → YieldAt F (n - 1) Tryd.prog l #[.int .i64 (fi x : Int), .int .i64 (gx x)] W fun e W' =>
      (e = .returned (.bool true) ∧ J (pre ++ [x]) W' ∧ KpB n₀ Bs W W') ∨ (e = .returned (.bool false) ∧ Jx (pre ++ [x]) W'))
    (W : World) (hBs : W.cell? ⟨Bs, 0, none⟩ = some (.slice (some ad) len cap)) (hc : ∀ j, j < len → W.cell? (ad.add j) = some (.int .i64 (zs[j]?.getD 0))) (h0 : J [] W) :
    CallsIn F n Tryd.prog 88 #[.func (.yield l) #[] #[], .pointer (some ⟨Bs, 0, none⟩)] W fun e W' => (∃ v, e = .returned v) ∧
      ((∃ ys, ys = upto sq len ∧ J ys W') ∨ (∃ pre, (∃ k, k ≤ len ∧ pre = upto sq k) ∧ Jx pre W')) := by
  refine callsIn_of_wp Tryd.func88 rfl hf ?_ hro
  simp only [Tryd.ntmps88, List.size_toArray, List.length_cons, List.length_nil, Nat.reduceAdd, Nat.reduceSub, Array.replicate_succ, Array.replicate_zero, List.push_toArray, List.append_toArray, List.nil_append, List.cons_append]
  have HZ := Lib.hid hz
  clear hz
  gi_wp2
  gi_loopw [3] (fun i wr => ∃ (m : Nat) (z : Int), m ≤ len ∧ i = .int .i64 z ∧ Hid (z = (m : Int) - 1) ∧ J (upto sq (len - m)) wr ∧ KpB n₀ Bs W wr)
    (fun i _ => (intOf i + 1).toNat)
  case atStart => exact ⟨len, _, Nat.le_refl _, rfl, Lib.hid rfl, by rw [Nat.sub_self]; exact h0, Below.refl _ _, rfl⟩
  case round =>
    obtain ⟨m, z, hm, rfl, hz, hJs, hnx⟩ := hrel
    have hBs' := (World.cell?_of_block (w := W) (a := ⟨Bs, 0, none⟩) hnx.2).trans hBs
    cases m with
    | zero =>
      obtain rfl : z = -1 := by have := hz.out; omega
      clear hz
      have hge : decide ((0 : Int) ≤ -1) = false := by decide
      rw [Nat.sub_zero] at hJs
      gi_wp2
      go_end0
      exact ⟨⟨_, rfl⟩, .inl ⟨_, rfl, hJs⟩⟩
    | succ q =>
      obtain rfl : z = (q : Int) := by have := hz.out; omega
      clear hz
      have hcx : wr.cell? (ad.add q) = some (.int .i64 (zs[q]?.getD 0)) := (hnx.1.cell (p := ad.add q) (by rw [block_of_add]; exact hb)).trans (hc q (by omega))
      obtain ⟨hq1, hq2⟩ := hsq (len - (q + 1)) (by rw [HZ.out]; omega)
      rw [HZ.out, show len - 1 - (len - (q + 1)) = q from by omega] at hq1 hq2
      obtain ⟨fn, tmps, assign, body, hy, hR⟩ := hY _ (sq (len - (q + 1))) wr hJs (by rw [upto_len]; omega)
      rw [hq1, hq2] at hy
      have hx : upto sq (len - q) = upto sq (len - (q + 1)) ++ [sq (len - (q + 1))] := by
        rw [show len - q = (len - (q + 1)) + 1 from by omega, upto_succ]
      have HX := Lib.hid hx
      rw [← hx] at hR
      clear hx
      gi_wp2
      refine hR.mono ?_
      rintro e W3 (⟨rfl, hJ3, hk3⟩ | ⟨rfl, hJx3⟩)
      · gi_wp2
        go_roundw
        case rel => exact ⟨q, _, by omega, rfl, Lib.hid (by omega), hJ3, hnx.t hk3⟩
        case measure => simp [intOf]
      · gi_wp2
        refine bodyPost_ret (results_none rfl _ _ _) rfl ?_
        exact ⟨⟨_, rfl⟩, .inr ⟨_, ⟨len - q, by omega, rfl⟩, hJx3⟩⟩

set_option maxRecDepth 100000 in
set_option maxHeartbeats 1000000 in
theorem back_nil_in {α : Type} (F : Fence) (n : Nat) (hf : F.fn 88) (hro : F.round = none) (l Bs : Nat) (J : List α → World → Prop) (W : World) (A : Option Addr) (cap : Nat) (hBs : W.cell? ⟨Bs, 0, none⟩ = some (.slice A 0 cap)) (h0 : J [] W) :
    CallsIn F n Tryd.prog 88 #[.func (.yield l) #[] #[], .pointer (some ⟨Bs, 0, none⟩)] W fun e W' => (∃ v, e = .returned v) ∧ J [] W' := by
  refine callsIn_of_wp Tryd.func88 rfl hf ?_ hro
  simp only [Tryd.ntmps88, List.size_toArray, List.length_cons, List.length_nil, Nat.reduceAdd, Nat.reduceSub, Array.replicate_succ, Array.replicate_zero, List.push_toArray, List.append_toArray, List.nil_append, List.cons_append]
  gi_wp2
  gi_loopw [3] (fun i wr => i = .int .i64 (-1) ∧ J [] wr) (fun _ _ => 0)
  case atStart => exact ⟨rfl, h0⟩
  case round =>
    obtain ⟨rfl, hJs⟩ := hrel
    gi_wp2
    go_end0
    exact ⟨⟨_, rfl⟩, hJs⟩

set_option maxHeartbeats 1000000 in
theorem backward_in (F : Fence) (n : Nat) (hf : F.fn 73) (hro : F.round = none) (a : Option Addr) (len cap : Nat) (w : World) :
    CallsIn F n Tryd.prog 73 #[.slice a len cap] w fun e w' => e = .returned (.func (.func 88) #[] #[.pointer (some ⟨w.heap.size, 0, none⟩)]) ∧ w' = w.alloc (.cells #[.slice a len cap] 22) := by
  refine callsIn_of_wp Tryd.func73 rfl hf ?_ hro
  simp only [Tryd.ntmps73, List.size_toArray, List.length_cons, List.length_nil, Nat.reduceAdd, Nat.reduceSub, Array.replicate_succ, Array.replicate_zero, List.push_toArray, List.append_toArray, List.nil_append, List.cons_append]
  gi_wp2
  go_ret
  exact ⟨rfl, rfl⟩

/-- What slices.Backward hands back gives all, the last first. -/
theorem back_stops {α : Type} (fi : α → Nat) (gx : α → Int) (sq : Nat → α) (F : Fence) (n : Nat) (hf : F.fn 88) (hro : F.round = none) (hn : 1 ≤ n) (Bs : Nat) (A : Option Addr) (len cap : Nat) (zs : List Int) (w : World) (hz : Sl w A len (zs.map (Value.int .i64))) (hsq : BackSeq zs fi gx sq) (hlen : len ≤ 1000000000) (hBs : Bs < w.heap.size)
    (hc : w.cell? ⟨Bs, 0, none⟩ = some (.slice A len cap)) (n₀ : Nat) (hA : ∀ ad, A = some ad → 0 < len → ad.block < n₀) :
    SeqStopsK F n Tryd.prog 88 #[.pointer (some ⟨Bs, 0, none⟩)] (fun x : α => #[Value.int .i64 (fi x : Int), Value.int .i64 (gx x)]) (KpB n₀ Bs) (fun ys => ys = upto sq zs.length)
      (fun pre => ∃ k, k ≤ zs.length ∧ pre = upto sq k) zs.length w := fun l J Jx W hW _ _ hY h0 => by
  have hl : zs.length = len := by simpa using hz.1
  have hc' := (hW.cell (p := ⟨Bs, 0, none⟩) hBs).trans hc
  rcases Nat.eq_zero_or_pos len with h00 | h00
  · subst h00
    refine (back_nil_in F n hf hro l Bs J W A cap hc' h0).mono fun e W' ⟨he, hj⟩ => ⟨he, .inl ⟨_, ?_, hj⟩⟩
    rw [hl]; rfl
  · obtain ⟨ad, x, rfl, hx⟩ := hz.int_ h00
    have h1 := back1_in fi gx sq F n hf hro hn l Bs n₀ len cap ad zs hsq hl hlen (hA ad rfl h00) J Jx (by rw [hl] at hY; exact hY) W hc' (fun j hj => by
      obtain ⟨ad', y, e, hy, hcy⟩ := hz.int_ hj
      cases e
      rw [hy]
      exact (hW.cell (p := ad.add j) (World.block_lt_of_cell? _ _ hcy)).trans hcy) h0
    rw [hl]
    exact h1
end Go.Proofs.YtfgnghgmffaepaaDoor
