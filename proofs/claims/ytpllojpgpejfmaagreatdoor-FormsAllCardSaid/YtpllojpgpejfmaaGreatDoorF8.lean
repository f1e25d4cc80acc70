/- slices.Sort of ints, laid off the shelf: the numbers sorted in their own block, at whatever length. Condition: the cells hold the numbers. slices.Sorted(slices.Values(p)) of ints: new memory that holds the numbers of p, sorted. Condition: the slice reads from memory. -/
import Derived.Shelf.SortM.Plain
import Derived.Shelf.SortM.SortNone
import Derived.RangeFuncNested
import Derived.RangeFuncBound
import Derived.RangeFuncCalls
import Derived.RangeFuncLeaves
import Derived.RangeFuncBox
import Derived.RangeFuncWrites
import Derived.Shelf.Abstract
import Derived.WalkKit
import Derived.OwnWalkIn
import Derived.TacticsInMore
import Derived.LoopNIn
import Derived.LoopIn
import Derived.Maps.AppendAt
import Derived.Sort.OwnSortedInts
import Derived.Test.YtpllojpgpejfmaaGreatDoorF2
namespace Go.Proofs.YtpllojpgpejfmaaGreatDoor
open Go.RowKit Go.Shelf Go.Sort
def sortL_ren : Go.Shelf.Ren := ⟨fun | 5 => 84 | 8 => 110 | 7 => 109 | 19 => 100 | 20 => 127 | 10 => 118 | 11 => 119 | 12 => 120 | 13 => 121 | 14 => 122 | 15 => 123 | 16 => 124 | 17 => 125 | 18 => 126 | 30 => 130 | 31 => 131 | 32 => 132 | 33 => 133 | 34 => 134 | 35 => 135 | 40 => 140 | n => n, fun | 23 => 24 | 25 => 3 | 3 => 3 | 32 => 138 | 22 => 24 | 0 => 0 | 44 => 103 | 46 => 112 | 4 => 4 | 36 => 174 | 35 => 173 | 41 => 178 | 5 => 5 | 9 => 9 | 53 => 182 | 57 => 186 | 63 => 196 | 64 => 197 | n => n, fun | n => n⟩
theorem sortL : Go.Proofs.SlLaysM.n5 Tryz.prog sortL_ren := {
  mixed := by kernel_rfl
  f5 := ⟨Tryz.f84.name, by decide, Tryz.func84.trans (congrArg some (by kernel_rfl))⟩
  f7 := ⟨Tryz.f109.name, by decide, Tryz.func109.trans (congrArg some (by kernel_rfl))⟩
  f8 := Tryz.func110.trans (congrArg some (by kernel_rfl))
  f10 := ⟨Tryz.f118.name, by decide, Tryz.func118.trans (congrArg some (by kernel_rfl))⟩
  f11 := ⟨Tryz.f119.name, by decide, Tryz.func119.trans (congrArg some (by kernel_rfl))⟩
  f12 := ⟨Tryz.f120.name, by decide, Tryz.func120.trans (congrArg some (by kernel_rfl))⟩
  f13 := ⟨Tryz.f121.name, by decide, Tryz.func121.trans (congrArg some (by kernel_rfl))⟩
  f14 := ⟨Tryz.f122.name, by decide, Tryz.func122.trans (congrArg some (by kernel_rfl))⟩
  f15 := ⟨Tryz.f123.name, by decide, Tryz.func123.trans (congrArg some (by kernel_rfl))⟩
  f16 := ⟨Tryz.f124.name, by decide, Tryz.func124.trans (congrArg some (by kernel_rfl))⟩
  f17 := ⟨Tryz.f125.name, by decide, Tryz.func125.trans (congrArg some (by kernel_rfl))⟩
  f18 := ⟨Tryz.f126.name, by decide, Tryz.func126.trans (congrArg some (by kernel_rfl))⟩
  f19 := Tryz.func100.trans (congrArg some (by kernel_rfl))
  f20 := Tryz.func127.trans (congrArg some (by kernel_rfl))
  f30 := ⟨Tryz.f130.name, by decide, Tryz.func130.trans (congrArg some (by kernel_rfl))⟩
  f31 := Tryz.func131.trans (congrArg some (by kernel_rfl))
  f32 := Tryz.func132.trans (congrArg some (by kernel_rfl))
  f33 := ⟨Tryz.f133.name, by decide, Tryz.func133.trans (congrArg some (by kernel_rfl))⟩
  f34 := ⟨Tryz.f134.name, by decide, Tryz.func134.trans (congrArg some (by kernel_rfl))⟩
  f35 := ⟨Tryz.f135.name, by decide, Tryz.func135.trans (congrArg some (by kernel_rfl))⟩
  f40 := ⟨Tryz.f140.name, by decide, Tryz.func140.trans (congrArg some (by kernel_rfl))⟩
  t0 := Tryz.underlying0
  a0 := Tryz.isAgg0
  z0 := Tryz.sizeOf0
  v0 := Tryz.zeroValue0
  t3 := Tryz.underlying3
  a3 := Tryz.isAgg3
  z3 := Tryz.sizeOf3
  v3 := Tryz.zeroValue3
  t4 := Tryz.underlying4
  a4 := Tryz.isAgg4
  z4 := Tryz.sizeOf4
  v4 := Tryz.zeroValue4
  t5 := Tryz.underlying5
  a5 := Tryz.isAgg5
  z5 := Tryz.sizeOf5
  v5 := Tryz.zeroValue5
  t9 := Tryz.underlying9
  a9 := Tryz.isAgg9
  z9 := Tryz.sizeOf9
  v9 := Tryz.zeroValue9
  t22 := Tryz.underlying24
  a22 := Tryz.isAgg24
  z22 := Tryz.sizeOf24
  v22 := Tryz.zeroValue24
  t23 := Tryz.underlying24
  a23 := Tryz.isAgg24
  z23 := Tryz.sizeOf24
  v23 := Tryz.zeroValue24
  t25 := Tryz.underlying3
  a25 := Tryz.isAgg3
  z25 := Tryz.sizeOf3
  v25 := Tryz.zeroValue3
  t32 := Tryz.underlying138
  a32 := Tryz.isAgg138
  z32 := Tryz.sizeOf138
  v32 := Tryz.zeroValue138
  t35 := Tryz.underlying173
  a35 := Tryz.isAgg173
  z35 := Tryz.sizeOf173
  v35 := Tryz.zeroValue173
  t36 := Tryz.underlying174
  a36 := Tryz.isAgg174
  z36 := Tryz.sizeOf174
  v36 := Tryz.zeroValue174
  t41 := Tryz.underlying178
  a41 := Tryz.isAgg178
  z41 := Tryz.sizeOf178
  v41 := Tryz.zeroValue178
  t44 := Tryz.underlying103
  a44 := Tryz.isAgg103
  z44 := Tryz.sizeOf103
  v44 := Tryz.zeroValue103
  t46 := Tryz.underlying112
  a46 := Tryz.isAgg112
  z46 := Tryz.sizeOf112
  v46 := Tryz.zeroValue112
  t53 := Tryz.underlying182
  a53 := Tryz.isAgg182
  z53 := Tryz.sizeOf182
  v53 := Tryz.zeroValue182
  t57 := Tryz.underlying186
  a57 := Tryz.isAgg186
  z57 := Tryz.sizeOf186
  v57 := Tryz.zeroValue186
  t63 := Tryz.underlying196
  a63 := Tryz.isAgg196
  z63 := Tryz.sizeOf196
  v63 := Tryz.zeroValue196
  t64 := Tryz.underlying197
  a64 := Tryz.isAgg197
  z64 := Tryz.sizeOf197
  v64 := Tryz.zeroValue197 }
theorem sort_c (w : World) (blk off cap : Nat) (zs : List Int) (hH : Holds (Value.int .i64) w blk off zs.toArray) (hblk : blk < w.heap.size) (hsz : zs.length < 4611686018427387904) :
    Calls Tryz.prog 84 #[.slice (some ⟨blk, off, none⟩) zs.length cap] w fun e w' =>
      e = .returned (.tuple #[]) ∧ ∃ n os, w' = grow (putRow (Value.int .i64) (Sort.ahead w n) blk off (zs.mergeSort fun x y => decide (x ≤ y)).toArray) os := AnyM.slices_Sort_int sortL blk off cap zs w hH hblk hsz
theorem sortNil_c (w : World) (p : Option Addr) (cap : Nat) :
    Calls Tryz.prog 84 #[.slice p 0 cap] w fun e w' => e = .returned (.tuple #[]) ∧ w' = w := AnyM.slices_Sort_int_none sortL p cap w
end Go.Proofs.YtpllojpgpejfmaaGreatDoor

namespace Go.Proofs.YtpllojpgpejfmaaGreatDoor
open Go.RowKit Go.Shelf Go.Sort Go.Maps

attribute [local go_sem] Oper.semAt_some

set_option maxRecDepth 100000 in
set_option maxHeartbeats 2000000 in
theorem vals1_in (F : Fence) (n : Nat) (hf : F.fn 85) (hro : F.round = none) (hn : 1 ≤ n) (l Bs n₀ len cap : Nat) (ad : Addr) (zs : List Int) (hz : zs.length = len) (hlen : len * 8 ≤ 140737488351232) (hb : ad.block < n₀) (J Jx : List Int → World → Prop)
    (hY : ∀ pre x W, J pre W → pre.length < len → YieldAt F (n - 1) Tryz.prog l #[.int .i64 x] W fun e W' =>
      (e = .returned (.bool true) ∧ J (pre ++ [x]) W' ∧ Below n₀ W W') ∨ (e = .returned (.bool false) ∧ Jx (pre ++ [x]) W'))
    (W : World) (hBs : W.cell? ⟨Bs, 0, none⟩ = some (.slice (some ad) len cap)) (hc : ∀ j, j < len → W.cell? (ad.add j) = some (.int .i64 (zs[j]?.getD 0))) (h0 : J [] W) :
    CallsIn F n Tryz.prog 85 #[.func (.yield l) #[] #[], .pointer (some ⟨Bs, 0, none⟩)] W fun e W' => (∃ v, e = .returned v) ∧
      ((∃ ys, ys = zs ∧ J ys W') ∨ (∃ pre, True ∧ Jx pre W')) := by
  refine callsIn_of_wp Tryz.func85 rfl hf ?_ hro
  simp only [Tryz.ntmps85, List.size_toArray, List.length_cons, List.length_nil, Nat.reduceAdd, Nat.reduceSub, Array.replicate_succ, Array.replicate_zero, List.push_toArray, List.append_toArray, List.nil_append, List.cons_append]
  have HZ := Lib.hid hz
  clear hz
  gi_wp2
  gi_loopw [7] (fun i wr => ∃ k : Nat, k ≤ len ∧ i = .int .i64 k ∧ J (zs.take k) wr ∧ Below n₀ W wr)
    (fun i _ => len - (intOf i).toNat)
  case atStart => exact ⟨0, Nat.zero_le _, rfl, h0, Below.refl _ _⟩
  case round =>
    obtain ⟨k, hk, rfl, hJs, hnx⟩ := hrel
    by_cases hlt : k < len
    · have hcx : wr.cell? (ad.add k) = some (.int .i64 (zs[k]?.getD 0)) := (hnx.cell (p := ad.add k) (by rw [block_of_add]; exact hb)).trans (hc k hlt)
      have hx : zs.take (k + 1) = zs.take k ++ [zs[k]?.getD 0] := by
        rw [List.take_add_one]
        have : k < zs.length := by rw [HZ.out]; exact hlt
        rw [List.getElem?_eq_getElem this]
        rfl
      obtain ⟨fn, tmps, assign, body, hy, hR⟩ := hY _ (zs[k]?.getD 0) wr hJs (by rw [List.length_take, HZ.out]; omega)
      rw [← hx] at hR
      clear hx
      gi_wp2
      refine hR.mono ?_
      rintro e W3 (⟨rfl, hJ3, hk3⟩ | ⟨rfl, hJx3⟩)
      · gi_wp2
        go_roundw
        case rel => exact ⟨k + 1, by omega, by simp, hJ3, hnx.trans hk3⟩
        case measure => simp [intOf]; omega
      · gi_wp2
        refine bodyPost_ret (results_none rfl _ _ _) rfl ?_
        exact ⟨⟨_, rfl⟩, .inr ⟨_, trivial, hJx3⟩⟩
    · obtain rfl : k = len := by omega
      rw [List.take_of_length_le (by rw [HZ.out]; exact Nat.le_refl _)] at hJs
      gi_wp2
      go_end0
      exact ⟨⟨_, rfl⟩, .inl ⟨_, rfl, hJs⟩⟩

set_option maxRecDepth 100000 in
set_option maxHeartbeats 1000000 in
theorem vals_nil_in (F : Fence) (n : Nat) (hf : F.fn 85) (hro : F.round = none) (l Bs : Nat) (J : List Int → World → Prop) (W : World) (A : Option Addr) (cap : Nat) (hBs : W.cell? ⟨Bs, 0, none⟩ = some (.slice A 0 cap)) (h0 : J [] W) :
    CallsIn F n Tryz.prog 85 #[.func (.yield l) #[] #[], .pointer (some ⟨Bs, 0, none⟩)] W fun e W' => (∃ v, e = .returned v) ∧ J [] W' := by
  refine callsIn_of_wp Tryz.func85 rfl hf ?_ hro
  simp only [Tryz.ntmps85, List.size_toArray, List.length_cons, List.length_nil, Nat.reduceAdd, Nat.reduceSub, Array.replicate_succ, Array.replicate_zero, List.push_toArray, List.append_toArray, List.nil_append, List.cons_append]
  gi_wp2
  gi_loopw [7] (fun i wr => i = .int .i64 0 ∧ J [] wr) (fun _ _ => 0)
  case atStart => exact ⟨rfl, h0⟩
  case round =>
    obtain ⟨rfl, hJs⟩ := hrel
    gi_wp2
    go_end0
    exact ⟨⟨_, rfl⟩, hJs⟩

set_option maxHeartbeats 1000000 in
theorem values_in (F : Fence) (n : Nat) (hf : F.fn 54) (hro : F.round = none) (a : Option Addr) (len cap : Nat) (w : World) :
    CallsIn F n Tryz.prog 54 #[.slice a len cap] w fun e w' => e = .returned (.func (.func 85) #[] #[.pointer (some ⟨w.heap.size, 0, none⟩)]) ∧ w' = w.alloc (.cells #[.slice a len cap] 24) := by
  refine callsIn_of_wp Tryz.func54 rfl hf ?_ hro
  simp only [Tryz.ntmps54, List.size_toArray, List.length_cons, List.length_nil, Nat.reduceAdd, Nat.reduceSub, Array.replicate_succ, Array.replicate_zero, List.push_toArray, List.append_toArray, List.nil_append, List.cons_append]
  gi_wp2
  go_ret
  exact ⟨rfl, rfl⟩

/-- What slices.Values hands back gives all, in order. -/
theorem vals_stops (F : Fence) (n : Nat) (hf : F.fn 85) (hro : F.round = none) (hn : 1 ≤ n) (Bs : Nat) (A : Option Addr) (len cap : Nat) (zs : List Int) (w : World) (hz : Sl w A len (zs.map (Value.int .i64))) (hlen : len * 8 ≤ 140737488351232) (hBs : Bs < w.heap.size)
    (hc : w.cell? ⟨Bs, 0, none⟩ = some (.slice A len cap)) (n₀ : Nat) (hA : ∀ ad, A = some ad → 0 < len → ad.block < n₀) :
    SeqStopsK F n Tryz.prog 85 #[.pointer (some ⟨Bs, 0, none⟩)] (fun x : Int => #[Value.int .i64 x]) (Below n₀) (fun ys => ys = zs)
      (fun _ => True) zs.length w := fun l J Jx W hW _ _ hY h0 => by
  have hl : zs.length = len := by simpa using hz.1
  have hc' := (hW.cell (p := ⟨Bs, 0, none⟩) hBs).trans hc
  rcases Nat.eq_zero_or_pos len with h00 | h00
  · subst h00
    have hzs : zs = [] := List.eq_nil_of_length_eq_zero hl
    refine (vals_nil_in F n hf hro l Bs J W A cap hc' h0).mono fun e W' ⟨he, hj⟩ => ⟨he, .inl ⟨_, ?_, hj⟩⟩
    exact hzs.symm
  · obtain ⟨ad, x, rfl, hx⟩ := hz.int_ h00
    exact vals1_in F n hf hro hn l Bs n₀ len cap ad zs hl hlen (hA ad rfl h00) J Jx (by rw [hl] at hY; exact hY) W hc' (fun j hj => by
      obtain ⟨ad', y, e, hy, hcy⟩ := hz.int_ hj
      cases e
      rw [hy]
      exact (hW.cell (p := ad.add j) (World.block_lt_of_cell? _ _ hcy)).trans hcy) h0

theorem infoInt : (Tryz.prog.info? 3).map (fun i => (i.zero, i.size, i.bytes)) = some (some (.int .i64 0), 1, 8) := by kernel_rfl

set_option maxRecDepth 100000 in
set_option maxHeartbeats 2000000 in
theorem appendVals_in (n : Nat) (hn : 3 ≤ n) (w : World) (Bs : Nat) (A : Option Addr) (len cap : Nat) (zs : List Int) (hz : Sl w A len (zs.map (Value.int .i64))) (hlen : len * 8 ≤ 140737488351232) (hBs : Bs < w.heap.size)
    (hc : w.cell? ⟨Bs, 0, none⟩ = some (.slice A len cap)) :
    CallsIn Fence.wide n Tryz.prog 108 #[.slice none 0 0, .func (.func 85) #[] #[.pointer (some ⟨Bs, 0, none⟩)]] w fun e W' =>
      ∃ v, e = .returned v ∧ W'.ownsRow w.heap.size 3 1 v zs.length (zs.map (Value.int .i64)) ∧ Below w.heap.size w W' := by
  have hl : zs.length = len := by simpa using hz.1
  obtain ⟨i0, hi, hz0, hz1, hz2⟩ := info_parts infoInt
  refine callsIn_of_wp_marks Tryz.func108 rfl trivial ?_ rfl
  simp only [Tryz.ntmps108, List.size_toArray, List.length_cons, List.length_nil, Nat.reduceAdd, Nat.reduceSub, Array.replicate_succ, Array.replicate_zero, List.push_toArray, List.append_toArray, List.nil_append, List.cons_append]
  have hBs' : Bs < (w.alloc (.cells #[.slice none 0 0] 24)).heap.size := by simp; omega
  have hB0 : Below w.heap.size w (w.alloc (.cells #[.slice none 0 0] 24)) := (Below.refl _ w).alloc (Nat.le_refl _) _
  have hz' := hz.below hB0
  have hc' := (hB0.cell (p := ⟨Bs, 0, none⟩) hBs).trans hc
  have bO := Boxed.new w 24 (.slice none 0 0)
  have HLT := Lib.hid (fun (ad : Addr) (e : A = some ad) (h0 : 0 < len) => (show ad.block < w.heap.size by
      obtain ⟨ad', x, e', _, hcx⟩ := hz.int_ h0
      rw [e] at e'; cases e'
      have := World.block_lt_of_cell? _ _ hcx
      rwa [block_of_add] at this))
  clear hz hc
  gi_wp2
  refine wpIn_rangeFunc_ownG (F := Fence.wide) rfl (by omega) (gf := 85) (lb := #[.pointer (some ⟨Bs, 0, none⟩)]) rfl trivial (enters_of Tryz.func85 (by kernel_rfl) rfl)
    (vals_stops Fence.wide (n - 1) trivial rfl (by omega) Bs A len cap zs _ hz' hlen hBs' hc' w.heap.size HLT.out) belowK_t (belowK_b (by simp)) (Below.refl _ _) (fun _ => rfl)
    (fun (pre : List Int) W => (∃ v, Boxed W w.heap.size 24 v ∧ W.ownsRow w.heap.size 3 1 v pre.length (pre.map (Value.int .i64)) ∧ True) ∧ Below w.heap.size w W)
    (fun _ _ _ => False)
    (OwnFrom.and (Own.from (holdsRow_own w.heap.size w.heap.size 24 3 1 (fun (pre : List Int) => pre.length) (fun (pre : List Int) => pre.map (Value.int .i64)) (fun _ _ => True)) _) (ownFrom_below (Nat.le_refl _) (by simp)))
    (fun _ _ _ _ _ hs _ _ => hs)
    ⟨⟨_, bO, World.ownsRow_nil _ _ _ _, trivial⟩, hB0⟩
    (fun x => { tmps := #[.slice none 0 0, .func (.func 85) #[] #[.pointer (some ⟨Bs, 0, none⟩)], .pointer (some ⟨w.heap.size, 0, none⟩), undef, .slice none 0 0, .int .i64 x, .func (.func 85) #[] #[.pointer (some ⟨Bs, 0, none⟩)], .int .i64 x, undef, undef, undef, undef, undef], defers := [] }) ?assign ?body ?done ?stop
  case assign =>
    intro l x W K hK
    gi_wp2
    exact hK
  case body =>
    rintro l pre x W ⟨⟨v, hv, hrow, _⟩, hB⟩ hlt
    have hcc := hv.cell
    rw [hl] at hlt
    gi_wp2_with (gi_at_builtin; refine wpListIn_append_own _ rfl _ _ 24 rfl w.heap.size 3 i0 (.int .i64 0) 1 8 Tryz.underlying24 hi hz0 hz1 hz2 rfl (by decide) _ _ _ rfl (hrow.alloc _) ⟨W.heap.size, 0, none⟩ 1 1 [.int .i64 x] rfl rfl (cell_one_new _ _ _) (by simp [Value.oneCell']) (by simp only [maxLen]; omega) (by omega) (by have := hB.size; simp; omega) ?_; intro v' w1 hown' hgrow _; obtain ⟨g', cap', rfl⟩ := ownsRow_succ hown'; obtain ⟨hv1, hv2, hr2, hk2, hb2⟩ := hv.appended (by decide) hrow hB.size (Nat.le_refl _) hown' hgrow; have hc1 := hv1.cell; have hf1 := hv1.frozen)
    exact ⟨hk2.from _, hb2, ⟨_, hv2, by simpa using hr2, trivial⟩, hB.trans hb2⟩
  case done =>
    rintro D ys W hD rfl ⟨⟨v, hv, hrow, _⟩, hB⟩ hK
    have hcc := hv.cell
    gi_wp2
    refine ⟨by simp, .inl ⟨_, _, rfl, run_takeDeferred hK, ?_⟩⟩
    exact ⟨_, results_tmp rfl _ _ _, v, rfl, ownsRow_putObj hrow _ hK rfl, hB.trans (belowK_b (w := w) (Nat.le_refl _) W D _ _ (by simp at hD; omega) hK rfl rfl)⟩
  case stop =>
    rintro D c pre W _ _ h _
    exact h.elim

set_option maxRecDepth 100000 in
set_option maxHeartbeats 2000000 in
theorem sortedVals_c (w : World) (Bs : Nat) (A : Option Addr) (len cap : Nat) (zs : List Int) (hz : Sl w A len (zs.map (Value.int .i64))) (hlen : len * 8 ≤ 140737488351232) (hBs : Bs < w.heap.size)
    (hc : w.cell? ⟨Bs, 0, none⟩ = some (.slice A len cap)) :
    Calls Tryz.prog 53 #[.func (.func 85) #[] #[.pointer (some ⟨Bs, 0, none⟩)]] w fun e W' =>
      ∃ C cc, e = .returned (.slice C len cc) ∧ W'.ownsRow w.heap.size 3 1 (.slice C len cc) len ((zs.mergeSort fun x y => decide (x ≤ y)).map (Value.int .i64)) ∧ Below w.heap.size w W' := by
  have hl : zs.length = len := by simpa using hz.1
  have hA := appendVals_in 3 (Nat.le_refl _) w Bs A len cap zs hz hlen hBs hc
  have hC : Calls Tryz.prog 83 #[.func (.func 85) #[] #[.pointer (some ⟨Bs, 0, none⟩)]] w fun e W' =>
      ∃ v, e = .returned v ∧ W'.ownsRow w.heap.size 3 1 v zs.length (zs.map (Value.int .i64)) ∧ Below w.heap.size w W' := by
    have HA := Lib.hid (callsIn_wide.1 hA)
    clear hz hc
    go_enter Tryz.func83, Tryz.ntmps83
    go_wp2_with fail
    refine (HA.out).mono ?_
    rintro e W' ⟨v, rfl, ho, hb⟩
    go_wp2_with fail
    go_ret
    exact ⟨_, rfl, ho, hb⟩
  have HC := Lib.hid hC
  clear hA hC hz hc
  go_enter Tryz.func53, Tryz.ntmps53
  go_wp2_with fail
  refine (HC.out).mono ?_
  rintro e W ⟨v, rfl, hrow, hb⟩
  rcases hrow.2 with ⟨rfl, hz0⟩ | ⟨gb, cap2, cur, rfl, hbase, hgb, r1, r2, r3, r4⟩
  · have hss : zs = [] := List.eq_nil_of_length_eq_zero hz0
    subst hss
    obtain rfl : len = 0 := hl.symm
    have HN := Lib.hid (sortNil_c W none 0)
    have HR := Lib.hid hrow
    clear hrow hz0 hl
    go_wp2_with fail
    refine (HN.out).mono ?_
    rintro e w' ⟨rfl, rfl⟩
    go_wp2_with fail
    go_ret
    exact ⟨none, 0, rfl, by have h := HR.out; rw [List.mergeSort_nil]; exact h, hb⟩
  · have hH : Holds (Value.int .i64) W gb 0 zs.toArray := holds_of_blockI hgb (by simpa using r4)
    have hgl : gb < W.heap.size := (Array.getElem?_eq_some_iff.1 hgb).1
    have HN := Lib.hid (sort_c W gb 0 cap2 zs hH hgl (by omega))
    have HF := Lib.hid (⟨hbase, hgb, r1, r2, r3⟩ : _ ∧ _ ∧ _ ∧ _ ∧ _)
    have HL := Lib.hid hl
    clear hrow hbase hgb r1 r2 r3 r4 hH hl
    go_wp2_with fail
    refine (HN.out).mono ?_
    rintro e w' ⟨rfl, nn, os, rfl⟩
    go_wp2_with fail
    go_ret
    have hbase := HF.out.1
    have ho := ownsRow_sortedI (ts := zs.mergeSort fun x y => decide (x ≤ y)) (n := nn) (os := os) (List.length_mergeSort _) HF.out.1 HF.out.2.1 HF.out.2.2.1 HF.out.2.2.2.1 HF.out.2.2.2.2
    rw [HL.out] at ho
    rw [HL.out]
    exact ⟨_, _, rfl, ho, hb.grown (grownBy_sortedI _) hb.size (fun j hj => by cases hj; exact hbase)⟩
end Go.Proofs.YtpllojpgpejfmaaGreatDoor
