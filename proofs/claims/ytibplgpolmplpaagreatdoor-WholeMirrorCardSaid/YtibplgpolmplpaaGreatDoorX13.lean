/- How the row of a pair comes out of the arrows: plain lists, no program. No condition. slices.Sort of ints, laid off the shelf: the numbers sorted in their own block, at whatever length. Condition: the cells hold the numbers. slices.Sorted(slices.Values(p)) of ints: new memory that holds the numbers of p, sorted. Condition: the slice reads from memory. sort.Ints of a list of the call's own: it is sorted in its place. Condition: the length. slices.Compact of a list of the call's own: what is left is the list with each run told once. Condition: the length. Lists of lists held against each other: edenraw.Lists. Condition: the lists read from memory. -/
import Derived.Shelf.SortM.Plain
import Derived.Shelf.SortM.SortNone
import Derived.RangeFuncNested
import Derived.RangeFuncBound
import Derived.RangeFuncCalls
import Derived.RangeFuncLeaves
import Derived.RangeFuncBox
import Derived.RangeFuncWrites
import Derived.Shelf.Abstract
import Derived.WalkKit
import Derived.OwnWalkIn
import Derived.TacticsInMore
import Derived.LoopNIn
import Derived.LoopIn
import Derived.Maps.AppendAt
import Derived.Sort.OwnSortedInts
import Derived.Shelf.Slices.CompactI
import Derived.Deep.RegionHeld3
import Derived.Test.YtibplgpolmplpaaGreatDoorX1
import Derived.Test.YtibplgpolmplpaaGreatDoorX3
import Derived.Test.YtibplgpolmplpaaGreatDoorX8
import Derived.Test.YtibplgpolmplpaaGreatDoorX11
import Derived.Test.YtibplgpolmplpaaGreatDoorX12
namespace Go.Proofs.YtibplgpolmplpaaGreatDoor
open RuleP PairP
namespace PairP

def arrM (k N : Nat) (t : List Nat) (u m : Nat) : List (Nat × Nat) := (List.range m).map fun s => ((u * k + s) % N, t.getD (u * k + s) 0)
theorem arrM_len (k N : Nat) (t : List Nat) (u m : Nat) : (arrM k N t u m).length = m := by simp [arrM]
theorem arrM_snoc (k N : Nat) (t : List Nat) (u m : Nat) : arrM k N t u (m + 1) = arrM k N t u m ++ [((u * k + m) % N, t.getD (u * k + m) 0)] := by
  unfold arrM
  rw [List.range_succ, List.map_append]
  rfl
theorem mem_arrM {k N : Nat} {t : List Nat} {u m : Nat} {x : Nat × Nat} : x ∈ arrM k N t u m ↔ ∃ s, s < m ∧ x = ((u * k + s) % N, t.getD (u * k + s) 0) := by
  unfold arrM
  rw [List.mem_map]
  constructor
  · rintro ⟨s, hs, rfl⟩; exact ⟨s, List.mem_range.1 hs, rfl⟩
  · rintro ⟨s, hs, rfl⟩; exact ⟨s, List.mem_range.2 hs, rfl⟩
def toB (N : Nat) (a : Nat × Nat) (l : List (Nat × Nat)) : List Nat := (l.filter fun b => decide (a.2 = b.2)).map fun b => a.1 * N + b.1
theorem toB_snoc (N : Nat) (a : Nat × Nat) (l : List (Nat × Nat)) (b : Nat × Nat) : toB N a (l ++ [b]) = if a.2 = b.2 then toB N a l ++ [a.1 * N + b.1] else toB N a l := by
  unfold toB
  rw [List.filter_append, List.map_append]
  by_cases h : a.2 = b.2
  · rw [if_pos h]; simp [h]
  · rw [if_neg h]; simp [h]
theorem toB_len (N : Nat) (a : Nat × Nat) (l : List (Nat × Nat)) : (toB N a l).length ≤ l.length := by
  unfold toB
  rw [List.length_map]
  exact List.length_filter_le _ _
theorem mem_toB {N : Nat} {a : Nat × Nat} {l : List (Nat × Nat)} {q : Nat} : q ∈ toB N a l ↔ ∃ b ∈ l, a.2 = b.2 ∧ q = a.1 * N + b.1 := by
  unfold toB
  rw [List.mem_map]
  constructor
  · rintro ⟨b, hb, rfl⟩
    rw [List.mem_filter] at hb
    exact ⟨b, hb.1, of_decide_eq_true hb.2, rfl⟩
  · rintro ⟨b, hb, h, rfl⟩
    exact ⟨b, List.mem_filter.2 ⟨hb, decide_eq_true h⟩, rfl⟩
def toA (N : Nat) (la lb : List (Nat × Nat)) : List Nat := la.flatMap fun a => toB N a lb
theorem toA_snoc (N : Nat) (la lb : List (Nat × Nat)) (a : Nat × Nat) : toA N (la ++ [a]) lb = toA N la lb ++ toB N a lb := by
  unfold toA
  rw [List.flatMap_append]
  simp
theorem toA_len (N : Nat) (lb : List (Nat × Nat)) : ∀ la : List (Nat × Nat), (toA N la lb).length ≤ la.length * lb.length
  | [] => by simp [toA]
  | a :: la => by
    have h1 := toA_len N lb la
    have h2 := toB_len N a lb
    have e : toA N (a :: la) lb = toB N a lb ++ toA N la lb := by simp [toA]
    rw [e, List.length_append, List.length_cons, Nat.succ_mul]
    omega
theorem mem_toA {k N : Nat} {t : List Nat} {u v q : Nat} : q ∈ toA N (arrM k N t u k) (arrM k N t v k) ↔ ∃ s s', s < k ∧ s' < k ∧ t.getD (u * k + s) 0 = t.getD (v * k + s') 0 ∧ q = (u * k + s) % N * N + (v * k + s') % N := by
  unfold toA
  rw [List.mem_flatMap]
  constructor
  · rintro ⟨a, ha, hq⟩
    obtain ⟨b, hb, h1, h2⟩ := mem_toB.1 hq
    obtain ⟨s, hs, rfl⟩ := mem_arrM.1 ha
    obtain ⟨s', hs', rfl⟩ := mem_arrM.1 hb
    exact ⟨s, s', hs, hs', h1, h2⟩
  · rintro ⟨s, s', hs, hs', h1, h2⟩
    exact ⟨_, mem_arrM.2 ⟨s, hs, rfl⟩, mem_toB.2 ⟨_, mem_arrM.2 ⟨s', hs', rfl⟩, h1, h2⟩⟩
theorem sort_up (xs : List Int) : (xs.mergeSort fun x y => decide (x ≤ y)).Pairwise (· ≤ ·) := by
  have h := List.pairwise_mergeSort (le := fun x y : Int => decide (x ≤ y)) (fun a b c hab hbc => by
    have h1 := of_decide_eq_true hab
    have h2 := of_decide_eq_true hbc
    exact decide_eq_true (by omega)) (fun a b => by
    rcases Int.le_total a b with h | h
    · simp [h]
    · simp [h]) xs
  exact h.imp fun h => of_decide_eq_true h
theorem row_rise (k N : Nat) (t : List Nat) (p : Nat) : (ints (pairRow k N t p)).Pairwise (· < ·) := by
  unfold ints pairRow
  rw [List.pairwise_map]
  refine (List.Pairwise.sublist List.filter_sublist List.pairwise_lt_range).imp fun h => by omega
/-- The row of a pair. -/
theorem pair_row {k N : Nat} {t : List Nat} (hN : 0 < N) (p : Nat) : BagR.dedTo ((ints (toA N (arrM k N t (p / N) k) (arrM k N t (p % N) k))).mergeSort fun x y => decide (x ≤ y)) (toA N (arrM k N t (p / N) k) (arrM k N t (p % N) k)).length = ints (pairRow k N t p) := by
  obtain ⟨L, hL⟩ : ∃ L, toA N (arrM k N t (p / N) k) (arrM k N t (p % N) k) = L := ⟨_, rfl⟩
  rw [hL]
  have hl : L.length = ((ints L).mergeSort fun x y => decide (x ≤ y)).length := by rw [List.length_mergeSort, ints_len]
  refine BagR.rise_ext (BagR.dedTo_rise (sort_up _) (by rw [← hl]; exact Nat.le_refl _)).1 (row_rise k N t p) fun x => ?_
  rw [BagR.dedTo_mem (by rw [← hl]; exact Nat.le_refl _), hl, List.take_length, List.mem_mergeSort]
  unfold ints
  rw [List.mem_map, List.mem_map]
  have key : ∀ q, q ∈ L ↔ q ∈ pairRow k N t p := fun q => by
    rw [mem_row hN, edgeB_iff, ← hL, mem_toA]
  constructor
  · rintro ⟨q, hq, rfl⟩; exact ⟨q, (key q).1 hq, rfl⟩
  · rintro ⟨q, hq, rfl⟩; exact ⟨q, (key q).2 hq, rfl⟩
theorem row_len (k N : Nat) (t : List Nat) (p : Nat) (hN : 0 < N) : (pairRow k N t p).length ≤ k * k := by
  have h := congrArg List.length (pair_row (k := k) (t := t) hN p)
  rw [ints_len] at h
  rw [← h]
  refine Nat.le_trans (BagR.dedTo_len _ _) ?_
  have := toA_len N (arrM k N t (p % N) k) (arrM k N t (p / N) k)
  rwa [arrM_len, arrM_len] at this
end PairP
end Go.Proofs.YtibplgpolmplpaaGreatDoor

namespace Go.Proofs.YtibplgpolmplpaaGreatDoor
open Go.RowKit Go.Shelf Go.Sort
def sortL_ren : Go.Shelf.Ren := ⟨fun | 5 => 100 | 8 => 126 | 7 => 125 | 19 => 145 | 20 => 146 | 10 => 136 | 11 => 137 | 12 => 138 | 13 => 139 | 14 => 140 | 15 => 141 | 16 => 142 | 17 => 143 | 18 => 144 | 30 => 150 | 31 => 151 | 32 => 152 | 33 => 153 | 34 => 154 | 35 => 95 | 40 => 155 | n => n, fun | 23 => 22 | 25 => 3 | 3 => 3 | 32 => 154 | 22 => 22 | 0 => 0 | 44 => 64 | 46 => 87 | 4 => 4 | 36 => 199 | 35 => 198 | 41 => 194 | 5 => 5 | 9 => 9 | 53 => 210 | 57 => 214 | 63 => 216 | 64 => 217 | n => n, fun | n => n⟩
theorem sortL : Go.Proofs.SlLaysM.n5 Tryz.prog sortL_ren := {
  mixed := by kernel_rfl
  f5 := ⟨Tryz.f100.name, by decide, Tryz.func100.trans (congrArg some (by kernel_rfl))⟩
  f7 := ⟨Tryz.f125.name, by decide, Tryz.func125.trans (congrArg some (by kernel_rfl))⟩
  f8 := Tryz.func126.trans (congrArg some (by kernel_rfl))
  f10 := ⟨Tryz.f136.name, by decide, Tryz.func136.trans (congrArg some (by kernel_rfl))⟩
  f11 := ⟨Tryz.f137.name, by decide, Tryz.func137.trans (congrArg some (by kernel_rfl))⟩
  f12 := ⟨Tryz.f138.name, by decide, Tryz.func138.trans (congrArg some (by kernel_rfl))⟩
  f13 := ⟨Tryz.f139.name, by decide, Tryz.func139.trans (congrArg some (by kernel_rfl))⟩
  f14 := ⟨Tryz.f140.name, by decide, Tryz.func140.trans (congrArg some (by kernel_rfl))⟩
  f15 := ⟨Tryz.f141.name, by decide, Tryz.func141.trans (congrArg some (by kernel_rfl))⟩
  f16 := ⟨Tryz.f142.name, by decide, Tryz.func142.trans (congrArg some (by kernel_rfl))⟩
  f17 := ⟨Tryz.f143.name, by decide, Tryz.func143.trans (congrArg some (by kernel_rfl))⟩
  f18 := ⟨Tryz.f144.name, by decide, Tryz.func144.trans (congrArg some (by kernel_rfl))⟩
  f19 := Tryz.func145.trans (congrArg some (by kernel_rfl))
  f20 := Tryz.func146.trans (congrArg some (by kernel_rfl))
  f30 := ⟨Tryz.f150.name, by decide, Tryz.func150.trans (congrArg some (by kernel_rfl))⟩
  f31 := Tryz.func151.trans (congrArg some (by kernel_rfl))
  f32 := Tryz.func152.trans (congrArg some (by kernel_rfl))
  f33 := ⟨Tryz.f153.name, by decide, Tryz.func153.trans (congrArg some (by kernel_rfl))⟩
  f34 := ⟨Tryz.f154.name, by decide, Tryz.func154.trans (congrArg some (by kernel_rfl))⟩
  f35 := ⟨Tryz.f95.name, by decide, Tryz.func95.trans (congrArg some (by kernel_rfl))⟩
  f40 := ⟨Tryz.f155.name, by decide, Tryz.func155.trans (congrArg some (by kernel_rfl))⟩
  t0 := Tryz.underlying0
  a0 := Tryz.isAgg0
  z0 := Tryz.sizeOf0
  v0 := Tryz.zeroValue0
  t3 := Tryz.underlying3
  a3 := Tryz.isAgg3
  z3 := Tryz.sizeOf3
  v3 := Tryz.zeroValue3
  t4 := Tryz.underlying4
  a4 := Tryz.isAgg4
  z4 := Tryz.sizeOf4
  v4 := Tryz.zeroValue4
  t5 := Tryz.underlying5
  a5 := Tryz.isAgg5
  z5 := Tryz.sizeOf5
  v5 := Tryz.zeroValue5
  t9 := Tryz.underlying9
  a9 := Tryz.isAgg9
  z9 := Tryz.sizeOf9
  v9 := Tryz.zeroValue9
  t22 := Tryz.underlying22
  a22 := Tryz.isAgg22
  z22 := Tryz.sizeOf22
  v22 := Tryz.zeroValue22
  t23 := Tryz.underlying22
  a23 := Tryz.isAgg22
  z23 := Tryz.sizeOf22
  v23 := Tryz.zeroValue22
  t25 := Tryz.underlying3
  a25 := Tryz.isAgg3
  z25 := Tryz.sizeOf3
  v25 := Tryz.zeroValue3
  t32 := Tryz.underlying154
  a32 := Tryz.isAgg154
  z32 := Tryz.sizeOf154
  v32 := Tryz.zeroValue154
  t35 := Tryz.underlying198
  a35 := Tryz.isAgg198
  z35 := Tryz.sizeOf198
  v35 := Tryz.zeroValue198
  t36 := Tryz.underlying199
  a36 := Tryz.isAgg199
  z36 := Tryz.sizeOf199
  v36 := Tryz.zeroValue199
  t41 := Tryz.underlying194
  a41 := Tryz.isAgg194
  z41 := Tryz.sizeOf194
  v41 := Tryz.zeroValue194
  t44 := Tryz.underlying64
  a44 := Tryz.isAgg64
  z44 := Tryz.sizeOf64
  v44 := Tryz.zeroValue64
  t46 := Tryz.underlying87
  a46 := Tryz.isAgg87
  z46 := Tryz.sizeOf87
  v46 := Tryz.zeroValue87
  t53 := Tryz.underlying210
  a53 := Tryz.isAgg210
  z53 := Tryz.sizeOf210
  v53 := Tryz.zeroValue210
  t57 := Tryz.underlying214
  a57 := Tryz.isAgg214
  z57 := Tryz.sizeOf214
  v57 := Tryz.zeroValue214
  t63 := Tryz.underlying216
  a63 := Tryz.isAgg216
  z63 := Tryz.sizeOf216
  v63 := Tryz.zeroValue216
  t64 := Tryz.underlying217
  a64 := Tryz.isAgg217
  z64 := Tryz.sizeOf217
  v64 := Tryz.zeroValue217 }
theorem sort_c (w : World) (blk off cap : Nat) (zs : List Int) (hH : Holds (Value.int .i64) w blk off zs.toArray) (hblk : blk < w.heap.size) (hsz : zs.length < 4611686018427387904) :
    Calls Tryz.prog 100 #[.slice (some ⟨blk, off, none⟩) zs.length cap] w fun e w' =>
      e = .returned (.tuple #[]) ∧ ∃ n os, w' = grow (putRow (Value.int .i64) (Sort.ahead w n) blk off (zs.mergeSort fun x y => decide (x ≤ y)).toArray) os := AnyM.slices_Sort_int sortL blk off cap zs w hH hblk hsz
theorem sortNil_c (w : World) (p : Option Addr) (cap : Nat) :
    Calls Tryz.prog 100 #[.slice p 0 cap] w fun e w' => e = .returned (.tuple #[]) ∧ w' = w := AnyM.slices_Sort_int_none sortL p cap w
end Go.Proofs.YtibplgpolmplpaaGreatDoor

namespace Go.Proofs.YtibplgpolmplpaaGreatDoor
open Go.RowKit Go.Shelf Go.Sort Go.Maps

attribute [local go_sem] Oper.semAt_some

set_option maxRecDepth 100000 in
set_option maxHeartbeats 2000000 in
theorem vals1_in (F : Fence) (n : Nat) (hf : F.fn 112) (hro : F.round = none) (hn : 1 ≤ n) (l Bs n₀ len cap : Nat) (ad : Addr) (zs : List Int) (hz : zs.length = len) (hlen : len * 8 ≤ 140737488351232) (hb : ad.block < n₀) (J Jx : List Int → World → Prop)
    (hY : ∀ pre x W, J pre W → pre.length < len → YieldAt F (n - 1) Tryz.prog l #[.int .i64 x] W fun e W' =>
      (e = .returned (.bool true) ∧ J (pre ++ [x]) W' ∧ Below n₀ W W') ∨ (e = .returned (.bool false) ∧ Jx (pre ++ [x]) W'))
    (W : World) (hBs : W.cell? ⟨Bs, 0, none⟩ = some (.slice (some ad) len cap)) (hc : ∀ j, j < len → W.cell? (ad.add j) = some (.int .i64 (zs[j]?.getD 0))) (h0 : J [] W) :
    CallsIn F n Tryz.prog 112 #[.func (.yield l) #[] #[], .pointer (some ⟨Bs, 0, none⟩)] W fun e W' => (∃ v, e = .returned v) ∧
      ((∃ ys, ys = zs ∧ J ys W') ∨ (∃ pre, True ∧ Jx pre W')) := by
  refine callsIn_of_wp Tryz.func112 rfl hf ?_ hro
  simp only [Tryz.ntmps112, List.size_toArray, List.length_cons, List.length_nil, Nat.reduceAdd, Nat.reduceSub, Array.replicate_succ, Array.replicate_zero, List.push_toArray, List.append_toArray, List.nil_append, List.cons_append]
  have HZ := Lib.hid hz
  clear hz
  gi_wp2
  gi_loopw [7] (fun i wr => ∃ k : Nat, k ≤ len ∧ i = .int .i64 k ∧ J (zs.take k) wr ∧ Below n₀ W wr)
    (fun i _ => len - (intOf i).toNat)
  case atStart => exact ⟨0, Nat.zero_le _, rfl, h0, Below.refl _ _⟩
  case round =>
    obtain ⟨k, hk, rfl, hJs, hnx⟩ := hrel
    by_cases hlt : k < len
    · have hcx : wr.cell? (ad.add k) = some (.int .i64 (zs[k]?.getD 0)) := (hnx.cell (p := ad.add k) (by rw [block_of_add]; exact hb)).trans (hc k hlt)
      have hx : zs.take (k + 1) = zs.take k ++ [zs[k]?.getD 0] := by
        rw [List.take_add_one]
        have : k < zs.length := by rw [HZ.out]; exact hlt
        rw [List.getElem?_eq_getElem this]
        rfl
      obtain ⟨fn, tmps, assign, body, hy, hR⟩ := hY _ (zs[k]?.getD 0) wr hJs (by rw [List.length_take, HZ.out]; omega)
      rw [← hx] at hR
      clear hx
      gi_wp2
      refine hR.mono ?_
      rintro e W3 (⟨rfl, hJ3, hk3⟩ | ⟨rfl, hJx3⟩)
      · gi_wp2
        go_roundw
        case rel => exact ⟨k + 1, by omega, by simp, hJ3, hnx.trans hk3⟩
        case measure => simp [intOf]; omega
      · gi_wp2
        refine bodyPost_ret (results_none rfl _ _ _) rfl ?_
        exact ⟨⟨_, rfl⟩, .inr ⟨_, trivial, hJx3⟩⟩
    · obtain rfl : k = len := by omega
      rw [List.take_of_length_le (by rw [HZ.out]; exact Nat.le_refl _)] at hJs
      gi_wp2
      go_end0
      exact ⟨⟨_, rfl⟩, .inl ⟨_, rfl, hJs⟩⟩

set_option maxRecDepth 100000 in
set_option maxHeartbeats 1000000 in
theorem vals_nil_in (F : Fence) (n : Nat) (hf : F.fn 112) (hro : F.round = none) (l Bs : Nat) (J : List Int → World → Prop) (W : World) (A : Option Addr) (cap : Nat) (hBs : W.cell? ⟨Bs, 0, none⟩ = some (.slice A 0 cap)) (h0 : J [] W) :
    CallsIn F n Tryz.prog 112 #[.func (.yield l) #[] #[], .pointer (some ⟨Bs, 0, none⟩)] W fun e W' => (∃ v, e = .returned v) ∧ J [] W' := by
  refine callsIn_of_wp Tryz.func112 rfl hf ?_ hro
  simp only [Tryz.ntmps112, List.size_toArray, List.length_cons, List.length_nil, Nat.reduceAdd, Nat.reduceSub, Array.replicate_succ, Array.replicate_zero, List.push_toArray, List.append_toArray, List.nil_append, List.cons_append]
  gi_wp2
  gi_loopw [7] (fun i wr => i = .int .i64 0 ∧ J [] wr) (fun _ _ => 0)
  case atStart => exact ⟨rfl, h0⟩
  case round =>
    obtain ⟨rfl, hJs⟩ := hrel
    gi_wp2
    go_end0
    exact ⟨⟨_, rfl⟩, hJs⟩

set_option maxHeartbeats 1000000 in
theorem values_in (F : Fence) (n : Nat) (hf : F.fn 68) (hro : F.round = none) (a : Option Addr) (len cap : Nat) (w : World) :
    CallsIn F n Tryz.prog 68 #[.slice a len cap] w fun e w' => e = .returned (.func (.func 112) #[] #[.pointer (some ⟨w.heap.size, 0, none⟩)]) ∧ w' = w.alloc (.cells #[.slice a len cap] 22) := by
  refine callsIn_of_wp Tryz.func68 rfl hf ?_ hro
  simp only [Tryz.ntmps68, List.size_toArray, List.length_cons, List.length_nil, Nat.reduceAdd, Nat.reduceSub, Array.replicate_succ, Array.replicate_zero, List.push_toArray, List.append_toArray, List.nil_append, List.cons_append]
  gi_wp2
  go_ret
  exact ⟨rfl, rfl⟩

/-- What slices.Values hands back gives all, in order. -/
theorem vals_stops (F : Fence) (n : Nat) (hf : F.fn 112) (hro : F.round = none) (hn : 1 ≤ n) (Bs : Nat) (A : Option Addr) (len cap : Nat) (zs : List Int) (w : World) (hz : Sl w A len (zs.map (Value.int .i64))) (hlen : len * 8 ≤ 140737488351232) (hBs : Bs < w.heap.size)
    (hc : w.cell? ⟨Bs, 0, none⟩ = some (.slice A len cap)) (n₀ : Nat) (hA : ∀ ad, A = some ad → 0 < len → ad.block < n₀) :
    SeqStopsK F n Tryz.prog 112 #[.pointer (some ⟨Bs, 0, none⟩)] (fun x : Int => #[Value.int .i64 x]) (Below n₀) (fun ys => ys = zs)
      (fun _ => True) zs.length w := fun l J Jx W hW _ _ hY h0 => by
  have hl : zs.length = len := by simpa using hz.1
  have hc' := (hW.cell (p := ⟨Bs, 0, none⟩) hBs).trans hc
  rcases Nat.eq_zero_or_pos len with h00 | h00
  · subst h00
    have hzs : zs = [] := List.eq_nil_of_length_eq_zero hl
    refine (vals_nil_in F n hf hro l Bs J W A cap hc' h0).mono fun e W' ⟨he, hj⟩ => ⟨he, .inl ⟨_, ?_, hj⟩⟩
    exact hzs.symm
  · obtain ⟨ad, x, rfl, hx⟩ := hz.int_ h00
    exact vals1_in F n hf hro hn l Bs n₀ len cap ad zs hl hlen (hA ad rfl h00) J Jx (by rw [hl] at hY; exact hY) W hc' (fun j hj => by
      obtain ⟨ad', y, e, hy, hcy⟩ := hz.int_ hj
      cases e
      rw [hy]
      exact (hW.cell (p := ad.add j) (World.block_lt_of_cell? _ _ hcy)).trans hcy) h0

theorem infoInt : (Tryz.prog.info? 3).map (fun i => (i.zero, i.size, i.bytes)) = some (some (.int .i64 0), 1, 8) := by kernel_rfl

set_option maxRecDepth 100000 in
set_option maxHeartbeats 2000000 in
theorem appendVals_in (n : Nat) (hn : 3 ≤ n) (w : World) (Bs : Nat) (A : Option Addr) (len cap : Nat) (zs : List Int) (hz : Sl w A len (zs.map (Value.int .i64))) (hlen : len * 8 ≤ 140737488351232) (hBs : Bs < w.heap.size)
    (hc : w.cell? ⟨Bs, 0, none⟩ = some (.slice A len cap)) :
    CallsIn Fence.wide n Tryz.prog 131 #[.slice none 0 0, .func (.func 112) #[] #[.pointer (some ⟨Bs, 0, none⟩)]] w fun e W' =>
      ∃ v, e = .returned v ∧ W'.ownsRow w.heap.size 3 1 v zs.length (zs.map (Value.int .i64)) ∧ Below w.heap.size w W' := by
  have hl : zs.length = len := by simpa using hz.1
  obtain ⟨i0, hi, hz0, hz1, hz2⟩ := info_parts infoInt
  refine callsIn_of_wp_marks Tryz.func131 rfl trivial ?_ rfl
  simp only [Tryz.ntmps131, List.size_toArray, List.length_cons, List.length_nil, Nat.reduceAdd, Nat.reduceSub, Array.replicate_succ, Array.replicate_zero, List.push_toArray, List.append_toArray, List.nil_append, List.cons_append]
  have hBs' : Bs < (w.alloc (.cells #[.slice none 0 0] 22)).heap.size := by simp; omega
  have hB0 : Below w.heap.size w (w.alloc (.cells #[.slice none 0 0] 22)) := (Below.refl _ w).alloc (Nat.le_refl _) _
  have hz' := hz.below hB0
  have hc' := (hB0.cell (p := ⟨Bs, 0, none⟩) hBs).trans hc
  have bO := Boxed.new w 22 (.slice none 0 0)
  have HLT := Lib.hid (fun (ad : Addr) (e : A = some ad) (h0 : 0 < len) => (show ad.block < w.heap.size by
      obtain ⟨ad', x, e', _, hcx⟩ := hz.int_ h0
      rw [e] at e'; cases e'
      have := World.block_lt_of_cell? _ _ hcx
      rwa [block_of_add] at this))
  clear hz hc
  gi_wp2
  refine wpIn_rangeFunc_ownG (F := Fence.wide) rfl (by omega) (gf := 112) (lb := #[.pointer (some ⟨Bs, 0, none⟩)]) rfl trivial (enters_of Tryz.func112 (by kernel_rfl) rfl)
    (vals_stops Fence.wide (n - 1) trivial rfl (by omega) Bs A len cap zs _ hz' hlen hBs' hc' w.heap.size HLT.out) belowK_t (belowK_b (by simp)) (Below.refl _ _) (fun _ => rfl)
    (fun (pre : List Int) W => (∃ v, Boxed W w.heap.size 22 v ∧ W.ownsRow w.heap.size 3 1 v pre.length (pre.map (Value.int .i64)) ∧ True) ∧ Below w.heap.size w W)
    (fun _ _ _ => False)
    (OwnFrom.and (Own.from (holdsRow_own w.heap.size w.heap.size 22 3 1 (fun (pre : List Int) => pre.length) (fun (pre : List Int) => pre.map (Value.int .i64)) (fun _ _ => True)) _) (ownFrom_below (Nat.le_refl _) (by simp)))
    (fun _ _ _ _ _ hs _ _ => hs)
    ⟨⟨_, bO, World.ownsRow_nil _ _ _ _, trivial⟩, hB0⟩
    (fun x => { tmps := #[.slice none 0 0, .func (.func 112) #[] #[.pointer (some ⟨Bs, 0, none⟩)], .pointer (some ⟨w.heap.size, 0, none⟩), undef, .slice none 0 0, .int .i64 x, .func (.func 112) #[] #[.pointer (some ⟨Bs, 0, none⟩)], .int .i64 x, undef, undef, undef, undef, undef], defers := [] }) ?assign ?body ?done ?stop
  case assign =>
    intro l x W K hK
    gi_wp2
    exact hK
  case body =>
    rintro l pre x W ⟨⟨v, hv, hrow, _⟩, hB⟩ hlt
    have hcc := hv.cell
    rw [hl] at hlt
    gi_wp2_with (gi_at_builtin; refine wpListIn_append_own _ rfl _ _ 22 rfl w.heap.size 3 i0 (.int .i64 0) 1 8 Tryz.underlying22 hi hz0 hz1 hz2 rfl (by decide) _ _ _ rfl (hrow.alloc _) ⟨W.heap.size, 0, none⟩ 1 1 [.int .i64 x] rfl rfl (cell_one_new _ _ _) (by simp [Value.oneCell']) (by simp only [maxLen]; omega) (by omega) (by have := hB.size; simp; omega) ?_; intro v' w1 hown' hgrow _; obtain ⟨g', cap', rfl⟩ := ownsRow_succ hown'; obtain ⟨hv1, hv2, hr2, hk2, hb2⟩ := hv.appended (by decide) hrow hB.size (Nat.le_refl _) hown' hgrow; have hc1 := hv1.cell; have hf1 := hv1.frozen)
    exact ⟨hk2.from _, hb2, ⟨_, hv2, by simpa using hr2, trivial⟩, hB.trans hb2⟩
  case done =>
    rintro D ys W hD rfl ⟨⟨v, hv, hrow, _⟩, hB⟩ hK
    have hcc := hv.cell
    gi_wp2
    refine ⟨by simp, .inl ⟨_, _, rfl, run_takeDeferred hK, ?_⟩⟩
    exact ⟨_, results_tmp rfl _ _ _, v, rfl, ownsRow_putObj hrow _ hK rfl, hB.trans (belowK_b (w := w) (Nat.le_refl _) W D _ _ (by simp at hD; omega) hK rfl rfl)⟩
  case stop =>
    rintro D c pre W _ _ h _
    exact h.elim

set_option maxRecDepth 100000 in
set_option maxHeartbeats 2000000 in
theorem sortedVals_c (w : World) (Bs : Nat) (A : Option Addr) (len cap : Nat) (zs : List Int) (hz : Sl w A len (zs.map (Value.int .i64))) (hlen : len * 8 ≤ 140737488351232) (hBs : Bs < w.heap.size)
    (hc : w.cell? ⟨Bs, 0, none⟩ = some (.slice A len cap)) :
    Calls Tryz.prog 67 #[.func (.func 112) #[] #[.pointer (some ⟨Bs, 0, none⟩)]] w fun e W' =>
      ∃ C cc, e = .returned (.slice C len cc) ∧ W'.ownsRow w.heap.size 3 1 (.slice C len cc) len ((zs.mergeSort fun x y => decide (x ≤ y)).map (Value.int .i64)) ∧ Below w.heap.size w W' := by
  have hl : zs.length = len := by simpa using hz.1
  have hA := appendVals_in 3 (Nat.le_refl _) w Bs A len cap zs hz hlen hBs hc
  have hC : Calls Tryz.prog 111 #[.func (.func 112) #[] #[.pointer (some ⟨Bs, 0, none⟩)]] w fun e W' =>
      ∃ v, e = .returned v ∧ W'.ownsRow w.heap.size 3 1 v zs.length (zs.map (Value.int .i64)) ∧ Below w.heap.size w W' := by
    have HA := Lib.hid (callsIn_wide.1 hA)
    clear hz hc
    go_enter Tryz.func111, Tryz.ntmps111
    go_wp2_with fail
    refine (HA.out).mono ?_
    rintro e W' ⟨v, rfl, ho, hb⟩
    go_wp2_with fail
    go_ret
    exact ⟨_, rfl, ho, hb⟩
  have HC := Lib.hid hC
  clear hA hC hz hc
  go_enter Tryz.func67, Tryz.ntmps67
  go_wp2_with fail
  refine (HC.out).mono ?_
  rintro e W ⟨v, rfl, hrow, hb⟩
  rcases hrow.2 with ⟨rfl, hz0⟩ | ⟨gb, cap2, cur, rfl, hbase, hgb, r1, r2, r3, r4⟩
  · have hss : zs = [] := List.eq_nil_of_length_eq_zero hz0
    subst hss
    obtain rfl : len = 0 := hl.symm
    have HN := Lib.hid (sortNil_c W none 0)
    have HR := Lib.hid hrow
    clear hrow hz0 hl
    go_wp2_with fail
    refine (HN.out).mono ?_
    rintro e w' ⟨rfl, rfl⟩
    go_wp2_with fail
    go_ret
    exact ⟨none, 0, rfl, by have h := HR.out; rw [List.mergeSort_nil]; exact h, hb⟩
  · have hH : Holds (Value.int .i64) W gb 0 zs.toArray := holds_of_blockI hgb (by simpa using r4)
    have hgl : gb < W.heap.size := (Array.getElem?_eq_some_iff.1 hgb).1
    have HN := Lib.hid (sort_c W gb 0 cap2 zs hH hgl (by omega))
    have HF := Lib.hid (⟨hbase, hgb, r1, r2, r3⟩ : _ ∧ _ ∧ _ ∧ _ ∧ _)
    have HL := Lib.hid hl
    clear hrow hbase hgb r1 r2 r3 r4 hH hl
    go_wp2_with fail
    refine (HN.out).mono ?_
    rintro e w' ⟨rfl, nn, os, rfl⟩
    go_wp2_with fail
    go_ret
    have hbase := HF.out.1
    have ho := ownsRow_sortedI (ts := zs.mergeSort fun x y => decide (x ≤ y)) (n := nn) (os := os) (List.length_mergeSort _) HF.out.1 HF.out.2.1 HF.out.2.2.1 HF.out.2.2.2.1 HF.out.2.2.2.2
    rw [HL.out] at ho
    rw [HL.out]
    exact ⟨_, _, rfl, ho, hb.grown (grownBy_sortedI _) hb.size (fun j hj => by cases hj; exact hbase)⟩
end Go.Proofs.YtibplgpolmplpaaGreatDoor

namespace Go.Proofs.YtibplgpolmplpaaGreatDoor
open Go.RowKit Go.Shelf Go.Sort Go.Maps

theorem sortOwn_c (w : World) (H n cap : Nat) (C : Option Addr) (xs : List Int) (hr : w.ownsRow H 3 1 (.slice C n cap) n (xs.map (Value.int .i64))) (hn : n < 4611686018427387904) :
    Calls Tryz.prog 100 #[.slice C n cap] w fun e w' => e = .returned (.tuple #[]) ∧ w'.ownsRow H 3 1 (.slice C n cap) n ((xs.mergeSort fun x y => decide (x ≤ y)).map (Value.int .i64)) ∧ w.grownBy w' (Value.slice C n cap).ownBlock := by
  have hl : xs.length = n := by simpa using hr.1
  rcases hr.2 with ⟨hv, hz0⟩ | ⟨gb, cap2, cur, hv, hbase, hgb, r1, r2, r3, r4⟩
  · cases hv
    have hss : xs = [] := List.eq_nil_of_length_eq_zero hl
    subst hss
    refine (sortNil_c w none 0).mono ?_
    rintro e w' ⟨rfl, rfl⟩
    exact ⟨rfl, by rw [List.mergeSort_nil]; exact hr, World.grownBy.refl _ _⟩
  · cases hv
    subst hl
    have hH : Holds (Value.int .i64) w gb 0 xs.toArray := holds_of_blockI hgb (by simpa using r4)
    have hgl : gb < w.heap.size := (Array.getElem?_eq_some_iff.1 hgb).1
    refine (sort_c w gb 0 cap xs hH hgl hn).mono ?_
    rintro e w' ⟨rfl, nn, os, rfl⟩
    exact ⟨rfl, ownsRow_sortedI (ts := xs.mergeSort fun x y => decide (x ≤ y)) (n := nn) (os := os) (List.length_mergeSort _) hbase hgb r1 r2 r3, grownBy_sortedI _⟩
end Go.Proofs.YtibplgpolmplpaaGreatDoor

namespace Go.Proofs.YtibplgpolmplpaaGreatDoor
open Go.RowKit Go.Shelf Go.Sort Go.Maps

def compL_ren : Go.Shelf.Ren := ⟨fun | 20 => 101 | n => n, fun | 22 => 22 | 3 => 3 | 4 => 4 | 0 => 0 | n => n, fun | n => n⟩
theorem compL : Go.Proofs.Lays2.n20 Tryz.prog compL_ren := {
  mixed := by kernel_rfl
  f20 := Tryz.func101.trans (congrArg some (by kernel_rfl))
  t0 := Tryz.underlying0
  a0 := Tryz.isAgg0
  z0 := Tryz.sizeOf0
  v0 := Tryz.zeroValue0
  t3 := Tryz.underlying3
  a3 := Tryz.isAgg3
  z3 := Tryz.sizeOf3
  v3 := Tryz.zeroValue3
  t4 := Tryz.underlying4
  a4 := Tryz.isAgg4
  z4 := Tryz.sizeOf4
  v4 := Tryz.zeroValue4
  t22 := Tryz.underlying22
  a22 := Tryz.isAgg22
  z22 := Tryz.sizeOf22
  v22 := Tryz.zeroValue22
  i3 := by kernel_rfl }

theorem compactUp_ded (xs : List Int) : ∀ i, i ≤ xs.length → Lib.compactUpTo xs.toArray i = BagR.dedTo xs i
  | 0, _ => rfl
  | i + 1, h => by
    rw [Lib.compactUpTo_succ, BagR.dedTo_succ, compactUp_ded xs i (by omega)]
    have e1 : xs.toArray[i]! = xs.getD i 0 := by
      rw [List.getD_eq_getElem?_getD, List.getElem?_eq_getElem (by omega)]
      simp [getElem!_pos, show i < xs.length by omega]
    have e2 : xs.toArray[i - 1]! = xs.getD (i - 1) 0 := by
      rw [List.getD_eq_getElem?_getD, List.getElem?_eq_getElem (by omega)]
      simp [getElem!_pos, show i - 1 < xs.length by omega]
    unfold Lib.keeps
    rw [e1, e2]
    congr 1
    by_cases hc : i = 0 ∨ xs.getD i 0 ≠ xs.getD (i - 1) 0
    · rw [if_pos (decide_eq_true hc), if_pos hc]
    · rw [if_neg (by rw [decide_eq_false hc]; decide), if_neg hc]
theorem compact_ded (xs : List Int) : Lib.compact xs = BagR.dedTo xs xs.length := compactUp_ded xs xs.length (Nat.le_refl _)
/-- The front of a row. -/
theorem own_frontC {w : World} {base e g n m cap : Nat} {xs : List Value} (h : w.ownsRow base e 1 (.slice (some ⟨g, 0, none⟩) n cap) n xs) (hm : m ≤ n) : w.ownsRow base e 1 (.slice (some ⟨g, 0, none⟩) m cap) m (xs.take m) := by
  have hl := h.1
  refine ⟨by rw [List.length_take, hl]; omega, ?_⟩
  rcases h.2 with ⟨hv, _⟩ | ⟨g', cap', cur, hv, hb, hg, h1, h2, h3, h4⟩
  · simp at hv
  · simp only [Value.slice.injEq, Option.some.injEq, Addr.mk.injEq, and_true, true_and] at hv
    obtain ⟨rfl, rfl⟩ := hv
    refine .inr ⟨g, cap, cur, rfl, hb, hg, by omega, h2, h3, ?_⟩
    rw [← h4, List.take_take]
    congr 1
    omega
theorem compOwn_c (w : World) (H n cap : Nat) (C : Option Addr) (xs : List Int) (hr : w.ownsRow H 3 1 (.slice C n cap) n (xs.map (Value.int .i64))) (hn : n < 4611686018427387904) :
    Calls Tryz.prog 101 #[.slice C n cap] w fun e w' => e = .returned (.slice C (BagR.dedTo xs xs.length).length cap) ∧
      w'.ownsRow H 3 1 (.slice C (BagR.dedTo xs xs.length).length cap) (BagR.dedTo xs xs.length).length ((BagR.dedTo xs xs.length).map (Value.int .i64)) ∧ w.grownBy w' (Value.slice C n cap).ownBlock := by
  have hl : xs.length = n := by simpa using hr.1
  rcases hr.2 with ⟨hv, hz0⟩ | ⟨gb, cap2, cur, hv, hbase, hgb, r1, r2, r3, r4⟩
  · cases hv
    have hss : xs = [] := List.eq_nil_of_length_eq_zero hl
    subst hss
    refine (Any.slices_Compact_int_empty compL none 0 w).mono ?_
    rintro e w' ⟨rfl, rfl⟩
    exact ⟨rfl, hr, World.grownBy.refl _ _⟩
  · cases hv
    subst hl
    have hH : Holds (Value.int .i64) w gb 0 xs.toArray := holds_of_blockI hgb (by simpa using r4)
    refine (Any.slices_Compact_int compL gb 0 cap xs w hH (by omega) r1).mono ?_
    rintro e w' ⟨rfl, q, rfl⟩
    rw [compact_ded]
    have hdl := BagR.dedTo_len xs xs.length
    have hts : (BagR.dedTo xs xs.length ++ List.replicate (xs.length - (BagR.dedTo xs xs.length).length) 0).length = xs.length := by simp; omega
    have h1 := ownsRow_sortedI (ts := BagR.dedTo xs xs.length ++ List.replicate (xs.length - (BagR.dedTo xs xs.length).length) 0) (n := q) (os := #[]) hts hbase hgb r1 r2 r3
    have h2 : w.grownBy (grow (putRow (Value.int .i64) (Sort.ahead w q) gb 0 (BagR.dedTo xs xs.length ++ List.replicate (xs.length - (BagR.dedTo xs xs.length).length) 0).toArray) #[]) (some gb) := grownBy_sortedI _
    rw [grow_empty] at h1 h2
    refine ⟨rfl, ?_, h2⟩
    have h3 := own_frontC h1 hdl
    rw [← List.map_take, List.take_left' rfl] at h3
    exact h3
end Go.Proofs.YtibplgpolmplpaaGreatDoor

namespace Go.Proofs.YtibplgpolmplpaaGreatDoor
open Go.RowKit

/-- The slice reads as a list of lists. -/
def ListAt (w : World) (A : Option Addr) (n : Nat) (L : List (List Int)) : Prop :=
  ∃ vs : List Value, Sl w A n vs ∧ n = L.length ∧ ∀ (j : Nat) l, L[j]? = some l → ∃ P c, vs[j]? = some (.slice P l.length c) ∧ l.length ≤ 9223372036854775807 ∧ Sl w P l.length (l.map (Value.int .i64))
theorem ListAt.keep {w w' : World} {A : Option Addr} {n : Nat} {L : List (List Int)} (h : ListAt w A n L) (hb : Below w.heap.size w w') : ListAt w' A n L := by
  obtain ⟨vs, h1, h2, h3⟩ := h
  exact ⟨vs, h1.below hb, h2, fun j l hj => by obtain ⟨P, c, a, b, d⟩ := h3 j l hj; exact ⟨P, c, a, b, d.below hb⟩⟩
theorem ListAt.at_ {w : World} {A : Option Addr} {n j : Nat} {L : List (List Int)} (h : ListAt w A n L) (hj : j < n) : ∃ ad l P c, A = some ad ∧ L[j]? = some l ∧ w.cell? (ad.add j) = some (.slice P l.length c) ∧ l.length ≤ 9223372036854775807 ∧ Sl w P l.length (l.map (Value.int .i64)) := by
  obtain ⟨vs, h1, h2, h3⟩ := h
  obtain ⟨ad, v, e, hv, hc⟩ := h1.at_ hj
  obtain ⟨P, c, a, b, d⟩ := h3 j _ (List.getElem?_eq_getElem (by omega))
  rw [hv] at a
  cases a
  exact ⟨ad, _, P, c, e, List.getElem?_eq_getElem (by omega), hc, b, d⟩

end Go.Proofs.YtibplgpolmplpaaGreatDoor
