/- What the search for twins begins with: twins.nodes, slices.Repeat of one number. Condition: the lists read from memory. The search for twins, the walk: twins.meet. Condition: the graph reads from memory; it is one of pairs. -/
import Derived.Laws.CopyOwn
import Derived.Shelf.Bits.Mul64
import Derived.Deep.RegionLaw
import Derived.IntWalk
import Derived.Test.YtibplgpolmplpaaGreatDoorW3
import Derived.Test.YtibplgpolmplpaaGreatDoorW4
import Derived.Test.YtibplgpolmplpaaGreatDoorW12
import Derived.Test.YtibplgpolmplpaaGreatDoorW13
namespace Go.Proofs.YtibplgpolmplpaaGreatDoor
open Go.RowKit RuleP MeetP

def mulL_ren : Go.Shelf.Ren := ⟨fun | 212 => 127 | 263 => 147 | 264 => 148 | n => n, fun | 46 => 154 | 51 => 64 | 146 => 185 | 53 => 87 | 148 => 207 | n => n, fun | n => n⟩
theorem mulL : Go.Proofs.Lays.n212 Tryz.prog mulL_ren := {
  mixed := by kernel_rfl
  f212 := Tryz.func127.trans (congrArg some (by kernel_rfl))
  f263 := Tryz.func147.trans (congrArg some (by kernel_rfl))
  f264 := Tryz.func148.trans (congrArg some (by kernel_rfl))
  t46 := Tryz.underlying154
  a46 := Tryz.isAgg154
  z46 := Tryz.sizeOf154
  v46 := Tryz.zeroValue154
  t51 := Tryz.underlying64
  a51 := Tryz.isAgg64
  z51 := Tryz.sizeOf64
  v51 := Tryz.zeroValue64
  t53 := Tryz.underlying87
  a53 := Tryz.isAgg87
  z53 := Tryz.sizeOf87
  v53 := Tryz.zeroValue87
  t146 := Tryz.underlying185
  a146 := Tryz.isAgg185
  z146 := Tryz.sizeOf185
  v146 := Tryz.zeroValue185
  t148 := Tryz.underlying207
  a148 := Tryz.isAgg207
  z148 := Tryz.sizeOf207
  v148 := Tryz.zeroValue207 }

set_option maxRecDepth 100000 in
set_option maxHeartbeats 1000000 in
theorem twinNodes_c (w : World) (N M : Nat) (hN : 1 ≤ N) (h4 : N ≤ 256) (hM : N * N = M) :
    Calls Tryz.prog 102 #[.int .i64 (M : Int)] w fun e w' => e = .returned (.int .i64 (N : Int)) ∧ w = w' := by
  have HM := Lib.hid hM
  clear hM
  go_enter Tryz.func102, Tryz.ntmps102
  go_wp2_with fail
  go_loopw [3] (fun iv wl => ∃ i : Nat, iv = .int .i64 (i : Int) ∧ 1 ≤ i ∧ i ≤ N ∧ w = wl) (fun iv _ => N - (intOf iv).toNat)
  case atStart => exact ⟨1, rfl, Nat.le_refl _, hN, rfl⟩
  case round =>
    obtain ⟨i, rfl, hi1, hi, rfl⟩ := hrel
    obtain ⟨Q, hQ⟩ : ∃ Q, i * i = Q := ⟨_, rfl⟩
    have hQi : (i : Int) * (i : Int) = (Q : Int) := by rw [← hQ]; rfl
    have hq : Q ≤ 65536 := by rw [← hQ]; exact Nat.le_trans (Nat.mul_le_mul (show i ≤ 256 by omega) (show i ≤ 256 by omega)) (by decide)
    by_cases hlt : i < N
    · have hQM : Q < M := by
        rw [← hQ, ← HM.out]
        exact Nat.lt_of_lt_of_le (Nat.mul_lt_mul_of_lt_of_le hlt hi (by omega)) (Nat.le_refl _)
      have hQM' : (Q : Int) < (M : Int) := by omega
      clear hQ
      go_wp2_with fail
      exact ⟨⟨i + 1, by go_num, by omega, by omega, by first | rfl | trivial⟩, by simp [intOf]; omega⟩
    · obtain rfl : i = N := by omega
      have hQM' : ¬ (Q : Int) < (M : Int) := by have := HM.out; omega
      clear hQ
      go_wp2_with fail
      go_ret
      exact ⟨rfl, rfl⟩

theorem rep_splice (x : Value) (z : Value) {n m M : Nat} (h : n + m ≤ M) : splice (List.replicate n x ++ List.replicate (M - n) z) n (List.replicate m x) = List.replicate (n + m) x ++ List.replicate (M - (n + m)) z := by
  unfold splice
  rw [List.take_left' (by simp), List.drop_append, List.drop_eq_nil_of_le (by simp), List.nil_append, List.drop_replicate, List.length_replicate, ← List.append_assoc, List.replicate_append_replicate]
  congr 2
  simp
  omega

set_option maxRecDepth 100000 in
set_option maxHeartbeats 2000000 in
theorem repeat_c (w : World) (A : Option Addr) (c : Nat) (x : Int) (hX : Sl w A 1 [.int .i64 x]) (M : Nat) (hM1 : 1 ≤ M) (hM : M ≤ 100000) :
    Calls Tryz.prog 103 #[.slice A 1 c, .int .i64 (M : Int)] w fun e w' => e = .returned (.slice (some ⟨w.heap.size, 0, none⟩) M M) ∧ w'.ownsRow w.heap.size 3 1 (.slice (some ⟨w.heap.size, 0, none⟩) M M) M (List.replicate M (.int .i64 x)) ∧ Below w.heap.size w w' := by
  have hmul := Any.bits_Mul mulL 1 M (by decide) (by omega) w
  rw [Nat.one_mul, Nat.div_eq_of_lt (show M < 18446744073709551616 by omega), Nat.mod_eq_of_lt (show M < 18446744073709551616 by omega)] at hmul
  have hmul' : Calls Tryz.prog 127 #[.int .u64 1, .int .u64 (M : Int)] w fun e w' => e = .returned (.tuple #[.int .u64 0, .int .u64 (M : Int)]) ∧ w = w' := hmul.mono fun _ _ h => ⟨h.1, h.2.symm⟩
  have HMUL := Lib.hid hmul'
  have hmk := run_make_row' (P := Tryz.prog) 22 3 (.int .i64 0) 8 tInts.und tInts.info rfl .i64 .i64 M (by omega) (by omega)
  have hb1 := (Below.refl w.heap.size w).alloc (Nat.le_refl _) (.cells (madeCells #[.int .i64 0] M) 3)
  have hh1 := heap_new w (.cells (madeCells #[.int .i64 0] M) 3)
  have hh1' : (w.alloc (.cells (madeCells #[.int .i64 0] M) 3)).heap[w.heap.size]? = some (.cells (List.replicate 0 (Value.int .i64 x) ++ List.replicate (M - 0) (Value.int .i64 0)).toArray 3 (0, 0)) := by
    rw [hh1]
    have e : madeCells #[.int .i64 0] M = (List.replicate M (Value.int .i64 0)).toArray := by
      apply Array.toList_inj.1
      rw [toList_madeCells_one]
    rw [e]
    rfl
  have hX1 := hX.below hb1
  have HSRC : Hid (∃ ad, A = some ad ∧ ∀ j v, [Value.int .i64 x][j]? = some v → (w.alloc (.cells (madeCells #[.int .i64 0] M) 3)).cell? (ad.add j) = some v) := Lib.hid (by
    obtain ⟨ad, e, h0⟩ := hX1.2 0 (.int .i64 x) rfl
    refine ⟨ad, e, fun j v hj => ?_⟩
    match j, hj with
    | 0, hj => cases hj; exact h0)
  have hone : ∀ v ∈ [Value.int .i64 x], v.oneCell' = true := fun v hv => by simp at hv; subst hv; rfl
  have hBB := hb1
  have hnn : [Value.int .i64 x].length = Nat.min 1 M := (Nat.min_eq_left hM1).symm
  have hfit : 0 + [Value.int .i64 x].length ≤ (List.replicate 0 (Value.int .i64 x) ++ List.replicate (M - 0) (Value.int .i64 0)).length := by simp; omega
  have e1 : IntKind.u64.wrap (M : Int) = (M : Int) := IntWalk.u64_in _ ⟨by omega, by omega⟩
  have e2 : IntKind.i64.wrap (M : Int) = (M : Int) := IntWalk.i64_in _ (by omega)
  have hM0 : ¬ (M : Int) < 0 := by omega
  have hMg : ¬ (M : Int) > 9223372036854775807 := by omega
  clear hmul hmul' hb1 hh1 hX
  go_enter Tryz.func103, Tryz.ntmps103
  go_wp2_with fail
  refine (HMUL.out).mono ?_
  rintro e w2 ⟨rfl, rfl⟩
  go_wp2_with (refine wpList_copy_splice rfl _ _ _ _ rfl 3 tInts.und (by kernel_rfl) (some ⟨w.heap.size, 0, none⟩) A M M 1 c rfl rfl w.heap.size 0 _ 3 hh1' [.int .i64 x] hnn (fun _ => ⟨rfl, HSRC.out⟩) hfit hone w.heap.size w hBB (Nat.le_refl _) ?_; intro w3 h3 b3)
  have H3 : Hid (w3.heap[w.heap.size]? = some (.cells (List.replicate 1 (Value.int .i64 x) ++ List.replicate (M - 1) (Value.int .i64 0)).toArray 3 (0, 0))) := Lib.hid (by
    have := h3.out
    have e := rep_splice (Value.int .i64 x) (Value.int .i64 0) (n := 0) (m := 1) (M := M) (by omega)
    rw [show [Value.int .i64 x] = List.replicate 1 (Value.int .i64 x) from rfl, e] at this
    exact this)
  have HB3 := Lib.hid b3
  clear h3 b3 hmk hh1' hBB hone hX1 hnn hfit
  go_wp2_with fail
  go_loopw [8] (fun nv wl => ∃ n : Nat, nv = .int .i64 (n : Int) ∧ 1 ≤ n ∧ n ≤ M ∧ Hid (wl.heap[w.heap.size]? = some (.cells (List.replicate n (Value.int .i64 x) ++ List.replicate (M - n) (Value.int .i64 0)).toArray 3 (0, 0))) ∧ Hid (Below w.heap.size w wl)) (fun nv _ => M - (intOf nv).toNat)
  case atStart => exact ⟨1, rfl, Nat.le_refl _, hM1, H3, HB3⟩
  case round =>
    obtain ⟨n, rfl, hn1, hnM, hH, hB⟩ := hrel
    clear H3 HB3
    by_cases hlt : n < M
    · have hlt' : (n : Int) < (M : Int) := by omega
      have hn0 : (0 : Int) ≤ (n : Int) := by omega
      have hnM' : (n : Int) ≤ (M : Int) := by omega
      have hMn : ¬ M = n := by omega
      obtain ⟨m, hm⟩ : ∃ m, Nat.min n (M - n) = m := ⟨_, rfl⟩
      have hm1 : 1 ≤ m ∧ m ≤ n ∧ n + m ≤ M := by
        rw [← hm]
        refine ⟨?_, Nat.min_le_left _ _, ?_⟩
        · exact Nat.le_min.2 ⟨hn1, by omega⟩
        · exact Nat.le_trans (Nat.add_le_add_left (Nat.min_le_right _ _) n) (by omega)
      have hsb : (M : Int) - (n : Int) = ((M - n : Nat) : Int) := by omega
      have hHd : wr.drew.heap[w.heap.size]? = some (.cells (List.replicate n (Value.int .i64 x) ++ List.replicate (M - n) (Value.int .i64 0)).toArray 3 (0, 0)) := hH.out
      have hsrc : ∀ j v, (List.replicate m (Value.int .i64 x))[j]? = some v → wr.drew.cell? ((⟨w.heap.size, 0, none⟩ : Addr).add j) = some v := by
        intro j v hj
        rw [List.getElem?_replicate] at hj
        split at hj
        · rename_i hjm
          cases hj
          have e : (⟨w.heap.size, 0, none⟩ : Addr).add j = ⟨w.heap.size, j, none⟩ := by
            unfold Addr.add
            split
            · rename_i h; rw [h]
            · simp
          rw [e, cell_of_row _ _ _ _ _ _ hHd, ← Array.getElem?_toList]
          simp only
          rw [List.getElem?_append_left (by simp; omega), List.getElem?_replicate, if_pos (by omega)]
        · cases hj
      have HSR := Lib.hid hsrc
      have hbd : Below w.heap.size w wr.drew := hB.out.drew
      have hone : ∀ v ∈ List.replicate m (Value.int .i64 x), v.oneCell' = true := fun v hv => by rw [List.eq_of_mem_replicate hv]; rfl
      obtain ⟨hm1a, hm1b, hm1c⟩ := hm1
      have hrun := run_copy_row (P := Tryz.prog) wr.drew 22 22 3 3 w.heap.size n (M - n) (M - n) ⟨w.heap.size, 0, none⟩ n M _ 3 (List.replicate m (Value.int .i64 x)) tInts.und (by kernel_rfl) hHd (by rw [List.length_replicate]; exact hm.symm) hsrc (by simp; omega) hone
      rw [List.length_replicate] at hrun
      have hnew := setRow_heap wr.drew w.heap.size _ ((List.replicate n (Value.int .i64 x) ++ List.replicate (M - n) (Value.int .i64 0)).toArray.toList.take n ++ List.replicate m (Value.int .i64 x) ++ (List.replicate n (Value.int .i64 x) ++ List.replicate (M - n) (Value.int .i64 0)).toArray.toList.drop (n + m)).toArray 3 _ hHd
      have hbn := below_setRow hbd (Nat.le_refl _) ((List.replicate n (Value.int .i64 x) ++ List.replicate (M - n) (Value.int .i64 0)).toArray.toList.take n ++ List.replicate m (Value.int .i64 x) ++ (List.replicate n (Value.int .i64 x) ++ List.replicate (M - n) (Value.int .i64 0)).toArray.toList.drop (n + m)).toArray
      obtain ⟨W5, hW5⟩ : ∃ W5, wr.drew.setRow w.heap.size ((List.replicate n (Value.int .i64 x) ++ List.replicate (M - n) (Value.int .i64 0)).toArray.toList.take n ++ List.replicate m (Value.int .i64 x) ++ (List.replicate n (Value.int .i64 x) ++ List.replicate (M - n) (Value.int .i64 0)).toArray.toList.drop (n + m)).toArray = W5 := ⟨_, rfl⟩
      rw [hW5] at hrun hnew hbn
      have HN : Hid (W5.heap[w.heap.size]? = some (.cells (List.replicate (n + m) (Value.int .i64 x) ++ List.replicate (M - (n + m)) (Value.int .i64 0)).toArray 3 (0, 0))) := Lib.hid (by
        have h := rep_splice (Value.int .i64 x) (Value.int .i64 0) (n := n) (m := m) (M := M) hm1c
        unfold splice at h
        rw [List.length_replicate] at h
        rw [hnew, List.append_assoc]
        simp only
        rw [h])
      have HB5 := Lib.hid hbn
      have hgi : goInt (m : Int) = .int .i64 (m : Int) := rfl
      rw [hgi] at hrun
      clear hsrc hm hHd hone hbd hnew hbn hW5 hH hB hgi
      go_wp2_with fail
      go_region
      all_goals
        go_wp2_with fail
        exact ⟨⟨n + m, by go_num, by omega, by omega, HN, HB5⟩, by simp [intOf]; omega⟩
    · obtain rfl : n = M := by omega
      have hlt' : ¬ (n : Int) < (n : Int) := by omega
      have HOW : Hid (wr.ownsRow w.heap.size 3 1 (.slice (some ⟨w.heap.size, 0, none⟩) n n) n (List.replicate n (.int .i64 x))) := Lib.hid (by
        have h := hH.out
        rw [Nat.sub_self] at h
        refine ⟨by simp, .inr ⟨w.heap.size, n, _, rfl, Nat.le_refl _, h, Nat.le_refl _, by simp only [maxLen]; omega, by simp, ?_⟩⟩
        simp)
      go_wp2_with fail
      go_ret
      exact ⟨rfl, HOW.out, hB.out⟩
end Go.Proofs.YtibplgpolmplpaaGreatDoor

namespace Go.Proofs.YtibplgpolmplpaaGreatDoor
open Go.RowKit RuleP MeetP

/-- The list of pairs of equal nodes. -/
def diagQ (N u : Nat) : List Nat := (List.range u).map fun u => u * N + u
theorem diagQ_snoc (N u : Nat) : diagQ N (u + 1) = diagQ N u ++ [u * N + u] := by
  unfold diagQ
  rw [List.range_succ, List.map_append]
  rfl
theorem diagQ_len (N u : Nat) : (diagQ N u).length = u := by simp [diagQ]
theorem ints_push (l : List Nat) (x : Nat) : (ints (l ++ [x])).map (Value.int .i64) = (ints l).map (Value.int .i64) ++ [.int .i64 (x : Int)] := by simp [ints]

def slLen : Value → Nat
  | .slice _ n _ => n
  | _ => 0
theorem back_len (came : List Int) : ∀ f v, (backTo came f v).length ≤ f
  | 0, _ => Nat.le_refl _
  | f + 1, v => by
    rw [backTo, List.length_cons]
    split
    · simp
    · have := back_len came f (came.getD v (-1)).toNat
      omega
theorem nat_at {w : World} {A : Option Addr} {n : Nat} {l : List Nat} (h : Sl w A n ((ints l).map (Value.int .i64))) {i : Nat} (hi : i < n) : ∃ ad v, A = some ad ∧ l[i]? = some v ∧ w.cell? (ad.add i) = some (.int .i64 ((v : Nat) : Int)) := by
  obtain ⟨ad, x, e, hx, hc⟩ := h.int_ hi
  rw [ints, List.getElem?_map] at hx
  cases hl : l[i]? with
  | none => rw [hl] at hx; cases hx
  | some v =>
    rw [hl] at hx
    obtain rfl := Option.some.inj hx
    exact ⟨ad, v, e, rfl, hc⟩
theorem getN_of {l : List Nat} {i v : Nat} (h : l[i]? = some v) : l.getD i 0 = v := by rw [List.getD_eq_getElem?_getD, h]; rfl

set_option maxRecDepth 100000 in
set_option maxHeartbeats 4000000 in
theorem meet_c (w : World) (A : Option Addr) (M c N : Nat) (g : List (List Nat)) (hg : ListAt w A M (g.map ints)) (hok : Ok N g) (hN : 1 ≤ N) (h4 : N ≤ 256) (hM : N * N = M) (hrow : ∀ l ∈ g, l.length ≤ 1000) :
    Calls Tryz.prog 56 #[.slice A M c] w fun e w' => ∃ (C : Option Addr) (cc : Nat), e = .returned (.slice C (meetF N g).length cc) ∧ w'.ownsRow w.heap.size 3 1 (.slice C (meetF N g).length cc) (meetF N g).length ((ints (meetF N g)).map (Value.int .i64)) ∧ Below w.heap.size w w' := by
  obtain ⟨mf, hmf⟩ : ∃ mf, meetF N g = mf := ⟨_, rfl⟩
  rw [hmf]
  have HMF := Lib.hid hmf
  clear hmf
  have hM1 : 1 ≤ M := by rw [← hM]; exact Nat.mul_pos hN hN
  have hM6 : M ≤ 65536 := by rw [← hM]; exact Nat.le_trans (Nat.mul_le_mul h4 h4) (by decide)
  have hgl : g.length = M := by rw [hok.len, hM]
  have HND := Lib.hid (twinNodes_c w N M hN h4 hM)
  have hbx := (Below.refl w.heap.size w).alloc (Nat.le_refl _) (.cells #[.int .i64 (-1)] 3)
  have hlit := Sl.of_own (World.ownsRow_lit (base := w.heap.size) (e := 3) (size := 1) w #[.int .i64 (-1)] 1 (Nat.le_refl _) (by decide) (by simp))
  obtain ⟨w1, hw1⟩ : ∃ w1, w.alloc (.cells #[.int .i64 (-1)] 3) = w1 := ⟨_, rfl⟩
  rw [hw1] at hbx hlit
  have HRP := Lib.hid (repeat_c w1 (some ⟨w.heap.size, 0, none⟩) 1 (-1) hlit M hM1 (by omega))
  have HW1 := Lib.hid hw1
  have HB1 := Lib.hid hbx
  have HG := Lib.hid hg
  have HOK := Lib.hid hok
  have HGL := Lib.hid hgl
  have HMM := Lib.hid hM
  have HROW := Lib.hid hrow
  have hNz : ¬ ((N : Int) = 0) := by omega
  have hNzn : ¬ N = 0 := by omega
  clear hbx hlit hw1 hg hok hM hgl hrow
  go_enter Tryz.func56, Tryz.ntmps56
  go_wp2_with fail
  refine (HND.out).mono ?_
  rintro e w' ⟨rfl, rfl⟩
  go_wp2_with fail
  rw [HW1.out]
  refine (HRP.out).mono ?_
  rintro e w2 ⟨rfl, hoc2, hb2⟩
  obtain ⟨gc, hgc⟩ : ∃ gc, w1.heap.size = gc := ⟨_, rfl⟩
  rw [hgc] at hoc2 ⊢
  have hb02 := HB1.out.trans (hb2.mono HB1.out.size)
  have hwg : w.heap.size ≤ gc := by have := HB1.out.size; omega
  have hgc2 : gc < w2.heap.size := (hoc2.lt _ rfl).2
  have hC2 : w2.ownsRow w.heap.size 3 1 (.slice (some ⟨gc, 0, none⟩) M M) M ((List.replicate g.length (-1 : Int)).map (Value.int .i64)) := by
    rw [List.map_replicate, HGL.out]
    exact own_base hoc2 hwg
  have HC2 := Lib.hid hC2
  have HB02 := Lib.hid hb02
  clear hoc2 hb2 hb02 hC2 HND HRP hgc
  go_wp2_with fail
  go_loopw [5, 22] (fun qv uv wl => ∃ (u : Nat) (Q : Option Addr) (qc : Nat), uv = .int .i64 (u : Int) ∧ u ≤ N ∧ qv = .slice Q u qc ∧ Hid (wl.ownsRow w2.heap.size 3 1 (.slice Q u qc) u ((ints (diagQ N u)).map (Value.int .i64))) ∧ Hid (Below w2.heap.size w2 wl)) (fun _ uv _ => N - (intOf uv).toNat)
  case atStart => exact ⟨0, none, 0, rfl, Nat.zero_le _, rfl, Lib.hid ⟨rfl, .inl ⟨rfl, rfl⟩⟩, Lib.hid (Below.refl _ _)⟩
  case round =>
    obtain ⟨u, Q, qc, rfl, hu, rfl, hQ, hB⟩ := hrel
    obtain ⟨v0, rfl⟩ : ∃ v0, v0 = wr := ⟨_, rfl⟩
    by_cases huN : u < N
    · have huN' : (u : Int) < (N : Int) := by omega
      have hu0 : (0 : Int) ≤ (u : Int) := by omega
      have hpm : u * N ≤ 65536 := Nat.le_trans (Nat.mul_le_mul (show u ≤ 256 by omega) h4) (by decide)
      obtain ⟨p, hp⟩ : ∃ p, u * N = p := ⟨_, rfl⟩
      have hpi : (u : Int) * (N : Int) = (p : Int) := by rw [← hp]; rfl
      obtain ⟨q, hq⟩ : ∃ q, p + u = q := ⟨_, rfl⟩
      have hqi : (p : Int) + (u : Int) = (q : Int) := by omega
      rw [hp] at hpm
      have hq1 : q ≤ 65792 := by omega
      have HPQ := Lib.hid (And.intro hp hq)
      have hQO := hQ.out
      have hsz := hB.out.size
      clear hp hq
      go_wp2_with (at_builtin; refine wpList_push2 rfl _ _ _ rfl tInts hQO rfl _ 0 rfl rfl rfl (by simp only [maxLen]; omega) (by omega) hsz ?_; intro g3 cap3 v3 hown3 hor3 hlt3)
      have HQ3 : Hid (v3.ownsRow w2.heap.size 3 1 (.slice (some ⟨g3, 0, none⟩) (u + 1) cap3) (u + 1) ((ints (diagQ N (u + 1))).map (Value.int .i64))) := Lib.hid (by
        rw [diagQ_snoc, HPQ.out.1, HPQ.out.2, ints_push]
        exact hown3)
      have HB3 := Lib.hid (push_below hB.out hQO hor3 hsz)
      clear hown3 hor3 hQO
      go_wp2_with fail
      exact ⟨⟨u + 1, _, _, by go_num, by omega, rfl, HQ3, HB3⟩, by simp [intOf]; omega⟩
    · obtain rfl : u = N := by omega
      have huN' : ¬ (u : Int) < (u : Int) := by omega
      have hin := Inv.init HOK.out
      have hr0 : roundTo u g 0 = .go (List.replicate g.length (-1)) (diagQ u u) := rfl
      have hq0 : v0.ownsRow w2.heap.size 3 1 (.slice Q (diagQ u u).length qc) (diagQ u u).length ((ints (diagQ u u)).map (Value.int .i64)) := by rw [diagQ_len]; exact hQ.out
      have HIN : Hid (Inv u g (List.replicate g.length (-1)) (diagQ u u)) := Lib.hid hin
      have HR0 := Lib.hid hr0
      have HQ0 := Lib.hid hq0
      have HC0 := Lib.hid (own_below HC2.out hB.out)
      have HB0 := Lib.hid (HB02.out.trans (hB.out.mono HB02.out.size))
      have hql : (diagQ u u).length = u := diagQ_len u u
      have hsz2 : w2.heap.size ≤ v0.heap.size := hB.out.size
      clear hin hr0 hq0 hQ hB HC2
      go_wp2_with fail
      go_loopw [5, 7] (fun qv iv wl => ∃ (i : Nat) (came : List Int) (queue : List Nat) (Q : Option Addr) (qc ql : Nat), iv = .int .i64 (i : Int) ∧ i ≤ ql ∧ qv = .slice Q ql qc ∧ Hid (queue.length = ql) ∧ Hid (roundTo u g i = .go came queue) ∧ Hid (Inv u g came queue) ∧
        Hid (wl.ownsRow w.heap.size 3 1 (.slice (some ⟨gc, 0, none⟩) M M) M (came.map (Value.int .i64))) ∧ Hid (wl.ownsRow w2.heap.size 3 1 (.slice Q ql qc) ql ((ints queue).map (Value.int .i64))) ∧ Hid (Below w.heap.size w wl) ∧ Hid (w2.heap.size ≤ wl.heap.size)) (fun _ iv _ => M + 1 - (intOf iv).toNat)
      case atStart => exact ⟨0, _, diagQ u u, Q, qc, u, rfl, Nat.zero_le _, rfl, Lib.hid hql, HR0, HIN, HC0, (by rw [diagQ_len] at HQ0; exact HQ0), HB0, Lib.hid hsz2⟩
      case round =>
        obtain ⟨i, came, queue, Q2, qc2, ql, rfl, hi, rfl, hQL, hRD, hINV, hCM, hQU, hB2, hSZ⟩ := hrel
        clear HIN HR0 HQ0 HC0 HB0 hql hsz2
        obtain ⟨v1, rfl⟩ : ∃ v1, v1 = wr := ⟨_, rfl⟩
        have hqM : ql ≤ M := by
          have h := nodup_len hINV.out.nd hINV.out.qlt
          rw [hQL.out, HGL.out] at h
          exact h
        by_cases hil : i < ql
        · have hil' : (i : Int) < (ql : Int) := by omega
          have hi0 : (0 : Int) ≤ (i : Int) := by omega
          obtain ⟨aq, v, rfl, hv, hcv⟩ := nat_at (Sl.of_own hQU.out) hil
          have hvq := List.mem_of_getElem? hv
          have hvM : v < M := by rw [← HGL.out]; exact hINV.out.qlt v hvq
          have hvM' : (v : Int) < (M : Int) := by omega
          have hv0 : (0 : Int) ≤ (v : Int) := by omega
          obtain ⟨ad, l, P, pc, rfl, hl, hcl0, _, hsl⟩ := HG.out.at_ hvM
          have hcl := cell_later hB2.out hcl0
          clear hcl0
          obtain ⟨row, hrw, rfl⟩ : ∃ row, g[v]? = some row ∧ ints row = l := by
            rw [List.getElem?_map] at hl
            cases hx : g[v]? with
            | none => rw [hx] at hl; cases hl
            | some y => rw [hx] at hl; exact ⟨y, rfl, Option.some.inj hl⟩
          have hrl := HROW.out row (List.mem_of_getElem? hrw)
          have hgd : g.getD v [] = row := by rw [List.getD_eq_getElem?_getD, hrw]; rfl
          obtain ⟨rl, hrl'⟩ : ∃ rl, row.length = rl := ⟨_, rfl⟩
          rw [ints_len, hrl'] at hcl hsl
          rw [hrl'] at hrl
          obtain ⟨av, hav⟩ : ∃ av, v / u = av := ⟨_, rfl⟩
          obtain ⟨bv, hbv⟩ : ∃ bv, v % u = bv := ⟨_, rfl⟩
          have ev1 : (v : Int).tdiv (u : Int) = (av : Int) := by rw [← hav]; rfl
          have ev2 : (v : Int).tmod (u : Int) = (bv : Int) := by rw [← hbv]; rfl
          have ev3 : (v : Int) / (u : Int) = (av : Int) := by rw [← hav]; rfl
          have ev4 : (v : Int) % (u : Int) = (bv : Int) := by rw [← hbv]; rfl
          have hav1 : av ≤ 65536 := by rw [← hav]; exact Nat.le_trans (Nat.div_le_self _ _) (by omega)
          have ev5 : IntKind.i64.wrap (av : Int) = (av : Int) := IntWalk.i64_in _ (by omega)
          have HDV : Hid (diag u v = decide (av = bv)) := Lib.hid (by rw [diag_iff, hav, hbv])
          have HV := Lib.hid (And.intro hv (And.intro hgd hrl'))
          have HSL3 := Lib.hid (fun (wz : World) (hz : Below w.heap.size w wz) => hsl.below hz)
          have hR0 : rowTo u v row came queue 0 = .go came queue := rfl
          have HR0 := Lib.hid hR0
          clear hv hvq hl hrw hgd hrl' hav hbv hsl hR0
          go_wp2_with (go_quiet (fail))
          go_loopw [5, 56] (fun qv sv wl => ∃ (s : Nat) (cm : List Int) (qu : List Nat) (Q3 : Option Addr) (qc3 ql3 : Nat), sv = .int .i64 (s : Int) ∧ s ≤ rl ∧ qv = .slice Q3 ql3 qc3 ∧ Hid (qu.length = ql3) ∧ Hid (rowTo u v row came queue s = .go cm qu) ∧ Hid (Inv u g cm qu) ∧ Hid (v ∈ qu ∧ i < ql3) ∧
            Hid (wl.ownsRow w.heap.size 3 1 (.slice (some ⟨gc, 0, none⟩) M M) M (cm.map (Value.int .i64))) ∧ Hid (wl.ownsRow w2.heap.size 3 1 (.slice Q3 ql3 qc3) ql3 ((ints qu).map (Value.int .i64))) ∧ Hid (Below w.heap.size w wl) ∧ Hid (w2.heap.size ≤ wl.heap.size)) (fun _ sv _ => rl - (intOf sv).toNat)
          case atStart => exact ⟨0, came, queue, some aq, qc2, ql, rfl, Nat.zero_le _, rfl, hQL, HR0, hINV, Lib.hid ⟨List.mem_of_getElem? HV.out.1, hil⟩, hCM, hQU, Lib.hid (below_drewN hB2.out _), Lib.hid hSZ.out⟩
          case round =>
            obtain ⟨s, cm, qu, Q3, qc3, ql3, rfl, hs, rfl, hQL3, hRW, hIN3, hVQ, hCM3, hQU3, hB3, hSZ3⟩ := hrel
            clear HR0
            obtain ⟨v3, rfl⟩ : ∃ v3, v3 = wr := ⟨_, rfl⟩
            have hq3M : ql3 ≤ M := by
              have h := nodup_len hIN3.out.nd hIN3.out.qlt
              rw [hQL3.out, HGL.out] at h
              exact h
            by_cases hsr : s < rl
            · have hsr' : (s : Int) < (rl : Int) := by omega
              have hs0 : (0 : Int) ≤ (s : Int) := by omega
              obtain ⟨ap, tt, rfl, htt, hct⟩ := nat_at (HSL3.out v3 hB3.out) hsr
              have htm : tt ∈ g.getD v [] := by rw [HV.out.2.1]; exact List.mem_of_getElem? htt
              have htM : tt < M := by rw [← HMM.out]; exact HOK.out.to v tt htm
              have htM' : (tt : Int) < (M : Int) := by omega
              have ht0 : (0 : Int) ≤ (tt : Int) := by omega
              have hcm := came_at hIN3.out (u := tt) (by rw [HGL.out]; exact htM)
              obtain ⟨z, hz⟩ : ∃ z, cm.getD tt (-1) = z := ⟨_, rfl⟩
              rw [hz] at hcm
              have hcz : v3.cell? ⟨gc, tt, none⟩ = some (.int .i64 z) := by rw [hCM3.out.cellAt tt (by omega), List.getElem?_map, hcm]; rfl
              have hfz := hCM3.out.frozenAt tt
              obtain ⟨at', hat⟩ : ∃ a, tt / u = a := ⟨_, rfl⟩
              obtain ⟨bt, hbt⟩ : ∃ b, tt % u = b := ⟨_, rfl⟩
              have et1 : (tt : Int).tdiv (u : Int) = (at' : Int) := by rw [← hat]; rfl
              have et2 : (tt : Int).tmod (u : Int) = (bt : Int) := by rw [← hbt]; rfl
              have et3 : (tt : Int) / (u : Int) = (at' : Int) := by rw [← hat]; rfl
              have et4 : (tt : Int) % (u : Int) = (bt : Int) := by rw [← hbt]; rfl
              have hat1 : at' ≤ 65536 := by rw [← hat]; exact Nat.le_trans (Nat.div_le_self _ _) (by omega)
              have et5 : IntKind.i64.wrap (at' : Int) = (at' : Int) := IntWalk.i64_in _ (by omega)
              have HDT : Hid (diag u tt = decide (at' = bt)) := Lib.hid (by rw [diag_iff, hat, hbt])
              have HRS : Hid (rowTo u v row came queue (s + 1) = tgt u v cm qu tt) := Lib.hid (by
                rw [rowTo, hRW.out]
                simp only
                rw [getN_of htt])
              have HTM := Lib.hid (And.intro htm (And.intro htM (And.intro hcm hz)))
              clear htt htm hcm hz hat hbt
              by_cases hd : at' = bt
              · have hdi : (at' : Int) = (bt : Int) := by omega
                have hbe : ((at' : Int) == (bt : Int)) = true := by simp [hd]
                have hbn : ((at' : Int) != (bt : Int)) = false := by simp [hd]
                have HD : Hid (diag u tt = true) := Lib.hid (by rw [HDT.out]; exact decide_eq_true hd)
                clear hdi hd
                by_cases hva : av = bv
                · have hvn : ((av : Int) != (bv : Int)) = false := by simp [hva]
                  have HNX : Hid (rowTo u v row came queue (s + 1) = .go cm qu) := Lib.hid (by
                    rw [HRS.out]
                    exact tgt_same (.inr ⟨HD.out, by rw [HDV.out]; exact decide_eq_true hva⟩))
                  clear hva
                  go_wp2_with (go_quiet (fail))
                  exact ⟨⟨s + 1, cm, qu, Q3, qc3, ql3, by go_num, by omega, rfl, hQL3, HNX, hIN3, hVQ, Lib.hid hCM3.out, Lib.hid hQU3.out, Lib.hid (below_drewN hB3.out _), Lib.hid hSZ3.out⟩, by simp [intOf]; omega⟩
                · have hvn : ((av : Int) != (bv : Int)) = true := by simp; omega
                  have hht := meet_hit (s := s + 1) hRD.out (by rw [hQL.out]; exact hil) (by rw [HGL.out]; omega) (by rw [getN_of HV.out.1, HV.out.2.1, HRS.out]; exact tgt_hit HD.out (by rw [HDV.out]; exact decide_eq_false hva)) (by rw [getN_of HV.out.1, HV.out.2.1, HV.out.2.2]; omega)
                  rw [HMF.out, HGL.out] at hht
                  have HHT := Lib.hid hht
                  clear hva hht
                  go_wp2_with (go_quiet (fail))
                  clear hvn hbe hbn
                  go_loopw [12, 13] (fun wv zv wl => ∃ (W : List Nat) (zz : Int) (f gw wn wc : Nat), zv = .int .i64 zz ∧ wv = .slice (some ⟨gw, 0, none⟩) wn wc ∧ Hid (W.length = wn) ∧ Hid (W ++ restB cm f zz = tt :: backTo cm (M + 1) v) ∧ Hid (zz < 0 ∨ ∃ j y : Nat, zz = (y : Int) ∧ qu[j]? = some y ∧ j < f) ∧
                    Hid (wl.ownsRow v3.heap.size 3 1 (.slice (some ⟨gw, 0, none⟩) wn wc) wn ((ints W).map (Value.int .i64))) ∧ Hid (Below v3.heap.size v3 wl)) (fun wv _ _ => M + 3 - slLen wv)
                  case atStart =>
                    refine ⟨[tt], (v : Int), M + 1, v3.heap.size, 1, 1, rfl, rfl, Lib.hid rfl, Lib.hid ?_, Lib.hid (.inr ?_), Lib.hid (World.ownsRow_lit (base := v3.heap.size) (e := 3) (size := 1) (v3.drewN _) #[.int .i64 (tt : Int)] 1 (Nat.le_refl _) (by decide) (by simp)), Lib.hid ((below_drewN (Below.refl v3.heap.size v3) _).alloc (Nat.le_refl _) _)⟩
                    · unfold restB
                      rw [if_neg (by omega), Int.toNat_natCast]
                      rfl
                    · obtain ⟨j, hj⟩ := List.getElem?_of_mem hVQ.out.1
                      refine ⟨j, v, rfl, hj, ?_⟩
                      have h1 := (List.getElem?_eq_some_iff.1 hj).1
                      have h2 := hQL3.out
                      omega
                  case round =>
                    obtain ⟨W, zz, f, gw, wn, wc, rfl, rfl, hWL, hWR, hZ, hWO, hWB⟩ := hrel
                    have hln := congrArg List.length hWR.out
                    rw [List.length_append, List.length_cons, hWL.out] at hln
                    have hbl := back_len cm (M + 1) v
                    obtain ⟨v7, rfl⟩ : ∃ v7, v7 = wr := ⟨_, rfl⟩
                    rcases Int.lt_or_le zz 0 with hzn | hzp
                    · have hzn' : ¬ zz ≥ 0 := by omega
                      have hww := hWR.out
                      rw [rest_neg hzn, List.append_nil] at hww
                      have hmf : mf = W.reverse := by rw [HHT.out, hww]
                      have hml : mf.length = wn := by rw [hmf, List.length_reverse, hWL.out]
                      have hrv := reverse_c v7 v3.heap.size gw wn wc (ints W) hWO.out (by omega)
                      have HRV := Lib.hid hrv
                      have HMR := Lib.hid (And.intro hmf hml)
                      have hgw := (hWO.out.lt gw rfl).1
                      clear hln hbl hww hmf hml hrv hWR hZ
                      go_wp2_with fail
                      refine (HRV.out).mono ?_
                      rintro e v8 ⟨rfl, ho8, hk8⟩
                      have HO8 : Hid (v8.ownsRow w.heap.size 3 1 (.slice (some ⟨gw, 0, none⟩) mf.length wc) mf.length ((ints mf).map (Value.int .i64))) := Lib.hid (by
                        rw [HMR.out.2, HMR.out.1]
                        have e : ints W.reverse = (ints W).reverse := by simp [ints]
                        rw [e]
                        exact own_base ho8 hB3.out.size)
                      have HB8 := Lib.hid ((hB3.out.trans (hWB.out.mono hB3.out.size)).trans (hk8.below (Nat.le_trans hB3.out.size hWB.out.size) (fun b e => by rw [show b = gw from e]; exact Nat.le_trans hB3.out.size hgw)))
                      clear ho8 hk8
                      go_wp2_with fail
                      go_ret
                      exact ⟨some ⟨gw, 0, none⟩, wc, by rw [HMR.out.2]; rfl, HO8.out, HB8.out⟩
                    · obtain ⟨j, y, rfl, hy, hjf⟩ := hZ.out.resolve_left (by omega)
                      obtain ⟨f', rfl⟩ : ∃ f', f = f' + 1 := ⟨f - 1, by omega⟩
                      have hzp' : (y : Int) ≥ 0 := hzp
                      have hyM : y < M := by rw [← HGL.out]; exact hIN3.out.qlt y (List.mem_of_getElem? hy)
                      have hyM' : (y : Int) < (M : Int) := by omega
                      have hcy := came_at hIN3.out (u := y) (by rw [HGL.out]; exact hyM)
                      have hnx := came_next hIN3.out hy (f := f') (by omega)
                      obtain ⟨z2, hz2⟩ : ∃ z2, cm.getD y (-1) = z2 := ⟨_, rfl⟩
                      rw [hz2] at hcy hnx
                      have hst := hWR.out
                      rw [rest_step, hz2] at hst
                      have HST : Hid ((W ++ [y]) ++ restB cm f' z2 = tt :: backTo cm (M + 1) v) := Lib.hid (by rw [List.append_assoc]; exact hst)
                      have HNX2 : Hid (z2 < 0 ∨ ∃ j y : Nat, z2 = (y : Int) ∧ qu[j]? = some y ∧ j < f') := Lib.hid (hnx.imp id (fun ⟨i', v', a1, a2, a3⟩ => ⟨i', v', a1, a2, a3⟩))
                      have HCY := Lib.hid (fun (wz : World) (hz : Below v3.heap.size v3 wz) => (by
                        have h := own_below hCM3.out hz
                        rw [h.cellAt y (by omega), List.getElem?_map, hcy]
                        rfl : wz.cell? ⟨gc, y, none⟩ = some (.int .i64 z2)))
                      have hln2 := congrArg List.length hst
                      rw [List.length_append, List.length_cons, List.length_cons, hWL.out] at hln2
                      have hwn : wn ≤ M + 1 := by omega
                      have HWL2 : Hid ((W ++ [y]).length = wn + 1) := Lib.hid (by rw [List.length_append, hWL.out]; rfl)
                      have hwo := hWO.out
                      have hwsz := hWB.out.size
                      clear hln hbl hy hcy hnx hz2 hst hln2 hWR hZ hjf
                      go_wp2_with (at_builtin; refine wpList_push2 rfl _ _ _ rfl tInts hwo rfl _ 0 rfl rfl rfl (by simp only [maxLen]; omega) (by omega) hwsz ?_; intro g8 cap8 v8 hown8 hor8 hlt8; have hb8 := push_below hWB.out hwo hor8 hwsz; have q8 := HCY.out v8 hb8)
                      have HO8 : Hid (v8.ownsRow v3.heap.size 3 1 (.slice (some ⟨g8, 0, none⟩) (wn + 1) cap8) (wn + 1) ((ints (W ++ [y])).map (Value.int .i64))) := Lib.hid (by rw [ints_push]; exact hown8)
                      clear hown8 hor8 q8
                      go_wp2_with fail
                      exact ⟨⟨W ++ [y], z2, f', g8, wn + 1, cap8, rfl, rfl, HWL2, HST, HNX2, HO8, Lib.hid hb8⟩, by simp [slLen]; omega⟩
              · have hbe : ((at' : Int) == (bt : Int)) = false := by simp; omega
                have hbn : ((at' : Int) != (bt : Int)) = true := by simp; omega
                have HD : Hid (diag u tt = false) := Lib.hid (by rw [HDT.out]; exact decide_eq_false hd)
                clear hd
                by_cases hz0 : z < 0
                · have HNX : Hid (rowTo u v row came queue (s + 1) = .go (cm.set tt (v : Int)) (qu ++ [tt])) := Lib.hid (by
                    rw [HRS.out]
                    exact tgt_new HD.out (by rw [HTM.out.2.2.2]; exact hz0))
                  have HIX : Hid (Inv u g (cm.set tt (v : Int)) (qu ++ [tt])) := Lib.hid (hIN3.out.push hVQ.out.1 HTM.out.1 (by rw [HGL.out]; exact htM) HD.out (by rw [HTM.out.2.2.2]; exact hz0))
                  have hgq : ∀ b, (Value.slice Q3 ql3 qc3).ownBlock = some b → w2.heap.size ≤ b := fun b hb => (hQU3.out.lt b hb).1
                  have hkk := fun q => Keeps.of_setCell (v3.drewN q) ⟨gc, tt, none⟩ (.int .i64 (v : Int))
                  have hQ5 := fun q => own_keeps (show (v3.drewN q).ownsRow w2.heap.size 3 1 (.slice Q3 ql3 qc3) ql3 ((ints qu).map (Value.int .i64)) from hQU3.out) (hkk q) (fun b hb e => by
                    have := hgq b hb
                    rw [show b = gc from e] at this
                    omega)
                  have hsz5 : ∀ q, w2.heap.size ≤ ((v3.drewN q).setCell ⟨gc, tt, none⟩ (.int .i64 (v : Int))).heap.size := fun q => by rw [World.size_setCell]; exact hSZ3.out
                  have HQ5 := Lib.hid hQ5
                  have HSZ5 := Lib.hid hsz5
                  have HC5 := Lib.hid (fun q => ((show (v3.drewN q).ownsRow w.heap.size 3 1 (.slice (some ⟨gc, 0, none⟩) M M) M (cm.map (Value.int .i64)) from hCM3.out).stored tt (.int .i64 (v : Int))).1)
                  have HB5 := Lib.hid (fun q => (below_drewN hB3.out q).setCell (p := ⟨gc, tt, none⟩) hwg (.int .i64 (v : Int)))
                  have HGQ := Lib.hid hgq
                  clear hgq hkk hQ5 hsz5
                  go_wp2_with (first | go_quiet (fail) | (at_builtin; refine wpList_push2 rfl _ _ _ rfl tInts (HQ5.out _) rfl (.int .i64 (tt : Int)) 0 rfl (by rw [World.size_setCell]; rfl) rfl (by simp only [maxLen]; omega) (by omega) (HSZ5.out _) ?_; intro g5 cap5 v5 hown5 hor5 hlt5))
                  have hk5 := push_keeps hor5
                  have hC6 := own_keeps (HC5.out _) hk5 (fun b hb e => by
                    have h1 := HGQ.out b e
                    have h2 : gc = b := by simpa [Value.ownBlock] using hb
                    omega)
                  have HC6 : Hid (v5.ownsRow w.heap.size 3 1 (.slice (some ⟨gc, 0, none⟩) M M) M ((cm.set tt (v : Int)).map (Value.int .i64))) := Lib.hid (by rw [List.map_set]; exact hC6)
                  have HQ6 : Hid (v5.ownsRow w2.heap.size 3 1 (.slice (some ⟨g5, 0, none⟩) (ql3 + 1) cap5) (ql3 + 1) ((ints (qu ++ [tt])).map (Value.int .i64))) := Lib.hid (by rw [ints_push]; exact hown5)
                  have HB6 := Lib.hid ((HB5.out _).trans (hk5.below (HB5.out _).size (fun b hb => Nat.le_trans (Nat.le_trans hwg (Nat.le_of_lt hgc2)) (HGQ.out b hb))))
                  have HS6 := Lib.hid (Nat.le_trans (HSZ5.out _) hk5.size)
                  have HL6 : Hid ((qu ++ [tt]).length = ql3 + 1) := Lib.hid (by rw [List.length_append, hQL3.out]; rfl)
                  have HV6 : Hid (v ∈ qu ++ [tt] ∧ i < ql3 + 1) := Lib.hid ⟨List.mem_append_left _ hVQ.out.1, Nat.lt_succ_of_lt hVQ.out.2⟩
                  exact ⟨⟨s + 1, cm.set tt (v : Int), qu ++ [tt], some ⟨g5, 0, none⟩, cap5, ql3 + 1, by go_num, by omega, rfl, HL6, HNX, HIX, HV6, HC6, HQ6, HB6, HS6⟩, by simp [intOf]; omega⟩
                · have HNX : Hid (rowTo u v row came queue (s + 1) = .go cm qu) := Lib.hid (by
                    rw [HRS.out]
                    exact tgt_same (.inl ⟨HD.out, by rw [HTM.out.2.2.2]; exact hz0⟩))
                  go_wp2_with (go_quiet (fail))
                  exact ⟨⟨s + 1, cm, qu, Q3, qc3, ql3, by go_num, by omega, rfl, hQL3, HNX, hIN3, hVQ, Lib.hid hCM3.out, Lib.hid hQU3.out, Lib.hid (below_drewN hB3.out _), Lib.hid hSZ3.out⟩, by simp [intOf]; omega⟩
            · obtain rfl : s = rl := by omega
              have hsr' : ¬ (s : Int) < (s : Int) := by omega
              have hnx := round_next hRD.out (by rw [hQL.out]; exact hil) (by rw [getN_of HV.out.1, HV.out.2.1, HV.out.2.2]; exact hRW.out)
              have HNX := Lib.hid hnx
              have hil3 := hVQ.out.2
              clear hnx
              go_wp2_with fail
              exact ⟨⟨i + 1, cm, qu, Q3, qc3, ql3, by go_num, by omega, rfl, hQL3, HNX, hIN3, hCM3, hQU3, hB3, hSZ3⟩, by simp [intOf]; omega⟩
        · obtain rfl : i = ql := by omega
          have hil' : ¬ (i : Int) < (i : Int) := by omega
          have hms := meet_stop hRD.out (by rw [hQL.out]; exact Nat.le_refl _) (by rw [HGL.out]; omega)
          obtain rfl : mf = [] := by rw [← HMF.out]; exact hms
          clear hms
          go_wp2_with fail
          go_ret
          exact ⟨none, 0, rfl, ⟨rfl, .inl ⟨rfl, rfl⟩⟩, hB2.out⟩
end Go.Proofs.YtibplgpolmplpaaGreatDoor
