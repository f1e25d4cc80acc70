/- Keys of states and their order: slices.Compare of numbers, image.parted's closures. Condition: the lists read from memory. slices.SortFunc laid off the shelf; image.parted's order: the states sorted by their keys. Condition: the keys read from memory. image.parted: the states in groups, two in one just if the same words run from them. Condition: the automaton reads from memory. image.parted, the walk: groups of states, two in one just if the same words run from them. Condition: the automaton reads from memory. -/
import Derived.Shelf.SlSortCmp.Whole1
import Derived.Sort.OwnSortedInts
import Derived.Test.YthilnpfpllplaaaGreatDoorS3
import Derived.Test.YthilnpfpllplaaaGreatDoorS7
import Derived.Test.YthilnpfpllplaaaGreatDoorS8
import Derived.Test.YthilnpfpllplaaaGreatDoorS19
namespace Go.Proofs.YthilnpfpllplaaaGreatDoor
open Go.RowKit RuleP

theorem cmpZI_c (w : World) (a b : Int) : Calls Tryz.prog 68 #[.int .i64 a, .int .i64 b] w fun e w' => e = .returned (.int .i64 (if a < b then -1 else if b < a then 1 else 0)) ∧ w = w' := by
  rcases Int.lt_trichotomy a b with h | h | h
  · have c1 : decide (a < b) = true := decide_eq_true (by omega)
    rw [if_pos h]
    go_enter Tryz.func68, Tryz.ntmps68
    go_wp2
    go_ret
    exact ⟨rfl, rfl⟩
  · subst h
    rw [if_neg (Int.lt_irrefl _), if_neg (Int.lt_irrefl _)]
    go_enter Tryz.func68, Tryz.ntmps68
    go_wp2
    go_ret
    exact ⟨rfl, rfl⟩
  · have c1 : decide (a < b) = false := decide_eq_false (by omega)
    have c2 : decide (b < a) = true := decide_eq_true (by omega)
    have c3 : ¬ a < b := by omega
    rw [if_neg c3, if_pos h]
    go_enter Tryz.func68, Tryz.ntmps68
    go_wp2
    go_ret
    exact ⟨rfl, rfl⟩

theorem cmpZ_drop {a b : List Int} {i : Nat} {x y : Int} (ha : a[i]? = some x) (hb : b[i]? = some y) : cmpZ (a.drop i) (b.drop i) = if x < y then -1 else if y < x then 1 else cmpZ (a.drop (i + 1)) (b.drop (i + 1)) := by
  obtain ⟨h1, h2⟩ := List.getElem?_eq_some_iff.1 ha
  obtain ⟨h3, h4⟩ := List.getElem?_eq_some_iff.1 hb
  rw [List.drop_eq_getElem_cons h1, List.drop_eq_getElem_cons h3, cmpZ_cons, h2, h4]
set_option maxRecDepth 100000 in
theorem cmpZ_c (w : World) (A B : Option Addr) (n c d : Nat) (a b : List Int) (hA : Sl w A n (a.map (Value.int .i64))) (hB : Sl w B n (b.map (Value.int .i64))) (hn : n ≤ 9223372036854775807) :
    Calls Tryz.prog 69 #[.slice A n c, .slice B n d] w fun e w' => e = .returned (.int .i64 (cmpZ a b)) ∧ w = w' := by
  have hla : a.length = n := by simpa using hA.1
  have hlb : b.length = n := by simpa using hB.1
  have HA := Lib.hid hA
  have HB := Lib.hid hB
  have HLA := Lib.hid hla
  have HLB := Lib.hid hlb
  clear hla hlb hA hB
  go_enter Tryz.func69, Tryz.ntmps69
  go_wp2_with fail
  go_loop [11] (fun i => ∃ j : Nat, j ≤ n ∧ i = .int .i64 (j : Int) ∧ Hid (cmpZ a b = cmpZ (a.drop j) (b.drop j))) (fun i => n - (intOf i).toNat)
  case atStart => exact ⟨0, Nat.zero_le _, rfl, Lib.hid (by simp)⟩
  case round =>
    obtain ⟨j, hj, rfl, hI⟩ := hrel
    by_cases hlt : j < n
    · obtain ⟨ad, x, rfl, hx, hc⟩ := HA.out.int_ hlt
      obtain ⟨ad2, y, rfl, hy, hc2⟩ := HB.out.int_ hlt
      have hstep := cmpZ_drop hx hy
      rw [← hI.out] at hstep
      have HS := Lib.hid hstep
      have HC := Lib.hid (cmpZI_c w x y)
      have hnj : decide ((n : Int) ≤ (j : Int)) = false := decide_eq_false (by omega)
      clear hstep hx hy
      rcases Int.lt_trichotomy x y with h | h | h
      · have hv : Hid (cmpZ a b = -1) := Lib.hid (by rw [HS.out, if_pos h])
        rw [if_pos h] at HC
        clear h
        go_wp2_with fail
        refine (HC.out).mono ?_
        rintro e w' ⟨rfl, rfl⟩
        go_wp2_with fail
        go_ret
        exact ⟨by rw [hv.out]; rfl, rfl⟩
      · subst h
        have hv : Hid (cmpZ a b = cmpZ (a.drop (j + 1)) (b.drop (j + 1))) := Lib.hid (by rw [HS.out, if_neg (Int.lt_irrefl _), if_neg (Int.lt_irrefl _)])
        rw [if_neg (Int.lt_irrefl _), if_neg (Int.lt_irrefl _)] at HC
        go_wp2_with fail
        refine (HC.out).mono ?_
        rintro e w' ⟨rfl, rfl⟩
        go_wp2_with fail
        exact ⟨⟨j + 1, by omega, by go_num, hv⟩, by simp [intOf]; omega⟩
      · have hv : Hid (cmpZ a b = 1) := Lib.hid (by rw [HS.out, if_neg (by omega), if_pos h])
        rw [if_neg (by omega), if_pos h] at HC
        clear h
        go_wp2_with fail
        refine (HC.out).mono ?_
        rintro e w' ⟨rfl, rfl⟩
        go_wp2_with fail
        go_ret
        exact ⟨by rw [hv.out]; rfl, rfl⟩
    · obtain rfl : j = n := by omega
      have hv : Hid (cmpZ a b = 0) := Lib.hid (by
        rw [hI.out, List.drop_eq_nil_of_le (by rw [HLA.out]; exact Nat.le_refl _), List.drop_eq_nil_of_le (by rw [HLB.out]; exact Nat.le_refl _), cmpZ]
        simp)
      go_wp2_with fail
      go_ret
      exact ⟨by rw [hv.out]; rfl, rfl⟩

theorem keyP_len {k : Nat} {G : List Nat} {L : List (List Int)} (h : IsAuto k L) {i : Nat} (hi : i < L.length) : (keyP G L i).length = k + 1 := by
  unfold keyP
  rw [List.length_cons, List.length_map, (h.row hi).1]
theorem keyP_take {G : List Nat} {L : List (List Int)} {i c : Nat} {x : Int} (hx : (L.getD i [])[c]? = some x) : (keyP G L i).take (c + 1 + 1) = (keyP G L i).take (c + 1) ++ [if x < 0 then -1 else ((G.getD x.toNat 0 : Nat) : Int)] := by
  have e : (keyP G L i)[c + 1]? = some (if x < 0 then -1 else ((G.getD x.toNat 0 : Nat) : Int)) := by
    unfold keyP
    rw [List.getElem?_cons_succ, List.getElem?_map, hx]
    rfl
  rw [List.take_add_one, e]
  rfl
theorem key_start {G : List Nat} {L : List (List Int)} {i : Nat} : (keyP G L i).take (0 + 1) = [((G.getD i 0 : Nat) : Int)] := by
  unfold keyP
  rfl

/-- What the closure captures: the group's box, the automaton's box. -/
structure KeyAt (w : World) (gb ab : Nat) (k : Nat) (G : List Nat) (L : List (List Int)) : Prop where
  auto : IsAuto k L
  glen : G.length = L.length
  grp : ∃ GA gc, w.cell? ⟨gb, 0, none⟩ = some (.slice GA L.length gc) ∧ Sl w GA L.length ((ints G).map (Value.int .i64))
  nxt : ∃ NA nc, w.cell? ⟨ab, 1, none⟩ = some (.slice NA L.length nc) ∧ ListAt w NA L.length L
  gbl : gb < w.heap.size
  abl : ab < w.heap.size
theorem KeyAt.below {w w' : World} {gb ab k : Nat} {G : List Nat} {L : List (List Int)} (h : KeyAt w gb ab k G L) (hb : Below w.heap.size w w') : KeyAt w' gb ab k G L := by
  obtain ⟨GA, gc, g1, g2⟩ := h.grp
  obtain ⟨NA, nc, n1, n2⟩ := h.nxt
  exact ⟨h.auto, h.glen, ⟨GA, gc, (hb.cell (p := ⟨gb, 0, none⟩) h.gbl).trans g1, g2.below hb⟩, ⟨NA, nc, (hb.cell (p := ⟨ab, 1, none⟩) h.abl).trans n1, n2.keep hb⟩, Nat.lt_of_lt_of_le h.gbl hb.size, Nat.lt_of_lt_of_le h.abl hb.size⟩

set_option maxRecDepth 100000 in
set_option maxHeartbeats 2000000 in
theorem keyF_c (w : World) (gb ab k i : Nat) (G : List Nat) (L : List (List Int)) (h : KeyAt w gb ab k G L) (hk : k ≤ 4) (hi : i < L.length) (hL : L.length ≤ 4096) :
    Calls Tryz.prog 119 #[.int .i64 (i : Int), .pointer (some ⟨gb, 0, none⟩), .pointer (some ⟨ab, 0, none⟩)] w fun e w' => ∃ C c, e = .returned (.slice C (k + 1) c) ∧ w'.ownsRow w.heap.size 3 1 (.slice C (k + 1) c) (k + 1) ((keyP G L i).map (Value.int .i64)) ∧ Below w.heap.size w w' := by
  obtain ⟨GA, gc, g1, g2⟩ := h.grp
  obtain ⟨NA, nc, n1, n2⟩ := h.nxt
  have hgb := h.gbl
  have hab := h.abl
  have HGS := Lib.hid (fun (wz : World) (hz : Below w.heap.size w wz) => g2.below hz)
  obtain ⟨adn, l, P, pc, rfl, hl, hcn, _, hs⟩ := n2.at_ hi
  have hlk : l.length = k := h.auto.len l (List.mem_of_getElem? hl)
  have hld : L.getD i [] = l := by rw [List.getD_eq_getElem?_getD, hl]; rfl
  have HLD := Lib.hid hld
  have HPS := Lib.hid (fun (wz : World) (hz : Below w.heap.size w wz) => hs.below hz)
  have HOK := Lib.hid (fun (x : Int) (hx : x ∈ l) => h.auto.ok l (List.mem_of_getElem? hl) x hx)
  have HKL := Lib.hid (keyP_len (G := G) h.auto hi)
  obtain ⟨adg, x0, rfl, hx0, hcg⟩ := g2.int_ hi
  have hx0' : x0 = ((G.getD i 0 : Nat) : Int) := by
    unfold ints at hx0
    rw [List.getElem?_map] at hx0
    rw [List.getD_eq_getElem?_getD]
    cases hg : G[i]? with
    | none => rw [hg] at hx0; cases hx0
    | some z => rw [hg] at hx0; cases hx0; rfl
  have hgl : adg.block < w.heap.size := by
    have := World.block_lt_of_cell? _ _ hcg
    rwa [block_of_add] at this
  have hnl : adn.block < w.heap.size := by
    have := World.block_lt_of_cell? _ _ hcn
    rwa [block_of_add] at this
  obtain ⟨n, hn⟩ : ∃ n, L.length = n := ⟨_, rfl⟩
  rw [hlk] at hcn HPS
  have hbw := (Below.refl w.heap.size w).alloc (Nat.le_refl _) (.cells #[.int .i64 x0] 3)
  have c1 := (hbw.cell (p := adg.add i) (by rw [block_of_add]; exact hgl)).trans hcg
  have c2 := (hbw.cell (p := adn.add i) (by rw [block_of_add]; exact hnl)).trans hcn
  have c3 := (hbw.cell (p := ⟨ab, 1, none⟩) hab).trans n1
  have c4 := (hbw.cell (p := ⟨gb, 0, none⟩) hgb).trans g1
  have ho0 : (w.alloc (.cells #[.int .i64 x0] 3)).ownsRow w.heap.size 3 1 (.slice (some ⟨w.heap.size, 0, none⟩) 1 1) 1 (((keyP G L i).take (0 + 1)).map (Value.int .i64)) := by
    rw [key_start, ← hx0']
    have := World.ownsRow_lit (base := w.heap.size) (e := 3) (size := 1) w #[.int .i64 x0] 1 (Nat.le_refl _) (by simp only [maxLen]; omega) rfl
    simpa using this
  have HO0 := Lib.hid ho0
  have HB0 := Lib.hid hbw
  rw [hn] at g1 n1 hi hL c3 c4 HGS HOK
  clear hx0 hx0' hs hlk g2 n2 h ho0 hbw hl hn hld
  go_enter Tryz.func119, Tryz.ntmps119
  have hi' : (i : Int) < (n : Int) := by omega
  go_wp2_with fail
  go_loopw [5, 19] (fun bv iv wl => ∃ c : Nat, c ≤ k ∧ iv = .int .i64 (c : Int) ∧ wl.ownsRow w.heap.size 3 1 bv (c + 1) (((keyP G L i).take (c + 1)).map (Value.int .i64)) ∧ Hid (Below w.heap.size w wl)) (fun _ iv _ => k - (intOf iv).toNat)
  case atStart => exact ⟨0, Nat.zero_le _, rfl, HO0.out, HB0⟩
  case round =>
    obtain ⟨c, hck, rfl, hown, hb⟩ := hrel
    by_cases hlt : c < k
    · obtain ⟨adp, x, rfl, hx, hcx⟩ := (HPS.out wr hb.out).int_ hlt
      have HT := Lib.hid (keyP_take (G := G) (L := L) (i := i) (c := c) (x := x) (by rw [HLD.out]; exact hx))
      have hlt' : (c : Int) < (k : Int) := by omega
      have hm1 : c + 1 + 1 ≤ maxLen := by simp only [maxLen]; omega
      have hm2 : (c + 1 + 1) * 8 ≤ 140737488355328 := by omega
      have hgz := hb.out.size
      have HHB := Lib.hid hb.out
      have k4 := (hb.out.cell (p := ⟨gb, 0, none⟩) hgb).trans g1
      rcases HOK.out x (List.mem_of_getElem? hx) with rfl | ⟨j, rfl, hj⟩
      · rw [if_pos (by decide)] at HT
        clear hb hx
        go_wp2_with (at_builtin; refine wpList_push rfl _ _ _ rfl tInts hown rfl _ 0 rfl rfl rfl hm1 hm2 hgz ?_; intro g cap w3 hown3 hg3 hat3 hlt3)
        refine ⟨⟨c + 1, by omega, by go_num, ?_, Lib.hid (HHB.out.grown hg3 hgz (fun q hq => (hown.lt q hq).1))⟩, by simp [intOf]; omega⟩
        rw [HT.out, List.map_append]
        exact hown3
      · rw [if_neg (by omega), show ((j : Int)).toNat = j from rfl] at HT
        obtain ⟨adg2, y, e, hy, hcy⟩ := (HGS.out wr hb.out).int_ hj
        have hy' : y = ((G.getD j 0 : Nat) : Int) := by
          unfold ints at hy
          rw [List.getElem?_map] at hy
          rw [List.getD_eq_getElem?_getD]
          cases hg : G[j]? with
          | none => rw [hg] at hy; cases hy
          | some z => rw [hg] at hy; cases hy; rfl
        cases e
        rw [← hy'] at HT
        have hj0 : ¬ (j : Int) < 0 := by omega
        have hj1 : (0 : Int) ≤ (j : Int) := by omega
        have hjn : (j : Int) < (n : Int) := by omega
        clear hb hx hy hy'
        go_wp2_with (at_builtin; refine wpList_push rfl _ _ _ rfl tInts hown rfl _ 0 rfl rfl rfl hm1 hm2 hgz ?_; intro g cap w3 hown3 hg3 hat3 hlt3)
        refine ⟨⟨c + 1, by omega, by go_num, ?_, Lib.hid (HHB.out.grown hg3 hgz (fun q hq => (hown.lt q hq).1))⟩, by simp [intOf]; omega⟩
        rw [HT.out, List.map_append]
        exact hown3
    · obtain rfl : k = c := by omega
      have hlt' : ¬ (k : Int) < (k : Int) := by omega
      obtain ⟨BW, cW, rfl, _, _⟩ := own_slice hown
      rw [List.take_of_length_le (by rw [HKL.out]; exact Nat.le_refl _)] at hown
      go_wp2_with fail
      go_ret
      exact ⟨BW, cW, rfl, hown, hb.out⟩
end Go.Proofs.YthilnpfpllplaaaGreatDoor

namespace Go.Proofs.YthilnpfpllplaaaGreatDoor
open Go.RowKit Go.Shelf Go.Sort RuleP
def sortF_ren : Go.Shelf.Ren := ⟨fun | 6 => 120 | 15 => 136 | 14 => 135 | 28 => 149 | 29 => 150 | 20 => 141 | 21 => 142 | 22 => 143 | 23 => 144 | 24 => 145 | 25 => 146 | 26 => 147 | 27 => 148 | 46 => 151 | 47 => 152 | 48 => 153 | 49 => 154 | 50 => 155 | 57 => 156 | n => n, fun | 22 => 22 | 24 => 3 | 25 => 109 | 3 => 3 | 39 => 106 | 0 => 0 | 53 => 75 | 55 => 70 | 4 => 4 | 46 => 209 | 45 => 208 | 50 => 133 | 5 => 5 | 9 => 9 | 66 => 216 | 70 => 220 | 76 => 222 | 77 => 223 | n => n, fun | n => n⟩
theorem sortF : Go.Proofs.SlLaysF.n6 Tryz.prog sortF_ren := {
  mixed := by kernel_rfl
  f6 := ⟨Tryz.f120.name, by decide, Tryz.func120.trans (congrArg some (by kernel_rfl))⟩
  f14 := ⟨Tryz.f135.name, by decide, Tryz.func135.trans (congrArg some (by kernel_rfl))⟩
  f15 := Tryz.func136.trans (congrArg some (by kernel_rfl))
  f20 := ⟨Tryz.f141.name, by decide, Tryz.func141.trans (congrArg some (by kernel_rfl))⟩
  f21 := ⟨Tryz.f142.name, by decide, Tryz.func142.trans (congrArg some (by kernel_rfl))⟩
  f22 := ⟨Tryz.f143.name, by decide, Tryz.func143.trans (congrArg some (by kernel_rfl))⟩
  f23 := ⟨Tryz.f144.name, by decide, Tryz.func144.trans (congrArg some (by kernel_rfl))⟩
  f24 := ⟨Tryz.f145.name, by decide, Tryz.func145.trans (congrArg some (by kernel_rfl))⟩
  f25 := ⟨Tryz.f146.name, by decide, Tryz.func146.trans (congrArg some (by kernel_rfl))⟩
  f26 := ⟨Tryz.f147.name, by decide, Tryz.func147.trans (congrArg some (by kernel_rfl))⟩
  f27 := ⟨Tryz.f148.name, by decide, Tryz.func148.trans (congrArg some (by kernel_rfl))⟩
  f28 := Tryz.func149.trans (congrArg some (by kernel_rfl))
  f29 := Tryz.func150.trans (congrArg some (by kernel_rfl))
  f46 := ⟨Tryz.f151.name, by decide, Tryz.func151.trans (congrArg some (by kernel_rfl))⟩
  f47 := Tryz.func152.trans (congrArg some (by kernel_rfl))
  f48 := Tryz.func153.trans (congrArg some (by kernel_rfl))
  f49 := ⟨Tryz.f154.name, by decide, Tryz.func154.trans (congrArg some (by kernel_rfl))⟩
  f50 := ⟨Tryz.f155.name, by decide, Tryz.func155.trans (congrArg some (by kernel_rfl))⟩
  f57 := ⟨Tryz.f156.name, by decide, Tryz.func156.trans (congrArg some (by kernel_rfl))⟩
  t0 := Tryz.underlying0
  a0 := Tryz.isAgg0
  z0 := Tryz.sizeOf0
  v0 := Tryz.zeroValue0
  t3 := Tryz.underlying3
  a3 := Tryz.isAgg3
  z3 := Tryz.sizeOf3
  v3 := Tryz.zeroValue3
  t4 := Tryz.underlying4
  a4 := Tryz.isAgg4
  z4 := Tryz.sizeOf4
  v4 := Tryz.zeroValue4
  t5 := Tryz.underlying5
  a5 := Tryz.isAgg5
  z5 := Tryz.sizeOf5
  v5 := Tryz.zeroValue5
  t9 := Tryz.underlying9
  a9 := Tryz.isAgg9
  z9 := Tryz.sizeOf9
  v9 := Tryz.zeroValue9
  t22 := Tryz.underlying22
  a22 := Tryz.isAgg22
  z22 := Tryz.sizeOf22
  v22 := Tryz.zeroValue22
  a24 := Tryz.isAgg3
  z24 := Tryz.sizeOf3
  t25 := Tryz.underlying109
  a25 := Tryz.isAgg109
  z25 := Tryz.sizeOf109
  v25 := Tryz.zeroValue109
  t39 := Tryz.underlying106
  a39 := Tryz.isAgg106
  z39 := Tryz.sizeOf106
  v39 := Tryz.zeroValue106
  t45 := Tryz.underlying208
  a45 := Tryz.isAgg208
  z45 := Tryz.sizeOf208
  v45 := Tryz.zeroValue208
  t46 := Tryz.underlying209
  a46 := Tryz.isAgg209
  z46 := Tryz.sizeOf209
  v46 := Tryz.zeroValue209
  t50 := Tryz.underlying133
  a50 := Tryz.isAgg133
  z50 := Tryz.sizeOf133
  v50 := Tryz.zeroValue133
  t53 := Tryz.underlying75
  a53 := Tryz.isAgg75
  z53 := Tryz.sizeOf75
  v53 := Tryz.zeroValue75
  t55 := Tryz.underlying70
  a55 := Tryz.isAgg70
  z55 := Tryz.sizeOf70
  v55 := Tryz.zeroValue70
  t66 := Tryz.underlying216
  a66 := Tryz.isAgg216
  z66 := Tryz.sizeOf216
  v66 := Tryz.zeroValue216
  t70 := Tryz.underlying220
  a70 := Tryz.isAgg220
  z70 := Tryz.sizeOf220
  v70 := Tryz.zeroValue220
  t76 := Tryz.underlying222
  a76 := Tryz.isAgg222
  z76 := Tryz.sizeOf222
  v76 := Tryz.zeroValue222
  t77 := Tryz.underlying223
  a77 := Tryz.isAgg223
  z77 := Tryz.sizeOf223
  v77 := Tryz.zeroValue223 }

set_option maxRecDepth 100000 in
set_option maxHeartbeats 1000000 in
theorem cmpF_c (w : World) (kb : Nat) (KA : Option Addr) (n kc : Nat) (Ks : List (List Int)) (i j : Nat) (ai aj : List Int) (hkb : w.cell? ⟨kb, 0, none⟩ = some (.slice KA n kc)) (hK : ListAt w KA n Ks) (hai : Ks[i]? = some ai) (haj : Ks[j]? = some aj) (hl : ai.length = aj.length) (hi : i < n) (hj : j < n) :
    Calls Tryz.prog 121 #[.int .i64 (i : Int), .int .i64 (j : Int), .pointer (some ⟨kb, 0, none⟩)] w fun e w' => e = .returned (.int .i64 (cmpZ ai aj)) ∧ ∃ q, w' = w.drewN q := by
  obtain ⟨adk, l, P, pc, rfl, h1, hc, hll, hs⟩ := hK.at_ hi
  obtain ⟨adk2, l2, P2, pc2, e, h2, hc2, hll2, hs2⟩ := hK.at_ hj
  cases e
  rw [hai] at h1
  obtain rfl : ai = l := Option.some.inj h1
  rw [haj] at h2
  obtain rfl : aj = l2 := Option.some.inj h2
  rw [← hl] at hc2 hs2
  have HQ := Lib.hid (fun (nq : Nat) => ((cmpZ_c (w.drewN nq) P P2 ai.length pc pc2 ai aj hs hs2 hll).mono fun e w' h => ⟨h.1, 0, h.2.symm⟩ : Calls Tryz.prog 69 #[.slice P ai.length pc, .slice P2 ai.length pc2] (w.drewN nq) fun e w' => e = .returned (.int .i64 (cmpZ ai aj)) ∧ ∃ k, w' = (w.drewN nq).drewN k))
  obtain ⟨m, hm⟩ : ∃ m, ai.length = m := ⟨_, rfl⟩
  obtain ⟨z, hz⟩ : ∃ z, cmpZ ai aj = z := ⟨_, rfl⟩
  rw [hm] at hc hc2 HQ
  rw [hz] at HQ
  rw [hz]
  have hi' : (i : Int) < (n : Int) := by omega
  have hj' : (j : Int) < (n : Int) := by omega
  have hi0 : (0 : Int) ≤ (i : Int) := by omega
  have hj0 : (0 : Int) ≤ (j : Int) := by omega
  clear h1 h2 hai haj hl hs hs2 hm hz hK hll hll2
  go_enter Tryz.func121, Tryz.ntmps121
  go_wp2_with (go_quiet ((go_at_call 69; refine Calls.quiet_of (HQ.out _))))
  go_ret
  exact ⟨rfl, _, rfl⟩

/-- The states as the sort knows them. -/
def encF (m : Nat) (x : Fin (m + 1)) : Value := .int .i64 ((x.val : Nat) : Int)
theorem put_encF {m : Nat} (d : Array (Fin (m + 1))) (c : Array Value) : putCells (encF m) 0 d c = putCells (Value.int .i64) 0 (d.map fun x => ((x.val : Nat) : Int)) c := by
  unfold putCells
  apply Array.ext
  · simp
  · intro i h1 h2
    simp only [Array.getElem_mapIdx, Array.size_map]
    by_cases h : 0 ≤ i ∧ i < 0 + d.size
    · have hi : i - 0 < d.size := by omega
      rw [if_pos h, if_pos h, getElem!_pos d _ hi, getElem!_pos (d.map fun x => ((x.val : Nat) : Int)) _ (by simpa using hi)]
      simp [encF]
    · rw [if_neg h, if_neg h]
theorem world_encF {m : Nat} (w : World) (blk n : Nat) (d : Array (Fin (m + 1))) (os : Array Obj) : sortWorld (encF m) w blk 0 n d os = grow (putRow (Value.int .i64) (Sort.ahead w n) blk 0 (d.map fun x => ((x.val : Nat) : Int))) os := by
  unfold sortWorld putRow
  rw [show putCells (encF m) 0 d = putCells (Value.int .i64) 0 (d.map fun x => ((x.val : Nat) : Int)) from funext (put_encF d)]
theorem keeps_sort {m : Nat} (w : World) (blk n : Nat) (d : Array (Fin (m + 1))) (os : Array Obj) : Keeps (fun b => b = blk) w (sortWorld (encF m) w blk 0 n d os) := by
  rw [world_encF]
  exact (Keeps.of_grown (grownBy_sortedI _)).mono fun k _ hk => by injection hk with hk; exact hk.symm
theorem cmpZ_swo {m k : Nat} {κ : Nat → List Int} (hlen : ∀ i, i < m + 1 → (κ i).length = k) : SWO (ltOf fun x y : Fin (m + 1) => cmpZ (κ x.val) (κ y.val)) where
  irrefl x := by
    show decide (cmpZ (κ x.val) (κ x.val) < 0) = false
    rw [cmpZ_self]
    rfl
  trans x y z h1 h2 := by
    unfold ltOf at *
    rw [decide_eq_true_eq] at *
    exact cmpZ_trans _ _ _ (by rw [hlen _ x.isLt, hlen _ y.isLt]) (by rw [hlen _ y.isLt, hlen _ z.isLt]) h1 h2
  ntrans x y z h1 h2 := by
    unfold ltOf at *
    rw [decide_eq_false_iff_not] at *
    exact cmpZ_ntrans _ _ _ (by rw [hlen _ x.isLt, hlen _ y.isLt]) (by rw [hlen _ y.isLt, hlen _ z.isLt]) h1 h2

theorem fin_list {m : Nat} : ∀ (O : List Nat), (∀ x ∈ O, x < m + 1) → ∃ d : List (Fin (m + 1)), d.map (·.val) = O
  | [], _ => ⟨[], rfl⟩
  | x :: O, h => by
    obtain ⟨d, hd⟩ := fin_list O (fun y hy => h y (by simp [hy]))
    exact ⟨⟨x, h x (by simp)⟩ :: d, by rw [List.map_cons, hd]⟩
theorem own_facts {w : World} {base ob cap n : Nat} {xs : List Value} (h : w.ownsRow base 3 1 (.slice (some ⟨ob, 0, none⟩) n cap) n xs) : ∃ cur, base ≤ ob ∧ w.heap[ob]? = some (.cells cur 3 (0, 0)) ∧ n ≤ cap ∧ cap ≤ maxLen ∧ cur.size = cap * 1 ∧ cur.toList.take (n * 1) = xs := by
  rcases h.2 with ⟨e, _⟩ | ⟨g, c', cur, e, h1, h2, h3, h4, h5, h6⟩
  · cases e
  · cases e
    exact ⟨cur, h1, h2, h3, h4, h5, h6⟩

theorem rows_list {w : World} {B lc : Nat} {LA : Option Addr} {rows : List Value} {L : List (List Int)} {X : Nat → Prop} (h : RowsAt w B (.slice LA L.length lc) rows L X) : ListAt w LA L.length L :=
  ⟨rows, Sl.of_own h.lst, rfl, fun j l hj => by
    obtain ⟨v, h1, h2, _⟩ := h.el j l hj
    obtain ⟨P, c, rfl, h3, h4⟩ := own_slice h2
    exact ⟨P, c, h1, by unfold maxLen at h4; omega, Sl.of_own h2⟩⟩
theorem rows_listn {w : World} {B lc n : Nat} {LA : Option Addr} {rows : List Value} {L : List (List Int)} {X : Nat → Prop} (hl : L.length = n) (h : RowsAt w B (.slice LA n lc) rows L X) : ListAt w LA n L := by
  subst hl
  exact rows_list h
theorem extract_all {α : Type} (a : Array α) (n : Nat) (h : a.size = n) : a.extract 0 n = a := by
  subst h
  simp
/-- The order behind the sort. -/
theorem sortOrd_c (w : World) (base ob cap n kb KB kc k : Nat) (KA : Option Addr) (krows : List Value) (O : List Nat) (κ : Nat → List Int) (hn : 0 < n)
    (ho : w.ownsRow base 3 1 (.slice (some ⟨ob, 0, none⟩) n cap) n ((ints O).map (Value.int .i64))) (hO : O.Perm (List.range n)) (hlen : ∀ i, i < n → (κ i).length = k)
    (hkb : w.cell? ⟨kb, 0, none⟩ = some (.slice KA n kc)) (hkne : kb ≠ ob) (hK : RowsAt w KB (.slice KA n kc) krows ((List.range n).map κ) (fun _ => False)) (hob : ob < KB) (hn2 : n < 4611686018427387904) :
    Calls Tryz.prog 120 #[.slice (some ⟨ob, 0, none⟩) n cap, .func (.func 121) #[] #[.pointer (some ⟨kb, 0, none⟩)]] w fun e w' =>
      e = .returned (.tuple #[]) ∧ ∃ O', SortedK κ n O' ∧ w'.ownsRow base 3 1 (.slice (some ⟨ob, 0, none⟩) n cap) n ((ints O').map (Value.int .i64)) ∧ Keeps (fun b => b = ob) w w' := by
  obtain ⟨m, rfl⟩ : ∃ m, n = m + 1 := ⟨n - 1, by omega⟩
  obtain ⟨d, hd⟩ := fin_list (m := m) O (fun x hx => List.mem_range.1 (hO.mem_iff.1 hx))
  have hdl : d.length = m + 1 := by rw [← List.length_map (f := fun x : Fin (m + 1) => x.val), hd, hO.length_eq, List.length_range]
  obtain ⟨cur, f1, f2, f3, f4, f5, f6⟩ := own_facts ho
  have hoe : (ints O).map (Value.int .i64) = d.map (encF m) := by
    rw [← hd]
    unfold ints encF
    rw [List.map_map, List.map_map]
    rfl
  have hH : Holds (encF m) w ob 0 d.toArray := by
    intro j hj
    have hj' : j < d.length := by simpa using hj
    have h1 := ho.cellAt j (by omega)
    rw [hoe, List.getElem?_map, List.getElem?_eq_getElem hj'] at h1
    rw [Nat.zero_add, getElem!_pos d.toArray _ hj]
    exact ⟨h1, ho.frozenAt j⟩
  have hblk : ob < w.heap.size := (Array.getElem?_eq_some_iff.1 f2).1
  have hcmp : CmpLays1 Tryz.prog 121 #[.pointer (some ⟨kb, 0, none⟩)] (encF m) (fun x y => cmpZ (κ x.val) (κ y.val)) ob 0 d.toArray.size w := by
    intro q os dk hdk x y
    have hk := keeps_sort w ob q dk os
    have hb' : (sortWorld (encF m) w ob 0 q dk os).cell? ⟨kb, 0, none⟩ = some (.slice KA (m + 1) kc) := hk.cell hkb hkne
    have hK' : RowsAt (sortWorld (encF m) w ob 0 q dk os) KB (.slice KA (m + 1) kc) krows ((List.range (m + 1)).map κ) (fun _ => False) := hK.keeps hk (fun b hb e => by
      have h1 := (hK.lst.lt b e).1
      rw [show b = ob from hb] at h1
      omega) (fun b hb v hv e => by
      obtain ⟨l, _, h1, _⟩ := hK.mem hv
      have h2 := (h1.lt b e).1
      rw [show b = ob from hb] at h2
      omega)
    have hat : ∀ z : Fin (m + 1), ((List.range (m + 1)).map κ)[z.val]? = some (κ z.val) := fun z => by rw [List.getElem?_map, List.getElem?_range z.isLt]; rfl
    have hL : ListAt (sortWorld (encF m) w ob 0 q dk os) KA (m + 1) ((List.range (m + 1)).map κ) := rows_listn (by simp) hK'
    refine (cmpF_c _ kb KA (m + 1) kc _ x.val y.val _ _ hb' hL (hat x) (hat y) (by rw [hlen _ x.isLt, hlen _ y.isLt]) x.isLt y.isLt).mono ?_
    rintro e w' ⟨rfl, q', rfl⟩
    exact ⟨rfl, q', #[], by rw [grow_empty]⟩
  have hc := Any.slices_SortFunc sortF (encF m) (fun _ => rfl) (fun x y => cmpZ (κ x.val) (κ y.val)) (cmpZ_swo hlen) 121 #[.pointer (some ⟨kb, 0, none⟩)] ob 0 cap d.toArray w (enters_of Tryz.func121 (by kernel_rfl) rfl) hcmp hH hblk (by simp; omega)
  change Calls Tryz.prog 120 _ _ _ at hc
  rw [show d.toArray.size = m + 1 by simp [hdl]] at hc
  refine hc.mono ?_
  rintro e w' ⟨rfl, d', q, os, ⟨p1, p2, p3⟩, hs, rfl⟩
  have hd's : d'.size = m + 1 := by rw [p1]; simp [hdl]
  have hp : d'.toList.Perm d := by
    have e1 : d'.extract 0 (m + 1) = d' := extract_all _ _ hd's
    have e2 : d.toArray.extract 0 (m + 1) = d.toArray := extract_all _ _ (by simp [hdl])
    rw [e1, e2] at p3
    simpa using p3
  obtain ⟨O', hO'⟩ : ∃ O', d'.toList.map (·.val) = O' := ⟨_, rfl⟩
  have hperm : O'.Perm (List.range (m + 1)) := by
    rw [← hO']
    refine (hp.map _).trans ?_
    rw [hd]
    exact hO
  have hget : ∀ p, p < m + 1 → O'.getD p 0 = (d'[p]!).val := fun p hp' => by
    rw [← hO', List.getD_eq_getElem?_getD, List.getElem?_map, Array.getElem?_toList, Array.getElem?_eq_getElem (by omega), getElem!_pos d' p (by omega)]
    rfl
  refine ⟨rfl, O', ⟨hperm, fun p q' hpq hq => ?_, fun i j hi hj => by rw [hlen i hi, hlen j hj]⟩, ?_, keeps_sort w ob q d' os⟩
  · have h1 := hs p q' (Nat.zero_le _) hpq hq
    unfold ltOf at h1
    rw [decide_eq_false_iff_not] at h1
    rw [hget p (by omega), hget q' hq]
    exact h1
  · rw [world_encF]
    have e3 : (d'.map fun x => ((x.val : Nat) : Int)) = (ints O').toArray := by
      apply Array.ext'
      rw [← hO']
      unfold ints
      simp
    rw [e3]
    have hlI : (ints O').length = m + 1 := by rw [ints_len, hperm.length_eq, List.length_range]
    have h2 := ownsRow_sortedI (w := w) (base := base) (g := ob) (cap := cap) (n := q) (e := 3) (os := os) (cur := cur) (ss := ints O') (ts := ints O') rfl f1 f2 (by rw [hlI]; exact f3) f4 f5
    rw [hlI] at h2
    exact h2
end Go.Proofs.YthilnpfpllplaaaGreatDoor

namespace Go.Proofs.YthilnpfpllplaaaGreatDoor
open Go.RowKit RuleP

set_option maxRecDepth 100000 in
set_option maxHeartbeats 1000000 in
theorem equalQ_c (w : World) (A1 A2 : Option Addr) (n1 c1 c2 : Nat) (xs ys : List Int) (h1 : Sl w A1 n1 (xs.map (Value.int .i64))) (h2 : Sl w A2 n1 (ys.map (Value.int .i64))) (m1 : n1 ≤ 9223372036854775807) :
    Calls Tryz.prog 54 #[.slice A1 n1 c1, .slice A2 n1 c2] w fun e w' => e = .returned (.bool (decide (xs = ys))) ∧ ∃ q, w' = w.drewN q := by
  have l1 : xs.length = n1 := by simpa using h1.1
  have l2 : ys.length = n1 := by simpa using h2.1
  have hne : ((n1 : Int) != (n1 : Int)) = false := by simp
  have H1 := Lib.hid l1
  have H2 := Lib.hid l2
  clear l1 l2
  go_enter Tryz.func54, Tryz.ntmps54
  go_wp2_with fail
  go_loopw [13] (fun i wr => ∃ k q : Nat, k ≤ n1 ∧ i = .int .i64 k ∧ wr = w.drewN q ∧ xs.take k = ys.take k) (fun i _ => n1 - (intOf i).toNat)
  case atStart => exact ⟨0, 0, Nat.zero_le _, rfl, rfl, rfl⟩
  case round =>
    obtain ⟨k, q, hk, rfl, rfl, ht⟩ := hrel
    have HT := Lib.hid ht
    clear ht
    by_cases hlt : k < n1
    · obtain ⟨a1, x1, rfl, hx1, hc1⟩ := h1.int_ hlt
      obtain ⟨a2, x2, rfl, hx2, hc2⟩ := h2.int_ hlt
      have HX1 := Lib.hid hx1
      have HX2 := Lib.hid hx2
      clear hx1 hx2
      by_cases e : x1 = x2
      · have t1 : (x1 != x2) = false := by simp [e]
        have E := Lib.hid e
        clear e
        go_wp2_with (go_quiet (fail))
        exact ⟨⟨k + 1, _, by omega, by go_num, rfl, by rw [List.take_add_one, List.take_add_one, HT.out, HX1.out, HX2.out, E.out]⟩, by simp [intOf]; omega⟩
      · have t1 : (x1 != x2) = true := by simp [e]
        have hne2 : xs ≠ ys := by
          intro he; subst he
          have := HX1.out.symm.trans HX2.out
          simp at this; exact e this
        have E := Lib.hid hne2
        clear e hne2
        go_wp2_with (go_quiet (fail))
        go_ret
        exact ⟨by simp [E.out], _, World.drewN_drewN _ _ _⟩
    · have he : xs = ys := by
        have := HT.out
        rwa [List.take_of_length_le (by have := H1.out; omega), List.take_of_length_le (by have := H2.out; omega)] at this
      have E := Lib.hid he
      clear he
      go_wp2_with fail
      go_ret
      exact ⟨by simp [E.out], _, rfl⟩

theorem addr_off (g i : Nat) : (⟨g, 0, none⟩ : Addr).add i = ⟨g, i, none⟩ := by
  by_cases h : i = 0
  · subst h; rfl
  · simp [Addr.add, h]
theorem range_take {n i : Nat} (h : i < n) : ((List.range n).take i ++ List.replicate (n - i) 0).set i i = (List.range n).take (i + 1) ++ List.replicate (n - (i + 1)) 0 := by
  have h1 : ((List.range n).take i).length = i := by rw [List.length_take, List.length_range]; omega
  rw [List.set_append, h1, if_neg (by omega), Nat.sub_self, show n - i = (n - (i + 1)) + 1 by omega, List.replicate_succ, List.set_cons_zero, List.take_add_one, List.getElem?_range h]
  simp
theorem own_cells {w : World} {base e n g : Nat} {v : Value} {xs : List Value} (h : w.ownsRow base e 1 v n xs) (hg : v.ownBlock = some g) : ∃ cs, w.heap[g]? = some (.cells cs e (0, 0)) := by
  rcases h.2 with ⟨rfl, _⟩ | ⟨g', cap, cur, rfl, _, hh, _⟩
  · cases hg
  · have e' : g' = g := by simpa [Value.ownBlock] using hg
    subst e'
    exact ⟨_, hh⟩
/-- What stands between two rounds. -/
structure PartAt (w0 w : World) (ob gb k : Nat) (NA : Option Addr) (n nc : Nat) (O G : List Nat) : Prop where
  ord : w.ownsRow w0.heap.size 3 1 (.slice (some ⟨ob, 0, none⟩) n n) n ((ints O).map (Value.int .i64))
  box : ∃ gg, w.heap[gb]? = some (.cells #[.slice (some ⟨gg, 0, none⟩) n n] 22 (0, 0)) ∧ w.ownsRow w0.heap.size 3 1 (.slice (some ⟨gg, 0, none⟩) n n) n ((ints G).map (Value.int .i64)) ∧ gg ≠ ob
  auto : AutoAt w w0.heap.size (.int .i64 (k : Int)) (.slice NA n nc)
  old : Below w0.heap.size w0 w
  perm : O.Perm (List.range n)
  glen : G.length = n
theorem PartAt.obl {w0 w : World} {ob gb k : Nat} {NA : Option Addr} {n nc : Nat} {O G : List Nat} (h : PartAt w0 w ob gb k NA n nc O G) : ob < w.heap.size ∧ gb < w.heap.size ∧ w0.heap.size < w.heap.size ∧ ob ≠ gb ∧ ob ≠ w0.heap.size := by
  obtain ⟨cur, h1, h2, _⟩ := own_facts h.ord
  obtain ⟨gg, g1, g2, g3⟩ := h.box
  refine ⟨(Array.getElem?_eq_some_iff.1 h2).1, (Array.getElem?_eq_some_iff.1 g1).1, (Array.getElem?_eq_some_iff.1 h.auto).1, fun e => ?_, fun e => ?_⟩
  · rw [e, g1] at h2
    injection h2 with h2
    injection h2 with _ h2
    exact absurd h2 (by decide)
  · rw [e, show w.heap[w0.heap.size]? = _ from h.auto] at h2
    injection h2 with h2
    injection h2 with _ h2
    exact absurd h2 (by decide)
theorem PartAt.pure {w0 w w' : World} {ob gb k : Nat} {NA : Option Addr} {n nc : Nat} {O G : List Nat} (h : PartAt w0 w ob gb k NA n nc O G) (hb : Below w.heap.size w w') : PartAt w0 w' ob gb k NA n nc O G := by
  obtain ⟨l1, l2, l3, _⟩ := h.obl
  obtain ⟨gg, g1, g2, g3⟩ := h.box
  exact ⟨own_below h.ord hb, ⟨gg, (hb.block gb l2).trans g1, own_below g2 hb, g3⟩, h.auto.below hb l3, h.old.trans (hb.mono h.old.size), h.perm, h.glen⟩
/-- Behind the sort. -/
theorem PartAt.sorted {w0 w w' : World} {ob gb k : Nat} {NA : Option Addr} {n nc : Nat} {O O' G : List Nat} (h : PartAt w0 w ob gb k NA n nc O G) (hk : Keeps (fun b => b = ob) w w') (ho : w'.ownsRow w0.heap.size 3 1 (.slice (some ⟨ob, 0, none⟩) n n) n ((ints O').map (Value.int .i64))) (hp : O'.Perm (List.range n)) : PartAt w0 w' ob gb k NA n nc O' G := by
  obtain ⟨l1, l2, l3, l4, l5⟩ := h.obl
  obtain ⟨gg, g1, g2, g3⟩ := h.box
  have hob := (h.ord.lt ob rfl).1
  exact ⟨ho, ⟨gg, (hk.block gb l2 (fun e => l4 (show gb = ob from e).symm)).trans g1, own_keeps g2 hk (fun g hg e => g3 (by injection hg with hg; exact (show gg = g from hg).trans e)), g3⟩, (hk.block _ l3 (fun e => l5 (show w0.heap.size = ob from e).symm)).trans h.auto, h.old.trans (hk.below h.old.size (fun b hb => by rw [show b = ob from hb]; exact hob)), hp, h.glen⟩
/-- Behind the store of the next groups. -/
theorem PartAt.next {w0 w : World} {ob gb nb k : Nat} {NA : Option Addr} {n nc : Nat} {O G G' : List Nat} (h : PartAt w0 w ob gb k NA n nc O G) (hg : w.ownsRow w0.heap.size 3 1 (.slice (some ⟨nb, 0, none⟩) n n) n ((ints G').map (Value.int .i64))) (hne : nb ≠ ob) (hl : G'.length = n) (hgb : w0.heap.size < gb) :
    PartAt w0 (w.setCell ⟨gb, 0, none⟩ (.slice (some ⟨nb, 0, none⟩) n n)) ob gb k NA n nc O G' := by
  obtain ⟨l1, l2, l3, l4, l5⟩ := h.obl
  obtain ⟨gg, g1, g2, g3⟩ := h.box
  have hk := Keeps.of_setCell w ⟨gb, 0, none⟩ (.slice (some ⟨nb, 0, none⟩) n n)
  have hni : ∀ {v : Value} {xs : List Value} {m : Nat}, w.ownsRow w0.heap.size 3 1 v m xs → ∀ g, v.ownBlock = some g → ¬ g = gb := fun ho g hg e => by
    obtain ⟨cs, hcs⟩ := own_cells ho hg
    rw [e, g1] at hcs
    injection hcs with hcs
    injection hcs with _ hcs
    exact absurd hcs (by decide)
  exact ⟨own_keeps h.ord hk (hni h.ord), ⟨nb, heap_setCell_same w gb 0 _ _ _ g1, own_keeps hg hk (hni hg), hne⟩, (hk.block _ l3 (fun e => by have : w0.heap.size = gb := e; omega)).trans h.auto, h.old.setCell (p := ⟨gb, 0, none⟩) (Nat.le_of_lt hgb) _, h.perm, hl⟩
theorem PartAt.key {w0 w : World} {ob gb k : Nat} {NA : Option Addr} {n nc : Nat} {O G : List Nat} {L : List (List Int)} (h : PartAt w0 w ob gb k NA n nc O G) (hn : L.length = n) (hA : IsAuto k L) (hL : ListAt w0 NA n L) : KeyAt w gb w0.heap.size k G L := by
  subst hn
  obtain ⟨l1, l2, l3, _⟩ := h.obl
  obtain ⟨gg, g1, g2, g3⟩ := h.box
  refine ⟨hA, h.glen, ⟨_, _, by rw [cell_of_row w _ _ _ _ _ g1]; rfl, Sl.of_own g2⟩, ⟨NA, nc, (AutoAt.facts h.auto).2.1, hL.keep h.old⟩, l2, l3⟩
end Go.Proofs.YthilnpfpllplaaaGreatDoor

namespace Go.Proofs.YthilnpfpllplaaaGreatDoor
open Go.RowKit RuleP

set_option maxRecDepth 100000 in
set_option maxHeartbeats 2000000 in
theorem parted_c (w : World) (k n nc : Nat) (NA : Option Addr) (L : List (List Int)) (hn : L.length = n) (hA : IsAuto k L) (hL : ListAt w NA n L) (hk4 : k ≤ 4) (hn4 : n ≤ 4096) :
    Calls Tryz.prog 103 #[autoV (k : Int) (.slice NA n nc)] w fun e w' => ∃ (gg : Nat) (G : List Nat), e = .returned (.slice (some ⟨gg, 0, none⟩) n n) ∧ w'.ownsRow w.heap.size 3 1 (.slice (some ⟨gg, 0, none⟩) n n) n ((ints G).map (Value.int .i64)) ∧ G.length = n ∧ (∀ i, i < n → G.getD i 0 < n) ∧ Parted k L G ∧ Below w.heap.size w w' := by
  have hn0 : 0 < n := by rw [← hn]; exact hA.pos
  have HN := Lib.hid hn
  have HA := Lib.hid hA
  have HL := Lib.hid hL
  have hmk := run_make_row' (P := Tryz.prog) 22 3 (.int .i64 0) 8 tInts.und tInts.info rfl .i64 .i64 n (by omega) (by omega)
  have hmk2 := run_make_row' (P := Tryz.prog) 48 22 (.slice none 0 0) 24 tIntss.und tIntss.info rfl .i64 .i64 n (by omega) (by omega)
  have hnm : n ≤ maxLen := by simp only [maxLen]; omega
  obtain ⟨W1, hW1⟩ : ∃ W1, w.alloc (.cells #[.int .i64 (k : Int), .slice NA n nc] 50) = W1 := ⟨_, rfl⟩
  have hz1 : W1.heap.size = w.heap.size + 1 := by rw [← hW1]; simp
  have ha1 : AutoAt W1 w.heap.size (.int .i64 (k : Int)) (.slice NA n nc) := by rw [← hW1]; exact heap_new _ _
  have hb1 := (Below.refl w.heap.size w).alloc (Nat.le_refl _) (.cells #[.int .i64 (k : Int), .slice NA n nc] 50)
  rw [hW1] at hb1
  have ho2 := make_ints W1 n hnm
  obtain ⟨W2, hW2⟩ : ∃ W2, W1.alloc (.cells (madeCells #[.int .i64 0] n) 3) = W2 := ⟨_, rfl⟩
  have hz2 : W2.heap.size = w.heap.size + 2 := by rw [← hW2]; simp [hz1]
  have hb2 := (Below.refl W1.heap.size W1).alloc (Nat.le_refl _) (.cells (madeCells #[.int .i64 0] n) 3)
  rw [hW2] at ho2 hb2
  obtain ⟨W3, hW3⟩ : ∃ W3, W2.alloc (.cells #[.slice (some ⟨W1.heap.size, 0, none⟩) n n] 22) = W3 := ⟨_, rfl⟩
  have hg3 : W3.heap[W2.heap.size]? = some (.cells #[.slice (some ⟨W1.heap.size, 0, none⟩) n n] 22 (0, 0)) := by rw [← hW3]; exact heap_new _ _
  have hb3 : Below W2.heap.size W2 W3 := by rw [← hW3]; exact (Below.refl W2.heap.size W2).alloc (Nat.le_refl _) _
  have hz3 : W3.heap.size = w.heap.size + 3 := by rw [← hW3]; simp [hz2]
  have ho4 := make_ints W3 n hnm
  obtain ⟨W4, hW4⟩ : ∃ W4, W3.alloc (.cells (madeCells #[.int .i64 0] n) 3) = W4 := ⟨_, rfl⟩
  have hb4 := (Below.refl W3.heap.size W3).alloc (Nat.le_refl _) (.cells (madeCells #[.int .i64 0] n) 3)
  rw [hW4] at ho4 hb4
  have b24 : Below W2.heap.size W2 W4 := hb3.trans (hb4.mono hb3.size)
  have b14 : Below W1.heap.size W1 W4 := hb2.trans (b24.mono hb2.size)
  have b04 : Below w.heap.size w W4 := hb1.trans (b14.mono hb1.size)
  have HG4 := Lib.hid ((hb4.block W2.heap.size (by omega)).trans hg3)
  have HO2 := Lib.hid (own_base (own_below ho2 b24) (show w.heap.size ≤ W1.heap.size by omega))
  have HA4 := Lib.hid (ha1.below b14 (by omega))
  have HO4 := Lib.hid (own_base ho4 (show w.heap.size ≤ W3.heap.size by omega))
  have HB4 := Lib.hid b04
  have hz4 : W4.heap.size = w.heap.size + 4 := by rw [← hW4]; simp [hz3]
  have HZ4 := Lib.hid hz4
  have HW : Hid ((((w.alloc (.cells #[.int .i64 (k : Int), .slice NA n nc] 50)).alloc (.cells (madeCells #[.int .i64 0] n) 3)).alloc (.cells #[.slice (some ⟨w.heap.size + 1, 0, none⟩) n n] 22)).alloc (.cells (madeCells #[.int .i64 0] n) 3) = W4) := Lib.hid (by
    rw [hW1, hW2, show w.heap.size + 1 = W1.heap.size by omega, hW3, hW4])
  rw [hz1] at HG4 HO2
  rw [hz2] at HG4
  rw [hz3] at HO4
  obtain ⟨gb, hgb⟩ : ∃ gb, w.heap.size + 2 = gb := ⟨_, rfl⟩
  obtain ⟨ob, hob⟩ : ∃ ob, w.heap.size + 3 = ob := ⟨_, rfl⟩
  rw [hgb] at HG4
  rw [hob] at HO4
  have HGB := Lib.hid hgb
  have HOB := Lib.hid hob
  have HGB1 := Lib.hid (show w.heap.size + 1 + 1 = gb by omega)
  have HOB1 := Lib.hid (show w.heap.size + 1 + 1 + 1 = ob by omega)
  clear ho2 hg3 ho4 hb1 hb2 hb3 hb4 b24 b14 b04 hz1 hz2 hz3 hz4 hW1 hW2 hW3 hW4 ha1 hA hL hn hgb hob
  unfold autoV
  go_enter Tryz.func103, Tryz.ntmps103
  go_wp2_with fail
  rw [HW.out]
  rw [HOB1.out, HGB1.out]
  go_loopw [24] (fun iv wl => ∃ i : Nat, i ≤ n ∧ iv = .int .i64 (i : Int) ∧ wl.ownsRow w.heap.size 3 1 (.slice (some ⟨ob, 0, none⟩) n n) n ((ints ((List.range n).take i ++ List.replicate (n - i) 0)).map (Value.int .i64)) ∧ Hid (Keeps (fun b => b = ob) W4 wl)) (fun iv _ => n - (intOf iv).toNat)
  case atStart => exact ⟨0, Nat.zero_le _, rfl, by have h := HO4.out; simpa using h, Lib.hid (Keeps.refl _ _)⟩
  case round =>
    obtain ⟨i, hi, rfl, hown, hK⟩ := hrel
    by_cases hlt : i < n
    · have hlt' : (i : Int) < (n : Int) := by omega
      have hi0 : (0 : Int) ≤ (i : Int) := by omega
      have fa := hown.frozenAt i
      obtain ⟨z, hz⟩ : ∃ z, ((List.range n).take i ++ List.replicate (n - i) 0)[i]? = some z := ⟨_, List.getElem?_eq_getElem (by rw [List.length_append, List.length_take, List.length_range, List.length_replicate]; omega)⟩
      have ca : wr.cell? ⟨ob, i, none⟩ = some (.int .i64 (z : Int)) := by
        rw [hown.cellAt i (by omega), ints_map, List.getElem?_map, hz]
        rfl
      have o1 := (hown.stored i (.int .i64 (i : Int))).1
      have e1 : ((ints ((List.range n).take i ++ List.replicate (n - i) 0)).map (Value.int .i64)).set i (.int .i64 (i : Int)) = (ints ((List.range n).take (i + 1) ++ List.replicate (n - (i + 1)) 0)).map (Value.int .i64) := by
        rw [← range_take hlt, ints_map, ints_map, List.map_set]
      rw [e1] at o1
      have HOO := Lib.hid o1
      have HKK := Lib.hid (hK.out.trans (Keeps.of_setCell wr ⟨ob, i, none⟩ (.int .i64 (i : Int))) (fun _ _ h => h))
      clear o1 e1 hz hown hK
      go_wp2_with fail
      exact ⟨⟨i + 1, by omega, by go_num, HOO.out, HKK⟩, by simp [intOf]; omega⟩
    · have hlt' : ¬ (i : Int) < (n : Int) := by omega
      obtain rfl : n = i := by omega
      have e1 : (List.range n).take n ++ List.replicate (n - n) 0 = List.range n := by
        rw [Nat.sub_self, List.replicate_zero, List.append_nil, List.take_of_length_le (by rw [List.length_range]; exact Nat.le_refl _)]
      rw [e1] at hown
      obtain ⟨v5, rfl⟩ : ∃ v5, v5 = wr := ⟨_, rfl⟩
      have hP : PartAt w v5 ob gb k NA n nc (List.range n) (List.replicate n 0) := by
        have hgl : gb < W4.heap.size := (Array.getElem?_eq_some_iff.1 HG4.out).1
        refine ⟨hown, ⟨w.heap.size + 1, (hK.out.block gb hgl (fun e => by have h1 := HGB.out; have h2 := HOB.out; have h3 : gb = ob := e; omega)).trans HG4.out, own_keeps HO2.out hK.out (fun g hg e => ?_), ?_⟩, (hK.out.block _ (by have := HZ4.out; omega) (fun e => by have h2 := HOB.out; have h3 : w.heap.size = ob := e; omega)).trans HA4.out, HB4.out.trans (hK.out.below HB4.out.size (fun b hb => by have h2 := HOB.out; rw [show b = ob from hb]; omega)), List.Perm.refl _, by simp⟩
        · injection hg with hg
          have h2 := HOB.out
          have h3 : g = ob := e
          have h4 : w.heap.size + 1 = g := hg
          omega
        · have h2 := HOB.out
          omega
      have HP := Lib.hid hP
      clear hP e1 hown hK HO2 HO4 HA4 HG4 HB4 HZ4 HW
      go_wp2_with fail
      go_loopw [7] (fun v wl => ∃ (O G : List Nat) (c : Nat), v = .int .i64 (c : Int) ∧ Hid (PartAt w wl ob gb k NA n nc O G ∧ Coarse k L G ∧ dcnt G n = c)) (fun v _ => n - (intOf v).toNat)
      case atStart =>
        exact ⟨List.range n, List.replicate n 0, 1, rfl, Lib.hid ⟨HP.out, coarse_zero k L n, dcnt_zero hn0⟩⟩
      case round =>
        obtain ⟨O, G, c, rfl, hI⟩ := hrel
        obtain ⟨wo, rfl⟩ : ∃ wo, wo = wr := ⟨_, rfl⟩
        obtain ⟨hP, hC, hD⟩ := hI.out
        clear hI HP
        obtain ⟨s0, hs0⟩ : ∃ s0, wo.heap.size = s0 := ⟨_, rfl⟩
        have hobl := hP.obl
        rw [hs0] at hobl
        have hgx : w.heap.size < gb := by have := HGB.out; omega
        have hr2 := (RowsAt.made wo n hnm).pure ((Below.refl _ _).alloc (Nat.le_refl _) (.cells #[.slice (some ⟨s0, 0, none⟩) n n] 48))
        have hz1 : (wo.alloc (.cells (madeCells #[.slice none 0 0] n) 22)).heap.size = s0 + 1 := by rw [World.size_alloc, hs0]
        have hx2 := heap_new (wo.alloc (.cells (madeCells #[.slice none 0 0] n) 22)) (.cells #[.slice (some ⟨s0, 0, none⟩) n n] 48)
        rw [hz1] at hx2
        rw [hs0] at hr2
        have hb2 := ((Below.refl wo.heap.size wo).alloc (Nat.le_refl _) (.cells (madeCells #[.slice none 0 0] n) 22)).alloc (by simp) (.cells #[.slice (some ⟨s0, 0, none⟩) n n] 48)
        obtain ⟨wk, hwk⟩ : ∃ wk, (wo.alloc (.cells (madeCells #[.slice none 0 0] n) 22)).alloc (.cells #[.slice (some ⟨s0, 0, none⟩) n n] 48) = wk := ⟨_, rfl⟩
        rw [hwk] at hr2 hx2 hb2
        rw [hs0] at hb2
        have HWK := Lib.hid hwk
        have HS0 := Lib.hid hs0
        have HR2 := Lib.hid hr2
        have HX2 := Lib.hid hx2
        have HB2 := Lib.hid hb2
        have HP := Lib.hid hP
        have HC := Lib.hid hC
        have HD := Lib.hid hD
        have HOBL := Lib.hid hobl
        obtain ⟨KS, hKS⟩ : ∃ KS, (List.range n).map (keyP G L) = KS := ⟨_, rfl⟩
        have HKS := Lib.hid hKS
        have HKL := Lib.hid (show KS.length = n by rw [← hKS]; simp)
        have HKA := Lib.hid (show ∀ j, j < n → KS[j]? = some (keyP G L j) from fun j hj => by rw [← hKS, List.getElem?_map, List.getElem?_range hj]; rfl)
        have c8 : wk.cell? ⟨s0 + 1, 0, none⟩ = some (.slice (some ⟨s0, 0, none⟩) n n) := by rw [cell_of_row wk _ _ _ _ _ hx2]; rfl
        clear hr2 hx2 hb2 hz1 hP hC hD hs0 hwk hobl hKS
        go_wp2_with fail
        rw [HS0.out, HWK.out]
        go_loopw [38] (fun iv wl => ∃ (j : Nat) (rows : List Value), j ≤ n ∧ iv = .int .i64 (j : Int) ∧ Hid (RowsAt wl s0 (.slice (some ⟨s0, 0, none⟩) n n) rows (KS.take j ++ List.replicate (n - j) []) (fun _ => False) ∧ wl.heap[s0 + 1]? = some (.cells #[.slice (some ⟨s0, 0, none⟩) n n] 48 (0, 0)) ∧ Below s0 wo wl)) (fun iv _ => n - (intOf iv).toNat)
        case atStart => exact ⟨0, _, Nat.zero_le _, rfl, Lib.hid ⟨by have h := HR2.out; simpa using h, HX2.out, HB2.out⟩⟩
        case round =>
          obtain ⟨j, rows, hj, rfl, hI⟩ := hrel
          obtain ⟨hR, hX, hB⟩ := hI.out
          clear hI c8
          obtain ⟨v6, rfl⟩ : ∃ v6, v6 = wr := ⟨_, rfl⟩
          have c8 : v6.cell? ⟨s0 + 1, 0, none⟩ = some (.slice (some ⟨s0, 0, none⟩) n n) := by rw [cell_of_row v6 _ _ _ _ _ hX]; rfl
          have hBr : Below wo.heap.size wo v6 := by rw [HS0.out]; exact hB
          have hs6 : s0 ≤ v6.heap.size := by have h1 := hB.size; have h2 := HS0.out; omega
          by_cases hlt : j < n
          · have hlt' : (j : Int) < (n : Int) := by omega
            have hj0 : (0 : Int) ≤ (j : Int) := by omega
            have hKA := (HP.out.pure hBr).key HN.out HA.out HL.out
            have HCL := Lib.hid (keyF_c v6.drew gb w.heap.size k j G L (hKA.below ((Below.refl v6.heap.size v6).drew)) hk4 (by rw [HN.out]; exact hlt) (by rw [HN.out]; exact hn4))
            have hrl := hR.len
            have hll : (KS.take j ++ List.replicate (n - j) []).length = n := by rw [List.length_append, List.length_take, List.length_replicate, HKL.out]; omega
            rw [hll] at hrl
            obtain ⟨u, hu⟩ : ∃ u, rows[j]? = some u := ⟨_, List.getElem?_eq_getElem (by omega)⟩
            have HZ := Lib.hid (fun (wz : World) (hz : Below v6.heap.size v6 wz) => (by
              have h1 := (hR.pure hz).lst
              rw [hll] at h1
              exact ⟨by rw [h1.cellAt j (by omega), hu], h1.frozenAt j⟩ : wz.cell? ⟨s0, j, none⟩ = some u ∧ wz.frozen? ⟨s0, j, none⟩ = false))
            have HR := Lib.hid hR
            have HX := Lib.hid hX
            have HB := Lib.hid hB
            have HLL := Lib.hid hll
            have HKY := Lib.hid (keyP_len (G := G) HA.out (i := j) (by rw [HN.out]; exact hlt))
            have hne : ¬ s0 + 1 = s0 := by omega
            clear hKA hrl hll hu hR hX hB
            go_wp2_with fail
            go_region_held3 (fun w' => w'.cell? ⟨s0 + 1, 0, none⟩ = some (.slice (some ⟨s0, 0, none⟩) n n))
              (first | go_keep | exact (Keeps.of_setCell _ _ _).cell x0 hne)
              (first
                | (go_at_call 119
                   refine (HCL.out).mono ?_
                   rintro e w2 ⟨C, cc, rfl, ho2, hb2⟩
                   have hbz := (Below.refl v6.heap.size v6).drew.trans hb2
                   have x0 := cell_later hbz c8
                   obtain ⟨t0, t1⟩ := HZ.out w2 hbz)
                | fail)
            have hRz := HR.out.pure hbz
            have ho3 : w2.ownsRow s0 3 1 (.slice C (k + 1) cc) (keyP G L j).length ((keyP G L j).map (Value.int .i64)) := by
              rw [HKY.out]
              exact own_base ho2 hs6
            have hst := hRz.stored (i := j) (v := .slice C (k + 1) cc) (l := keyP G L j) (by rw [HLL.out]; exact hlt) ho3 (fun _ _ h => h) (fun g hg v hv e => by
              have h1 := (ho2.lt g hg).1
              exact (HR.out.not_new (show v6.heap.size ≤ g from h1)).2 v hv e)
            rw [fill_rows HKL.out hlt (HKA.out j hlt)] at hst
            have hXz : w2.heap[s0 + 1]? = some (.cells #[.slice (some ⟨s0, 0, none⟩) n n] 48 (0, 0)) := (hbz.block _ (Array.getElem?_eq_some_iff.1 HX.out).1).trans HX.out
            have HN2 := Lib.hid (⟨hst, ((Keeps.of_setCell w2 ⟨s0, j, none⟩ (.slice C (k + 1) cc)).block _ (Array.getElem?_eq_some_iff.1 hXz).1 hne).trans hXz, (HB.out.trans (hbz.mono hs6)).setCell (p := ⟨s0, j, none⟩) (Nat.le_refl s0) (.slice C (k + 1) cc)⟩ : _ ∧ _ ∧ _)
            clear hRz ho2 ho3 hst hXz hbz hb2 x0 t0 t1
            go_wp2_with fail
            exact ⟨⟨j + 1, _, by omega, by go_num, HN2⟩, by simp [intOf]; omega⟩
          · have hlt' : ¬ (j : Int) < (n : Int) := by omega
            obtain rfl : n = j := by omega
            have e1 : KS.take n ++ List.replicate (n - n) [] = KS := by
              rw [Nat.sub_self, List.replicate_zero, List.append_nil, List.take_of_length_le (by rw [HKL.out]; exact Nat.le_refl _)]
            rw [e1] at hR
            have hP6 := HP.out.pure hBr
            have hobs : ob < s0 := HOBL.out.1
            have hR' := hR
            rw [← HKS.out] at hR'
            have HSO := Lib.hid (sortOrd_c v6 w.heap.size ob n n (s0 + 1) s0 n (k + 1) (some ⟨s0, 0, none⟩) rows O (keyP G L) hn0 hP6.ord hP6.perm (fun i hi => keyP_len HA.out (by rw [HN.out]; exact hi)) c8 (by omega) hR' hobs (by omega))
            have HR := Lib.hid hR
            have HX := Lib.hid hX
            have HP6 := Lib.hid hP6
            have HBR := Lib.hid hBr
            clear e1 hR hR' hX hB hP6 hBr
            go_wp2_with fail
            refine (HSO.out).mono ?_
            rintro e w7 ⟨rfl, O', hS, ho7, hk7⟩
            have hP7 := HP6.out.sorted hk7 ho7 hS.perm
            have hR7 := HR.out.keeps hk7 (fun b hb e => by
              injection e with e
              have h1 : b = ob := hb
              have h2 : s0 = b := e
              omega) (fun b hb v hv e => by
              obtain ⟨l, _, h1, _⟩ := HR.out.mem hv
              have h2 := (h1.lt b e).1
              have h3 : b = ob := hb
              omega)
            have hX7 : w7.heap[s0 + 1]? = some (.cells #[.slice (some ⟨s0, 0, none⟩) n n] 48 (0, 0)) := (hk7.block _ (Array.getElem?_eq_some_iff.1 HX.out).1 (fun e => by have h3 : s0 + 1 = ob := e; omega)).trans HX.out
            obtain ⟨nb, hnb⟩ : ∃ nb, w7.heap.size = nb := ⟨_, rfl⟩
            have ho8 := make_ints w7 n hnm
            have hb8 := (Below.refl w7.heap.size w7).alloc (Nat.le_refl _) (.cells (madeCells #[.int .i64 0] n) 3)
            obtain ⟨w8, hw8⟩ : ∃ w8, w7.alloc (.cells (madeCells #[.int .i64 0] n) 3) = w8 := ⟨_, rfl⟩
            rw [hw8] at ho8 hb8
            rw [hnb] at ho8
            have HNB := Lib.hid hnb
            have HW8 := Lib.hid hw8
            have HB8 := Lib.hid hb8
            have HO8 := Lib.hid ho8
            have HSK := Lib.hid hS
            have HP7 := Lib.hid hP7
            have HR7 := Lib.hid hR7
            have HX7 := Lib.hid hX7
            obtain ⟨κ, hκ⟩ : ∃ κ, keyP G L = κ := ⟨_, rfl⟩
            rw [hκ] at HSK
            have HKK := Lib.hid hκ
            have HKB := Lib.hid (show ∀ j, j < n → KS[j]? = some (κ j) from fun j hj => by rw [← hκ]; exact HKA.out j hj)
            have HKE := Lib.hid (show ∀ j, j < n → (κ j).length = k + 1 from fun j hj => by rw [← hκ]; exact keyP_len HA.out (by rw [HN.out]; exact hj))
            clear hS ho7 hk7 hP7 hR7 hX7 hnb ho8 hb8 hw8 c8 hκ
            go_wp2_with fail
            rw [HNB.out, HW8.out]
            go_loopw [11, 56] (fun cv iv wl => ∃ p : Nat, p ≤ n ∧ iv = .int .i64 (p : Int) ∧ cv = .int .i64 ((cntK κ O' (p - 1) : Nat) : Int) ∧ wl.ownsRow nb 3 1 (.slice (some ⟨nb, 0, none⟩) n n) n ((ints (layN κ O' n p)).map (Value.int .i64)) ∧ Hid (Keeps (fun b => b = nb) w8 wl)) (fun _ iv _ => n - (intOf iv).toNat)
            case atStart => exact ⟨0, Nat.zero_le _, rfl, rfl, HO8.out, Lib.hid (Keeps.refl _ _)⟩
            case round =>
              obtain ⟨p, hp, rfl, rfl, hown, hK⟩ := hrel
              have hb7 : Below w7.heap.size w7 wr := HB8.out.trans (hK.out.below HB8.out.size (fun b hb => by rw [HNB.out, show b = nb from hb]; exact Nat.le_refl _))
              by_cases hlt2 : p < n
              · have hlt2' : (p : Int) < (n : Int) := by omega
                have hp0 : (0 : Int) ≤ (p : Int) := by omega
                have hP8 := HP7.out.pure hb7
                obtain ⟨hq, hOq⟩ := HSK.out.lt hlt2
                obtain ⟨q, hqe⟩ : ∃ q, O'.getD p 0 = q := ⟨_, rfl⟩
                rw [hqe] at hq hOq
                have co : wr.cell? ⟨ob, p, none⟩ = some (.int .i64 (q : Int)) := by
                  rw [hP8.ord.cellAt p (by omega), ints_map, List.getElem?_map, hOq]
                  rfl
                have hq0 : (0 : Int) ≤ (q : Int) := by omega
                have hqn : (q : Int) < (n : Int) := by omega
                obtain ⟨z, hz⟩ : ∃ z, (layN κ O' n p)[q]? = some z := ⟨_, List.getElem?_eq_getElem (by rw [layN_len]; exact hq)⟩
                have HZ := Lib.hid (fun (m : Nat) => (⟨by
                  show wr.cell? ⟨nb, q, none⟩ = _
                  rw [hown.cellAt q (by omega), ints_map, List.getElem?_map, hz]
                  rfl, hown.frozenAt q⟩ : (wr.drewN m).cell? ⟨nb, q, none⟩ = some (.int .i64 (z : Int)) ∧ (wr.drewN m).frozen? ⟨nb, q, none⟩ = false))
                have HST := Lib.hid (fun (m : Nat) => (by
                  have o1 := ((show (wr.drewN m).ownsRow nb 3 1 (.slice (some ⟨nb, 0, none⟩) n n) n ((ints (layN κ O' n p)).map (Value.int .i64)) from own_below hown (pure_drewN wr m)).stored q (.int .i64 ((cntK κ O' p : Nat) : Int))).1
                  have e1 : ((ints (layN κ O' n p)).map (Value.int .i64)).set q (.int .i64 ((cntK κ O' p : Nat) : Int)) = (ints (layN κ O' n (p + 1))).map (Value.int .i64) := by
                    rw [layN, hqe, ints_map, ints_map, List.map_set]
                  rw [e1] at o1
                  exact ⟨o1, (hK.out.trans (Keeps.of_pure (pure_drewN wr m) (fun b => b = nb)) (fun _ _ h => h)).trans (Keeps.of_setCell (wr.drewN m) ⟨nb, q, none⟩ (.int .i64 ((cntK κ O' p : Nat) : Int))) (fun _ _ h => h)⟩ : ((wr.drewN m).setCell ⟨nb, q, none⟩ (.int .i64 ((cntK κ O' p : Nat) : Int))).ownsRow nb 3 1 (.slice (some ⟨nb, 0, none⟩) n n) n ((ints (layN κ O' n (p + 1))).map (Value.int .i64)) ∧ Keeps (fun b => b = nb) w8 ((wr.drewN m).setCell ⟨nb, q, none⟩ (.int .i64 ((cntK κ O' p : Nat) : Int)))))
                cases p with
                | zero =>
                  have hz0 : decide ((0 : Int) < ((0 : Nat) : Int)) = false := by decide
                  have hc0 : cntK κ O' 0 = 0 := by rw [cntK]
                  have hc1 : cntK κ O' (0 - 1) = 0 := by rw [Nat.zero_sub, cntK]
                  have co' : wr.cell? ⟨ob, 0, none⟩ = some (.int .i64 (q : Int)) := co
                  rw [hc0] at HST
                  rw [hc1]
                  clear hqe hOq hz hown hP8 hb7 hc0 hc1 hK
                  go_wp2_with fail
                  go_quiet (fail)
                  obtain ⟨t0, t1⟩ := HZ.out nq
                  go_wp2_with fail
                  exact ⟨⟨0 + 1, by omega, by go_num, by rw [Nat.zero_add, Nat.sub_self, cntK], (HST.out nq).1, Lib.hid (HST.out nq).2⟩, by simp [intOf]; omega⟩
                | succ p' =>
                  have hz0 : decide ((0 : Int) < ((p' + 1 : Nat) : Int)) = true := decide_eq_true (by omega)
                  obtain ⟨hq', hOq'⟩ := HSK.out.lt (show p' < n by omega)
                  obtain ⟨q', hqe'⟩ : ∃ q', O'.getD p' 0 = q' := ⟨_, rfl⟩
                  rw [hqe'] at hq' hOq'
                  have co2 : wr.cell? ⟨ob, p', none⟩ = some (.int .i64 (q' : Int)) := by
                    rw [hP8.ord.cellAt p' (by omega), ints_map, List.getElem?_map, hOq']
                    rfl
                  have hq0' : (0 : Int) ≤ (q' : Int) := by omega
                  have hqn' : (q' : Int) < (n : Int) := by omega
                  have hR8 := HR7.out.pure hb7
                  have hX8 := (hb7.block _ (Array.getElem?_eq_some_iff.1 HX7.out).1).trans HX7.out
                  have c8 : wr.cell? ⟨s0 + 1, 0, none⟩ = some (.slice (some ⟨s0, 0, none⟩) n n) := by rw [cell_of_row wr _ _ _ _ _ hX8]; rfl
                  have hL8 := rows_listn HKL.out hR8
                  obtain ⟨ad1, l1, P1, pc1, e1, h1, hc1, hll1, hs1⟩ := hL8.at_ hq
                  cases e1
                  obtain ⟨ad2, l2, P2, pc2, e2, h2, hc2, hll2, hs2⟩ := hL8.at_ hq'
                  cases e2
                  rw [HKB.out q hq] at h1
                  obtain rfl := Option.some.inj h1
                  rw [HKB.out q' hq'] at h2
                  obtain rfl := Option.some.inj h2
                  rw [HKE.out q hq] at hc1 hs1
                  rw [HKE.out q' hq'] at hc2 hs2
                  rw [addr_off] at hc1 hc2
                  have HQ := Lib.hid (fun (m : Nat) => equalQ_c (wr.drewN m) P1 P2 (k + 1) pc1 pc2 (κ q) (κ q') hs1 hs2 (by omega))
                  have hcn := cntK_succ κ O' p'
                  rw [hqe, hqe'] at hcn
                  have hidx : (((p' + 1 : Nat) : Int) - 1) = (p' : Int) := by omega
                  have hidw : IntKind.i64.wrap (((p' + 1 : Nat) : Int) - 1) = (p' : Int) := by rw [hidx]; exact IntWalk.i64_in _ (by omega)
                  have hle := cntK_le κ O' p'
                  rw [Nat.add_sub_cancel]
                  by_cases hkk : κ q = κ q'
                  · rw [if_pos hkk, Nat.add_zero] at hcn
                    rw [decide_eq_true hkk] at HQ
                    rw [hcn] at HST
                    obtain ⟨cp, hcp⟩ : ∃ cp, cntK κ O' p' = cp := ⟨_, rfl⟩
                    rw [hcp] at HST hcn hle
                    rw [hcp]
                    have HCN := Lib.hid hcn
                    clear hqe hOq hz hown hP8 hb7 hK hqe' hOq' hR8 hX8 hL8 h1 h2 hs1 hs2 hkk hcn hcp hll1 hll2 hidx
                    go_wp2_with fail
                    go_quiet ((go_at_call 54; refine Calls.quiet_of (HQ.out _)))
                    obtain ⟨t0, t1⟩ := HZ.out nq
                    go_wp2_with fail
                    exact ⟨⟨p' + 1 + 1, by omega, by go_num, by rw [Nat.add_sub_cancel, HCN.out]; rfl, (HST.out nq).1, Lib.hid (HST.out nq).2⟩, by simp [intOf]; omega⟩
                  · rw [if_neg hkk] at hcn
                    rw [decide_eq_false hkk] at HQ
                    obtain ⟨cp, hcp⟩ : ∃ cp, cntK κ O' p' = cp := ⟨_, rfl⟩
                    rw [hcp] at hcn hle
                    rw [hcn] at HST
                    rw [hcp]
                    have HCN := Lib.hid hcn
                    have HST' := Lib.hid (fun (m : Nat) => (by have h := HST.out m; rw [show ((cp + 1 : Nat) : Int) = (cp : Int) + 1 by omega] at h; exact h : ((wr.drewN m).setCell ⟨nb, q, none⟩ (.int .i64 ((cp : Int) + 1))).ownsRow nb 3 1 (.slice (some ⟨nb, 0, none⟩) n n) n ((ints (layN κ O' n (p' + 1 + 1))).map (Value.int .i64)) ∧ Keeps (fun b => b = nb) w8 ((wr.drewN m).setCell ⟨nb, q, none⟩ (.int .i64 ((cp : Int) + 1)))))
                    clear hqe hOq hz hown hP8 hb7 hK hqe' hOq' hR8 hX8 hL8 h1 h2 hs1 hs2 hkk hcn hcp hll1 hll2 hidx HST
                    go_wp2_with fail
                    go_quiet ((go_at_call 54; refine Calls.quiet_of (HQ.out _)))
                    obtain ⟨t0, t1⟩ := HZ.out nq
                    go_wp2_with fail
                    exact ⟨⟨p' + 1 + 1, by omega, by go_num, by rw [Nat.add_sub_cancel, HCN.out]; go_num, (HST'.out nq).1, Lib.hid (HST'.out nq).2⟩, by simp [intOf]; omega⟩
              · have hlt2' : ¬ (p : Int) < (n : Int) := by omega
                obtain rfl : n = p := by omega
                obtain ⟨w9, rfl⟩ : ∃ w9, w9 = wr := ⟨_, rfl⟩
                obtain ⟨G', hG'⟩ : ∃ G', layN κ O' n n = G' := ⟨_, rfl⟩
                have hNX : ∀ p, p < n → G'.getD (O'.getD p 0) 0 = cntK κ O' p := fun p hp => by rw [← hG']; exact layN_at HSK.out n (Nat.le_refl _) p hp
                have hGl : G'.length = n := by rw [← hG']; exact layN_len _ _ _ _
                have HBN : Hid (∀ i, i < n → G'.getD i 0 < n) := Lib.hid (fun i hi => by
                  obtain ⟨p, hp, rfl⟩ := HSK.out.of hi
                  rw [hNX p hp]
                  have := cntK_le κ O' p
                  omega)
                rw [hG'] at hown
                have hdc := sorted_dcnt hn0 HSK.out hNX
                obtain ⟨cn, hcn⟩ : ∃ cn, cntK κ O' (n - 1) = cn := ⟨_, rfl⟩
                rw [hcn] at hdc
                rw [hcn]
                have hcle := cntK_le κ O' (n - 1)
                rw [hcn] at hcle
                have hSK := HSK.out
                rw [← HKK.out] at hSK hNX
                have hSL : SortedK (keyP G L) L.length O' := by rw [HN.out]; exact hSK
                have hpt := sorted_parts hSL (by rw [HN.out]; exact hNX)
                have hP9 := HP7.out.pure hb7
                have hnbo : nb ≠ ob := fun e => by
                  have h1 := HP7.out.obl.1
                  rw [HNB.out] at h1
                  omega
                have hown' := own_base hown (show w.heap.size ≤ nb by have := HP7.out.old.size; rw [HNB.out] at this; exact this)
                have hP10 := hP9.next hown' hnbo hGl hgx
                obtain ⟨gg, g1, _⟩ := hP9.box
                have cg : w9.cell? ⟨gb, 0, none⟩ = some (.slice (some ⟨gg, 0, none⟩) n n) := by rw [cell_of_row w9 _ _ _ _ _ g1]; rfl
                have fg : w9.frozen? ⟨gb, 0, none⟩ = false := frozen_of_row _ _ 0 _ _ g1
                have HP10 := Lib.hid hP10
                have HPT := Lib.hid hpt
                have HDC := Lib.hid hdc
                have HOW := Lib.hid (own_keeps hown' (Keeps.of_setCell w9 ⟨gb, 0, none⟩ (.slice (some ⟨nb, 0, none⟩) n n)) (fun g hg e => by
                  obtain ⟨cs, hcs⟩ := own_cells hown' hg
                  have e' : g = gb := e
                  rw [e', g1] at hcs
                  injection hcs with hcs
                  injection hcs with _ hcs
                  exact absurd hcs (by decide)))
                have HGL := Lib.hid hGl
                have hcd := HD.out
                have hcm : c ≤ n := by rw [← hcd]; exact dcnt_max _ _
                have HCF := Lib.hid (⟨hpt.finer HA.out, hpt.coarse HA.out HC.out⟩ : _ ∧ _)
                clear hG' hNX hGl hown hdc hcn hSK hSL hpt hP9 hown' hP10 g1 hK hb7 hnbo
                by_cases hcc : cn + 1 = c
                · have hcc' : (cn : Int) + 1 = (c : Int) := by omega
                  have HPD := Lib.hid (HPT.out.done HA.out HC.out (by rw [HN.out, HDC.out, hcd]; exact hcc))
                  subst hcc
                  clear hcd hcc'
                  go_wp2_with fail
                  go_ret
                  exact ⟨nb, rfl, G', HOW.out, HGL.out, HBN.out, HPD.out, HP10.out.old⟩
                · have hcc' : ¬ (cn : Int) + 1 = (c : Int) := by omega
                  have hmo : c < cn + 1 := by
                    have h1 := dcnt_le HCF.out.1
                    rw [HN.out, HDC.out, hcd] at h1
                    omega
                  clear hcd
                  go_wp2_with fail
                  exact ⟨⟨O', G', cn + 1, by go_num, Lib.hid ⟨HP10.out, HCF.out.2, HDC.out⟩⟩, by simp [intOf]; omega⟩
end Go.Proofs.YthilnpfpllplaaaGreatDoor
