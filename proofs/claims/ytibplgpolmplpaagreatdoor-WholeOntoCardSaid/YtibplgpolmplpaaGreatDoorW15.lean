/- The word of a node, told digit by digit (a closure of pairs.Words), and the test of a way's pairs. Condition: the rule and the number of nodes lie in memory. The two words along a way: pairs.Words. Condition: the rule and the way read from memory; the way goes along edges; the error variables hold what E says. Symbols by other names, as plain lists: the renamed table, its images, there and back; when a list of numbers is such names. No program. No condition. Symbols by other names: slices.Index, forms.Rename's closure. Condition: the table, the names and the window read from memory. Rules out of rules: forms.Rename of any rule and any names. Condition: the table and the names read from memory; the error variables hold what E says. -/
import Derived.Deep.RegionHeld3
import Derived.StillTailTactics
import Derived.Deep.AppendLies
import Derived.Test.YtibplgpolmplpaaGreatDoorW2
import Derived.Test.YtibplgpolmplpaaGreatDoorW3
import Derived.Test.YtibplgpolmplpaaGreatDoorW8
import Derived.Test.YtibplgpolmplpaaGreatDoorW11
import Derived.Test.YtibplgpolmplpaaGreatDoorW12
import Derived.Test.YtibplgpolmplpaaGreatDoorW13
import Derived.Test.YtibplgpolmplpaaGreatDoorW14
namespace Go.Proofs.YtibplgpolmplpaaGreatDoor
open Go.RowKit RuleP PairP

set_option maxRecDepth 100000 in
set_option maxHeartbeats 2000000 in
theorem wordF_c (w : World) (rb k r n c u : Nat) (A : Option Addr) (hr : RuleAt w rb (.int .i64 (k : Int)) (.int .i64 (r : Int)) (.slice A n c)) (hk1 : 1 ≤ k) (hk4 : k ≤ 4) (hr3 : r ≤ 3) (hu : u ≤ 65536) :
    Calls Tryz.prog 107 #[.int .i64 (u : Int), .pointer (some ⟨rb, 0, none⟩)] w fun e w' => ∃ (C : Option Addr) (cc : Nat), e = .returned (.slice C (2 * r) cc) ∧ w'.ownsRow w.heap.size 3 1 (.slice C (2 * r) cc) (2 * r) ((ints (digB k (2 * r) u)).map (Value.int .i64)) ∧ Below w.heap.size w w' := by
  obtain ⟨L, hL⟩ : ∃ L, 2 * r = L := ⟨_, rfl⟩
  rw [hL]
  have hLi : (2 : Int) * (r : Int) = (L : Int) := by omega
  have hL6 : L ≤ 6 := by omega
  have hmk := run_make_row' (P := Tryz.prog) 22 3 (.int .i64 0) 8 tInts.und tInts.info rfl .i64 .i64 L (by omega) (by omega)
  have hmd := make_ints w L (by simp only [maxLen]; omega)
  have hb1 := (Below.refl w.heap.size w).alloc (Nat.le_refl _) (.cells (madeCells #[.int .i64 0] L) 3)
  obtain ⟨w1, hw1⟩ : ∃ w1, w.alloc (.cells (madeCells #[.int .i64 0] L) 3) = w1 := ⟨_, rfl⟩
  have hr1 := hr.alloc (.cells (madeCells #[.int .i64 0] L) 3)
  rw [hw1] at hmd hb1 hr1
  obtain ⟨g, hg⟩ : ∃ g, w.heap.size = g := ⟨_, rfl⟩
  have hDl : (digB k L u).length = L := digB_len k L u
  have h0 : w1.ownsRow w.heap.size 3 1 (.slice (some ⟨g, 0, none⟩) L L) L ((ints (mix L (List.replicate L 0) (digB k L u) 0)).map (Value.int .i64)) := by
    rw [mix_zero (by simp) hDl, ← hg]
    simpa [ints] using hmd
  obtain ⟨r0, r1, r2, _⟩ := hr.facts
  have hrg : rb < g := by rw [← hg]; exact hr.lt
  have H0 := Lib.hid h0
  have HB1 := Lib.hid hb1
  have HR1 := Lib.hid hr1
  have HW1 := Lib.hid hw1
  have HG := Lib.hid hg
  have HDL := Lib.hid hDl
  have hk0 : ¬ ((k : Int) = 0) := by omega
  have hk0n : ¬ k = 0 := by omega
  have hu0 : u / k ^ 0 = u := by rw [Nat.pow_zero, Nat.div_one]
  have HU0 := Lib.hid hu0
  clear hL hmd hb1 hw1 hr1 hg hDl h0 hr hu0
  go_enter Tryz.func107, Tryz.ntmps107
  go_wp2_with fail
  rw [HW1.out, HG.out]
  clear hmk r0 r1 r2
  go_loopw [0, 12] (fun nv jv wl => ∃ j x : Nat, jv = .int .i64 (j : Int) ∧ j ≤ L ∧ nv = .int .i64 (x : Int) ∧ Hid (u / k ^ j = x) ∧ Hid (wl.ownsRow w.heap.size 3 1 (.slice (some ⟨g, 0, none⟩) L L) L ((ints (mix L (List.replicate L 0) (digB k L u) j)).map (Value.int .i64))) ∧ Hid (RuleAt wl rb (.int .i64 (k : Int)) (.int .i64 (r : Int)) (.slice A n c)) ∧ Hid (Below w.heap.size w wl)) (fun _ jv _ => L - (intOf jv).toNat)
  case atStart => exact ⟨0, u, rfl, Nat.zero_le _, rfl, HU0, H0, HR1, HB1⟩
  case round =>
    obtain ⟨j, x, rfl, hj, rfl, hX, hO, hR, hB⟩ := hrel
    clear H0 HB1 HR1
    obtain ⟨v0, rfl⟩ : ∃ v0, v0 = wr := ⟨_, rfl⟩
    by_cases hjL : j < L
    · have hjL' : (j : Int) < (L : Int) := by omega
      have hj0 : (0 : Int) ≤ (j : Int) := by omega
      obtain ⟨r0, r1, r2, _⟩ := hR.out.facts
      have hxu : x ≤ 65536 := by rw [← hX.out]; exact Nat.le_trans (Nat.div_le_self _ _) hu
      obtain ⟨y, hy⟩ : ∃ y, x % k = y := ⟨_, rfl⟩
      obtain ⟨x2, hx2⟩ : ∃ x2, x / k = x2 := ⟨_, rfl⟩
      have e1 : (x : Int).tmod (k : Int) = (y : Int) := by rw [← hy]; rfl
      have e2 : (x : Int).tdiv (k : Int) = (x2 : Int) := by rw [← hx2]; rfl
      have e1' : (x : Int) % (k : Int) = (y : Int) := by rw [← hy]; rfl
      have e2' : (x : Int) / (k : Int) = (x2 : Int) := by rw [← hx2]; rfl
      have hx2u : x2 ≤ 65536 := by rw [← hx2]; exact Nat.le_trans (Nat.div_le_self _ _) hxu
      have e3 : IntKind.i64.wrap (x2 : Int) = (x2 : Int) := IntWalk.i64_in _ (by omega)
      have e4 : wrap64 (x2 : Int) = (x2 : Int) := IntWalk.wrap64_in _ (by omega)
      obtain ⟨p, hp⟩ : ∃ p, L - 1 - j = p := ⟨_, rfl⟩
      have hpi : (L : Int) - 1 - (j : Int) = (p : Int) := by omega
      have hpL : p < L := by omega
      have hpL' : (p : Int) < (L : Int) := by omega
      have hp0 : (0 : Int) ≤ (p : Int) := by omega
      have hdig := digB_at (k := k) (i := u) hjL
      rw [hX.out, hy, hp] at hdig
      have hml := mix_len (vs := List.replicate L 0) (j := j) (by simp) HDL.out hj
      obtain ⟨q, hq⟩ : ∃ q, (mix L (List.replicate L 0) (digB k L u) j)[p]? = some q := ⟨_, List.getElem?_eq_getElem (by rw [hml]; exact hpL)⟩
      have q0 : v0.cell? ⟨g, p, none⟩ = some (.int .i64 (q : Int)) := by
        rw [hO.out.cellAt p (by omega), ints_map, List.getElem?_map, hq]; rfl
      have q1 := hO.out.frozenAt p
      have hst := (hO.out.stored p (.int .i64 (y : Int))).1
      have hms := mix_set (vs := List.replicate L 0) (D := digB k L u) (j := j) (x := y) (by simp) HDL.out hjL (by rw [hp]; exact hdig)
      rw [hp] at hms
      have HN : Hid ((v0.setCell ⟨g, p, none⟩ (.int .i64 (y : Int))).ownsRow w.heap.size 3 1 (.slice (some ⟨g, 0, none⟩) L L) L ((ints (mix L (List.replicate L 0) (digB k L u) (j + 1))).map (Value.int .i64))) := Lib.hid (by
        rw [← hms, ← ints_set, List.map_set]
        exact hst)
      have HX2 : Hid (u / k ^ (j + 1) = x2) := Lib.hid (by rw [Nat.pow_succ, ← Nat.div_div_eq_div_mul, hX.out, hx2])
      have hrx := hR.out.keeps (Keeps.of_setCell v0 ⟨g, p, none⟩ (.int .i64 (y : Int))) (show ¬ rb = g by omega)
      obtain ⟨s0, s1, s2, _⟩ := hrx.facts
      have HRX := Lib.hid hrx
      have HBX := Lib.hid (hB.out.setCell (p := ⟨g, p, none⟩) (by rw [HG.out]; exact Nat.le_refl _) (.int .i64 (y : Int)))
      clear hp hdig hml hq hst hms hrx hy hx2
      go_wp2_with fail
      exact ⟨⟨j + 1, x2, by go_num, by omega, rfl, HX2, HN, HRX, HBX⟩, by simp [intOf]; omega⟩
    · obtain rfl : j = L := by omega
      have hjL' : ¬ (j : Int) < (j : Int) := by omega
      have ho := hO.out
      rw [mix_all] at ho
      have HO := Lib.hid ho
      clear ho
      go_wp2_with fail
      go_ret
      exact ⟨some ⟨g, 0, none⟩, j, rfl, HO.out, hB.out⟩

set_option maxHeartbeats 400000 in
theorem wayF_c (w : World) (x : Int) (b N M : Nat) (hM : N * N = M) (h4 : N ≤ 256) (hb : w.cell? ⟨b, 0, none⟩ = some (.int .i64 (N : Int))) :
    Calls Tryz.prog 105 #[.int .i64 x, .pointer (some ⟨b, 0, none⟩)] w fun e w' => e = .returned (.bool (decide (x < 0 ∨ (M : Int) ≤ x))) ∧ w = w' := by
  have hNN : (N : Int) * (N : Int) = (M : Int) := by rw [← hM]; rfl
  have hM6 : M ≤ 65536 := by rw [← hM]; exact Nat.le_trans (Nat.mul_le_mul h4 h4) (by decide)
  clear hM
  by_cases h : x < 0
  · have h1 : decide (x < 0) = true := decide_eq_true h
    have hd : Hid (decide (x < 0 ∨ (M : Int) ≤ x) = true) := Lib.hid (decide_eq_true (.inl h))
    go_enter Tryz.func105, Tryz.ntmps105
    go_wp2_with fail
    go_ret
    exact ⟨by first | rfl | (rw [hd.out]; rfl), rfl⟩
  · have h1 : decide (x < 0) = false := decide_eq_false h
    have hd : Hid (decide (x < 0 ∨ (M : Int) ≤ x) = decide ((M : Int) ≤ x)) := Lib.hid (by simp [h])
    go_enter Tryz.func105, Tryz.ntmps105
    go_wp2_with fail
    go_ret
    exact ⟨by first | rfl | (rw [hd.out]; rfl), rfl⟩
/-- No pair of the way is out of bounds. -/
theorem wayTest_c (w : World) (b N M : Nat) (hM : N * N = M) (h4 : N ≤ 256) (hb : w.cell? ⟨b, 0, none⟩ = some (.int .i64 (N : Int))) (B : Option Addr) (m d : Nat) (W : List Nat) (hW : Sl w B m ((ints W).map (Value.int .i64))) (hm2 : m ≤ 9223372036854775807) (hall : ∀ x ∈ W, x < M) :
    Calls Tryz.prog 104 #[.slice B m d, .func (.func 105) #[] #[.pointer (some ⟨b, 0, none⟩)]] w fun e w' => e = .returned (.bool false) ∧ w = w' := by
  have hi := indexFunc_c w 105 ⟨b, 0, none⟩ (fun x => decide (x < 0 ∨ (M : Int) ≤ x)) B m d (ints W) hW hm2
    (fun x wz => run_enter Tryz.func105 (by kernel_rfl) (by kernel_rfl) _ _) (fun x => wayF_c w x b N M hM h4 hb)
  have hno : (ints W).findIdx? (fun x => decide (x < 0 ∨ (M : Int) ≤ x)) = none := by
    rw [List.findIdx?_eq_none_iff]
    intro x hx
    unfold ints at hx
    obtain ⟨y, hy, rfl⟩ := List.mem_map.1 hx
    have := hall y hy
    exact decide_eq_false (by omega)
  rw [hno] at hi
  have HI := Lib.hid hi
  clear hi hno hb hW
  go_enter Tryz.func104, Tryz.ntmps104
  go_wp2_with fail
  refine (HI.out).mono ?_
  rintro e w2 ⟨rfl, rfl⟩
  have hpl : place none = -1 := rfl
  rw [hpl]
  clear hpl
  go_wp2_with fail
  go_ret
  exact ⟨rfl, rfl⟩
end Go.Proofs.YtibplgpolmplpaaGreatDoor

namespace Go.Proofs.YtibplgpolmplpaaGreatDoor
open Go.RowKit RuleP PairP MeetP

/-- What an edge of the graph of pairs says of its two pairs. -/
theorem edge_say {k r p q : Nat} {t : List Nat} (hk : 0 < k) (hr : 0 < r) (h : q ∈ (pairG k (k ^ (2 * r)) t).getD p []) :
    (p / k ^ (2 * r) * k + q / k ^ (2 * r) % k) % k ^ (2 * r) = q / k ^ (2 * r) ∧ (p % k ^ (2 * r) * k + q % k ^ (2 * r) % k) % k ^ (2 * r) = q % k ^ (2 * r) ∧
      t.getD (p / k ^ (2 * r) * k + q / k ^ (2 * r) % k) 0 = t.getD (p % k ^ (2 * r) * k + q % k ^ (2 * r) % k) 0 ∧ p < k ^ (2 * r) * k ^ (2 * r) ∧ q < k ^ (2 * r) * k ^ (2 * r) := by
  have hN : 0 < k ^ (2 * r) := Nat.pow_pos hk
  obtain ⟨hp, he⟩ := (mem_G hN).1 h
  have hql := edge_lt hN he
  obtain ⟨s, s', hs, hs', hl, e⟩ := edgeB_iff.1 he
  have e1 : q / k ^ (2 * r) = (p / k ^ (2 * r) * k + s) % k ^ (2 * r) := by rw [e]; exact (pair_div (Nat.mod_lt _ hN)).1
  have e2 : q % k ^ (2 * r) = (p % k ^ (2 * r) * k + s') % k ^ (2 * r) := by rw [e]; exact (pair_div (Nat.mod_lt _ hN)).2
  have e3 : q / k ^ (2 * r) % k = s := by rw [e1]; exact low_sym (k_dvd hr) hs
  have e4 : q % k ^ (2 * r) % k = s' := by rw [e2]; exact low_sym (k_dvd hr) hs'
  rw [e3, e4]
  exact ⟨e1.symm, e2.symm, hl, hp, hql⟩
theorem edges_lt {k r d : Nat} {t : List Nat} (hk : 0 < k) (hr : 0 < r) : ∀ {l : List Nat} {d : Nat}, Edges (pairG k (k ^ (2 * r)) t) (d :: l) → d < k ^ (2 * r) * k ^ (2 * r) → ∀ x ∈ d :: l, x < k ^ (2 * r) * k ^ (2 * r)
  | [], d, _, hd, x, hx => by rw [List.mem_singleton.1 hx]; exact hd
  | a :: l, d, h, hd, x, hx => by
    rcases List.mem_cons.1 hx with rfl | hx
    · exact hd
    · exact edges_lt (d := d) hk hr h.2 (edge_say hk hr h.1).2.2.2.2 x hx
theorem addr_off (b o i : Nat) : (⟨b, o, none⟩ : Addr).add i = ⟨b, o + i, none⟩ := by
  unfold Addr.add
  split
  · rename_i h; rw [h, Nat.add_zero]
  · rfl
theorem tail_sl {w : World} {aw : Addr} {m : Nat} {x : Value} {xs : List Value} (h : Sl w (some aw) (m + 1) (x :: xs)) : Sl w (some ⟨aw.block, aw.off + 1, none⟩) m xs := by
  refine ⟨by have := h.1; simpa using this, fun j v hj => ?_⟩
  obtain ⟨ad, e, hc⟩ := h.2 (j + 1) v (by simpa using hj)
  cases e
  refine ⟨_, rfl, ?_⟩
  have e : (⟨aw.block, aw.off + 1, none⟩ : Addr).add j = aw.add (j + 1) := by
    unfold Addr.add
    rw [if_neg (show ¬ j + 1 = 0 by omega)]
    split
    · rename_i h0; rw [h0]
    · simp only
      congr 1
      omega
  rw [e]
  exact hc
def lastA (k N : Nat) (l : List Nat) : List Nat := l.map fun p => p / N % k
def lastB (k N : Nat) (l : List Nat) : List Nat := l.map fun p => p % N % k

set_option maxRecDepth 100000 in
set_option maxHeartbeats 4000000 in
theorem pwords_c (w : World) (E : Nat → Addr) (hE : Errs w E) (k r n c : Nat) (A : Option Addr) (t : List Nat) (hT : Sl w A n ((ints t).map (Value.int .i64))) (hr : IsRule k r t) (h256 : t.length ≤ 256) (hr0 : 0 < r) (B : Option Addr) (m d d0 : Nat) (l : List Nat)
    (hW : Sl w B m ((ints (d0 :: l)).map (Value.int .i64))) (hm : m ≤ 100000) (hm2 : 2 ≤ m) (hmd : m ≤ d) (hE2 : Edges (pairG k (k ^ (2 * r)) t) (d0 :: l)) (hd0 : d0 < k ^ (2 * r) * k ^ (2 * r)) :
    Calls Tryz.prog 57 #[ruleV (k : Int) (r : Int) A n c, .slice B m d] w fun e w' => ∃ (C1 : Option Addr) (c1 : Nat) (C2 : Option Addr) (c2 : Nat), e = .returned (.tuple #[.slice C1 (wordA k r d0 l).length c1, .slice C2 (wordB k r d0 l).length c2, .nilIface]) ∧
      w'.ownsRow w.heap.size 3 1 (.slice C1 (wordA k r d0 l).length c1) (wordA k r d0 l).length ((ints (wordA k r d0 l)).map (Value.int .i64)) ∧ w'.ownsRow w.heap.size 3 1 (.slice C2 (wordB k r d0 l).length c2) (wordB k r d0 l).length ((ints (wordB k r d0 l)).map (Value.int .i64)) ∧ Below w.heap.size w w' := by
  have hml : l.length + 1 = m := by have := hW.1; simpa [ints] using this
  have hb1 := (Below.refl w.heap.size w).alloc (Nat.le_refl _) (.cells #[.int .i64 (k : Int), .int .i64 (r : Int), .slice A n c] 24)
  have hr1 := RuleAt.new w (.int .i64 (k : Int)) (.int .i64 (r : Int)) (.slice A n c)
  obtain ⟨r0, r1, r2, _⟩ := hr1.facts
  obtain ⟨w1, hw1⟩ : ∃ w1, w.alloc (.cells #[.int .i64 (k : Int), .int .i64 (r : Int), .slice A n c] 24) = w1 := ⟨_, rfl⟩
  rw [hw1] at hb1
  have hwk := working_c w1 E (hE.below hb1) k r A n c t (hT.below hb1) hr h256
  have e1 : workR r = r := by unfold workR; rw [if_neg (by omega)]
  have e2 : workT k r t = t := by unfold workT; rw [if_neg (by omega)]
  rw [e1, e2] at hwk
  have HWK := Lib.hid hwk
  have hk1 := hr.k1
  have hk4 := hr.k4
  have hr3 := hr.r3
  obtain ⟨hdv, hln⟩ := nodes_div hr
  have hN4 : k ^ (2 * r) ≤ 256 := by
    have := Nat.le_mul_of_pos_right (k ^ (2 * r)) hk1
    omega
  have hN0 : 0 < k ^ (2 * r) := Nat.pow_pos hk1
  have HND := Lib.hid (fun (wz : World) (hz : Below w.heap.size w wz) (C : Option Addr) (n c : Nat) (hS : Sl wz C n ((ints t).map (Value.int .i64))) (hn : n ≤ 9223372036854775807) => (by
    have h := overNodes_c wz E (hE.below hz) (k : Int) (r : Int) C n c (ints t) hS hn
    rw [smallO_rule hr h256, if_pos rfl] at h
    have hnn : nodesN (k : Int) (r : Int) = k ^ (2 * r) := by simp [nodesN]
    rw [hnn] at h
    exact h : Calls Tryz.prog 41 #[ruleV (k : Int) (r : Int) C n c] wz fun e w' => ∃ v, e = .returned (.tuple #[.int .i64 ((k ^ (2 * r) : Nat) : Int), v]) ∧ ErrV w' E none v ∧ Below wz.heap.size wz w'))
  have HED := Lib.hid (fun (wz : World) (hz : Below w.heap.size w wz) (C : Option Addr) (n c u s : Nat) (hS : Sl wz C n ((ints t).map (Value.int .i64))) (hu : u < k ^ (2 * r)) (hs : s < k) => edge_good wz E (hE.below hz) k r u s C n c t hS hr h256 hu hs)
  have HES := Lib.hid (fun (p q : Nat) (h : q ∈ (pairG k (k ^ (2 * r)) t).getD p []) => edge_say hk1 hr0 h)
  have HLT := Lib.hid (edges_lt (d := d0) hk1 hr0 hE2 hd0)
  have HEG := Lib.hid hE2
  have HDV := Lib.hid (k_dvd (k := k) hr0)
  have htl : t.length ≤ 256 := h256
  have hWA : wordA k r d0 l = digB k (2 * r) (d0 / k ^ (2 * r)) ++ lastA k (k ^ (2 * r)) l := rfl
  have hWB : wordB k r d0 l = digB k (2 * r) (d0 % k ^ (2 * r)) ++ lastB k (k ^ (2 * r)) l := rfl
  obtain ⟨XA, hXA⟩ : ∃ XA, wordA k r d0 l = XA := ⟨_, rfl⟩
  obtain ⟨XB, hXB⟩ : ∃ XB, wordB k r d0 l = XB := ⟨_, rfl⟩
  have hlA : XA.length = 2 * r + l.length := by rw [← hXA]; exact wordA_len k r d0 l
  have hlB : XB.length = 2 * r + l.length := by rw [← hXB]; exact wordB_len k r d0 l
  rw [hXA, hXB]
  rw [hXA] at hWA
  rw [hXB] at hWB
  obtain ⟨N, hN⟩ : ∃ N, k ^ (2 * r) = N := ⟨_, rfl⟩
  rw [hN] at hN4 hN0 HND HED HES HLT HEG HDV hd0 hWA hWB
  obtain ⟨M, hM⟩ : ∃ M, N * N = M := ⟨_, rfl⟩
  rw [hM] at HES HLT hd0
  have hM6 : M ≤ 65536 := by rw [← hM]; exact Nat.le_trans (Nat.mul_le_mul hN4 hN4) (by decide)
  have HMM := Lib.hid hM
  have HNN := Lib.hid hN
  have HWW := Lib.hid (fun (wz : World) (hz : Below w.heap.size w wz) => hW.below hz)
  have HW1 := Lib.hid hw1
  have HB1 := Lib.hid hb1
  have hNz : ¬ ((N : Int) = 0) := by omega
  have hNzn : ¬ N = 0 := by omega
  have hkz : ¬ ((k : Int) = 0) := by omega
  have hkzn : ¬ k = 0 := by omega
  have hmz : ¬ (m : Int) = 0 := by omega
  have hm0 : (0 : Int) < (m : Int) := by omega
  have hm1 : (1 : Int) ≤ (m : Int) := by omega
  have hm0n : 0 < m := by omega
  have hmzn : ¬ m = 0 := by omega
  obtain ⟨u0, hu0⟩ : ∃ u0, d0 / N = u0 := ⟨_, rfl⟩
  obtain ⟨v0, hv0⟩ : ∃ v0, d0 % N = v0 := ⟨_, rfl⟩
  have a1 : (d0 : Int).tdiv (N : Int) = (u0 : Int) := by rw [← hu0]; rfl
  have a2 : (d0 : Int).tmod (N : Int) = (v0 : Int) := by rw [← hv0]; rfl
  have a3 : (d0 : Int) / (N : Int) = (u0 : Int) := by rw [← hu0]; rfl
  have a4 : (d0 : Int) % (N : Int) = (v0 : Int) := by rw [← hv0]; rfl
  have hu6 : u0 ≤ 65536 := by rw [← hu0]; exact Nat.le_trans (Nat.div_le_self _ _) (by omega)
  have hv6 : v0 ≤ 65536 := by rw [← hv0]; exact Nat.le_trans (Nat.mod_le _ _) (by omega)
  have a5 : IntKind.i64.wrap (u0 : Int) = (u0 : Int) := IntWalk.i64_in _ (by omega)
  rw [hu0] at hWA
  rw [hv0] at hWB
  have HXA := Lib.hid hWA
  have HXB := Lib.hid hWB
  have HLA := Lib.hid hlA
  have HLB := Lib.hid hlB
  have HML := Lib.hid hml
  unfold ruleV at HWK HND HED ⊢
  clear hw1 hb1 hr1 hE hT hr hE2 hW hdv hln hwk e1 e2 hN hM hWA hWB h256 hu0 hv0 hXA hXB hlA hlB hml
  go_enter Tryz.func57, Tryz.ntmps57
  go_wp2_with fail
  rw [HW1.out]
  refine (HWK.out).mono ?_
  rintro e w2 ⟨C, n', c', rfl, hS2, hb2⟩
  unfold ruleV
  have hb02 := HB1.out.trans (hb2.mono HB1.out.size)
  have hb3 := (Below.refl w2.heap.size w2).alloc (Nat.le_refl _) (.cells #[.int .i64 (k : Int), .int .i64 (r : Int), .slice C n' c'] 24)
  have hr3' := RuleAt.new w2 (.int .i64 (k : Int)) (.int .i64 (r : Int)) (.slice C n' c')
  obtain ⟨r0, r1, r2, _⟩ := hr3'.facts
  obtain ⟨w3, hw3⟩ : ∃ w3, w2.alloc (.cells #[.int .i64 (k : Int), .int .i64 (r : Int), .slice C n' c'] 24) = w3 := ⟨_, rfl⟩
  rw [hw3] at hb3 hr3'
  have hb03 := hb02.trans (hb3.mono hb02.size)
  have hS3 := hS2.below hb3
  have hn' : t.length = n' := by have := hS3.1; simpa [ints] using this
  have HND3 := Lib.hid (HND.out w3 hb03 C n' c' hS3 (by omega))
  have HW3 := Lib.hid hw3
  have HB03 := Lib.hid hb03
  have HS3 := Lib.hid hS3
  have HR3 := Lib.hid hr3'
  clear hw3 hb03 hb3 hr3' hS2 hb02 hb2 HND HWK hS3
  go_wp2_with fail
  rw [HW3.out]
  refine (HND3.out).mono ?_
  rintro e w4 ⟨v, rfl, rfl, hb4⟩
  clear r0 r1 r2 HND3
  have hb5 := (Below.refl w4.heap.size w4).alloc (Nat.le_refl _) (.cells #[.int .i64 (N : Int)] 3)
  have hc5 : (w4.alloc (.cells #[.int .i64 (N : Int)] 3)).cell? ⟨w4.heap.size, 0, none⟩ = some (.int .i64 (N : Int)) := by rw [cell_of_row _ _ _ _ _ _ (heap_new _ _)]; rfl
  obtain ⟨w5, hw5⟩ : ∃ w5, w4.alloc (.cells #[.int .i64 (N : Int)] 3) = w5 := ⟨_, rfl⟩
  rw [hw5] at hb5 hc5
  have hb35 := hb4.trans (hb5.mono hb4.size)
  have hb05 := HB03.out.trans (hb35.mono HB03.out.size)
  have HWT := Lib.hid (wayTest_c w5 w4.heap.size N M HMM.out hN4 hc5 B m d (d0 :: l) (HWW.out w5 hb05) (by omega) HLT.out)
  have HW5 := Lib.hid hw5
  have HB05 := Lib.hid hb05
  have HR5 := Lib.hid (HR3.out.below hb35 HR3.out.lt)
  have HS5 := Lib.hid (HS3.out.below hb35)
  have HC5 := Lib.hid hc5
  obtain ⟨gn, hgn⟩ : ∃ gn, w4.heap.size = gn := ⟨_, rfl⟩
  rw [hgn] at HWT HC5
  have HGN := Lib.hid hgn
  clear hw5 hb5 hc5 hb35 hb05 hb4 HR3 HS3 hgn
  go_wp2_with fail
  rw [HW5.out, HGN.out]
  refine (HWT.out).mono ?_
  rintro e w6 ⟨rfl, rfl⟩
  clear HWT
  obtain ⟨aw, x0, hBe, hx0, hcx0⟩ := (HWW.out w5 HB05.out).int_ (show 0 < m by omega)
  subst hBe
  have hx0' : x0 = (d0 : Int) := by simpa [ints] using hx0.symm
  rw [hx0'] at hcx0
  have HFA := Lib.hid (fun (wz : World) (hz : Below w5.heap.size w5 wz) => wordF_c wz w2.heap.size k r n' c' u0 C (HR5.out.below hz HR5.out.lt) hk1 hk4 hr3 hu6)
  have HFB := Lib.hid (fun (wz : World) (hz : Below w5.heap.size w5 wz) => wordF_c wz w2.heap.size k r n' c' v0 C (HR5.out.below hz HR5.out.lt) hk1 hk4 hr3 hv6)
  rw [show aw.add 0 = aw by simp [Addr.add]] at hcx0
  have HKC := Lib.hid (fun (wz : World) (hz : Below w5.heap.size w5 wz) => (⟨cell_later hz HC5.out, cell_later hz hcx0⟩ : _ ∧ _))
  obtain ⟨z5, _⟩ := HKC.out w5 (Below.refl _ _)
  clear hx0 hx0'
  go_wp2_with fail
  go_region_held3 (fun wz => wz.cell? ⟨gn, 0, none⟩ = some (.int .i64 (N : Int)) ∧ wz.cell? aw = some (.int .i64 (d0 : Int)))
    (first | exact HKC.out _ ((Below.refl _ _).drew) | exact HKC.out _ hA | exact HKC.out _ hB)
    (first
      | (with_reducible refine (HFB.out _ hA).mono ?_
         rintro e wB ⟨CB, cB, rfl, oB, bB⟩
         have hB : Below w5.heap.size w5 wB := hA.trans (bB.mono hA.size)
         dsimp only)
      | (with_reducible refine (HFA.out _ ((Below.refl _ _).drew)).mono ?_
         rintro e wA ⟨CA, cA, rfl, oA, bA⟩
         have hA : Below w5.heap.size w5 wA := ((Below.refl w5.heap.size w5).drew).trans bA
         dsimp only)
      | fail)
  have hA5 := bA.trans (bB.mono bA.size)
  have oA5 := own_below oA bB
  have HBW := Lib.hid (HB05.out.trans (hB.mono HB05.out.size))
  have HB5B := Lib.hid hB
  have HR6 := Lib.hid (HR5.out.below hB HR5.out.lt)
  have hAl : (digB k (2 * r) u0).length = 2 * r := digB_len _ _ _
  have hBl : (digB k (2 * r) v0).length = 2 * r := digB_len _ _ _
  have HOA : Hid (wB.ownsRow w5.heap.size 3 1 (.slice CA (2 * r + 0) cA) (2 * r + 0) ((ints (digB k (2 * r) u0 ++ lastA k N (l.take 0))).map (Value.int .i64))) := Lib.hid (by
    rw [List.take_zero]
    show wB.ownsRow w5.heap.size 3 1 (.slice CA (2 * r) cA) (2 * r) ((ints (digB k (2 * r) u0 ++ [])).map (Value.int .i64))
    rw [List.append_nil]
    exact own_base oA5 ((Below.refl w5.heap.size w5).drew).size)
  have HOB : Hid (wB.ownsRow w5.heap.size 3 1 (.slice CB (2 * r + 0) cB) (2 * r + 0) ((ints (digB k (2 * r) v0 ++ lastB k N (l.take 0))).map (Value.int .i64))) := Lib.hid (by
    rw [List.take_zero]
    show wB.ownsRow w5.heap.size 3 1 (.slice CB (2 * r) cB) (2 * r) ((ints (digB k (2 * r) v0 ++ [])).map (Value.int .i64))
    rw [List.append_nil]
    exact own_base oB hA.size)
  have HAP : Hid (∀ a b, (Value.slice CA (2 * r + 0) cA).ownBlock = some a → (Value.slice CB (2 * r + 0) cB).ownBlock = some b → a ≠ b) := Lib.hid (fun a b h1 h2 e => by
    have q1 := (oA.lt a h1).2
    have q2 := (oB.lt b h2).1
    omega)
  have HTS := Lib.hid (fun (wz : World) (hz : Below w5.heap.size w5 wz) => (by
    have h := HWW.out wz (HB05.out.trans (hz.mono HB05.out.size))
    have hm' : m = l.length + 1 := HML.out.symm
    rw [hm'] at h
    have e : (ints (d0 :: l)).map (Value.int .i64) = .int .i64 (d0 : Int) :: (ints l).map (Value.int .i64) := by simp [ints]
    rw [e] at h
    exact tail_sl h : Sl wz (some ⟨aw.block, aw.off + 1, none⟩) l.length ((ints l).map (Value.int .i64))))
  obtain ⟨ll, hll⟩ : ∃ ll, l.length = ll := ⟨_, rfl⟩
  rw [hll] at HTS HLA HLB HML
  have hd1 : ¬ d = 1 := by omega
  have hd1i : ¬ (d : Int) = 1 := by omega
  have hmi : (1 : Int) ≤ (d : Int) := by omega
  have hm1l : m - 1 = ll := by have := HML.out; omega
  have hml1 : (m : Int) - 1 = (ll : Int) := by have := HML.out; omega
  have HLL := Lib.hid hll
  have HKR := Lib.hid (fun (wz : World) (hz : Below w5.heap.size w5 wz) => (⟨(HKC.out wz hz).1, (HR5.out.below hz HR5.out.lt).facts.1, (HR5.out.below hz HR5.out.lt).facts.2.1, (HR5.out.below hz HR5.out.lt).facts.2.2.1⟩ : _ ∧ _ ∧ _ ∧ _))
  have HSC := Lib.hid (fun (wz : World) (hz : Below w5.heap.size w5 wz) => HS5.out.below hz)
  have HED5 := Lib.hid (fun (wz : World) (hz : Below w5.heap.size w5 wz) (u s : Nat) (hu : u < N) (hs : s < k) => HED.out wz (HB05.out.trans (hz.mono HB05.out.size)) C n' c' u s (HSC.out wz hz) hu hs)
  clear hll hA5 oA5 oA oB bA bB hA hB z5 hcx0 hAl hBl
  go_wp2_with fail
  go_loopw [12, 13, 64] (fun av bv iv wl => ∃ (i : Nat) (PA : Option Addr) (pa : Nat) (PB : Option Addr) (pb : Nat), iv = .int .i64 (i : Int) ∧ i ≤ ll ∧ av = .slice PA (2 * r + i) pa ∧ bv = .slice PB (2 * r + i) pb ∧
    Hid (wl.ownsRow w5.heap.size 3 1 (.slice PA (2 * r + i) pa) (2 * r + i) ((ints (digB k (2 * r) u0 ++ lastA k N (l.take i))).map (Value.int .i64))) ∧ Hid (wl.ownsRow w5.heap.size 3 1 (.slice PB (2 * r + i) pb) (2 * r + i) ((ints (digB k (2 * r) v0 ++ lastB k N (l.take i))).map (Value.int .i64))) ∧
    Hid (∀ a b, (Value.slice PA (2 * r + i) pa).ownBlock = some a → (Value.slice PB (2 * r + i) pb).ownBlock = some b → a ≠ b) ∧ Hid (Below w5.heap.size w5 wl)) (fun _ _ iv _ => ll - (intOf iv).toNat)
  case atStart => exact ⟨0, CA, cA, CB, cB, rfl, Nat.zero_le _, rfl, rfl, HOA, HOB, HAP, HB5B⟩
  case round =>
    obtain ⟨i, PA, pa, PB, pb, rfl, hi, rfl, rfl, hA, hB, hAP, hBl⟩ := hrel
    clear HOA HOB HAP HB5B
    obtain ⟨v1, rfl⟩ : ∃ v1, v1 = wr := ⟨_, rfl⟩
    by_cases hil : i < ll
    · have hil' : (i : Int) < (ll : Int) := by omega
      have hi0 : (0 : Int) ≤ (i : Int) := by omega
      obtain ⟨adp, p, hadp, hp, hcp⟩ := nat_at (n := ll) (HTS.out v1 hBl.out) hil
      cases hadp
      have hcp2 : v1.cell? ⟨aw.block, aw.off + 1 + i, none⟩ = some (.int .i64 ((p : Nat) : Int)) := by
        rw [← addr_off]; exact hcp
      have him' : (i : Int) < (m : Int) := by have := HML.out; omega
      obtain ⟨adq, q, hadq, hq, hcq⟩ := nat_at (l := d0 :: l) (HWW.out v1 (HB05.out.trans (hBl.out.mono HB05.out.size))) (show i < m by have := HML.out; omega)
      cases hadq
      have hq2 : (d0 :: l)[i + 1]? = some p := by simpa using hp
      have hes := HES.out q p (edges_at HEG.out hq hq2)
      obtain ⟨pu, hpu⟩ : ∃ x, p / N = x := ⟨_, rfl⟩
      obtain ⟨pv, hpv⟩ : ∃ x, p % N = x := ⟨_, rfl⟩
      obtain ⟨qu, hqu⟩ : ∃ x, q / N = x := ⟨_, rfl⟩
      obtain ⟨qv, hqv⟩ : ∃ x, q % N = x := ⟨_, rfl⟩
      rw [hpu, hpv, hqu, hqv] at hes
      obtain ⟨su, hsu⟩ : ∃ x, pu % k = x := ⟨_, rfl⟩
      obtain ⟨sv, hsv⟩ : ∃ x, pv % k = x := ⟨_, rfl⟩
      rw [hsu, hsv] at hes
      obtain ⟨e1, e2, e3, hqM, hpM⟩ := hes
      have b1 : (p : Int).tdiv (N : Int) = (pu : Int) := by rw [← hpu]; rfl
      have b2 : (p : Int).tmod (N : Int) = (pv : Int) := by rw [← hpv]; rfl
      have b3 : (q : Int).tdiv (N : Int) = (qu : Int) := by rw [← hqu]; rfl
      have b4 : (q : Int).tmod (N : Int) = (qv : Int) := by rw [← hqv]; rfl
      have b5 : (pu : Int).tmod (k : Int) = (su : Int) := by rw [← hsu]; rfl
      have b6 : (pv : Int).tmod (k : Int) = (sv : Int) := by rw [← hsv]; rfl
      have c1 : (p : Int) / (N : Int) = (pu : Int) := by rw [← hpu]; rfl
      have c2 : (p : Int) % (N : Int) = (pv : Int) := by rw [← hpv]; rfl
      have c3 : (q : Int) / (N : Int) = (qu : Int) := by rw [← hqu]; rfl
      have c4 : (q : Int) % (N : Int) = (qv : Int) := by rw [← hqv]; rfl
      have c5 : (pu : Int) % (k : Int) = (su : Int) := by rw [← hsu]; rfl
      have c6 : (pv : Int) % (k : Int) = (sv : Int) := by rw [← hsv]; rfl
      have hpu6 : pu ≤ 65536 := by rw [← hpu]; exact Nat.le_trans (Nat.div_le_self _ _) (by omega)
      have hqu6 : qu ≤ 65536 := by rw [← hqu]; exact Nat.le_trans (Nat.div_le_self _ _) (by omega)
      have g1 : IntKind.i64.wrap (pu : Int) = (pu : Int) := IntWalk.i64_in _ (by omega)
      have g2 : IntKind.i64.wrap (qu : Int) = (qu : Int) := IntWalk.i64_in _ (by omega)
      have hquN : qu < N := by rw [← hqu]; exact Nat.div_lt_of_lt_mul (by rw [HMM.out]; exact hqM)
      have hqvN : qv < N := by rw [← hqv]; exact Nat.mod_lt _ hN0
      have hsuk : su < k := by rw [← hsu]; exact Nat.mod_lt _ hk1
      have hsvk : sv < k := by rw [← hsv]; exact Nat.mod_lt _ hk1
      obtain ⟨lb, hlb⟩ : ∃ lb, t.getD (qu * k + su) 0 = lb := ⟨_, rfl⟩
      have HX1 := Lib.hid (fun (wz : World) (hz : Below w5.heap.size w5 wz) => (by
        have h := HED5.out wz hz qu su hquN hsuk
        rw [e1, hlb] at h
        exact h : Calls Tryz.prog 108 #[.agg #[.int .i64 (k : Int), .int .i64 (r : Int), .slice C n' c'], .int .i64 (qu : Int), .int .i64 (su : Int)] wz fun e w' => e = .returned (.tuple #[.int .i64 (pu : Int), .int .i64 (lb : Int), .nilIface]) ∧ Below wz.heap.size wz w'))
      have HX2 := Lib.hid (fun (wz : World) (hz : Below w5.heap.size w5 wz) => (by
        have h := HED5.out wz hz qv sv hqvN hsvk
        rw [e2, ← e3, hlb] at h
        exact h : Calls Tryz.prog 108 #[.agg #[.int .i64 (k : Int), .int .i64 (r : Int), .slice C n' c'], .int .i64 (qv : Int), .int .i64 (sv : Int)] wz fun e w' => e = .returned (.tuple #[.int .i64 (pv : Int), .int .i64 (lb : Int), .nilIface]) ∧ Below wz.heap.size wz w'))
      have HK2 := Lib.hid (fun (wz : World) (hz : Below v1.heap.size v1 wz) => (by
        obtain ⟨z1, z2, z3, z4⟩ := HKR.out wz (hBl.out.trans (hz.mono hBl.out.size))
        exact ⟨z1, z2, z3, z4, cell_later hz hcq⟩ : wz.cell? ⟨gn, 0, none⟩ = some (.int .i64 (N : Int)) ∧ wz.cell? ⟨w2.heap.size, 0, none⟩ = some (.int .i64 (k : Int)) ∧ wz.cell? ⟨w2.heap.size, 1, none⟩ = some (.int .i64 (r : Int)) ∧ wz.cell? ⟨w2.heap.size, 2, none⟩ = some (.slice C n' c') ∧ wz.cell? (aw.add i) = some (.int .i64 (q : Int))))
      obtain ⟨z1, z2, z3, z4, z5⟩ := HK2.out v1 (Below.refl _ _)
      have HTA : Hid (lastA k N (l.take (i + 1)) = lastA k N (l.take i) ++ [su]) := Lib.hid (by
        rw [List.take_add_one, hp]
        unfold lastA
        rw [List.map_append]
        simp [hpu, hsu])
      have HTB : Hid (lastB k N (l.take (i + 1)) = lastB k N (l.take i) ++ [sv]) := Lib.hid (by
        rw [List.take_add_one, hp]
        unfold lastB
        rw [List.map_append]
        simp [hpv, hsv])
      clear hq hq2 hp hpu hpv hqu hqv hsu hsv e1 e2 e3 hlb hqM hpM hquN hqvN hsuk hsvk
      go_wp2_with (go_quiet (fail))
      go_region_held3 (fun wz => wz.cell? ⟨gn, 0, none⟩ = some (.int .i64 (N : Int)) ∧ wz.cell? ⟨w2.heap.size, 0, none⟩ = some (.int .i64 (k : Int)) ∧ wz.cell? ⟨w2.heap.size, 1, none⟩ = some (.int .i64 (r : Int)) ∧ wz.cell? ⟨w2.heap.size, 2, none⟩ = some (.slice C n' c') ∧ wz.cell? (aw.add i) = some (.int .i64 (q : Int)))
        (first | exact HK2.out _ ((below_drewN (Below.refl _ _) _)) | exact HK2.out _ ((below_drewN (Below.refl _ _) _).drew) | exact HK2.out _ hE1)
        (first
          | (go_simp
             go_at_call 108
             with_reducible refine (HX1.out _ (by exact below_drewN hBl.out _)).mono ?_
             rintro e v3 ⟨rfl, hb3⟩
             have hE1 : Below v1.heap.size v1 v3 := (below_drewN (Below.refl v1.heap.size v1) _).trans hb3
             dsimp only)
          | fail)
      have HK3 := Lib.hid (fun (wz : World) (hz : Below v3.heap.size v3 wz) => HK2.out wz (hE1.trans (hz.mono hE1.size)))
      have HB13 := Lib.hid hE1
      clear z1 z2 z3 z4 z5 hb3 hE1 HX1
      obtain ⟨z1, z2, z3, z4, z5⟩ := HK3.out v3 (Below.refl _ _)
      go_wp2_with fail
      go_region_held3 (fun wz => wz.cell? ⟨gn, 0, none⟩ = some (.int .i64 (N : Int)) ∧ wz.cell? ⟨w2.heap.size, 0, none⟩ = some (.int .i64 (k : Int)) ∧ wz.cell? ⟨w2.heap.size, 1, none⟩ = some (.int .i64 (r : Int)) ∧ wz.cell? ⟨w2.heap.size, 2, none⟩ = some (.slice C n' c') ∧ wz.cell? (aw.add i) = some (.int .i64 (q : Int)))
        (first | exact HK3.out _ ((Below.refl _ _).drew) | exact HK3.out _ hE2)
        (first
          | (go_simp
             go_at_call 108
             with_reducible refine (HX2.out _ (by exact (hBl.out.trans (HB13.out.mono hBl.out.size)).drew)).mono ?_
             rintro e v4 ⟨rfl, hb4⟩
             have hE2 : Below v3.heap.size v3 v4 := ((Below.refl v3.heap.size v3).drew).trans hb4
             dsimp only)
          | fail)
      have hB14 := HB13.out.trans (hE2.mono HB13.out.size)
      have hA4 := own_below hA.out hB14
      have hB4 := own_below hB.out hB14
      have HB54 := Lib.hid (hBl.out.trans (hB14.mono hBl.out.size))
      have hsz4 : w5.heap.size ≤ v4.heap.size := HB54.out.size
      have hll1 : ll ≤ 100000 := by have := HML.out; omega
      obtain ⟨y1, _⟩ := HK3.out v4 hE2
      have HA4 := Lib.hid hA4
      have HB4 := Lib.hid hB4
      have HBK := Lib.hid (fun (v5 : World) (g5 : Nat) (hor : ((Value.slice PA (2 * r + i) pa).ownBlock = some g5 ∧ v4.grownBy v5 (some g5)) ∨ (v4.heap.size < g5 ∧ v4.grownBy v5 none)) => (⟨own_keeps HB4.out (push_keeps hor) (fun b hb e => hAP.out b b e hb rfl), Nat.le_trans hsz4 (push_keeps hor).size⟩ : v5.ownsRow w5.heap.size 3 1 (.slice PB (2 * r + i) pb) (2 * r + i) ((ints (digB k (2 * r) v0 ++ lastB k N (l.take i))).map (Value.int .i64)) ∧ w5.heap.size ≤ v5.heap.size))
      clear z1 z2 z3 z4 z5 hB14 hE2 hb4 hB4 HX2
      go_wp2_with (at_builtin; first
        | (refine wpList_push2 rfl _ _ _ rfl tInts hA4 rfl _ 0 rfl rfl rfl (by simp only [maxLen]; omega) (by omega) hsz4 ?_; intro g5 cap5 v5 hown5 hor5 hlt5; obtain ⟨hB5, hsz5⟩ := HBK.out v5 g5 hor5)
        | (refine wpList_push2 rfl _ _ _ rfl tInts hB5 rfl _ 0 rfl rfl rfl (by simp only [maxLen]; omega) (by omega) hsz5 ?_; intro g6 cap6 v6 hown6 hor6 hlt6)
        | fail)
      have hk5 := push_keeps hor5
      have hk6 := push_keeps hor6
      have hg5 : ∀ b, (Value.slice PB (2 * r + i) pb).ownBlock = some b → g5 ≠ b := fun b hb e => by
        rcases hor5 with ⟨h1, _⟩ | ⟨h1, _⟩
        · exact hAP.out g5 b h1 hb e
        · have := (HB4.out.lt b hb).2
          omega
      have HA6 : Hid (v6.ownsRow w5.heap.size 3 1 (.slice (some ⟨g5, 0, none⟩) (2 * r + (i + 1)) cap5) (2 * r + (i + 1)) ((ints (digB k (2 * r) u0 ++ lastA k N (l.take (i + 1)))).map (Value.int .i64))) := Lib.hid (by
        rw [HTA.out, ← List.append_assoc, ints_push]
        exact own_keeps hown5 hk6 (fun b hb e => by
          have h : g5 = b := by simpa [Value.ownBlock] using hb
          exact hg5 b e h))
      have HB6 : Hid (v6.ownsRow w5.heap.size 3 1 (.slice (some ⟨g6, 0, none⟩) (2 * r + (i + 1)) cap6) (2 * r + (i + 1)) ((ints (digB k (2 * r) v0 ++ lastB k N (l.take (i + 1)))).map (Value.int .i64))) := Lib.hid (by
        rw [HTB.out, ← List.append_assoc, ints_push]
        exact hown6)
      have HAP6 : Hid (∀ a b, (Value.slice (some ⟨g5, 0, none⟩) (2 * r + (i + 1)) cap5).ownBlock = some a → (Value.slice (some ⟨g6, 0, none⟩) (2 * r + (i + 1)) cap6).ownBlock = some b → a ≠ b) := Lib.hid (fun a b h1 h2 e => by
        have q1 : g5 = a := by simpa [Value.ownBlock] using h1
        have q2 : g6 = b := by simpa [Value.ownBlock] using h2
        rcases hor6 with ⟨h3, _⟩ | ⟨h3, _⟩
        · exact hg5 g6 h3 (by omega)
        · omega)
      have HBZ := Lib.hid ((HB54.out.trans (hk5.below HB54.out.size (fun b hb => (HA4.out.lt b hb).1))).trans (hk6.below (Nat.le_trans HB54.out.size hk5.size) (fun b hb => (HB4.out.lt b hb).1)))
      clear hown5 hown6 hor5 hor6 hk5 hk6 hB5 hA4 y1
      go_wp2_with fail
      exact ⟨⟨i + 1, some ⟨g5, 0, none⟩, cap5, some ⟨g6, 0, none⟩, cap6, by go_num, by omega, rfl, rfl, HA6, HB6, HAP6, HBZ⟩, by simp [intOf]; omega⟩
    · obtain rfl : i = ll := by omega
      have hil' : ¬ (i : Int) < (i : Int) := by omega
      have hTA : XA.length = 2 * r + i := HLA.out
      have hTB : XB.length = 2 * r + i := HLB.out
      have htk : l.take i = l := List.take_of_length_le (by rw [HLL.out]; exact Nat.le_refl _)
      have HOA : Hid (v1.ownsRow w.heap.size 3 1 (.slice PA XA.length pa) XA.length ((ints XA).map (Value.int .i64))) := Lib.hid (by
        have h := hA.out
        rw [htk, ← HXA.out] at h
        rw [hTA]
        exact own_base h HB05.out.size)
      have HOB : Hid (v1.ownsRow w.heap.size 3 1 (.slice PB XB.length pb) XB.length ((ints XB).map (Value.int .i64))) := Lib.hid (by
        have h := hB.out
        rw [htk, ← HXB.out] at h
        rw [hTB]
        exact own_base h HB05.out.size)
      have HBZ := Lib.hid (HB05.out.trans (hBl.out.mono HB05.out.size))
      have HTT := Lib.hid (And.intro hTA hTB)
      clear hTA hTB htk
      go_wp2_with fail
      exact bodyPost_ret (v := .tuple #[.slice PA (2 * r + i) pa, .slice PB (2 * r + i) pb, .nilIface]) (by simp [results, Tryz.results57, go_sem]) rfl ⟨PA, pa, PB, pb, by rw [HTT.out.1, HTT.out.2], HOA.out, HOB.out, HBZ.out⟩
end Go.Proofs.YtibplgpolmplpaaGreatDoor

namespace Go.Proofs.YtibplgpolmplpaaGreatDoor
namespace RuleP

/-- p names each symbol below k just once. -/
def IsNames (k : Nat) (p : List Nat) : Prop := p.Perm (List.range k)
def pos (p : List Nat) (x : Nat) : Nat := p.idxOf x
theorem IsNames.len {k : Nat} {p : List Nat} (h : IsNames k p) : p.length = k := by rw [h.length_eq, List.length_range]
theorem IsNames.sym {k : Nat} {p : List Nat} (h : IsNames k p) : ∀ x ∈ p, x < k := fun _ hx => List.mem_range.1 (h.mem_iff.1 hx)
def old (p v : List Nat) : List Nat := v.map (pos p)
/-- The names back. -/
def inv (k : Nat) (p : List Nat) : List Nat := (List.range k).map (pos p)
end RuleP
end Go.Proofs.YtibplgpolmplpaaGreatDoor

namespace Go.Proofs.YtibplgpolmplpaaGreatDoor
open Go.RowKit RuleP

theorem pos_ne {p : List Nat} {x i y : Nat} (hi : i < pos p x) (hy : p[i]? = some y) : y ≠ x := by
  intro e
  subst e
  have h := List.not_of_lt_findIdx (p := (· == y)) (xs := p) (i := i) hi
  have hl : i < p.length := (List.getElem?_eq_some_iff.1 hy).1
  have : p[i] = y := (List.getElem?_eq_some_iff.1 hy).2
  simp [this] at h

set_option maxRecDepth 100000 in
set_option maxHeartbeats 1000000 in
theorem index_c (w : World) (B : Option Addr) (m d : Nat) (p : List Nat) (x : Nat) (hx : x ∈ p) (hm : m ≤ 1000000) (hP : Sl w B m ((ints p).map (Value.int .i64))) :
    Calls Tryz.prog 71 #[.slice B m d, .int .i64 (x : Int)] w fun e w' => e = .returned (.int .i64 ((pos p x : Nat) : Int)) ∧ w' = w := by
  have hl : p.length = m := by simpa [ints] using hP.1
  have hpx : pos p x < m := by rw [← hl]; exact List.idxOf_lt_length_iff.2 hx
  have hget : p[pos p x]? = some x := by
    have h1 : p.idxOf x < p.length := List.idxOf_lt_length_iff.2 hx
    unfold pos
    rw [List.getElem?_eq_getElem h1]
    simp [List.getElem_idxOf]
  have HN := Lib.hid (fun (i y : Nat) (hi : i < pos p x) (hy : p[i]? = some y) => pos_ne hi hy)
  obtain ⟨q, hq⟩ : ∃ q, pos p x = q := ⟨_, rfl⟩
  rw [hq] at HN hpx hget
  rw [hq]
  have HG := Lib.hid hget
  rw [ints_map] at hP
  clear hl hx hget hq
  go_enter Tryz.func71, Tryz.ntmps71
  go_wp2_with fail
  go_loop [8] (fun iv => ∃ i : Nat, i ≤ q ∧ iv = .int .i64 (i : Int)) (fun iv => m - (intOf iv).toNat)
  case atStart => exact ⟨0, Nat.zero_le _, rfl⟩
  case round =>
    obtain ⟨i, hi, rfl⟩ := hrel
    obtain ⟨ad, y, rfl, hy, hc⟩ := hP.word_ (show i < m by omega)
    have hi' : (i : Int) < (m : Int) := by omega
    by_cases hiq : i = q
    · subst hiq
      have hxy : x = y := by have := HG.out; rw [hy] at this; exact (Option.some.inj this).symm
      subst hxy
      clear hy
      go_wp2_with fail
      go_ret
      exact ⟨rfl, rfl⟩
    · have hne : ¬ (x : Int) = (y : Int) := fun e => HN.out i y (by omega) hy (by omega)
      clear hy
      go_wp2_with fail
      exact ⟨⟨i + 1, by omega, by go_num⟩, by simp [intOf]; omega⟩

end Go.Proofs.YtibplgpolmplpaaGreatDoor

namespace Go.Proofs.YtibplgpolmplpaaGreatDoor
open Go.RowKit RuleP

end Go.Proofs.YtibplgpolmplpaaGreatDoor
