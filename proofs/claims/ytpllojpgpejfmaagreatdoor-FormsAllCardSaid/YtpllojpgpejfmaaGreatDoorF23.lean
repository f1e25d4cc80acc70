/- Rules out of rules: forms.Shift. Condition: the error variables hold what E says. slices.Backward of ints: each round gets a place and its number, the last first. Condition: the slice reads from memory. A small rule's number: rule.Code. Condition: the table reads from memory; the error variables hold what E says. A rule's number where there is none; a number's digits again. Condition: the table reads from memory; the error variables hold what E says. What strings.TrimLeft returns at the cutset "0". No condition. Bytes that the call owns, as a text. Plain lemmas over memory. No condition. -/
import Derived.RangeFuncNested
import Derived.RangeFuncBound
import Derived.RangeFuncCalls
import Derived.RangeFuncLeaves
import Derived.RangeFuncBox
import Derived.Shelf.Abstract
import Derived.WalkKit
import Derived.OwnWalkIn
import Derived.TacticsInMore
import Derived.LoopNIn
import Derived.LoopIn
import Derived.RangeFuncWrites
import Derived.Shelf.RegionOpen
import Derived.Lib.Strings
import Derived.Lib.Walk
import Derived.Lib.TrimByte
import Derived.Laws.Strings3
import Derived.Laws.BytesArg
import Derived.Test.YtpllojpgpejfmaaGreatDoorF2
import Derived.Test.YtpllojpgpejfmaaGreatDoorF3
import Derived.Test.YtpllojpgpejfmaaGreatDoorF7
import Derived.Test.YtpllojpgpejfmaaGreatDoorF12
import Derived.Test.YtpllojpgpejfmaaGreatDoorF14
import Derived.Test.YtpllojpgpejfmaaGreatDoorF15
namespace Go.Proofs.YtpllojpgpejfmaaGreatDoor
open Go.RowKit RuleP


set_option maxRecDepth 100000 in
set_option maxHeartbeats 1000000 in
theorem shift_pos (w : World) (E : Nat → Addr) (k ρ : Nat) (h1 : 1 ≤ k) (h2 : k ≤ 4) (hρ : ρ ≤ 3) :
    Calls Tryz.prog 13 #[.int .i64 (k : Int), .int .i64 (ρ : Int)] w (RuleRes w E k ρ (ints (shT k ρ (2 * ρ))) none) := by
  obtain ⟨d, hdd⟩ : ∃ d : Int, (ρ : Int) = d := ⟨_, rfl⟩
  have hd1 : -3 ≤ d := by omega
  have hd2 : d ≤ 3 := by omega
  rw [hdd]
  have hbW := ((Below.refl w.heap.size w).alloc (Nat.le_refl _) (.cells #[.int .i64 d] 3)).alloc (by simp) (.cells #[.int .i64 0, .int .i64 0, .slice none 0 0] 26) |>.alloc (by simp; omega) (.cells #[.int .i64 (ρ : Int)] 3)
  have hd0 : (((w.alloc (.cells #[.int .i64 d] 3)).alloc (.cells #[.int .i64 0, .int .i64 0, .slice none 0 0] 26)).alloc (.cells #[.int .i64 (ρ : Int)] 3)).heap[w.heap.size]? = some (.cells #[.int .i64 d] 3 (0, 0)) :=
    (Below.heap_alloc _ _ _ (by simp; omega)).trans ((Below.heap_alloc _ _ _ (by simp)).trans (heap_new w _))
  have hr1 := (RuleAt.new (w.alloc (.cells #[.int .i64 d] 3)) (.int .i64 0) (.int .i64 0) (.slice none 0 0)).alloc (.cells #[.int .i64 (ρ : Int)] 3)
  have hd2' := heap_new ((w.alloc (.cells #[.int .i64 d] 3)).alloc (.cells #[.int .i64 0, .int .i64 0, .slice none 0 0] 26)) (.cells #[.int .i64 (ρ : Int)] 3)
  simp only [World.size_alloc] at hr1 hd2'
  obtain ⟨W, hW⟩ : ∃ W, ((w.alloc (.cells #[.int .i64 d] 3)).alloc (.cells #[.int .i64 0, .int .i64 0, .slice none 0 0] 26)).alloc (.cells #[.int .i64 (ρ : Int)] 3) = W := ⟨_, rfl⟩
  have hWs : W.heap.size = w.heap.size + 3 := by rw [← hW]; simp
  rw [hW] at hbW hd0 hr1
  have hd3 : W.heap[w.heap.size + 1 + 1]? = some (.cells #[.int .i64 (ρ : Int)] 3 (0, 0)) := by rw [← hW]; exact hd2'
  have hmd := made2_c W k ρ 46 (.pointer (some ⟨w.heap.size + 1 + 1, 0, none⟩)) (.pointer (some ⟨w.heap.size, 0, none⟩)) (fun v => v.getD (2 * ρ) 0) h1 h2 hρ
    (fun v wz => run_enter Tryz.func46 (by kernel_rfl) (by kernel_rfl) _ _)
    (fun wz hz g v hl hs hV => shift1_c wz g (2 * ρ + 1) (w.heap.size + 1 + 1) w.heap.size v (ρ : Int) d (2 * ρ) (by omega) ⟨by omega, by omega⟩ ⟨hd1, hd2⟩ (by omega) (by
      have := (hz.block (w.heap.size + 1 + 1) (by omega)).trans hd3
      rw [cell_of_row wz _ _ _ _ _ this]; rfl) (by
      have := (hz.block w.heap.size (by omega)).trans hd0
      rw [cell_of_row wz _ _ _ _ _ this]; rfl) hV)
  have HMD := Lib.hid hmd
  have HSZ := Lib.hid (size_ok W k ρ h1 h2 hρ)
  have HBW := Lib.hid hbW
  have HR1 := Lib.hid hr1
  have HDD := Lib.hid hdd
  have HWS := Lib.hid hWs
  have c2 : W.cell? ⟨w.heap.size + 1 + 1, 0, none⟩ = some (.int .i64 (ρ : Int)) := by rw [cell_of_row W _ _ _ _ _ hd3]; rfl
  rw [← hdd] at hW
  have HW := Lib.hid hW
  clear hmd hbW hr1 hW hWs hd0 hd2' hd3 hd1 hd2
  rw [← hdd]
  clear hdd
  have q1 : ¬ (ρ : Int) < -(ρ : Int) := by omega
  have q2 : -(ρ : Int) ≤ (ρ : Int) := by omega
  have q3 : max (ρ : Int) (-(ρ : Int)) = (ρ : Int) := by omega
  go_enter Tryz.func13, Tryz.ntmps13
  go_wp2_with fail
  rw [HW.out]
  refine (HSZ.out).mono ?_
  rintro e w' ⟨rfl, rfl⟩
  go_wp2_with fail
  refine (HMD.out).mono ?_
  rintro e w4 ⟨g, rfl, hT4, hb4⟩
  obtain ⟨N, hN⟩ : ∃ N, k ^ (2 * ρ + 1) = N := ⟨_, rfl⟩
  rw [hN] at hT4
  rw [hN]
  rw [show tab k (2 * ρ + 1) (fun v => v.getD (2 * ρ) 0) = shT k ρ (2 * ρ) from rfl] at hT4
  have hrx := HR1.out.below hb4 HR1.out.lt
  obtain ⟨hRA, hRS⟩ := res_new (E := E) (K := (k : Int)) (R := (ρ : Int)) hrx hT4 (HBW.out.trans (hb4.mono HBW.out.size)) (show w.heap.size ≤ w.heap.size + 1 by omega) (by rw [HWS.out]; omega)
  have HRA := Lib.hid hRA
  have HRS := Lib.hid hRS
  obtain ⟨d0, d1, d2, f0, f1, f2⟩ := hrx.facts
  clear hRA hRS hrx hT4 hb4 hN
  unfold ruleV
  go_wp2_with fail
  obtain ⟨d0, d1, d2, _⟩ := HRA.out.facts
  exact bodyPost_ret (v := .tuple #[.agg #[.int .i64 (k : Int), .int .i64 (ρ : Int), .slice (some ⟨g, 0, none⟩) N N], .nilIface]) (by simp [results, Tryz.results13, go_sem, d0, d1, d2]) rfl HRS.out


set_option maxRecDepth 100000 in
set_option maxHeartbeats 1000000 in
theorem shift_neg (w : World) (E : Nat → Addr) (k ρ : Nat) (h1 : 1 ≤ k) (h2 : k ≤ 4) (hρ : ρ ≤ 3) (hρ1 : 1 ≤ ρ) :
    Calls Tryz.prog 13 #[.int .i64 (k : Int), .int .i64 (-(ρ : Int))] w (RuleRes w E k ρ (ints (shT k ρ 0)) none) := by
  obtain ⟨d, hdd⟩ : ∃ d : Int, (-(ρ : Int)) = d := ⟨_, rfl⟩
  have hd1 : -3 ≤ d := by omega
  have hd2 : d ≤ 3 := by omega
  rw [hdd]
  have hbW := ((Below.refl w.heap.size w).alloc (Nat.le_refl _) (.cells #[.int .i64 d] 3)).alloc (by simp) (.cells #[.int .i64 0, .int .i64 0, .slice none 0 0] 26) |>.alloc (by simp; omega) (.cells #[.int .i64 (ρ : Int)] 3)
  have hd0 : (((w.alloc (.cells #[.int .i64 d] 3)).alloc (.cells #[.int .i64 0, .int .i64 0, .slice none 0 0] 26)).alloc (.cells #[.int .i64 (ρ : Int)] 3)).heap[w.heap.size]? = some (.cells #[.int .i64 d] 3 (0, 0)) :=
    (Below.heap_alloc _ _ _ (by simp; omega)).trans ((Below.heap_alloc _ _ _ (by simp)).trans (heap_new w _))
  have hr1 := (RuleAt.new (w.alloc (.cells #[.int .i64 d] 3)) (.int .i64 0) (.int .i64 0) (.slice none 0 0)).alloc (.cells #[.int .i64 (ρ : Int)] 3)
  have hd2' := heap_new ((w.alloc (.cells #[.int .i64 d] 3)).alloc (.cells #[.int .i64 0, .int .i64 0, .slice none 0 0] 26)) (.cells #[.int .i64 (ρ : Int)] 3)
  simp only [World.size_alloc] at hr1 hd2'
  obtain ⟨W, hW⟩ : ∃ W, ((w.alloc (.cells #[.int .i64 d] 3)).alloc (.cells #[.int .i64 0, .int .i64 0, .slice none 0 0] 26)).alloc (.cells #[.int .i64 (ρ : Int)] 3) = W := ⟨_, rfl⟩
  have hWs : W.heap.size = w.heap.size + 3 := by rw [← hW]; simp
  rw [hW] at hbW hd0 hr1
  have hd3 : W.heap[w.heap.size + 1 + 1]? = some (.cells #[.int .i64 (ρ : Int)] 3 (0, 0)) := by rw [← hW]; exact hd2'
  have hmd := made2_c W k ρ 46 (.pointer (some ⟨w.heap.size + 1 + 1, 0, none⟩)) (.pointer (some ⟨w.heap.size, 0, none⟩)) (fun v => v.getD 0 0) h1 h2 hρ
    (fun v wz => run_enter Tryz.func46 (by kernel_rfl) (by kernel_rfl) _ _)
    (fun wz hz g v hl hs hV => shift1_c wz g (2 * ρ + 1) (w.heap.size + 1 + 1) w.heap.size v (ρ : Int) d 0 (by omega) ⟨by omega, by omega⟩ ⟨hd1, hd2⟩ (by omega) (by
      have := (hz.block (w.heap.size + 1 + 1) (by omega)).trans hd3
      rw [cell_of_row wz _ _ _ _ _ this]; rfl) (by
      have := (hz.block w.heap.size (by omega)).trans hd0
      rw [cell_of_row wz _ _ _ _ _ this]; rfl) hV)
  have HMD := Lib.hid hmd
  have HSZ := Lib.hid (size_ok W k ρ h1 h2 hρ)
  have HBW := Lib.hid hbW
  have HR1 := Lib.hid hr1
  have HDD := Lib.hid hdd
  have HWS := Lib.hid hWs
  have c2 : W.cell? ⟨w.heap.size + 1 + 1, 0, none⟩ = some (.int .i64 (ρ : Int)) := by rw [cell_of_row W _ _ _ _ _ hd3]; rfl
  rw [← hdd] at hW
  have HW := Lib.hid hW
  clear hmd hbW hr1 hW hWs hd0 hd2' hd3 hd1 hd2
  rw [← hdd]
  clear hdd
  have q1 : -(ρ : Int) < (ρ : Int) := by omega
  have q2 : ¬ (ρ : Int) ≤ -(ρ : Int) := by omega
  have q3 : - -(ρ : Int) = (ρ : Int) := by omega
  have q4 : max (-(ρ : Int)) (ρ : Int) = (ρ : Int) := by omega
  go_enter Tryz.func13, Tryz.ntmps13
  go_wp2_with fail
  rw [HW.out]
  refine (HSZ.out).mono ?_
  rintro e w' ⟨rfl, rfl⟩
  go_wp2_with fail
  refine (HMD.out).mono ?_
  rintro e w4 ⟨g, rfl, hT4, hb4⟩
  obtain ⟨N, hN⟩ : ∃ N, k ^ (2 * ρ + 1) = N := ⟨_, rfl⟩
  rw [hN] at hT4
  rw [hN]
  rw [show tab k (2 * ρ + 1) (fun v => v.getD 0 0) = shT k ρ 0 from rfl] at hT4
  have hrx := HR1.out.below hb4 HR1.out.lt
  obtain ⟨hRA, hRS⟩ := res_new (E := E) (K := (k : Int)) (R := (ρ : Int)) hrx hT4 (HBW.out.trans (hb4.mono HBW.out.size)) (show w.heap.size ≤ w.heap.size + 1 by omega) (by rw [HWS.out]; omega)
  have HRA := Lib.hid hRA
  have HRS := Lib.hid hRS
  obtain ⟨d0, d1, d2, f0, f1, f2⟩ := hrx.facts
  clear hRA hRS hrx hT4 hb4 hN
  unfold ruleV
  go_wp2_with fail
  obtain ⟨d0, d1, d2, _⟩ := HRA.out.facts
  exact bodyPost_ret (v := .tuple #[.agg #[.int .i64 (k : Int), .int .i64 (ρ : Int), .slice (some ⟨g, 0, none⟩) N N], .nilIface]) (by simp [results, Tryz.results13, go_sem, d0, d1, d2]) rfl HRS.out


set_option maxRecDepth 100000 in
set_option maxHeartbeats 1000000 in
theorem shift_big (w : World) (E : Nat → Addr) (hE : Errs w E) (k : Int) (ρ : Nat) (h : k < 1 ∨ 4 < k ∨ 3 < ρ) (hρ : ρ ≤ 1000000) :
    Calls Tryz.prog 13 #[.int .i64 k, .int .i64 (ρ : Int)] w (RuleRes w E 0 0 [] (some (3, [(sForms, 0)]))) := by
  have hbW := ((Below.refl w.heap.size w).alloc (Nat.le_refl _) (.cells #[.int .i64 (ρ : Int)] 3)).alloc (by simp) (.cells #[.int .i64 0, .int .i64 0, .slice none 0 0] 26) |>.alloc (by simp; omega) (.cells #[.int .i64 (ρ : Int)] 3)
  have hr1 := (RuleAt.new (w.alloc (.cells #[.int .i64 (ρ : Int)] 3)) (.int .i64 0) (.int .i64 0) (.slice none 0 0)).alloc (.cells #[.int .i64 (ρ : Int)] 3)
  simp only [World.size_alloc] at hr1
  obtain ⟨W, hW⟩ : ∃ W, ((w.alloc (.cells #[.int .i64 (ρ : Int)] 3)).alloc (.cells #[.int .i64 0, .int .i64 0, .slice none 0 0] 26)).alloc (.cells #[.int .i64 (ρ : Int)] 3) = W := ⟨_, rfl⟩
  rw [hW] at hbW hr1
  have HSZ := Lib.hid (size_err W E (hE.below hbW) k (ρ : Int) (by omega))
  have HEE := Lib.hid (fun (wz : World) (hz : Below W.heap.size W wz) => hE.below (hbW.trans (hz.mono hbW.size)))
  have HBW := Lib.hid hbW
  have HR1 := Lib.hid hr1
  have HW := Lib.hid hW
  have q1 : ¬ (ρ : Int) < -(ρ : Int) := by omega
  have q2 : -(ρ : Int) ≤ (ρ : Int) := by omega
  have q3 : max (ρ : Int) (-(ρ : Int)) = (ρ : Int) := by omega
  clear hbW hr1 hW hE h
  go_enter Tryz.func13, Tryz.ntmps13
  go_wp2_with fail
  rw [HW.out]
  refine (HSZ.out).mono ?_
  rintro e w1 ⟨b, rfl, he1, hb1⟩
  have HWR := Lib.hid (formsWrong_c w1 E (HEE.out w1 hb1) 0 3 (by decide) (by decide))
  unfold errV
  clear he1
  go_wp2_with fail
  refine (HWR.out).mono ?_
  rintro e w2 ⟨rfl, he2, hb2'⟩
  have hb2 := pure_trans hb1 hb2'
  unfold errV at *
  clear hb2'
  have hrx := HR1.out.below hb2 HR1.out.lt
  obtain ⟨hRA, hRS⟩ := res_err (tl := (3, [(sForms, 0)])) hrx he2 (HBW.out.trans (hb2.mono HBW.out.size)) (show w.heap.size ≤ w.heap.size + 1 by omega)
  have HRA := Lib.hid hRA
  have HRS := Lib.hid hRS
  obtain ⟨d0, d1, d2, f0, f1, f2⟩ := hrx.facts
  clear hRA hRS hrx he2
  go_wp2_with fail
  obtain ⟨d0, d1, d2, _⟩ := HRA.out.facts
  exact bodyPost_ret (v := .tuple #[.agg #[.int .i64 0, .int .i64 0, .slice none 0 0], .iface 95 (.pointer (some ⟨w1.heap.size, 0, none⟩))]) (by simp [results, Tryz.results13, go_sem, d0, d1, d2]) rfl HRS.out
end Go.Proofs.YtpllojpgpejfmaaGreatDoor

namespace Go.Proofs.YtpllojpgpejfmaaGreatDoor
open Go.RowKit Go.Shelf

attribute [local go_sem] Oper.semAt_some

/-- What has come when k rounds are over. -/
def upto {α : Type} (f : Nat → α) (k : Nat) : List α := (List.range k).map f
theorem upto_succ {α : Type} (f : Nat → α) (k : Nat) : upto f (k + 1) = upto f k ++ [f k] := by simp [upto, List.range_succ]
theorem upto_len {α : Type} (f : Nat → α) (k : Nat) : (upto f k).length = k := by simp [upto]
/-- What a round keeps: what lay below, and the slice's own variable. -/
def KpB (n₀ Bs : Nat) (W W' : World) : Prop := Below n₀ W W' ∧ W'.heap[Bs]? = W.heap[Bs]?
theorem KpB.t {n₀ Bs : Nat} {A B C : World} (h : KpB n₀ Bs A B) (k : KpB n₀ Bs B C) : KpB n₀ Bs A C := ⟨h.1.trans k.1, k.2.trans h.2⟩
theorem KpB.b {n₀ Bs : Nat} {w : World} (hn : n₀ ≤ w.heap.size) (hB : Bs < w.heap.size) (W : World) (l : Nat) (o o' : Obj) (hl : w.heap.size ≤ l) (h : W.heap[l]? = some o) (h1 : o.isCells = false) (h2 : o.isWalk = false) : KpB n₀ Bs W (W.putObj l o') :=
  ⟨belowK_b hn W l o o' hl h h1 h2, (grownBy_putObj' W l o').block Bs (by have := (Array.getElem?_eq_some_iff.1 h).1; omega) (by intro e; cases e; omega)⟩

/-- The things that stand for the rounds: each has a place and a number. -/
def BackSeq {α : Type} (zs : List Int) (fi : α → Nat) (gx : α → Int) (sq : Nat → α) : Prop := ∀ j, j < zs.length → fi (sq j) = zs.length - 1 - j ∧ gx (sq j) = zs[zs.length - 1 - j]?.getD 0

set_option maxRecDepth 100000 in
set_option maxHeartbeats 2000000 in
theorem back1_in {α : Type} (fi : α → Nat) (gx : α → Int) (sq : Nat → α) (F : Fence) (n : Nat) (hf : F.fn 102) (hro : F.round = none) (hn : 1 ≤ n) (l Bs n₀ len cap : Nat) (ad : Addr) (zs : List Int) (hsq : BackSeq zs fi gx sq) (hz : zs.length = len) (hlen : len ≤ 1000000000) (hb : ad.block < n₀) (J Jx : List α → World → Prop)
    (hY : ∀ pre x W, J pre W → pre.length < len → YieldAt F (n - 1) Tryz.prog l #[.int .i64 (fi x : Int), .int .i64 (gx x)] W fun e W' =>
      (e = .returned (.bool true) ∧ J (pre ++ [x]) W' ∧ KpB n₀ Bs W W') ∨ (e = .returned (.bool false) ∧ Jx (pre ++ [x]) W'))
    (W : World) (hBs : W.cell? ⟨Bs, 0, none⟩ = some (.slice (some ad) len cap)) (hc : ∀ j, j < len → W.cell? (ad.add j) = some (.int .i64 (zs[j]?.getD 0))) (h0 : J [] W) :
    CallsIn F n Tryz.prog 102 #[.func (.yield l) #[] #[], .pointer (some ⟨Bs, 0, none⟩)] W fun e W' => (∃ v, e = .returned v) ∧
      ((∃ ys, ys = upto sq len ∧ J ys W') ∨ (∃ pre, (∃ k, k ≤ len ∧ pre = upto sq k) ∧ Jx pre W')) := by
  refine callsIn_of_wp Tryz.func102 rfl hf ?_ hro
  simp only [Tryz.ntmps102, List.size_toArray, List.length_cons, List.length_nil, Nat.reduceAdd, Nat.reduceSub, Array.replicate_succ, Array.replicate_zero, List.push_toArray, List.append_toArray, List.nil_append, List.cons_append]
  have HZ := Lib.hid hz
  clear hz
  gi_wp2
  gi_loopw [3] (fun i wr => ∃ (m : Nat) (z : Int), m ≤ len ∧ i = .int .i64 z ∧ Hid (z = (m : Int) - 1) ∧ J (upto sq (len - m)) wr ∧ KpB n₀ Bs W wr)
    (fun i _ => (intOf i + 1).toNat)
  case atStart => exact ⟨len, _, Nat.le_refl _, rfl, Lib.hid rfl, by rw [Nat.sub_self]; exact h0, Below.refl _ _, rfl⟩
  case round =>
    obtain ⟨m, z, hm, rfl, hz, hJs, hnx⟩ := hrel
    have hBs' := (World.cell?_of_block (w := W) (a := ⟨Bs, 0, none⟩) hnx.2).trans hBs
    cases m with
    | zero =>
      obtain rfl : z = -1 := by have := hz.out; omega
      clear hz
      have hge : decide ((0 : Int) ≤ -1) = false := by decide
      rw [Nat.sub_zero] at hJs
      gi_wp2
      go_end0
      exact ⟨⟨_, rfl⟩, .inl ⟨_, rfl, hJs⟩⟩
    | succ q =>
      obtain rfl : z = (q : Int) := by have := hz.out; omega
      clear hz
      have hcx : wr.cell? (ad.add q) = some (.int .i64 (zs[q]?.getD 0)) := (hnx.1.cell (p := ad.add q) (by rw [block_of_add]; exact hb)).trans (hc q (by omega))
      obtain ⟨hq1, hq2⟩ := hsq (len - (q + 1)) (by rw [HZ.out]; omega)
      rw [HZ.out, show len - 1 - (len - (q + 1)) = q from by omega] at hq1 hq2
      obtain ⟨fn, tmps, assign, body, hy, hR⟩ := hY _ (sq (len - (q + 1))) wr hJs (by rw [upto_len]; omega)
      rw [hq1, hq2] at hy
      have hx : upto sq (len - q) = upto sq (len - (q + 1)) ++ [sq (len - (q + 1))] := by
        rw [show len - q = (len - (q + 1)) + 1 from by omega, upto_succ]
      have HX := Lib.hid hx
      rw [← hx] at hR
      clear hx
      gi_wp2
      refine hR.mono ?_
      rintro e W3 (⟨rfl, hJ3, hk3⟩ | ⟨rfl, hJx3⟩)
      · gi_wp2
        go_roundw
        case rel => exact ⟨q, _, by omega, rfl, Lib.hid (by omega), hJ3, hnx.t hk3⟩
        case measure => simp [intOf]
      · gi_wp2
        refine bodyPost_ret (results_none rfl _ _ _) rfl ?_
        exact ⟨⟨_, rfl⟩, .inr ⟨_, ⟨len - q, by omega, rfl⟩, hJx3⟩⟩

set_option maxRecDepth 100000 in
set_option maxHeartbeats 1000000 in
theorem back_nil_in {α : Type} (F : Fence) (n : Nat) (hf : F.fn 102) (hro : F.round = none) (l Bs : Nat) (J : List α → World → Prop) (W : World) (A : Option Addr) (cap : Nat) (hBs : W.cell? ⟨Bs, 0, none⟩ = some (.slice A 0 cap)) (h0 : J [] W) :
    CallsIn F n Tryz.prog 102 #[.func (.yield l) #[] #[], .pointer (some ⟨Bs, 0, none⟩)] W fun e W' => (∃ v, e = .returned v) ∧ J [] W' := by
  refine callsIn_of_wp Tryz.func102 rfl hf ?_ hro
  simp only [Tryz.ntmps102, List.size_toArray, List.length_cons, List.length_nil, Nat.reduceAdd, Nat.reduceSub, Array.replicate_succ, Array.replicate_zero, List.push_toArray, List.append_toArray, List.nil_append, List.cons_append]
  gi_wp2
  gi_loopw [3] (fun i wr => i = .int .i64 (-1) ∧ J [] wr) (fun _ _ => 0)
  case atStart => exact ⟨rfl, h0⟩
  case round =>
    obtain ⟨rfl, hJs⟩ := hrel
    gi_wp2
    go_end0
    exact ⟨⟨_, rfl⟩, hJs⟩

set_option maxHeartbeats 1000000 in
theorem backward_in (F : Fence) (n : Nat) (hf : F.fn 76) (hro : F.round = none) (a : Option Addr) (len cap : Nat) (w : World) :
    CallsIn F n Tryz.prog 76 #[.slice a len cap] w fun e w' => e = .returned (.func (.func 102) #[] #[.pointer (some ⟨w.heap.size, 0, none⟩)]) ∧ w' = w.alloc (.cells #[.slice a len cap] 24) := by
  refine callsIn_of_wp Tryz.func76 rfl hf ?_ hro
  simp only [Tryz.ntmps76, List.size_toArray, List.length_cons, List.length_nil, Nat.reduceAdd, Nat.reduceSub, Array.replicate_succ, Array.replicate_zero, List.push_toArray, List.append_toArray, List.nil_append, List.cons_append]
  gi_wp2
  go_ret
  exact ⟨rfl, rfl⟩

/-- What slices.Backward hands back gives all, the last first. -/
theorem back_stops {α : Type} (fi : α → Nat) (gx : α → Int) (sq : Nat → α) (F : Fence) (n : Nat) (hf : F.fn 102) (hro : F.round = none) (hn : 1 ≤ n) (Bs : Nat) (A : Option Addr) (len cap : Nat) (zs : List Int) (w : World) (hz : Sl w A len (zs.map (Value.int .i64))) (hsq : BackSeq zs fi gx sq) (hlen : len ≤ 1000000000) (hBs : Bs < w.heap.size)
    (hc : w.cell? ⟨Bs, 0, none⟩ = some (.slice A len cap)) (n₀ : Nat) (hA : ∀ ad, A = some ad → 0 < len → ad.block < n₀) :
    SeqStopsK F n Tryz.prog 102 #[.pointer (some ⟨Bs, 0, none⟩)] (fun x : α => #[Value.int .i64 (fi x : Int), Value.int .i64 (gx x)]) (KpB n₀ Bs) (fun ys => ys = upto sq zs.length)
      (fun pre => ∃ k, k ≤ zs.length ∧ pre = upto sq k) zs.length w := fun l J Jx W hW _ _ hY h0 => by
  have hl : zs.length = len := by simpa using hz.1
  have hc' := (hW.cell (p := ⟨Bs, 0, none⟩) hBs).trans hc
  rcases Nat.eq_zero_or_pos len with h00 | h00
  · subst h00
    refine (back_nil_in F n hf hro l Bs J W A cap hc' h0).mono fun e W' ⟨he, hj⟩ => ⟨he, .inl ⟨_, ?_, hj⟩⟩
    rw [hl]; rfl
  · obtain ⟨ad, x, rfl, hx⟩ := hz.int_ h00
    have h1 := back1_in fi gx sq F n hf hro hn l Bs n₀ len cap ad zs hsq hl hlen (hA ad rfl h00) J Jx (by rw [hl] at hY; exact hY) W hc' (fun j hj => by
      obtain ⟨ad', y, e, hy, hcy⟩ := hz.int_ hj
      cases e
      rw [hy]
      exact (hW.cell (p := ad.add j) (World.block_lt_of_cell? _ _ hcy)).trans hcy) h0
    rw [hl]
    exact h1
end Go.Proofs.YtpllojpgpejfmaaGreatDoor

namespace Go.Proofs.YtpllojpgpejfmaaGreatDoor
open Go.RowKit Go.Shelf RuleP NatP

attribute [local go_sem] Oper.semAt_some

/-- A round's place and symbol. -/
abbrev Sym := Nat × { x : Nat // x < 4 }
def symAt (t : List Nat) (j : Nat) : Sym := (t.length - 1 - j, if h : t.getD (t.length - 1 - j) 0 < 4 then ⟨_, h⟩ else ⟨0, by decide⟩)
theorem symAt_seq {t : List Nat} (h : ∀ x ∈ t, x < 4) : BackSeq (ints t) (fun x : Sym => x.1) (fun x : Sym => ((x.2.1 : Nat) : Int)) (symAt t) := by
  intro j hj
  rw [ints_len] at hj ⊢
  refine ⟨rfl, ?_⟩
  have hl : t.length - 1 - j < t.length := by omega
  have hx : t.getD (t.length - 1 - j) 0 = t[t.length - 1 - j] := by rw [List.getD_eq_getElem?_getD, List.getElem?_eq_getElem hl]; rfl
  have h4 : t.getD (t.length - 1 - j) 0 < 4 := by rw [hx]; exact h _ (List.getElem_mem hl)
  simp only [symAt, dif_pos h4]
  rw [hx]
  simp [ints, List.getElem?_eq_getElem hl]
/-- The number that has come together. -/
def backV (k : Nat) (pre : List Sym) : Nat := pre.foldl (fun n p => n * k + p.2.1) 0
theorem backV_snoc (k : Nat) (pre : List Sym) (x : Sym) : backV k (pre ++ [x]) = backV k pre * k + x.2.1 := by simp [backV]
theorem backV_all {k : Nat} {t : List Nat} (h : ∀ x ∈ t, x < 4) : ∀ j, j ≤ t.length → backV k (upto (symAt t) j) = valB k (t.drop (t.length - j))
  | 0, _ => by rw [Nat.sub_zero, List.drop_length]; rfl
  | j + 1, hj => by
    rw [upto_succ, backV_snoc, backV_all h j (by omega), drop_val t (t.length - (j + 1))]
    have h1 := (symAt_seq h j (by rw [ints_len]; omega)).2
    rw [ints_len] at h1
    have hl : t.length - 1 - j < t.length := by omega
    have h2 : (symAt t j).2.1 = t.getD (t.length - (j + 1)) 0 := by
      rw [show t.length - (j + 1) = t.length - 1 - j from by omega]
      have h3 : (ints t)[t.length - 1 - j]?.getD 0 = ((t.getD (t.length - 1 - j) 0 : Nat) : Int) := by
        rw [List.getD_eq_getElem?_getD, List.getElem?_eq_getElem hl]; simp [ints, hl]
      dsimp only at h1
      rw [h3] at h1
      omega
    rw [h2, show t.length - (j + 1) + 1 = t.length - j from by omega, Nat.mul_comm, Nat.add_comm]
theorem backV_end {k : Nat} {t : List Nat} (h : ∀ x ∈ t, x < 4) : backV k (upto (symAt t) t.length) = valB k t := by
  rw [backV_all h _ (Nat.le_refl _), Nat.sub_self, List.drop_zero]

theorem backV_lt {k : Nat} (hk : k ≤ 4) (pre : List Sym) : backV k pre < 4 ^ pre.length := by
  have key : ∀ (l : List Sym) (n m : Nat), n < 4 ^ m → l.foldl (fun n p => n * k + p.2.1) n < 4 ^ (m + l.length) := by
    intro l
    induction l with
    | nil => intro n m h; exact h
    | cons x l ih =>
      intro n m h
      rw [List.foldl_cons, List.length_cons, show m + (l.length + 1) = (m + 1) + l.length from by omega]
      refine ih _ _ ?_
      have h1 : n * k ≤ n * 4 := Nat.mul_le_mul_left _ hk
      have h2 := x.2.2
      rw [Nat.pow_succ]
      omega
  have := key pre 0 0 (by decide)
  rwa [Nat.zero_add] at this
theorem backV_len {k : Nat} (hk : k ≤ 4) (pre : List Sym) : (limbs (backV k pre)).length ≤ pre.length :=
  limbs_len_of_lt _ _ (Nat.lt_of_lt_of_le (backV_lt hk pre) (Nat.pow_le_pow_left (by decide) _))
theorem from_n (w : World) (x : Nat) (h : x < 18446744073709551616) : Calls Tryz.prog 77 #[.int .u64 (x : Int)] w fun e w' => New w x e w' := (from_c w x h).mono fun _ _ h => New.of h

set_option maxRecDepth 100000 in
set_option maxHeartbeats 4000000 in
theorem code_good (w : World) (E : Nat → Addr) (hE : Errs w E) (k r : Nat) (A : Option Addr) (n c : Nat) (t : List Nat) (hr : IsRule k r t) (hs : t.length ≤ 256) (hT : Sl w A n ((ints t).map (Value.int .i64))) :
    Calls Tryz.prog 43 #[ruleV k r A n c] w fun e w' => ∃ C cc, e = .returned (.tuple #[.slice C (limbs (valB k t)).length cc, .nilIface]) ∧ w'.ownsRow w.heap.size 103 1 (.slice C (limbs (valB k t)).length cc) (limbs (valB k t)).length ((limbs (valB k t)).map wv) ∧ Below w.heap.size w w' := by
  have hlt : t.length = n := by simpa [ints] using hT.1
  have hk1 := hr.k1
  have hk4 := hr.k4
  rw [hlt] at hs
  have hb0 := (Below.refl w.heap.size w).alloc (Nat.le_refl _) (.cells #[.int .i64 (k : Int), .int .i64 (r : Int), .slice A n c] 26)
  have hr0 := RuleAt.new w (.int .i64 (k : Int)) (.int .i64 (r : Int)) (.slice A n c)
  have hsm := small_c _ E (hE.below hb0) k r A n c (ints t) (hT.below hb0) (by omega)
  have hsn : small k r (ints t) = none := by unfold small; rw [check_rule hr]; simp only; rw [if_neg (by rw [ints_len]; omega)]
  rw [hsn] at hsm
  have HSM := Lib.hid hsm
  obtain ⟨r0, r1, r2, _⟩ := hr0.facts
  clear hsm hsn
  unfold ruleV at *
  refine (callsIn_wide (n := 8)).1 ?_
  refine callsIn_of_wp_marks Tryz.func43 rfl trivial ?_ rfl
  simp only [Tryz.ntmps43, List.size_toArray, List.length_cons, List.length_nil, Nat.reduceAdd, Nat.reduceSub, Array.replicate_succ, Array.replicate_zero, List.push_toArray, List.append_toArray, List.nil_append, List.cons_append]
  gi_wp2
  refine ⟨trivial, callsIn_wide.2 ?_⟩
  refine (HSM.out).mono ?_
  rintro e w1 ⟨v, rfl, rfl, b1⟩
  have hb1 := below_box b1
  have hr1 := hr0.below b1 (by simp)
  obtain ⟨r0, r1, r2, _⟩ := hr1.facts
  have hlt1 := hr1.lt
  clear b1
  gi_wp2
  refine ⟨trivial, (backward_in Fence.wide 7 trivial rfl _ _ _ _).mono ?_⟩
  rintro e w2 ⟨rfl, rfl⟩
  have bN0 := Boxed.new w1 66 (.slice none 0 0)
  have bS0 := Boxed.new (w1.alloc (.cells #[.slice none 0 0] 66)) 24 (.slice A n c)
  rw [World.size_alloc] at bS0
  have hb3 : Below w.heap.size w ((w1.alloc (.cells #[.slice none 0 0] 66)).alloc (.cells #[.slice A n c] 24)) := (hb1.alloc hb1.size _).alloc (by simp; exact Nat.le_succ_of_le hb1.size) _
  have hr3 := (hr1.alloc (.cells #[.slice none 0 0] 66)).alloc (.cells #[.slice A n c] 24)
  have hT3 := hT.below hb3
  have hsq := symAt_seq (t := t) (fun x hx => Nat.lt_of_lt_of_le (hr.sym x hx) hk4)
  gi_wp2
  refine wpIn_rangeFunc_ownG (F := Fence.wide) rfl (by decide) (gf := 102) (lb := #[.pointer (some ⟨w1.heap.size + 1, 0, none⟩)]) rfl trivial (enters_of Tryz.func102 (by kernel_rfl) rfl)
    (back_stops (fun x : Sym => x.1) (fun x : Sym => ((x.2.1 : Nat) : Int)) (symAt t) Fence.wide 7 trivial rfl (by decide) (w1.heap.size + 1) A n c (ints t) _ hT3 hsq (by omega) (by simp) bS0.cell w.heap.size (fun ad e h0 => by
      obtain ⟨ad', x, e', _, hcx⟩ := hT.int_ h0
      rw [e] at e'; cases e'
      have := World.block_lt_of_cell? _ _ hcx
      rwa [block_of_add] at this)) KpB.t (KpB.b hb3.size (by simp)) (Below.refl _ _) (fun _ => rfl)
    (fun pre W => (∃ v, Boxed W w1.heap.size 66 v ∧ W.ownsRow w.heap.size 103 1 v (limbs (backV k pre)).length ((limbs (backV k pre)).map wv) ∧ True) ∧ ((RuleAt W w.heap.size (.int .i64 (k : Int)) (.int .i64 (r : Int)) (.slice A n c) ∧ Boxed W (w1.heap.size + 1) 24 (.slice A n c)) ∧ Below w.heap.size w W))
    (fun _ _ _ => False)
    (OwnFrom.and (Own.from (holdsRow_own w.heap.size w1.heap.size 66 103 1 (fun pre => (limbs (backV k pre)).length) (fun pre => (limbs (backV k pre)).map wv) (fun _ _ => True)) _) (OwnFrom.and (Own.from (fun s X Y row hs hg hr => ⟨?own1, hs.2.kept hg (fun e => ?own2)⟩) _) (ownFrom_below (Nat.le_refl _) hb3.size)))
    (fun _ _ _ _ _ hs _ _ => hs)
    ⟨⟨.slice none 0 0, (bN0.alloc _), World.ownsRow_nil _ _ _ _, trivial⟩, ⟨hr3, bS0⟩, hb3⟩
    (fun x => { tmps := #[.agg #[.int .i64 (k : Int), .int .i64 (r : Int), .slice A n c], .pointer (some ⟨w.heap.size, 0, none⟩), .slice none 0 0, .nilIface, .nilIface, .pointer (some ⟨w1.heap.size, 0, none⟩), undef, .int .i64 ((x.2.1 : Nat) : Int), .agg #[.int .i64 (k : Int), .int .i64 (r : Int), .slice A n c], .nilIface, .nilIface, .bool false, undef, .pointer (some ⟨w.heap.size, 2, none⟩), .slice A n c, .func (.func 102) #[] #[.pointer (some ⟨w1.heap.size + 1, 0, none⟩)], .int .i64 (x.1 : Int), .int .i64 ((x.2.1 : Nat) : Int), undef, undef, undef, undef, undef, undef, undef, undef, undef, undef, undef], defers := [] }) ?assign ?body ?done ?stop
  case own1 => exact (hg.block _ (Array.getElem?_eq_some_iff.1 hs.1).1 (fun e => by obtain ⟨o, ho, hc⟩ := hr _ e.symm; rw [show X.heap[w.heap.size]? = _ from hs.1] at ho; cases ho; cases hc)).trans hs.1
  case own2 => obtain ⟨o, ho, hc⟩ := hr _ e.symm; rw [show X.heap[w1.heap.size + 1]? = _ from hs.2] at ho; cases ho; cases hc
  case assign =>
    intro l x W K hK
    gi_wp2
    exact hK
  case body =>
    rintro l pre ⟨xi, xs, hx4⟩ W ⟨⟨v, bN, hown, _⟩, ⟨hrW, bS⟩, hB⟩ hpl
    rw [ints_len, hlt] at hpl
    obtain ⟨C, cc, rfl, _, _⟩ := own_slice hown
    obtain ⟨e0, e1, e2, _⟩ := hrW.facts
    have hvl := backV_len hk4 pre
    have hnx : backV k (pre ++ [(⟨xi, ⟨xs, hx4⟩⟩ : Sym)]) = backV k pre * k + xs := backV_snoc _ _ _
    obtain ⟨V, hV⟩ : ∃ V, backV k pre = V := ⟨_, rfl⟩
    rw [hV] at hown hnx hvl bN
    have bc := bN.cell
    have bf := bN.frozen
    have hnum := num_own hown
    obtain ⟨LV, hLV⟩ : ∃ LV, (limbs V).length = LV := ⟨_, rfl⟩
    have HVM := Lib.hid (fun (wz : World) (h : Below W.heap.size W wz) (D : Option Addr) (m d : Nat) (h2 : Num wz D m d k) (h3 : m ≤ 1000000000) => mul_n (hnum.below h) h2 (by omega) h3 (r := V * k) rfl)
    rw [hLV] at bc HVM hown hvl bN
    have HF1 := Lib.hid (fun (wz : World) => from_n wz k (by omega))
    have HF2 := Lib.hid (fun (wz : World) => from_n wz xs (by omega))
    have g1 : IntKind.u64.wrap (k : Int) = (k : Int) := IntWalk.u64_in _ (by omega)
    have g2 : IntKind.u64.wrap (xs : Int) = (xs : Int) := IntWalk.u64_in _ (by omega)
    have HFA := Lib.hid (fun (wz : World) (h : Below W.heap.size W wz) => (⟨cell_later h e0, cell_later h bc, Boxed.frozen (show Boxed wz w1.heap.size _ _ from (h.block _ bN.lt).trans bN)⟩ : wz.cell? ⟨w.heap.size, 0, none⟩ = some (.int .i64 (k : Int)) ∧ wz.cell? ⟨w1.heap.size, 0, none⟩ = some (.slice C LV cc) ∧ wz.frozen? ⟨w1.heap.size, 0, none⟩ = false))
    have hlk : (limbs k).length ≤ 1 := limbs_len_of_lt 1 k (by rw [Nat.pow_one]; unfold W32; omega)
    have hlx : (limbs xs).length ≤ 1 := limbs_len_of_lt 1 xs (by rw [Nat.pow_one]; unfold W32; omega)
    have hlvk : (limbs (V * k)).length ≤ LV + 1 := limbs_mul V k LV 1 (by omega) hlk
    clear hnum hLV hV
    have HK1 := Lib.hid (fun (w8 : World) (u : Value) (hb : Below W.heap.size W w8) => ((KeepsOthers.trans ⟨hb.size, fun j o hj _ => (hb.block j (Array.getElem?_eq_some_iff.1 hj).1).trans hj⟩ (KeepsOthers.setCell w8 ⟨w1.heap.size, 0, none⟩ u)).from ((w1.alloc (.cells #[.slice none 0 0] 66)).alloc (.cells #[.slice A n c] 24)).heap.size))
    have HK2 : Hid (∀ (w8 : World) (u : Value) (hb : Below W.heap.size W w8), KpB w.heap.size (w1.heap.size + 1) W (w8.setCell ⟨w1.heap.size, 0, none⟩ u)) := Lib.hid (fun w8 u hb => ⟨(hb.mono hB.size).setCell (p := ⟨w1.heap.size, 0, none⟩) hb1.size u, (Below.heap_setCell _ _ _ _ (by simp)).trans (hb.block _ bS.lt)⟩)
    have HK3 : Hid (∀ (w8 : World) (C8 : Option Addr) (c8 base : Nat) (hb : Below W.heap.size W w8) (ho : w8.ownsRow base 103 1 (.slice C8 (limbs (V * k + xs)).length c8) (limbs (V * k + xs)).length ((limbs (V * k + xs)).map wv)) (hbs : W.heap.size ≤ base),
        (∃ v, Boxed (w8.setCell ⟨w1.heap.size, 0, none⟩ (.slice C8 (limbs (V * k + xs)).length c8)) w1.heap.size 66 v ∧ (w8.setCell ⟨w1.heap.size, 0, none⟩ (.slice C8 (limbs (V * k + xs)).length c8)).ownsRow w.heap.size 103 1 v (limbs (backV k (pre ++ [(⟨xi, ⟨xs, hx4⟩⟩ : Sym)]))).length ((limbs (backV k (pre ++ [(⟨xi, ⟨xs, hx4⟩⟩ : Sym)]))).map wv) ∧ True) ∧
        ((RuleAt (w8.setCell ⟨w1.heap.size, 0, none⟩ (.slice C8 (limbs (V * k + xs)).length c8)) w.heap.size (.int .i64 (k : Int)) (.int .i64 (r : Int)) (.slice A n c) ∧ Boxed (w8.setCell ⟨w1.heap.size, 0, none⟩ (.slice C8 (limbs (V * k + xs)).length c8)) (w1.heap.size + 1) 24 (.slice A n c)) ∧ Below w.heap.size w (w8.setCell ⟨w1.heap.size, 0, none⟩ (.slice C8 (limbs (V * k + xs)).length c8)))) := Lib.hid (fun w8 C8 c8 base hb ho hbs => by
      rw [hnx]
      have hl0 := bN.lt
      have hbN8 : Boxed w8 w1.heap.size 66 (.slice C LV cc) := (hb.block _ bN.lt).trans bN
      refine ⟨⟨_, hbN8.set _, own_base (own_keeps ho (Keeps.of_setCell w8 _ _) (fun g hg e => by have := (ho.lt g hg).1; simp at e; omega)) (by have := hB.size; omega), trivial⟩, ⟨?_, ?_⟩, ?_⟩
      · exact (Below.heap_setCell _ _ _ _ (by simp; omega)).trans ((hb.block _ hrW.lt).trans hrW)
      · exact (Below.heap_setCell _ _ _ _ (by simp)).trans ((hb.block _ bS.lt).trans bS)
      · exact (hB.trans (hb.mono hB.size)).setCell (p := ⟨w1.heap.size, 0, none⟩) hb1.size _)
    clear hnx bN bS hrW hown
    have hd : 1 ≤ 8 - 1 - 1 := by decide
    have hmx : Tryz.prog.follows .mixedOrders = true := by kernel_rfl
    dsimp only
    gi_wp2
    gi_region_with_o (first
      | (refine ⟨trivial, ?_⟩; gi_at_call 70; refine (CallsIn.inRound l (callsIn_wide.2 (add_n (h6n.below b7) h7n (by omega) (by omega) (r := V * k + xs) rfl))).mono ?_; rintro e w8 ⟨C8, c8, rfl, h8n, h8o, b8⟩; have hb8 := hb7.trans (b8.mono hb7.size); obtain ⟨u0, u1, u2⟩ := HFA.out _ hb8)
      | (refine ⟨trivial, ?_⟩; gi_at_call 77; refine (CallsIn.inRound l (callsIn_wide.2 (HF2.out w6))).mono ?_; rintro e w7 ⟨C7, c7, rfl, h7n, _, b7⟩; have hb7 := hb6.trans (b7.mono hb6.size); obtain ⟨u0, u1, u2⟩ := HFA.out _ hb7)
      | (refine ⟨trivial, ?_⟩; gi_at_call 71; refine (CallsIn.inRound l (callsIn_wide.2 (HVM.out w5 hb5 _ _ _ h5n (by omega)))).mono ?_; rintro e w6 ⟨C6, c6, rfl, h6n, _, b6⟩; have hb6 := hb5.trans (b6.mono hb5.size); obtain ⟨u0, u1, u2⟩ := HFA.out _ hb6)
      | (refine ⟨trivial, ?_⟩; gi_at_call 77; refine (CallsIn.inRound l (callsIn_wide.2 (HF1.out _))).mono ?_; rintro e w5 ⟨C5, c5, rfl, h5n, _, b5⟩; have hb5 : Below W.heap.size W w5 := ((Below.refl W.heap.size W).drew).trans b5; obtain ⟨u0, u1, u2⟩ := HFA.out _ hb5))
    all_goals gi_wp2
    all_goals exact ⟨HK1.out _ _ hb8, HK2.out _ _ hb8, HK3.out _ _ _ _ hb8 h8o hb7.size⟩
  case done =>
    rintro D ys W hD rfl ⟨⟨v, bN, hown, _⟩, ⟨hrW, bS⟩, hB⟩ hK
    rw [ints_len] at hown
    rw [backV_end (fun x hx => Nat.lt_of_lt_of_le (hr.sym x hx) hk4)] at hown
    obtain ⟨C, cc, rfl, _, _⟩ := own_slice hown
    have bc := bN.cell
    gi_wp2
    refine ⟨by simp, .inl ⟨_, _, rfl, run_takeDeferred hK, ?_⟩⟩
    have hs1 := hb1.size
    exact ⟨.tuple #[.slice C (limbs (valB k t)).length cc, .nilIface], by simp [results, Tryz.results43, go_sem], C, cc, rfl, ownsRow_putObj hown _ hK rfl, hB.trans (belowK_b (w := w) (Nat.le_refl _) W D _ _ (by simp at hD; omega) hK rfl rfl)⟩
  case stop =>
    rintro D c pre W _ _ h _
    exact h.elim
end Go.Proofs.YtpllojpgpejfmaaGreatDoor

namespace Go.Proofs.YtpllojpgpejfmaaGreatDoor
open Go.RowKit RuleP NatP

namespace RuleP
theorem digN_val {k : Nat} (hk : 1 ≤ k) : ∀ {t : List Nat}, (∀ x ∈ t, x < k) → digN k t.length (valB k t) = t ∧ valB k t < k ^ t.length
  | [], _ => ⟨rfl, by simp [valB]⟩
  | x :: l, h => by
    have hx := h x (by simp)
    obtain ⟨h1, h2⟩ := digN_val hk (t := l) (fun y hy => h y (by simp [hy]))
    have e1 : (x + k * valB k l) % k = x := by rw [Nat.add_mul_mod_self_left, Nat.mod_eq_of_lt hx]
    have e2 : (x + k * valB k l) / k = valB k l := by rw [Nat.add_mul_div_left _ _ (by omega), Nat.div_eq_of_lt hx, Nat.zero_add]
    refine ⟨?_, ?_⟩
    · simp only [List.length_cons, digN, valB]
      rw [e1, e2, h1]
    · simp only [List.length_cons, valB, Nat.pow_succ]
      have : k * (valB k l + 1) ≤ k * k ^ l.length := Nat.mul_le_mul_left _ h2
      rw [Nat.mul_add, Nat.mul_one] at this
      rw [Nat.mul_comm (k ^ l.length)]
      omega
end RuleP

end Go.Proofs.YtpllojpgpejfmaaGreatDoor

namespace Go.Proofs.YtpllojpgpejfmaaGreatDoor
open Go.RowKit

set_option maxHeartbeats 2000000 in
set_option maxRecDepth 1000000 in
theorem trimByte_c (s : ByteArray) (c : UInt8) (w : World) :
    Calls Tryz.prog 103 #[.string s, .int .u8 c.toNat] w fun e w' => e = .returned (.string ⟨(Lib.trimLeftB s.data.toList c).toArray⟩) ∧ w = w' := by
  go_enter Tryz.func103, Tryz.ntmps103
  go_wp2
  go_loop [0] (fun v => ∃ k : Nat, k ≤ s.size ∧ v = .string ⟨(s.data.toList.drop k).toArray⟩ ∧ ∀ (j : Nat) b, j < k → s.data.toList[j]? = some b → b = c) (fun v => Lib.strSize v)
  case atStart => exact ⟨0, Nat.zero_le _, by simp, fun j b hj => absurd hj (Nat.not_lt_zero _)⟩
  case round =>
    obtain ⟨k, hk, rfl, hc⟩ := hrel
    have hts : (⟨(s.data.toList.drop k).toArray⟩ : ByteArray).size = s.size - k := by rw [Lib.size_mk, List.length_drop, ← Lib.size_eq]
    have hb0 : ∀ h, s.data.toList[k]? = some ((⟨(s.data.toList.drop k).toArray⟩ : ByteArray)[0]'h) := by
      intro h
      rw [← Lib.getElem_mk (s.data.toList.drop k) 0 h, List.getElem?_drop]
      rfl
    have hx1 : (⟨(s.data.toList.drop k).toArray⟩ : ByteArray).extract 1 (s.size - k) = ⟨(s.data.toList.drop (k + 1)).toArray⟩ := by
      rw [Lib.extract_mk, List.drop_drop, List.take_of_length_le (by simp; omega)]
    have hK : Lib.Kept (∀ (j : Nat) b, j < k → s.data.toList[j]? = some b → b = c) := hc
    clear hc
    generalize ht : (⟨(s.data.toList.drop k).toArray⟩ : ByteArray) = t at hts hb0 hx1 ⊢
    have hK3 : Lib.Kept ((⟨(s.data.toList.drop k).toArray⟩ : ByteArray) = t) := ht
    clear ht
    have hkl : Lib.Kept (k ≤ s.data.toList.length) := by rw [← Lib.size_eq]; exact hk
    by_cases h0 : 0 < t.size
    · have hbk := hb0 h0
      clear hb0
      by_cases heq : t[0]'h0 = c
      · have heq' : ((t[0]'h0).toNat : Int) = (c.toNat : Int) := by rw [heq]
        have hK2 : Lib.Kept (s.data.toList[k]? = some (t[0]'h0)) := hbk
        clear hbk
        go_wp2
        refine ⟨⟨k + 1, by omega, rfl, fun j b hj hb => ?_⟩, ?_⟩
        · by_cases e : j = k
          · subst e
            have h2 : s.data.toList[j]? = some (t[0]'h0) := hK2
            have h3 : s.data.toList[j]? = some b := by simpa using hb
            rw [h2] at h3
            rw [← Option.some.inj h3, heq]
          · exact hK j b (by omega) (by simpa using hb)
        · rw [Lib.strSize_string, Lib.strSize_string, Lib.size_mk, List.length_drop, ← Lib.size_eq]
          omega
      · have hne' : ¬ ((t[0]'h0).toNat : Int) = (c.toNat : Int) := by
          intro e
          exact heq (UInt8.toNat_inj.1 (by exact_mod_cast e))
        have hbeq : (((t[0]'h0).toNat : Int) == (c.toNat : Int)) = false := by simpa using hne'
        have hK2 : Lib.Kept (s.data.toList[k]? = some (t[0]'h0)) := hbk
        clear hbk
        go_wp2
        go_ret
        refine ⟨?_, rfl⟩
        have ht' : (⟨(s.data.toList.drop k).toArray⟩ : ByteArray) = t := hK3
        show Ending.returned (Value.string t) = _
        rw [Lib.trimLeftB_drop s.data.toList c k hkl hK (fun b hb => by
          have h2 : s.data.toList[k]? = some (t[0]'h0) := hK2
          rw [h2] at hb
          rw [← Option.some.inj hb]
          exact heq), ht']
    · clear hb0
      go_wp2
      go_ret
      refine ⟨?_, rfl⟩
      have ht' : (⟨(s.data.toList.drop k).toArray⟩ : ByteArray) = t := hK3
      show Ending.returned (Value.string t) = _
      rw [Lib.trimLeftB_drop s.data.toList c k hkl hK (fun b hb => by
        have : s.data.toList.length ≤ k := by rw [← Lib.size_eq]; omega
        simp [List.getElem?_eq_none this] at hb), ht']

set_option maxHeartbeats 2000000 in
set_option maxRecDepth 1000000 in
theorem trim0_c (l : List UInt8) (w : World) :
    Calls Tryz.prog 79 #[.string ⟨l.toArray⟩, .string ⟨#[48]⟩] w fun e w' => e = .returned (.string ⟨(l.dropWhile (fun b => b == 48)).toArray⟩) ∧ w = w' := by
  cases l with
  | nil =>
    go_enter Tryz.func79, Tryz.ntmps79
    go_wp2_with fail
    go_ret
    exact ⟨rfl, rfl⟩
  | cons b l =>
    have hne : ((⟨(b :: l).toArray⟩ : ByteArray) == ⟨#[]⟩) = false := by
      show ((b :: l).toArray == #[]) = false
      rfl
    have h48 : (((⟨#[48]⟩ : ByteArray)[0]'(by decide)).toNat : Int) = 48 := rfl
    have hc := fun wz => trimByte_c ⟨(b :: l).toArray⟩ 48 wz
    have HC := Lib.hid hc
    clear hc
    go_enter Tryz.func79, Tryz.ntmps79
    go_wp2_with fail
    refine (HC.out _).mono ?_
    rintro e w' ⟨rfl, rfl⟩
    go_wp2_with fail
    go_ret
    exact ⟨rfl, rfl⟩
end Go.Proofs.YtpllojpgpejfmaaGreatDoor

namespace Go.Proofs.YtpllojpgpejfmaaGreatDoor
open Go.RowKit

def bv (b : UInt8) : Value := .int .u8 (b.toNat : Int)

theorem run_own_string {P : Program} (w : World) (src dst e : TypeId) (hs : P.underlying src = some (.slice e)) (he : P.underlying e = some (.int .u8)) (hd : P.underlying dst = some .string)
    {base : Nat} {A : Option Addr} {n c : Nat} {bs : List UInt8} (h : w.ownsRow base e 1 (.slice A n c) n (bs.map bv)) :
    (convert src dst (.slice A n c)).run P w = .ok (.string ⟨bs.toArray⟩) w := by
  have hl : bs.length = n := by simpa using h.1
  have hsl := Sl.of_own h
  cases A with
  | none =>
    have hb : bs = [] := by
      cases bs with
      | nil => rfl
      | cons b bs =>
        obtain ⟨ad, e', _⟩ := hsl.2 0 (bv b) (by simp)
        cases e'
    subst hb
    rw [run_convert_bytes_nil w src e hs he n c dst hd]
    rfl
  | some ad =>
    have hcells : (loadCells ad n).run P w = .ok ((bs.map (fun b => (b.toNat : Int))).map (Value.int .u8)).toArray w := by
      have := run_loadCells_list (P := P) w ad (bs.map bv) (fun j v hj => by
        obtain ⟨ad', e', hc⟩ := hsl.2 j v hj
        cases e'
        exact hc)
      rw [List.length_map, hl] at this
      rw [this, List.map_map]
      rfl
    rw [run_convert_bytes_string w src dst e _ n c hs he hd, run_bytesToString w _ n c _ hcells, foldl_push_bytes]
    congr 1
    congr 1
    simp only [ByteArray.empty, ByteArray.emptyWithCapacity, List.map_map]
    have : (bs.map ((fun (n : Int) => UInt8.ofNat n.toNat) ∘ fun b => (b.toNat : Int))) = bs := by
      conv => rhs; rw [← List.map_id bs]
      apply List.map_congr_left
      intro b _
      simp
    rw [this]
    simp
    rfl

end Go.Proofs.YtpllojpgpejfmaaGreatDoor
