/- Rules out of rules: forms.Shift. Condition: the error variables hold what E says. -/
import Derived.Test.YtfgnghgmffaepaaDoorFormB
namespace Go.Proofs.YtfgnghgmffaepaaDoor
open Go.RowKit RuleP


set_option maxRecDepth 100000 in
set_option maxHeartbeats 1000000 in
theorem shift_pos (w : World) (E : Nat → Addr) (k ρ : Nat) (h1 : 1 ≤ k) (h2 : k ≤ 4) (hρ : ρ ≤ 3) :
    Calls Tryd.prog 12 #[.int .i64 (k : Int), .int .i64 (ρ : Int)] w (RuleRes w E k ρ (ints (shT k ρ (2 * ρ))) none) := by
  obtain ⟨d, hdd⟩ : ∃ d : Int, (ρ : Int) = d := ⟨_, rfl⟩
  have hd1 : -3 ≤ d := by omega
  have hd2 : d ≤ 3 := by omega
  rw [hdd]
  have hbW := ((Below.refl w.heap.size w).alloc (Nat.le_refl _) (.cells #[.int .i64 d] 3)).alloc (by simp) (.cells #[.int .i64 0, .int .i64 0, .slice none 0 0] 24) |>.alloc (by simp; omega) (.cells #[.int .i64 (ρ : Int)] 3)
  have hd0 : (((w.alloc (.cells #[.int .i64 d] 3)).alloc (.cells #[.int .i64 0, .int .i64 0, .slice none 0 0] 24)).alloc (.cells #[.int .i64 (ρ : Int)] 3)).heap[w.heap.size]? = some (.cells #[.int .i64 d] 3 (0, 0)) :=
    (Below.heap_alloc _ _ _ (by simp; omega)).trans ((Below.heap_alloc _ _ _ (by simp)).trans (heap_new w _))
  have hr1 := (RuleAt.new (w.alloc (.cells #[.int .i64 d] 3)) (.int .i64 0) (.int .i64 0) (.slice none 0 0)).alloc (.cells #[.int .i64 (ρ : Int)] 3)
  have hd2' := heap_new ((w.alloc (.cells #[.int .i64 d] 3)).alloc (.cells #[.int .i64 0, .int .i64 0, .slice none 0 0] 24)) (.cells #[.int .i64 (ρ : Int)] 3)
  simp only [World.size_alloc] at hr1 hd2'
  obtain ⟨W, hW⟩ : ∃ W, ((w.alloc (.cells #[.int .i64 d] 3)).alloc (.cells #[.int .i64 0, .int .i64 0, .slice none 0 0] 24)).alloc (.cells #[.int .i64 (ρ : Int)] 3) = W := ⟨_, rfl⟩
  have hWs : W.heap.size = w.heap.size + 3 := by rw [← hW]; simp
  rw [hW] at hbW hd0 hr1
  have hd3 : W.heap[w.heap.size + 1 + 1]? = some (.cells #[.int .i64 (ρ : Int)] 3 (0, 0)) := by rw [← hW]; exact hd2'
  have hmd := made2_c W k ρ 30 (.pointer (some ⟨w.heap.size + 1 + 1, 0, none⟩)) (.pointer (some ⟨w.heap.size, 0, none⟩)) (fun v => v.getD (2 * ρ) 0) h1 h2 hρ
    (fun v wz => run_enter Tryd.func30 (by kernel_rfl) (by kernel_rfl) _ _)
    (fun wz hz g v hl hs hV => shift1_c wz g (2 * ρ + 1) (w.heap.size + 1 + 1) w.heap.size v (ρ : Int) d (2 * ρ) (by omega) ⟨by omega, by omega⟩ ⟨hd1, hd2⟩ (by omega) (by
      have := (hz.block (w.heap.size + 1 + 1) (by omega)).trans hd3
      rw [cell_of_row wz _ _ _ _ _ this]; rfl) (by
      have := (hz.block w.heap.size (by omega)).trans hd0
      rw [cell_of_row wz _ _ _ _ _ this]; rfl) hV)
  have HMD := Lib.hid hmd
  have HSZ := Lib.hid (size_ok W k ρ h1 h2 hρ)
  have HBW := Lib.hid hbW
  have HR1 := Lib.hid hr1
  have HDD := Lib.hid hdd
  have HWS := Lib.hid hWs
  have c2 : W.cell? ⟨w.heap.size + 1 + 1, 0, none⟩ = some (.int .i64 (ρ : Int)) := by rw [cell_of_row W _ _ _ _ _ hd3]; rfl
  rw [← hdd] at hW
  have HW := Lib.hid hW
  clear hmd hbW hr1 hW hWs hd0 hd2' hd3 hd1 hd2
  rw [← hdd]
  clear hdd
  have q1 : ¬ (ρ : Int) < -(ρ : Int) := by omega
  have q2 : -(ρ : Int) ≤ (ρ : Int) := by omega
  go_enter Tryd.func12, Tryd.ntmps12
  go_wp2_with fail
  rw [HW.out]
  refine (HSZ.out).mono ?_
  rintro e w' ⟨rfl, rfl⟩
  go_wp2_with fail
  refine (HMD.out).mono ?_
  rintro e w4 ⟨g, rfl, hT4, hb4⟩
  obtain ⟨N, hN⟩ : ∃ N, k ^ (2 * ρ + 1) = N := ⟨_, rfl⟩
  rw [hN] at hT4
  rw [hN]
  rw [show tab k (2 * ρ + 1) (fun v => v.getD (2 * ρ) 0) = shT k ρ (2 * ρ) from rfl] at hT4
  have hrx := HR1.out.below hb4 HR1.out.lt
  obtain ⟨hRA, hRS⟩ := res_new (E := E) (K := (k : Int)) (R := (ρ : Int)) hrx hT4 (HBW.out.trans (hb4.mono HBW.out.size)) (show w.heap.size ≤ w.heap.size + 1 by omega) (by rw [HWS.out]; omega)
  have HRA := Lib.hid hRA
  have HRS := Lib.hid hRS
  obtain ⟨d0, d1, d2, f0, f1, f2⟩ := hrx.facts
  clear hRA hRS hrx hT4 hb4 hN
  unfold ruleV
  go_wp2_with fail
  obtain ⟨d0, d1, d2, _⟩ := HRA.out.facts
  exact bodyPost_ret (v := .tuple #[.agg #[.int .i64 (k : Int), .int .i64 (ρ : Int), .slice (some ⟨g, 0, none⟩) N N], .nilIface]) (by simp [results, Tryd.results12, go_sem, d0, d1, d2]) rfl HRS.out


set_option maxRecDepth 100000 in
set_option maxHeartbeats 1000000 in
theorem shift_neg (w : World) (E : Nat → Addr) (k ρ : Nat) (h1 : 1 ≤ k) (h2 : k ≤ 4) (hρ : ρ ≤ 3) (hρ1 : 1 ≤ ρ) :
    Calls Tryd.prog 12 #[.int .i64 (k : Int), .int .i64 (-(ρ : Int))] w (RuleRes w E k ρ (ints (shT k ρ 0)) none) := by
  obtain ⟨d, hdd⟩ : ∃ d : Int, (-(ρ : Int)) = d := ⟨_, rfl⟩
  have hd1 : -3 ≤ d := by omega
  have hd2 : d ≤ 3 := by omega
  rw [hdd]
  have hbW := ((Below.refl w.heap.size w).alloc (Nat.le_refl _) (.cells #[.int .i64 d] 3)).alloc (by simp) (.cells #[.int .i64 0, .int .i64 0, .slice none 0 0] 24) |>.alloc (by simp; omega) (.cells #[.int .i64 (ρ : Int)] 3)
  have hd0 : (((w.alloc (.cells #[.int .i64 d] 3)).alloc (.cells #[.int .i64 0, .int .i64 0, .slice none 0 0] 24)).alloc (.cells #[.int .i64 (ρ : Int)] 3)).heap[w.heap.size]? = some (.cells #[.int .i64 d] 3 (0, 0)) :=
    (Below.heap_alloc _ _ _ (by simp; omega)).trans ((Below.heap_alloc _ _ _ (by simp)).trans (heap_new w _))
  have hr1 := (RuleAt.new (w.alloc (.cells #[.int .i64 d] 3)) (.int .i64 0) (.int .i64 0) (.slice none 0 0)).alloc (.cells #[.int .i64 (ρ : Int)] 3)
  have hd2' := heap_new ((w.alloc (.cells #[.int .i64 d] 3)).alloc (.cells #[.int .i64 0, .int .i64 0, .slice none 0 0] 24)) (.cells #[.int .i64 (ρ : Int)] 3)
  simp only [World.size_alloc] at hr1 hd2'
  obtain ⟨W, hW⟩ : ∃ W, ((w.alloc (.cells #[.int .i64 d] 3)).alloc (.cells #[.int .i64 0, .int .i64 0, .slice none 0 0] 24)).alloc (.cells #[.int .i64 (ρ : Int)] 3) = W := ⟨_, rfl⟩
  have hWs : W.heap.size = w.heap.size + 3 := by rw [← hW]; simp
  rw [hW] at hbW hd0 hr1
  have hd3 : W.heap[w.heap.size + 1 + 1]? = some (.cells #[.int .i64 (ρ : Int)] 3 (0, 0)) := by rw [← hW]; exact hd2'
  have hmd := made2_c W k ρ 30 (.pointer (some ⟨w.heap.size + 1 + 1, 0, none⟩)) (.pointer (some ⟨w.heap.size, 0, none⟩)) (fun v => v.getD 0 0) h1 h2 hρ
    (fun v wz => run_enter Tryd.func30 (by kernel_rfl) (by kernel_rfl) _ _)
    (fun wz hz g v hl hs hV => shift1_c wz g (2 * ρ + 1) (w.heap.size + 1 + 1) w.heap.size v (ρ : Int) d 0 (by omega) ⟨by omega, by omega⟩ ⟨hd1, hd2⟩ (by omega) (by
      have := (hz.block (w.heap.size + 1 + 1) (by omega)).trans hd3
      rw [cell_of_row wz _ _ _ _ _ this]; rfl) (by
      have := (hz.block w.heap.size (by omega)).trans hd0
      rw [cell_of_row wz _ _ _ _ _ this]; rfl) hV)
  have HMD := Lib.hid hmd
  have HSZ := Lib.hid (size_ok W k ρ h1 h2 hρ)
  have HBW := Lib.hid hbW
  have HR1 := Lib.hid hr1
  have HDD := Lib.hid hdd
  have HWS := Lib.hid hWs
  have c2 : W.cell? ⟨w.heap.size + 1 + 1, 0, none⟩ = some (.int .i64 (ρ : Int)) := by rw [cell_of_row W _ _ _ _ _ hd3]; rfl
  rw [← hdd] at hW
  have HW := Lib.hid hW
  clear hmd hbW hr1 hW hWs hd0 hd2' hd3 hd1 hd2
  rw [← hdd]
  clear hdd
  have q1 : -(ρ : Int) < (ρ : Int) := by omega
  have q2 : ¬ (ρ : Int) ≤ -(ρ : Int) := by omega
  have q3 : - -(ρ : Int) = (ρ : Int) := by omega
  go_enter Tryd.func12, Tryd.ntmps12
  go_wp2_with fail
  rw [HW.out]
  refine (HSZ.out).mono ?_
  rintro e w' ⟨rfl, rfl⟩
  go_wp2_with fail
  refine (HMD.out).mono ?_
  rintro e w4 ⟨g, rfl, hT4, hb4⟩
  obtain ⟨N, hN⟩ : ∃ N, k ^ (2 * ρ + 1) = N := ⟨_, rfl⟩
  rw [hN] at hT4
  rw [hN]
  rw [show tab k (2 * ρ + 1) (fun v => v.getD 0 0) = shT k ρ 0 from rfl] at hT4
  have hrx := HR1.out.below hb4 HR1.out.lt
  obtain ⟨hRA, hRS⟩ := res_new (E := E) (K := (k : Int)) (R := (ρ : Int)) hrx hT4 (HBW.out.trans (hb4.mono HBW.out.size)) (show w.heap.size ≤ w.heap.size + 1 by omega) (by rw [HWS.out]; omega)
  have HRA := Lib.hid hRA
  have HRS := Lib.hid hRS
  obtain ⟨d0, d1, d2, f0, f1, f2⟩ := hrx.facts
  clear hRA hRS hrx hT4 hb4 hN
  unfold ruleV
  go_wp2_with fail
  obtain ⟨d0, d1, d2, _⟩ := HRA.out.facts
  exact bodyPost_ret (v := .tuple #[.agg #[.int .i64 (k : Int), .int .i64 (ρ : Int), .slice (some ⟨g, 0, none⟩) N N], .nilIface]) (by simp [results, Tryd.results12, go_sem, d0, d1, d2]) rfl HRS.out


set_option maxRecDepth 100000 in
set_option maxHeartbeats 1000000 in
theorem shift_big (w : World) (E : Nat → Addr) (hE : Errs w E) (k : Int) (ρ : Nat) (h : k < 1 ∨ 4 < k ∨ 3 < ρ) (hρ : ρ ≤ 1000000) :
    Calls Tryd.prog 12 #[.int .i64 k, .int .i64 (ρ : Int)] w (RuleRes w E 0 0 [] (some (3, [(sForms, 0)]))) := by
  have hbW := ((Below.refl w.heap.size w).alloc (Nat.le_refl _) (.cells #[.int .i64 (ρ : Int)] 3)).alloc (by simp) (.cells #[.int .i64 0, .int .i64 0, .slice none 0 0] 24) |>.alloc (by simp; omega) (.cells #[.int .i64 (ρ : Int)] 3)
  have hr1 := (RuleAt.new (w.alloc (.cells #[.int .i64 (ρ : Int)] 3)) (.int .i64 0) (.int .i64 0) (.slice none 0 0)).alloc (.cells #[.int .i64 (ρ : Int)] 3)
  simp only [World.size_alloc] at hr1
  obtain ⟨W, hW⟩ : ∃ W, ((w.alloc (.cells #[.int .i64 (ρ : Int)] 3)).alloc (.cells #[.int .i64 0, .int .i64 0, .slice none 0 0] 24)).alloc (.cells #[.int .i64 (ρ : Int)] 3) = W := ⟨_, rfl⟩
  rw [hW] at hbW hr1
  have HSZ := Lib.hid (size_err W E (hE.below hbW) k (ρ : Int) (by omega))
  have HEE := Lib.hid (fun (wz : World) (hz : Below W.heap.size W wz) => hE.below (hbW.trans (hz.mono hbW.size)))
  have HBW := Lib.hid hbW
  have HR1 := Lib.hid hr1
  have HW := Lib.hid hW
  have q1 : ¬ (ρ : Int) < -(ρ : Int) := by omega
  have q2 : -(ρ : Int) ≤ (ρ : Int) := by omega
  clear hbW hr1 hW hE h
  go_enter Tryd.func12, Tryd.ntmps12
  go_wp2_with fail
  rw [HW.out]
  refine (HSZ.out).mono ?_
  rintro e w1 ⟨b, rfl, he1, hb1⟩
  have HWR := Lib.hid (formsWrong_c w1 E (HEE.out w1 hb1) 0 3 (by decide) (by decide))
  unfold errV
  clear he1
  go_wp2_with fail
  refine (HWR.out).mono ?_
  rintro e w2 ⟨rfl, he2, hb2'⟩
  have hb2 := pure_trans hb1 hb2'
  unfold errV at *
  clear hb2'
  have hrx := HR1.out.below hb2 HR1.out.lt
  obtain ⟨hRA, hRS⟩ := res_err (tl := (3, [(sForms, 0)])) hrx he2 (HBW.out.trans (hb2.mono HBW.out.size)) (show w.heap.size ≤ w.heap.size + 1 by omega)
  have HRA := Lib.hid hRA
  have HRS := Lib.hid hRS
  obtain ⟨d0, d1, d2, f0, f1, f2⟩ := hrx.facts
  clear hRA hRS hrx he2
  go_wp2_with fail
  obtain ⟨d0, d1, d2, _⟩ := HRA.out.facts
  exact bodyPost_ret (v := .tuple #[.agg #[.int .i64 0, .int .i64 0, .slice none 0 0], .iface 67 (.pointer (some ⟨w1.heap.size, 0, none⟩))]) (by simp [results, Tryd.results12, go_sem, d0, d1, d2]) rfl HRS.out
end Go.Proofs.YtfgnghgmffaepaaDoor
