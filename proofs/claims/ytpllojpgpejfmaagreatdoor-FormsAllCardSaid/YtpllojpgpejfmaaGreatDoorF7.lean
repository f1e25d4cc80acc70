/- Rules out of rules: forms.wrong, check, widened, behind, inner. Condition: the tables read from memory; the error variables hold what E says. Rules out of rules: forms.Widen, Mirror, Compose, Shift of any input. Condition: the tables read from memory; the error variables hold what E says. -/
import Derived.Test.YtpllojpgpejfmaaGreatDoorF6
namespace Go.Proofs.YtpllojpgpejfmaaGreatDoor
open Go.RowKit RuleP

def sForms : ByteArray := ⟨#[102, 111, 114, 109, 115]⟩
theorem formsWrong_c (w : World) (E : Nat → Addr) (hE : Errs w E) (at' : Int) (n : Nat) (h1 : 1 ≤ n) (h2 : n ≤ 11) :
    Calls Tryz.prog 45 #[.int .i64 at', .int .i64 (n : Int)] w fun e w' => e = .returned (errV w.heap.size) ∧ ErrIs w' E n [(sForms, at')] (errV w.heap.size) ∧ Below w.heap.size w w' := by
  have HE := Lib.hid hE
  clear hE
  go_enter Tryz.func45, Tryz.ntmps45
  go_wp2_with fail
  refine (new_c w E HE.out sForms at' n h1 h2).mono ?_
  rintro e w' ⟨rfl, rfl⟩
  go_wp2_with fail
  go_ret
  exact ⟨rfl, ⟨w.heap.size, _, rfl, heap_new _ _, rfl⟩, (Below.refl _ _).alloc (Nat.le_refl _) _⟩
/-- What forms tells of what is no rule. -/
def checkF (at' K R : Int) (T : List Int) : Option Tale := under sForms at' (check K R T)
theorem checkF_ok (at' K R : Int) (T : List Int) : TaleOk (checkF at' K R T) := under_ok (check_ok K R T)
theorem checkF_rule {k r : Nat} {t : List Nat} (at' : Int) (h : IsRule k r t) : checkF at' k r (ints t) = none := by
  unfold checkF
  rw [check_rule h]
  rfl
theorem checkF_none {at' K R : Int} {T : List Int} (h : checkF at' K R T = none) : ∃ (k r : Nat) (t : List Nat), K = (k : Int) ∧ R = (r : Int) ∧ T = ints t ∧ IsRule k r t := by
  refine check_none ?_
  unfold checkF under at h
  split at h
  · assumption
  · cases h
set_option maxRecDepth 100000 in
theorem formsCheck_c (w : World) (E : Nat → Addr) (hE : Errs w E) (at' K R : Int) (A : Option Addr) (n c : Nat) (T : List Int) (hT : Sl w A n (T.map (Value.int .i64))) (hm : n ≤ 9223372036854775807) :
    Calls Tryz.prog 37 #[.int .i64 at', ruleV K R A n c] w fun e w' => ∃ v, e = .returned v ∧ ErrV w' E (checkF at' K R T) v ∧ Below w.heap.size w w' := by
  have hb0 := (Below.refl w.heap.size w).alloc (Nat.le_refl _) (.cells #[.int .i64 K, .int .i64 R, .slice A n c] 26)
  have HS := Lib.hid (check_c _ E (hE.below hb0) K R A n c T (hT.below hb0) hm)
  have HB := Lib.hid hb0
  clear hb0 hT hE
  unfold ruleV at *
  go_enter Tryz.func37, Tryz.ntmps37
  go_wp2_with fail
  refine (HS.out).mono ?_
  rintro e w1 ⟨v, rfl, he, hb⟩
  have HU := Lib.hid (under_c w1 E sForms at' _ v he)
  have HB1 := Lib.hid (below_box hb)
  clear he hb
  go_wp2_with fail
  refine (HU.out).mono ?_
  rintro e w2 ⟨v', rfl, he, hb⟩
  have HE := Lib.hid he
  have HB2 := Lib.hid (HB1.out.trans (hb.mono HB1.out.size))
  clear he hb
  go_wp2_with fail
  go_ret
  exact ⟨_, rfl, HE.out, HB2.out⟩

/-- The answer is a rule whose table is new memory. -/
def NewRule (w : World) (k r : Nat) (t : List Nat) (e : Ending) (w' : World) : Prop :=
  ∃ g N, e = .returned (ruleV (k : Int) (r : Int) (some ⟨g, 0, none⟩) N N) ∧ w'.ownsRow w.heap.size 3 1 (.slice (some ⟨g, 0, none⟩) N N) N ((ints t).map (Value.int .i64)) ∧ Below w.heap.size w w'

set_option maxRecDepth 100000 in
set_option maxHeartbeats 1000000 in
theorem widened_c (w : World) (k r d q : Nat) (hq : r + d = q) (A : Option Addr) (n c : Nat) (t : List Nat) (hr : IsRule k r t) (h3 : q ≤ 3) (hT : Sl w A n ((ints t).map (Value.int .i64))) :
    Calls Tryz.prog 57 #[ruleV k r A n c, .int .i64 (q : Int)] w (NewRule w k q (wide k r d t)) := by
  have hb1 := (Below.refl w.heap.size w).alloc (Nat.le_refl _) (.cells #[.int .i64 (k : Int), .int .i64 (r : Int), .slice A n c] 26)
  have hb2 := hb1.alloc (by simp) (.cells #[.int .i64 0, .int .i64 0, .slice none 0 0] 26)
  have hb3 := hb2.alloc (by simp; omega) (.cells #[.int .i64 (d : Int)] 3)
  have hr1 := ((RuleAt.new w (.int .i64 (k : Int)) (.int .i64 (r : Int)) (.slice A n c)).alloc (.cells #[.int .i64 0, .int .i64 0, .slice none 0 0] 26)).alloc (.cells #[.int .i64 (d : Int)] 3)
  have hr2 := (RuleAt.new (w.alloc (.cells #[.int .i64 (k : Int), .int .i64 (r : Int), .slice A n c] 26)) (.int .i64 0) (.int .i64 0) (.slice none 0 0)).alloc (.cells #[.int .i64 (d : Int)] 3)
  have hd3 := heap_new ((w.alloc (.cells #[.int .i64 (k : Int), .int .i64 (r : Int), .slice A n c] 26)).alloc (.cells #[.int .i64 0, .int .i64 0, .slice none 0 0] 26)) (.cells #[.int .i64 (d : Int)] 3)
  simp only [World.size_alloc] at hr2 hd3
  obtain ⟨W, hW⟩ : ∃ W, ((w.alloc (.cells #[.int .i64 (k : Int), .int .i64 (r : Int), .slice A n c] 26)).alloc (.cells #[.int .i64 0, .int .i64 0, .slice none 0 0] 26)).alloc (.cells #[.int .i64 (d : Int)] 3) = W := ⟨_, rfl⟩
  have hWs : W.heap.size = w.heap.size + 3 := by rw [← hW]; simp
  rw [hW] at hr1 hr2 hb3
  have hd3' : W.heap[w.heap.size + 1 + 1]? = some (.cells #[.int .i64 (d : Int)] 3 (0, 0)) := by rw [← hW]; exact hd3
  have hmd := made2_c W k q 86 (.pointer (some ⟨w.heap.size, 0, none⟩)) (.pointer (some ⟨w.heap.size + 1 + 1, 0, none⟩)) (fun v => sy k t (win v d (2 * r + 1))) hr.k1 hr.k4 h3
    (fun v wz => run_enter Tryz.func86 (by kernel_rfl) (by kernel_rfl) _ _)
    (fun wz hz g v hl hs hV => by
      subst hq
      exact widened1_c wz g w.heap.size (w.heap.size + 1 + 1) k r d A n c t v hr h3 hs (hT.below (hb3.trans (hz.mono hb3.size))) (hr1.below hz (by omega)) (by
        have := (hz.block (w.heap.size + 1 + 1) (by omega)).trans hd3'
        rw [cell_of_row wz _ _ _ _ _ this]; rfl) hV)
  have HMD := Lib.hid hmd
  have hqr : (q : Int) - (r : Int) = (d : Int) := by omega
  have HQ := Lib.hid hq
  have HB3 := Lib.hid hb3
  have HR2 := Lib.hid hr2
  have HW := Lib.hid hW
  have HWS := Lib.hid hWs
  have hr3 := hr.r3
  clear hmd hb1 hb2 hb3 hr1 hr2 hd3 hd3' hW hWs hT hr hq
  unfold ruleV
  go_enter Tryz.func57, Tryz.ntmps57
  go_wp2_with fail
  rw [HW.out]
  refine (HMD.out).mono ?_
  rintro e w4 ⟨g, rfl, hT4, hb4⟩
  obtain ⟨N, hN⟩ : ∃ N, k ^ (2 * q + 1) = N := ⟨_, rfl⟩
  rw [hN] at hT4
  rw [hN]
  have hr4 := HR2.out.below hb4 (by rw [HWS.out]; omega)
  obtain ⟨d0, d1, d2, f0, f1, f2⟩ := hr4.facts
  have HR4 := Lib.hid (hr4.set3 (.int .i64 (k : Int)) (.int .i64 (q : Int)) (.slice (some ⟨g, 0, none⟩) N N))
  have hge := (hT4.lt g rfl).1
  rw [HWS.out] at hge
  have HT4 := Lib.hid (own_base (own_keeps hT4 (keeps_set3 w4 (w.heap.size + 1) (.int .i64 (k : Int)) (.int .i64 (q : Int)) (.slice (some ⟨g, 0, none⟩) N N)) (fun g' hg h => by simp [Value.ownBlock] at hg; rw [show g' = w.heap.size + 1 from h] at hg; omega)) (show w.heap.size ≤ W.heap.size by rw [HWS.out]; omega))
  have HB4 := Lib.hid (below_set3 (HB3.out.trans (hb4.mono HB3.out.size)) (show w.heap.size ≤ w.heap.size + 1 by omega) (.int .i64 (k : Int)) (.int .i64 (q : Int)) (.slice (some ⟨g, 0, none⟩) N N))
  have HWD := Lib.hid (show tab k (2 * q + 1) (fun v => sy k t (win v d (2 * r + 1))) = wide k r d t by rw [← HQ.out]; rfl)
  rw [HWD.out] at HT4
  unfold ruleV
  clear hT4 hb4 hr4 hN hge
  go_wp2_with fail
  obtain ⟨d0, d1, d2, f0, f1, f2⟩ := HR4.out.facts
  exact bodyPost_ret (v := .agg #[.int .i64 (k : Int), .int .i64 (q : Int), .slice (some ⟨g, 0, none⟩) N N]) (by simp [results, Tryz.results57, go_sem, d0, d1, d2]) rfl ⟨g, N, rfl, HT4.out, HB4.out⟩

set_option maxRecDepth 100000 in
set_option maxHeartbeats 1000000 in
theorem behindF_c (w : World) (E : Nat → Addr) (hE : Errs w E) (k ra rb q : Nat) (hq : ra + rb = q) (A B : Option Addr) (n c m d : Nat) (ta tb : List Nat) (ha : IsRule k ra ta) (hb : IsRule k rb tb) (h3 : q ≤ 3) (hTa : Sl w A n ((ints ta).map (Value.int .i64))) (hTb : Sl w B m ((ints tb).map (Value.int .i64))) :
    Calls Tryz.prog 61 #[ruleV k ra A n c, ruleV k rb B m d] w (NewRule w k q (comp k ra ta rb tb)) := by
  have hb1 := (Below.refl w.heap.size w).alloc (Nat.le_refl _) (.cells #[.int .i64 (k : Int), .int .i64 (ra : Int), .slice A n c] 26)
  have hb2 := hb1.alloc (by simp) (.cells #[.int .i64 (k : Int), .int .i64 (rb : Int), .slice B m d] 26)
  have hb3 := hb2.alloc (by simp; omega) (.cells #[.int .i64 0, .int .i64 0, .slice none 0 0] 26)
  have hr1 := ((RuleAt.new w (.int .i64 (k : Int)) (.int .i64 (ra : Int)) (.slice A n c)).alloc (.cells #[.int .i64 (k : Int), .int .i64 (rb : Int), .slice B m d] 26)).alloc (.cells #[.int .i64 0, .int .i64 0, .slice none 0 0] 26)
  have hr2 := (RuleAt.new (w.alloc (.cells #[.int .i64 (k : Int), .int .i64 (ra : Int), .slice A n c] 26)) (.int .i64 (k : Int)) (.int .i64 (rb : Int)) (.slice B m d)).alloc (.cells #[.int .i64 0, .int .i64 0, .slice none 0 0] 26)
  have hr3 := RuleAt.new ((w.alloc (.cells #[.int .i64 (k : Int), .int .i64 (ra : Int), .slice A n c] 26)).alloc (.cells #[.int .i64 (k : Int), .int .i64 (rb : Int), .slice B m d] 26)) (.int .i64 0) (.int .i64 0) (.slice none 0 0)
  simp only [World.size_alloc] at hr2 hr3
  obtain ⟨W, hW⟩ : ∃ W, ((w.alloc (.cells #[.int .i64 (k : Int), .int .i64 (ra : Int), .slice A n c] 26)).alloc (.cells #[.int .i64 (k : Int), .int .i64 (rb : Int), .slice B m d] 26)).alloc (.cells #[.int .i64 0, .int .i64 0, .slice none 0 0] 26) = W := ⟨_, rfl⟩
  have hWs : W.heap.size = w.heap.size + 3 := by rw [← hW]; simp
  rw [hW] at hr1 hr2 hr3 hb3
  have hmd := made2_c W k q 88 (.pointer (some ⟨w.heap.size + 1, 0, none⟩)) (.pointer (some ⟨w.heap.size, 0, none⟩)) (fun v => sy k ta (image k rb tb v)) ha.k1 ha.k4 h3
    (fun v wz => run_enter Tryz.func88 (by kernel_rfl) (by kernel_rfl) _ _)
    (fun wz hz g v hl hs hV => by
      subst hq
      have hz' := hb3.trans (hz.mono hb3.size)
      exact behind1_c wz E (hE.below hz') g w.heap.size (w.heap.size + 1) k ra rb A B n c m d ta tb v ha hb h3 hs (hTa.below hz') (hTb.below hz') (hr1.below hz (by omega)) (hr2.below hz (by omega)) hV)
  have HMD := Lib.hid hmd
  have hqr : (ra : Int) + (rb : Int) = (q : Int) := by omega
  have HQ := Lib.hid hq
  have HB3 := Lib.hid hb3
  have HR2 := Lib.hid hr3
  have HW := Lib.hid hW
  have HWS := Lib.hid hWs
  have hra := ha.r3
  have hrb := hb.r3
  clear hmd hb1 hb2 hb3 hr1 hr2 hr3 hW hWs hTa hTb ha hb hq hE
  unfold ruleV
  go_enter Tryz.func61, Tryz.ntmps61
  go_wp2_with fail
  rw [HW.out]
  refine (HMD.out).mono ?_
  rintro e w4 ⟨g, rfl, hT4, hb4⟩
  obtain ⟨N, hN⟩ : ∃ N, k ^ (2 * q + 1) = N := ⟨_, rfl⟩
  rw [hN] at hT4
  rw [hN]
  have hr4 := HR2.out.below hb4 (by rw [HWS.out]; omega)
  obtain ⟨d0, d1, d2, f0, f1, f2⟩ := hr4.facts
  have HR4 := Lib.hid (hr4.set3 (.int .i64 (k : Int)) (.int .i64 (q : Int)) (.slice (some ⟨g, 0, none⟩) N N))
  have hge := (hT4.lt g rfl).1
  rw [HWS.out] at hge
  have HT4 := Lib.hid (own_base (own_keeps hT4 (keeps_set3 w4 (w.heap.size + 1 + 1) (.int .i64 (k : Int)) (.int .i64 (q : Int)) (.slice (some ⟨g, 0, none⟩) N N)) (fun g' hg h => by simp [Value.ownBlock] at hg; rw [show g' = w.heap.size + 1 + 1 from h] at hg; omega)) (show w.heap.size ≤ W.heap.size by rw [HWS.out]; omega))
  have HB4 := Lib.hid (below_set3 (HB3.out.trans (hb4.mono HB3.out.size)) (show w.heap.size ≤ w.heap.size + 1 + 1 by omega) (.int .i64 (k : Int)) (.int .i64 (q : Int)) (.slice (some ⟨g, 0, none⟩) N N))
  have HWD := Lib.hid (show tab k (2 * q + 1) (fun v => sy k ta (image k rb tb v)) = comp k ra ta rb tb by rw [← HQ.out]; rfl)
  rw [HWD.out] at HT4
  unfold ruleV
  clear hT4 hb4 hr4 hN hge
  go_wp2_with fail
  obtain ⟨d0, d1, d2, f0, f1, f2⟩ := HR4.out.facts
  exact bodyPost_ret (v := .agg #[.int .i64 (k : Int), .int .i64 (q : Int), .slice (some ⟨g, 0, none⟩) N N]) (by simp [results, Tryz.results61, go_sem, d0, d1, d2]) rfl ⟨g, N, rfl, HT4.out, HB4.out⟩

set_option maxRecDepth 100000 in
set_option maxHeartbeats 1000000 in
theorem inner_zero (w : World) (k : Nat) (A : Option Addr) (n c : Nat) :
    Calls Tryz.prog 59 #[ruleV k 0 A n c] w fun e w' => e = .returned (.tuple #[ruleV k 0 A n c, .bool false]) ∧ Below w.heap.size w w' := by
  have hb1 := (Below.refl w.heap.size w).alloc (Nat.le_refl _) (.cells #[.int .i64 (k : Int), .int .i64 0, .slice A n c] 26)
  have hb2 := hb1.alloc (by simp) (.cells #[.int .i64 0, .int .i64 0, .slice none 0 0] 26)
  unfold ruleV
  go_enter Tryz.func59, Tryz.ntmps59
  go_wp2_with fail
  exact bodyPost_ret (v := .tuple #[.agg #[.int .i64 (k : Int), .int .i64 0, .slice A n c], .bool false]) (by simp [results, Tryz.results59, go_sem]) rfl ⟨rfl, ((Below.refl w.heap.size w).alloc (Nat.le_refl _) _).alloc (by simp) _⟩

theorem run_field2 (x y z : Value) (w : World) : (Instr.field 26 (.agg #[x, y, z]) 2).run Tryz.prog w = .ok z w := by kernel_rfl
set_option maxRecDepth 100000 in
set_option maxHeartbeats 2000000 in
theorem inner_c (w : World) (k r q : Nat) (hq : r + 1 = q) (A : Option Addr) (n c : Nat) (t : List Nat) (hr : IsRule k q t) (hT : Sl w A n ((ints t).map (Value.int .i64))) :
    Calls Tryz.prog 59 #[ruleV k q A n c] w fun e w' => ∃ g N, e = .returned (.tuple #[ruleV (k : Int) (r : Int) (some ⟨g, 0, none⟩) N N, .bool (decide (wide k r 1 (inn k r t) = t))]) ∧
      w'.ownsRow w.heap.size 3 1 (.slice (some ⟨g, 0, none⟩) N N) N ((ints (inn k r t)).map (Value.int .i64)) ∧ Below w.heap.size w w' := by
  have hq3 := hr.r3
  have hn : t.length = n := by simpa [ints] using hT.1
  have hn16 := hr.le
  rw [hn] at hn16
  have hin : IsRule k r (inn k r t) := inn_rule (by rw [hq]; exact hr)
  have hb1 := (Below.refl w.heap.size w).alloc (Nat.le_refl _) (.cells #[.int .i64 (k : Int), .int .i64 (q : Int), .slice A n c] 26)
  have hb2 := hb1.alloc (by simp) (.cells #[.int .i64 0, .int .i64 0, .slice none 0 0] 26)
  have hr1 := (RuleAt.new w (.int .i64 (k : Int)) (.int .i64 (q : Int)) (.slice A n c)).alloc (.cells #[.int .i64 0, .int .i64 0, .slice none 0 0] 26)
  have hr2 := RuleAt.new (w.alloc (.cells #[.int .i64 (k : Int), .int .i64 (q : Int), .slice A n c] 26)) (.int .i64 0) (.int .i64 0) (.slice none 0 0)
  simp only [World.size_alloc] at hr2
  obtain ⟨W, hW⟩ : ∃ W, (w.alloc (.cells #[.int .i64 (k : Int), .int .i64 (q : Int), .slice A n c] 26)).alloc (.cells #[.int .i64 0, .int .i64 0, .slice none 0 0] 26) = W := ⟨_, rfl⟩
  have hWs : W.heap.size = w.heap.size + 2 := by rw [← hW]; simp
  rw [hW] at hr1 hr2 hb2
  have hmd := made1_c W k r 87 (.pointer (some ⟨w.heap.size, 0, none⟩)) (fun v => sy k t (0 :: (v ++ [0]))) hr.k1 hr.k4 (by omega)
    (fun v wz => run_enter Tryz.func87 (by kernel_rfl) (by kernel_rfl) _ _)
    (fun wz hz g v hl hs hV => inner1_c wz g w.heap.size k r q hq A n c t v hr hs (hT.below (hb2.trans (hz.mono hb2.size))) (hr1.below hz (by omega)) hV)
  have HMD := Lib.hid hmd
  have HTT := Lib.hid (fun (wz : World) (hz : Below W.heap.size W wz) => hT.below (hb2.trans (hz.mono hb2.size)))
  have hqr : (q : Int) - 1 = (r : Int) := by omega
  have hq0 : ((q : Int) == 0) = false := by simp; omega
  have HQ := Lib.hid hq
  have HB2 := Lib.hid hb2
  have HR1 := Lib.hid hr1
  have HR2 := Lib.hid hr2
  have HW := Lib.hid hW
  have HWS := Lib.hid hWs
  have HIN := Lib.hid hin
  clear hmd hb1 hb2 hr1 hr2 hW hWs hT hr hq hn hin
  unfold ruleV
  go_enter Tryz.func59, Tryz.ntmps59
  go_wp2_with fail
  rw [HW.out]
  refine (HMD.out).mono ?_
  rintro e w4 ⟨g, rfl, hT4, hb4⟩
  obtain ⟨N, hN⟩ : ∃ N, k ^ (2 * r + 1) = N := ⟨_, rfl⟩
  rw [hN] at hT4
  rw [hN]
  rw [show tab k (2 * r + 1) (fun v => sy k t (0 :: (v ++ [0]))) = inn k r t from rfl] at hT4
  unfold ruleV
  have b5 := (Below.refl w4.heap.size w4).alloc (Nat.le_refl _) (.cells #[.int .i64 (k : Int), .int .i64 (r : Int), .slice (some ⟨g, 0, none⟩) N N] 26)
  have hi5 := RuleAt.new w4 (.int .i64 (k : Int)) (.int .i64 (r : Int)) (.slice (some ⟨g, 0, none⟩) N N)
  obtain ⟨w5, hw5⟩ : ∃ w5, w4.alloc (.cells #[.int .i64 (k : Int), .int .i64 (r : Int), .slice (some ⟨g, 0, none⟩) N N] 26) = w5 := ⟨_, rfl⟩
  rw [hw5] at b5 hi5
  have HW5 := Lib.hid hw5
  have z5 := hb4.trans (b5.mono hb4.size)
  have s4 := hb4.size
  rw [HWS.out] at s4
  have hT5 := own_below hT4 b5
  have hi5l := hi5.lt
  have hN16 : N ≤ 16384 := by
    have h1 := (Sl.of_own hT4).1
    rw [List.length_map, ints_len] at h1
    have h2 := HIN.out.le
    omega
  obtain ⟨gi, hgi⟩ : ∃ gi, w4.heap.size = gi := ⟨_, rfl⟩
  rw [hgi] at hi5 hi5l s4
  have HGI := Lib.hid hgi
  obtain ⟨i0, i1, i2, _⟩ := hi5.facts
  obtain ⟨r0, r1, r2, _⟩ := (HR1.out.below z5 HR1.out.lt).facts
  have hd5 := HR2.out.below z5 (by rw [HWS.out]; omega)
  have hwd := widened_c w5.drew k r 1 q HQ.out (some ⟨g, 0, none⟩) N N (inn k r t) HIN.out hq3 (Sl.of_own hT5)
  unfold ruleV at hwd
  have HWD := Lib.hid hwd
  have HEQ := Lib.hid (fun (wz : World) (G M : Nat) (hz : Below w5.heap.size w5 wz) (hS : Sl wz (some ⟨G, 0, none⟩) M ((ints (wide k r 1 (inn k r t))).map (Value.int .i64))) (hM : M ≤ 9223372036854775807) => equal_c wz (some ⟨G, 0, none⟩) A M n M c (ints (wide k r 1 (inn k r t))) (ints t) hS (HTT.out wz (z5.trans (hz.mono z5.size))) hM (by omega))
  have HD5 := Lib.hid (fun (wz : World) (hz : Below w5.heap.size w5 wz) => (hd5.below hz (by have := hi5l; omega)).facts)
  have HD6 := Lib.hid (fun (wz : World) (hz : Below w5.heap.size w5 wz) => hd5.below hz (by have := hi5l; omega))
  have n1 : ¬ gi = w.heap.size + 1 := by omega
  have n2 : ¬ w.heap.size + 1 = gi := by omega
  have HT5 := Lib.hid hT5
  have HB5 := Lib.hid (HB2.out.trans (z5.mono HB2.out.size))
  clear hT4 hb4 hN hw5 hgi hd5 hwd hT5 b5 z5 hi5 hi5l
  go_wp2_with fail
  rw [HW5.out, HGI.out]
  have hfld : ∀ (v : Value) (wz : World), (Instr.field 26 (.agg #[.int .i64 (k : Int), .int .i64 (q : Int), v]) 2).run Tryz.prog wz = .ok v wz := fun v wz => run_field2 _ _ v wz
  go_region_held3 (fun w' => w'.cell? ⟨gi, 0, none⟩ = some (.int .i64 (k : Int)) ∧ w'.cell? ⟨gi, 1, none⟩ = some (.int .i64 (r : Int)) ∧ w'.cell? ⟨gi, 2, none⟩ = some (.slice (some ⟨g, 0, none⟩) N N) ∧ w'.cell? ⟨w.heap.size, 1, none⟩ = some (.int .i64 (q : Int)) ∧ w'.cell? ⟨w.heap.size, 2, none⟩ = some (.slice A n c))
    (first | go_keep)
    (first
      | (go_at_call 64
         refine (HEQ.out w6 g6 N6 hb6' (Sl.of_own hT6) hN6).mono ?_
         rintro e w7 ⟨rfl, hb7⟩
         have y0 := cell_later hb7 x0
         have y1 := cell_later hb7 x1
         have y2 := cell_later hb7 x2
         have y3 := cell_later hb7 x3
         have y4 := cell_later hb7 x4
         have hb57 := hb6'.trans (hb7.mono hb6'.size)
         obtain ⟨d0, d1, d2, f0, f1, f2⟩ := HD5.out w7 hb57)
      | (go_at_call 57
         refine (HWD.out).mono ?_
         rintro e w6 ⟨g6, N6, rfl, hT6, hb6⟩
         unfold ruleV
         have x0 := cell_later hb6 i0
         have x1 := cell_later hb6 i1
         have x2 := cell_later hb6 i2
         have x3 := cell_later hb6 r1
         have x4 := cell_later hb6 r2
         have hb6' : Below w5.heap.size w5 w6 := (Below.refl _ _).drew.trans hb6
         have hN6 : N6 ≤ 9223372036854775807 := Nat.le_trans (own_le hT6).1 (own_le hT6).2))
  have hdd : decide (ints (wide k r 1 (inn k r t)) = ints t) = decide (wide k r 1 (inn k r t) = t) := by
    rw [decide_eq_decide]
    exact ⟨ints_inj, fun e => by rw [e]⟩
  have hd7 := HD6.out w7 hb57
  have hR7 := hd7.set3 (.int .i64 (k : Int)) (.int .i64 (r : Int)) (.slice (some ⟨g, 0, none⟩) N N)
  have hT7 := own_below HT5.out hb57
  have hge := (hT7.lt g rfl).1
  rw [HWS.out] at hge
  have HT7 := Lib.hid (own_base (own_keeps hT7 (keeps_set3 w7 (w.heap.size + 1) (.int .i64 (k : Int)) (.int .i64 (r : Int)) (.slice (some ⟨g, 0, none⟩) N N)) (fun g' hg h => by simp [Value.ownBlock] at hg; rw [show g' = w.heap.size + 1 from h] at hg; omega)) (show w.heap.size ≤ W.heap.size by rw [HWS.out]; omega))
  have HB7 := Lib.hid (below_set3 (HB5.out.trans (hb57.mono HB5.out.size)) (show w.heap.size ≤ w.heap.size + 1 by omega) (.int .i64 (k : Int)) (.int .i64 (r : Int)) (.slice (some ⟨g, 0, none⟩) N N))
  obtain ⟨d0, d1, d2, _⟩ := hR7.facts
  go_wp2_with fail
  exact bodyPost_ret (v := .tuple #[.agg #[.int .i64 (k : Int), .int .i64 (r : Int), .slice (some ⟨g, 0, none⟩) N N], .bool (decide (ints (wide k r 1 (inn k r t)) = ints t))]) (by simp [results, Tryz.results59, go_sem, d0, d1, d2]) rfl ⟨g, N, by rw [hdd], HT7.out, HB7.out⟩
end Go.Proofs.YtpllojpgpejfmaaGreatDoor

namespace Go.Proofs.YtpllojpgpejfmaaGreatDoor
open Go.RowKit RuleP

/-- The answer is a rule whose table is new memory, and an error or none. -/
def RuleRes (w : World) (E : Nat → Addr) (K R : Int) (T : List Int) (tl : Option Tale) (e : Ending) (w' : World) : Prop :=
  ∃ (C : Option Addr) (N cc : Nat) (v : Value), e = .returned (.tuple #[ruleV K R C N cc, v]) ∧ w'.ownsRow w.heap.size 3 1 (.slice C N cc) N (T.map (Value.int .i64)) ∧ ErrV w' E tl v ∧ Below w.heap.size w w'

/-- Behind the store of no rule beside an error. -/
theorem res_err {w0 w1 : World} {E : Nat → Addr} {g : Nat} {tl : Tale} {v x0 x1 x2 : Value} (hR : RuleAt w1 g x0 x1 x2) (he : ErrIs w1 E tl.1 tl.2 v) (hb : Below w0.heap.size w0 w1) (hg : w0.heap.size ≤ g) :
    RuleAt (((w1.setCell ⟨g, 0, none⟩ (.int .i64 0)).setCell ⟨g, 1, none⟩ (.int .i64 0)).setCell ⟨g, 2, none⟩ (.slice none 0 0)) g (.int .i64 0) (.int .i64 0) (.slice none 0 0) ∧
    RuleRes w0 E 0 0 [] (some tl) (.returned (.tuple #[ruleV 0 0 none 0 0, v])) (((w1.setCell ⟨g, 0, none⟩ (.int .i64 0)).setCell ⟨g, 1, none⟩ (.int .i64 0)).setCell ⟨g, 2, none⟩ (.slice none 0 0)) :=
  ⟨hR.set3 _ _ _, none, 0, 0, v, rfl, ⟨rfl, .inl ⟨rfl, rfl⟩⟩, ErrIs.set3 he hR _ _ _, below_set3 hb hg _ _ _⟩
/-- Behind the store of a rule. -/
theorem res_new {w0 w1 : World} {E : Nat → Addr} {B g gt N : Nat} {K R : Int} {T : List Int} {x0 x1 x2 : Value} (hR : RuleAt w1 g x0 x1 x2) (hT : w1.ownsRow B 3 1 (.slice (some ⟨gt, 0, none⟩) N N) N (T.map (Value.int .i64))) (hb : Below w0.heap.size w0 w1) (hg : w0.heap.size ≤ g) (hB : w0.heap.size ≤ B) :
    RuleAt (((w1.setCell ⟨g, 0, none⟩ (.int .i64 K)).setCell ⟨g, 1, none⟩ (.int .i64 R)).setCell ⟨g, 2, none⟩ (.slice (some ⟨gt, 0, none⟩) N N)) g (.int .i64 K) (.int .i64 R) (.slice (some ⟨gt, 0, none⟩) N N) ∧
    RuleRes w0 E K R T none (.returned (.tuple #[ruleV K R (some ⟨gt, 0, none⟩) N N, .nilIface])) (((w1.setCell ⟨g, 0, none⟩ (.int .i64 K)).setCell ⟨g, 1, none⟩ (.int .i64 R)).setCell ⟨g, 2, none⟩ (.slice (some ⟨gt, 0, none⟩) N N)) :=
  ⟨hR.set3 _ _ _, _, N, N, .nilIface, rfl, own_base (own_set3 hT hR (by decide) _ _ _) hB, rfl, below_set3 hb hg _ _ _⟩

set_option maxRecDepth 100000 in
set_option maxHeartbeats 1000000 in
theorem widen_bad (w : World) (E : Nat → Addr) (hE : Errs w E) (K R : Int) (A : Option Addr) (n c : Nat) (T : List Int) (hT : Sl w A n (T.map (Value.int .i64))) (hm : n ≤ 9223372036854775807) (q : Int) (tl : Tale) (h : checkF 0 K R T = some tl) :
    Calls Tryz.prog 18 #[ruleV K R A n c, .int .i64 q] w (RuleRes w E 0 0 [] (some tl)) := by
  have hbW := (((Below.refl w.heap.size w).alloc (Nat.le_refl _) (.cells #[.int .i64 K, .int .i64 R, .slice A n c] 26)).alloc (by simp) (.cells #[.int .i64 0, .int .i64 0, .slice none 0 0] 26))
  have hr0 := ((RuleAt.new (w) (.int .i64 K) (.int .i64 R) (.slice A n c)).alloc (.cells #[.int .i64 0, .int .i64 0, .slice none 0 0] 26))
  have hr1 := (RuleAt.new (w.alloc (.cells #[.int .i64 K, .int .i64 R, .slice A n c] 26)) (.int .i64 0) (.int .i64 0) (.slice none 0 0))
  simp only [World.size_alloc] at hr1
  obtain ⟨W, hW⟩ : ∃ W, (w.alloc (.cells #[.int .i64 K, .int .i64 R, .slice A n c] 26)).alloc (.cells #[.int .i64 0, .int .i64 0, .slice none 0 0] 26) = W := ⟨_, rfl⟩
  have hWs : W.heap.size = w.heap.size + 2 := by rw [← hW]; simp
  rw [hW] at hbW hr0 hr1
  have HR0 := Lib.hid hr0
  obtain ⟨a0, b0, c0, _⟩ := hr0.facts
  have HR1 := Lib.hid hr1
  obtain ⟨a1, b1, c1, _⟩ := hr1.facts
  have HW := Lib.hid hW
  have HWS := Lib.hid hWs
  have HBW := Lib.hid hbW
  have HC1 := Lib.hid (formsCheck_c W E (hE.below (HBW.out)) 0 K R A n c T (hT.below (HBW.out)) (by omega))
  rw [h] at HC1
  clear hr0 hr1 hW hWs hbW hT hE h
  unfold ruleV at *
  go_enter Tryz.func18, Tryz.ntmps18
  go_wp2_with fail
  rw [HW.out]
  refine (HC1.out).mono ?_
  rintro e w1 ⟨v1, rfl, he1, hb1⟩
  have he1' : ErrIs w1 E tl.1 tl.2 v1 := he1
  obtain ⟨u, p, rfl⟩ := he1'.iface
  clear he1
  have hrx := HR1.out.below hb1 HR1.out.lt
  obtain ⟨hRA, hRS⟩ := res_err hrx he1' (HBW.out.trans (hb1.mono HBW.out.size)) (show w.heap.size ≤ w.heap.size + 1 by omega)
  have HRA := Lib.hid hRA
  have HRS := Lib.hid hRS
  obtain ⟨d0, d1, d2, f0, f1, f2⟩ := hrx.facts
  clear hRA hRS hrx he1'
  go_wp2_with fail
  obtain ⟨d0, d1, d2, _⟩ := HRA.out.facts
  exact bodyPost_ret (v := .tuple #[.agg #[.int .i64 0, .int .i64 0, .slice none 0 0], .iface u p]) (by simp [results, Tryz.results18, go_sem, d0, d1, d2]) rfl HRS.out
set_option maxRecDepth 100000 in
set_option maxHeartbeats 1000000 in
theorem mirror_bad (w : World) (E : Nat → Addr) (hE : Errs w E) (K R : Int) (A : Option Addr) (n c : Nat) (T : List Int) (hT : Sl w A n (T.map (Value.int .i64))) (hm : n ≤ 9223372036854775807) (tl : Tale) (h : checkF 0 K R T = some tl) :
    Calls Tryz.prog 11 #[ruleV K R A n c] w (RuleRes w E 0 0 [] (some tl)) := by
  have hbW := (((Below.refl w.heap.size w).alloc (Nat.le_refl _) (.cells #[.int .i64 K, .int .i64 R, .slice A n c] 26)).alloc (by simp) (.cells #[.int .i64 0, .int .i64 0, .slice none 0 0] 26))
  have hr0 := ((RuleAt.new (w) (.int .i64 K) (.int .i64 R) (.slice A n c)).alloc (.cells #[.int .i64 0, .int .i64 0, .slice none 0 0] 26))
  have hr1 := (RuleAt.new (w.alloc (.cells #[.int .i64 K, .int .i64 R, .slice A n c] 26)) (.int .i64 0) (.int .i64 0) (.slice none 0 0))
  simp only [World.size_alloc] at hr1
  obtain ⟨W, hW⟩ : ∃ W, (w.alloc (.cells #[.int .i64 K, .int .i64 R, .slice A n c] 26)).alloc (.cells #[.int .i64 0, .int .i64 0, .slice none 0 0] 26) = W := ⟨_, rfl⟩
  have hWs : W.heap.size = w.heap.size + 2 := by rw [← hW]; simp
  rw [hW] at hbW hr0 hr1
  have HR0 := Lib.hid hr0
  obtain ⟨a0, b0, c0, _⟩ := hr0.facts
  have HR1 := Lib.hid hr1
  obtain ⟨a1, b1, c1, _⟩ := hr1.facts
  have HW := Lib.hid hW
  have HWS := Lib.hid hWs
  have HBW := Lib.hid hbW
  have HC1 := Lib.hid (formsCheck_c W E (hE.below (HBW.out)) 0 K R A n c T (hT.below (HBW.out)) (by omega))
  rw [h] at HC1
  clear hr0 hr1 hW hWs hbW hT hE h
  unfold ruleV at *
  go_enter Tryz.func11, Tryz.ntmps11
  go_wp2_with fail
  rw [HW.out]
  refine (HC1.out).mono ?_
  rintro e w1 ⟨v1, rfl, he1, hb1⟩
  have he1' : ErrIs w1 E tl.1 tl.2 v1 := he1
  obtain ⟨u, p, rfl⟩ := he1'.iface
  clear he1
  have hrx := HR1.out.below hb1 HR1.out.lt
  obtain ⟨hRA, hRS⟩ := res_err hrx he1' (HBW.out.trans (hb1.mono HBW.out.size)) (show w.heap.size ≤ w.heap.size + 1 by omega)
  have HRA := Lib.hid hRA
  have HRS := Lib.hid hRS
  obtain ⟨d0, d1, d2, f0, f1, f2⟩ := hrx.facts
  clear hRA hRS hrx he1'
  go_wp2_with fail
  obtain ⟨d0, d1, d2, _⟩ := HRA.out.facts
  exact bodyPost_ret (v := .tuple #[.agg #[.int .i64 0, .int .i64 0, .slice none 0 0], .iface u p]) (by simp [results, Tryz.results11, go_sem, d0, d1, d2]) rfl HRS.out
set_option maxRecDepth 100000 in
set_option maxHeartbeats 1000000 in
theorem narrow_bad (w : World) (E : Nat → Addr) (hE : Errs w E) (K R : Int) (A : Option Addr) (n c : Nat) (T : List Int) (hT : Sl w A n (T.map (Value.int .i64))) (hm : n ≤ 9223372036854775807) (tl : Tale) (h : checkF 0 K R T = some tl) :
    Calls Tryz.prog 20 #[ruleV K R A n c] w (RuleRes w E 0 0 [] (some tl)) := by
  have hbW := (((Below.refl w.heap.size w).alloc (Nat.le_refl _) (.cells #[.int .i64 K, .int .i64 R, .slice A n c] 26)).alloc (by simp) (.cells #[.int .i64 0, .int .i64 0, .slice none 0 0] 26))
  have hr0 := ((RuleAt.new (w) (.int .i64 K) (.int .i64 R) (.slice A n c)).alloc (.cells #[.int .i64 0, .int .i64 0, .slice none 0 0] 26))
  have hr1 := (RuleAt.new (w.alloc (.cells #[.int .i64 K, .int .i64 R, .slice A n c] 26)) (.int .i64 0) (.int .i64 0) (.slice none 0 0))
  simp only [World.size_alloc] at hr1
  obtain ⟨W, hW⟩ : ∃ W, (w.alloc (.cells #[.int .i64 K, .int .i64 R, .slice A n c] 26)).alloc (.cells #[.int .i64 0, .int .i64 0, .slice none 0 0] 26) = W := ⟨_, rfl⟩
  have hWs : W.heap.size = w.heap.size + 2 := by rw [← hW]; simp
  rw [hW] at hbW hr0 hr1
  have HR0 := Lib.hid hr0
  obtain ⟨a0, b0, c0, _⟩ := hr0.facts
  have HR1 := Lib.hid hr1
  obtain ⟨a1, b1, c1, _⟩ := hr1.facts
  have HW := Lib.hid hW
  have HWS := Lib.hid hWs
  have HBW := Lib.hid hbW
  have HC1 := Lib.hid (formsCheck_c W E (hE.below (HBW.out)) 0 K R A n c T (hT.below (HBW.out)) (by omega))
  rw [h] at HC1
  clear hr0 hr1 hW hWs hbW hT hE h
  unfold ruleV at *
  go_enter Tryz.func20, Tryz.ntmps20
  go_wp2_with fail
  rw [HW.out]
  refine (HC1.out).mono ?_
  rintro e w1 ⟨v1, rfl, he1, hb1⟩
  have he1' : ErrIs w1 E tl.1 tl.2 v1 := he1
  obtain ⟨u, p, rfl⟩ := he1'.iface
  clear he1
  have hrx := HR1.out.below hb1 HR1.out.lt
  obtain ⟨hRA, hRS⟩ := res_err hrx he1' (HBW.out.trans (hb1.mono HBW.out.size)) (show w.heap.size ≤ w.heap.size + 1 by omega)
  have HRA := Lib.hid hRA
  have HRS := Lib.hid hRS
  obtain ⟨d0, d1, d2, f0, f1, f2⟩ := hrx.facts
  clear hRA hRS hrx he1'
  go_wp2_with fail
  obtain ⟨d0, d1, d2, _⟩ := HRA.out.facts
  exact bodyPost_ret (v := .tuple #[.agg #[.int .i64 0, .int .i64 0, .slice none 0 0], .iface u p]) (by simp [results, Tryz.results20, go_sem, d0, d1, d2]) rfl HRS.out
set_option maxRecDepth 100000 in
set_option maxHeartbeats 1000000 in
theorem power_bad (w : World) (E : Nat → Addr) (hE : Errs w E) (K R : Int) (A : Option Addr) (n c : Nat) (T : List Int) (hT : Sl w A n (T.map (Value.int .i64))) (hm : n ≤ 9223372036854775807) (q : Int) (tl : Tale) (h : checkF 0 K R T = some tl) :
    Calls Tryz.prog 24 #[ruleV K R A n c, .int .i64 q] w (RuleRes w E 0 0 [] (some tl)) := by
  have hbW := (((Below.refl w.heap.size w).alloc (Nat.le_refl _) (.cells #[.int .i64 K, .int .i64 R, .slice A n c] 26)).alloc (by simp) (.cells #[.int .i64 0, .int .i64 0, .slice none 0 0] 26))
  have hr0 := ((RuleAt.new (w) (.int .i64 K) (.int .i64 R) (.slice A n c)).alloc (.cells #[.int .i64 0, .int .i64 0, .slice none 0 0] 26))
  have hr1 := (RuleAt.new (w.alloc (.cells #[.int .i64 K, .int .i64 R, .slice A n c] 26)) (.int .i64 0) (.int .i64 0) (.slice none 0 0))
  simp only [World.size_alloc] at hr1
  obtain ⟨W, hW⟩ : ∃ W, (w.alloc (.cells #[.int .i64 K, .int .i64 R, .slice A n c] 26)).alloc (.cells #[.int .i64 0, .int .i64 0, .slice none 0 0] 26) = W := ⟨_, rfl⟩
  have hWs : W.heap.size = w.heap.size + 2 := by rw [← hW]; simp
  rw [hW] at hbW hr0 hr1
  have HR0 := Lib.hid hr0
  obtain ⟨a0, b0, c0, _⟩ := hr0.facts
  have HR1 := Lib.hid hr1
  obtain ⟨a1, b1, c1, _⟩ := hr1.facts
  have HW := Lib.hid hW
  have HWS := Lib.hid hWs
  have HBW := Lib.hid hbW
  have HC1 := Lib.hid (formsCheck_c W E (hE.below (HBW.out)) 0 K R A n c T (hT.below (HBW.out)) (by omega))
  rw [h] at HC1
  clear hr0 hr1 hW hWs hbW hT hE h
  unfold ruleV at *
  go_enter Tryz.func24, Tryz.ntmps24
  go_wp2_with fail
  rw [HW.out]
  refine (HC1.out).mono ?_
  rintro e w1 ⟨v1, rfl, he1, hb1⟩
  have he1' : ErrIs w1 E tl.1 tl.2 v1 := he1
  obtain ⟨u, p, rfl⟩ := he1'.iface
  clear he1
  have hrx := HR1.out.below hb1 HR1.out.lt
  obtain ⟨hRA, hRS⟩ := res_err hrx he1' (HBW.out.trans (hb1.mono HBW.out.size)) (show w.heap.size ≤ w.heap.size + 1 by omega)
  have HRA := Lib.hid hRA
  have HRS := Lib.hid hRS
  obtain ⟨d0, d1, d2, f0, f1, f2⟩ := hrx.facts
  clear hRA hRS hrx he1'
  go_wp2_with fail
  obtain ⟨d0, d1, d2, _⟩ := HRA.out.facts
  exact bodyPost_ret (v := .tuple #[.agg #[.int .i64 0, .int .i64 0, .slice none 0 0], .iface u p]) (by simp [results, Tryz.results24, go_sem, d0, d1, d2]) rfl HRS.out
set_option maxRecDepth 100000 in
set_option maxHeartbeats 1000000 in
theorem widen_arg (w : World) (E : Nat → Addr) (hE : Errs w E) (k r : Nat) (A : Option Addr) (n c : Nat) (t : List Nat) (hr : IsRule k r t) (hT : Sl w A n ((ints t).map (Value.int .i64))) (q : Int) (hq : q < (r : Int) ∨ 3 < q) :
    Calls Tryz.prog 18 #[ruleV k r A n c, .int .i64 q] w (RuleRes w E 0 0 [] (some (3, [(sForms, 0)]))) := by
  have hn : t.length = n := by simpa [ints] using hT.1
  have hn16 := hr.le
  rw [hn] at hn16
  have hbW := (((Below.refl w.heap.size w).alloc (Nat.le_refl _) (.cells #[.int .i64 (k : Int), .int .i64 (r : Int), .slice A n c] 26)).alloc (by simp) (.cells #[.int .i64 0, .int .i64 0, .slice none 0 0] 26))
  have hr0 := ((RuleAt.new (w) (.int .i64 (k : Int)) (.int .i64 (r : Int)) (.slice A n c)).alloc (.cells #[.int .i64 0, .int .i64 0, .slice none 0 0] 26))
  have hr1 := (RuleAt.new (w.alloc (.cells #[.int .i64 (k : Int), .int .i64 (r : Int), .slice A n c] 26)) (.int .i64 0) (.int .i64 0) (.slice none 0 0))
  simp only [World.size_alloc] at hr1
  obtain ⟨W, hW⟩ : ∃ W, (w.alloc (.cells #[.int .i64 (k : Int), .int .i64 (r : Int), .slice A n c] 26)).alloc (.cells #[.int .i64 0, .int .i64 0, .slice none 0 0] 26) = W := ⟨_, rfl⟩
  have hWs : W.heap.size = w.heap.size + 2 := by rw [← hW]; simp
  rw [hW] at hbW hr0 hr1
  have HR0 := Lib.hid hr0
  obtain ⟨a0, b0, c0, _⟩ := hr0.facts
  have HR1 := Lib.hid hr1
  obtain ⟨a1, b1, c1, _⟩ := hr1.facts
  have HW := Lib.hid hW
  have HWS := Lib.hid hWs
  have HBW := Lib.hid hbW
  have hck := formsCheck_c W E (hE.below HBW.out) 0 (k : Int) (r : Int) A n c (ints t) (hT.below HBW.out) (by omega)
  rw [checkF_rule 0 hr] at hck
  have HC1 := Lib.hid hck
  have HTT := Lib.hid (fun (wz : World) (hz : Below W.heap.size W wz) => hT.below (HBW.out.trans (hz.mono HBW.out.size)))
  have HEE := Lib.hid (fun (wz : World) (hz : Below W.heap.size W wz) => hE.below (HBW.out.trans (hz.mono HBW.out.size)))
  have HRU := Lib.hid hr
  have hr3 := hr.r3
  clear hr0 hr1 hW hWs hbW hT hE hck hn hr
  unfold ruleV at *
  go_enter Tryz.func18, Tryz.ntmps18
  go_wp2_with fail
  rw [HW.out]
  refine (HC1.out).mono ?_
  rintro e w1 ⟨v1, rfl, he1, hb1⟩
  have he1' : v1 = .nilIface := he1
  clear he1
  subst he1'
  obtain ⟨a0, b0, c0, _⟩ := (HR0.out.below hb1 HR0.out.lt).facts
  have hcd : q < (r : Int) ∨ ((r : Int) ≤ q ∧ 3 < q) := by omega
  clear hq
  rcases hcd with h | ⟨h, h'⟩
  all_goals
    have HWR := Lib.hid (formsWrong_c w1 E (HEE.out w1 hb1) 0 3 (by decide) (by decide))
    go_wp2_with fail
    refine (HWR.out).mono ?_
    rintro e w2 ⟨rfl, he2, hb2'⟩
    have hb2 := pure_trans hb1 hb2'
    unfold errV at *
    clear hb2'
    have hrx := HR1.out.below hb2 HR1.out.lt
    obtain ⟨hRA, hRS⟩ := res_err (tl := (3, [(sForms, 0)])) hrx he2 (HBW.out.trans (hb2.mono HBW.out.size)) (show w.heap.size ≤ w.heap.size + 1 by omega)
    have HRA := Lib.hid hRA
    have HRS := Lib.hid hRS
    obtain ⟨d0, d1, d2, f0, f1, f2⟩ := hrx.facts
    clear hRA hRS hrx he2
    go_wp2_with fail
    obtain ⟨d0, d1, d2, _⟩ := HRA.out.facts
    exact bodyPost_ret (v := .tuple #[.agg #[.int .i64 0, .int .i64 0, .slice none 0 0], .iface 95 (.pointer (some ⟨w1.heap.size, 0, none⟩))]) (by simp [results, Tryz.results18, go_sem, d0, d1, d2]) rfl HRS.out
set_option maxRecDepth 100000 in
set_option maxHeartbeats 1000000 in
theorem widen_good (w : World) (E : Nat → Addr) (hE : Errs w E) (k r : Nat) (A : Option Addr) (n c : Nat) (t : List Nat) (hr : IsRule k r t) (hT : Sl w A n ((ints t).map (Value.int .i64))) (d q : Nat) (hq : r + d = q) (h3 : q ≤ 3) :
    Calls Tryz.prog 18 #[ruleV k r A n c, .int .i64 (q : Int)] w (RuleRes w E k q (ints (wide k r d t)) none) := by
  have hn : t.length = n := by simpa [ints] using hT.1
  have hn16 := hr.le
  rw [hn] at hn16
  have hbW := (((Below.refl w.heap.size w).alloc (Nat.le_refl _) (.cells #[.int .i64 (k : Int), .int .i64 (r : Int), .slice A n c] 26)).alloc (by simp) (.cells #[.int .i64 0, .int .i64 0, .slice none 0 0] 26))
  have hr0 := ((RuleAt.new (w) (.int .i64 (k : Int)) (.int .i64 (r : Int)) (.slice A n c)).alloc (.cells #[.int .i64 0, .int .i64 0, .slice none 0 0] 26))
  have hr1 := (RuleAt.new (w.alloc (.cells #[.int .i64 (k : Int), .int .i64 (r : Int), .slice A n c] 26)) (.int .i64 0) (.int .i64 0) (.slice none 0 0))
  simp only [World.size_alloc] at hr1
  obtain ⟨W, hW⟩ : ∃ W, (w.alloc (.cells #[.int .i64 (k : Int), .int .i64 (r : Int), .slice A n c] 26)).alloc (.cells #[.int .i64 0, .int .i64 0, .slice none 0 0] 26) = W := ⟨_, rfl⟩
  have hWs : W.heap.size = w.heap.size + 2 := by rw [← hW]; simp
  rw [hW] at hbW hr0 hr1
  have HR0 := Lib.hid hr0
  obtain ⟨a0, b0, c0, _⟩ := hr0.facts
  have HR1 := Lib.hid hr1
  obtain ⟨a1, b1, c1, _⟩ := hr1.facts
  have HW := Lib.hid hW
  have HWS := Lib.hid hWs
  have HBW := Lib.hid hbW
  have hck := formsCheck_c W E (hE.below HBW.out) 0 (k : Int) (r : Int) A n c (ints t) (hT.below HBW.out) (by omega)
  rw [checkF_rule 0 hr] at hck
  have HC1 := Lib.hid hck
  have HTT := Lib.hid (fun (wz : World) (hz : Below W.heap.size W wz) => hT.below (HBW.out.trans (hz.mono HBW.out.size)))
  have HEE := Lib.hid (fun (wz : World) (hz : Below W.heap.size W wz) => hE.below (HBW.out.trans (hz.mono HBW.out.size)))
  have HRU := Lib.hid hr
  have hr3 := hr.r3
  clear hr0 hr1 hW hWs hbW hT hE hck hn hr
  unfold ruleV at *
  go_enter Tryz.func18, Tryz.ntmps18
  go_wp2_with fail
  rw [HW.out]
  refine (HC1.out).mono ?_
  rintro e w1 ⟨v1, rfl, he1, hb1⟩
  have he1' : v1 = .nilIface := he1
  clear he1
  subst he1'
  obtain ⟨a0, b0, c0, _⟩ := (HR0.out.below hb1 HR0.out.lt).facts
  have HWD := Lib.hid (widened_c w1 k r d q hq A n c t HRU.out h3 (HTT.out w1 hb1))
  have hq1 : (r : Int) ≤ (q : Int) := by omega
  have hq2 : (q : Int) ≤ 3 := by omega
  unfold ruleV at HWD
  clear hq h3
  go_wp2_with fail
  refine (HWD.out).mono ?_
  rintro e w2 ⟨g, N, rfl, hT2, hb2'⟩
  have hb2 := pure_trans hb1 hb2'
  have hge := Nat.le_trans HBW.out.size hb1.size
  clear hb2'
  have hrx := HR1.out.below hb2 HR1.out.lt
  obtain ⟨hRA, hRS⟩ := res_new (E := E) (K := (k : Int)) (R := (q : Int)) hrx hT2 (HBW.out.trans (hb2.mono HBW.out.size)) (show w.heap.size ≤ w.heap.size + 1 by omega) hge
  have HRA := Lib.hid hRA
  have HRS := Lib.hid hRS
  obtain ⟨d0, d1, d2, f0, f1, f2⟩ := hrx.facts
  clear hRA hRS hrx hT2
  unfold ruleV
  go_wp2_with fail
  obtain ⟨d0, d1, d2, _⟩ := HRA.out.facts
  exact bodyPost_ret (v := .tuple #[.agg #[.int .i64 (k : Int), .int .i64 (q : Int), .slice (some ⟨g, 0, none⟩) N N], .nilIface]) (by simp [results, Tryz.results18, go_sem, d0, d1, d2]) rfl HRS.out
set_option maxRecDepth 100000 in
set_option maxHeartbeats 1000000 in
theorem mirror_good (w : World) (E : Nat → Addr) (hE : Errs w E) (k r : Nat) (A : Option Addr) (n c : Nat) (t : List Nat) (hr : IsRule k r t) (hT : Sl w A n ((ints t).map (Value.int .i64))) :
    Calls Tryz.prog 11 #[ruleV k r A n c] w (RuleRes w E k r (ints (mir k r t)) none) := by
  have hn : t.length = n := by simpa [ints] using hT.1
  have hn16 := hr.le
  rw [hn] at hn16
  have hbW := (((Below.refl w.heap.size w).alloc (Nat.le_refl _) (.cells #[.int .i64 (k : Int), .int .i64 (r : Int), .slice A n c] 26)).alloc (by simp) (.cells #[.int .i64 0, .int .i64 0, .slice none 0 0] 26))
  have hr0 := ((RuleAt.new (w) (.int .i64 (k : Int)) (.int .i64 (r : Int)) (.slice A n c)).alloc (.cells #[.int .i64 0, .int .i64 0, .slice none 0 0] 26))
  have hr1 := (RuleAt.new (w.alloc (.cells #[.int .i64 (k : Int), .int .i64 (r : Int), .slice A n c] 26)) (.int .i64 0) (.int .i64 0) (.slice none 0 0))
  simp only [World.size_alloc] at hr1
  obtain ⟨W, hW⟩ : ∃ W, (w.alloc (.cells #[.int .i64 (k : Int), .int .i64 (r : Int), .slice A n c] 26)).alloc (.cells #[.int .i64 0, .int .i64 0, .slice none 0 0] 26) = W := ⟨_, rfl⟩
  have hWs : W.heap.size = w.heap.size + 2 := by rw [← hW]; simp
  rw [hW] at hbW hr0 hr1
  have HR0 := Lib.hid hr0
  obtain ⟨a0, b0, c0, _⟩ := hr0.facts
  have HR1 := Lib.hid hr1
  obtain ⟨a1, b1, c1, _⟩ := hr1.facts
  have HW := Lib.hid hW
  have HWS := Lib.hid hWs
  have HBW := Lib.hid hbW
  have hck := formsCheck_c W E (hE.below HBW.out) 0 (k : Int) (r : Int) A n c (ints t) (hT.below HBW.out) (by omega)
  rw [checkF_rule 0 hr] at hck
  have HC1 := Lib.hid hck
  have HTT := Lib.hid (fun (wz : World) (hz : Below W.heap.size W wz) => hT.below (HBW.out.trans (hz.mono HBW.out.size)))
  have HEE := Lib.hid (fun (wz : World) (hz : Below W.heap.size W wz) => hE.below (HBW.out.trans (hz.mono HBW.out.size)))
  have HRU := Lib.hid hr
  have hr3 := hr.r3
  clear hr0 hr1 hW hWs hbW hT hE hck hn hr
  unfold ruleV at *
  go_enter Tryz.func11, Tryz.ntmps11
  go_wp2_with fail
  rw [HW.out]
  refine (HC1.out).mono ?_
  rintro e w1 ⟨v1, rfl, he1, hb1⟩
  have he1' : v1 = .nilIface := he1
  clear he1
  subst he1'
  obtain ⟨a0, b0, c0, _⟩ := (HR0.out.below hb1 HR0.out.lt).facts
  have hmd := made1_c w1 k r 39 (.pointer (some ⟨w.heap.size, 0, none⟩)) (fun v => sy k t v.reverse) HRU.out.k1 HRU.out.k4 HRU.out.r3
    (fun v wz => run_enter Tryz.func39 (by kernel_rfl) (by kernel_rfl) _ _)
    (fun wz hz g v hl hs hV => mirror1_c wz g w.heap.size k r A n c t v HRU.out hs (HTT.out wz (pure_trans hb1 hz)) (HR0.out.below (pure_trans hb1 hz) HR0.out.lt) hV)
  have HMD := Lib.hid hmd
  clear hmd
  go_wp2_with fail
  refine (HMD.out).mono ?_
  rintro e w2 ⟨g, rfl, hT2, hb2'⟩
  obtain ⟨N, hN⟩ : ∃ N, k ^ (2 * r + 1) = N := ⟨_, rfl⟩
  rw [hN] at hT2
  rw [hN]
  rw [show tab k (2 * r + 1) (fun v => sy k t v.reverse) = mir k r t from rfl] at hT2
  have hb2 := pure_trans hb1 hb2'
  have hge := Nat.le_trans HBW.out.size hb1.size
  clear hb2' hN
  have hrx := HR1.out.below hb2 HR1.out.lt
  obtain ⟨hRA, hRS⟩ := res_new (E := E) (K := (k : Int)) (R := (r : Int)) hrx hT2 (HBW.out.trans (hb2.mono HBW.out.size)) (show w.heap.size ≤ w.heap.size + 1 by omega) hge
  have HRA := Lib.hid hRA
  have HRS := Lib.hid hRS
  obtain ⟨d0, d1, d2, f0, f1, f2⟩ := hrx.facts
  clear hRA hRS hrx hT2
  unfold ruleV
  go_wp2_with fail
  obtain ⟨d0, d1, d2, _⟩ := HRA.out.facts
  exact bodyPost_ret (v := .tuple #[.agg #[.int .i64 (k : Int), .int .i64 (r : Int), .slice (some ⟨g, 0, none⟩) N N], .nilIface]) (by simp [results, Tryz.results11, go_sem, d0, d1, d2]) rfl HRS.out
end Go.Proofs.YtpllojpgpejfmaaGreatDoor
