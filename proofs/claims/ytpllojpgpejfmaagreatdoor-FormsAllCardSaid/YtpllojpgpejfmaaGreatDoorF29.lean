/- What a law's step says: edenlaw05.plays. Condition: the tables read from memory; the error variables hold what E says. -/
import Derived.Test.YtpllojpgpejfmaaGreatDoorF25
import Derived.Test.YtpllojpgpejfmaaGreatDoorF26
import Derived.Test.YtpllojpgpejfmaaGreatDoorF28
namespace Go.Proofs.YtpllojpgpejfmaaGreatDoor
open Go.RowKit RuleP

theorem errV_keepsO {w w' : World} {O : Nat → Prop} (hk : Keeps O w w') (ho : ∀ k cs, O k → w.heap[k]? ≠ some (Obj.cells cs 99 (0, 0))) {E : Nat → Addr} {t : Option Tale} {v : Value} (h : ErrV w E t v) : ErrV w' E t v := by
  cases t with
  | none => exact h
  | some t => exact ErrIs.keeps hk ho h
theorem errV_put3 {w : World} {g : Nat} {x0 x1 x2 : Value} {E : Nat → Addr} {t : Option Tale} {v : Value} (h : ErrV w E t v) (hr : RuleAt w g x0 x1 x2) (u0 u1 u2 : Value) : ErrV (((w.setCell ⟨g, 0, none⟩ u0).setCell ⟨g, 1, none⟩ u1).setCell ⟨g, 2, none⟩ u2) E t v :=
  errV_keepsO (h := h) (keeps_set3 w g u0 u1 u2) (fun k cs hk e => by
    subst hk
    rw [show w.heap[k]? = _ from hr] at e
    injection e with e
    injection e with _ e
    exact absurd e (by decide))
theorem errV_put6 {w : World} {g h : Nat} {x0 x1 x2 y0 y1 y2 : Value} {E : Nat → Addr} {t : Option Tale} {v : Value} (hv : ErrV w E t v) (hr : RuleAt w g x0 x1 x2) (hw : WantAt w h y0 y1 y2) (u0 u1 u2 z0 z1 z2 : Value) : ErrV (put6 w g h u0 u1 u2 z0 z1 z2) E t v :=
  errV_keepsO (h := hv) (put6_keeps w g h u0 u1 u2 z0 z1 z2) (fun k cs hk e => by
    rcases hk with rfl | rfl
    · rw [show w.heap[k]? = _ from hr] at e
      injection e with e
      injection e with _ e
      exact absurd e (by decide)
    · rw [show w.heap[k]? = _ from hw] at e
      injection e with e
      injection e with _ e
      exact absurd e (by decide))
theorem tmod8 (x : Int) : -7 ≤ x.tmod 8 ∧ x.tmod 8 ≤ 7 := by
  by_cases h : 0 ≤ x
  · rw [Int.tmod_eq_emod_of_nonneg h]; omega
  · have : x.tmod 8 = -((-x) % 8) := by
      rw [← Int.tmod_eq_emod_of_nonneg (by omega), Int.neg_tmod, Int.neg_neg]
    omega
/-- The block holds an operation. -/
def OpAt (w : World) (g : Nat) (v0 v1 v2 v3 v4 v5 v6 v7 v8 v9 : Value) : Prop := w.heap[g]? = some (.cells #[v0, v1, v2, v3, v4, v5, v6, v7, v8, v9] 28 (0, 0))
theorem OpAt.facts {w : World} {g : Nat} {v0 v1 v2 v3 v4 v5 v6 v7 v8 v9 : Value} (h : OpAt w g v0 v1 v2 v3 v4 v5 v6 v7 v8 v9) :
    w.cell? ⟨g, 0, none⟩ = some v0 ∧ w.cell? ⟨g, 1, none⟩ = some v1 ∧ w.cell? ⟨g, 2, none⟩ = some v2 ∧ w.cell? ⟨g, 3, none⟩ = some v3 ∧ w.cell? ⟨g, 4, none⟩ = some v4 ∧ w.cell? ⟨g, 5, none⟩ = some v5 ∧ w.cell? ⟨g, 6, none⟩ = some v6 ∧ w.cell? ⟨g, 7, none⟩ = some v7 ∧ w.cell? ⟨g, 8, none⟩ = some v8 ∧ w.cell? ⟨g, 9, none⟩ = some v9 := by
  refine ⟨?_, ?_, ?_, ?_, ?_, ?_, ?_, ?_, ?_, ?_⟩ <;> rw [cell_of_row w g _ _ _ _ h] <;> rfl
theorem OpAt.below {w w' : World} {g C : Nat} {v0 v1 v2 v3 v4 v5 v6 v7 v8 v9 : Value} (h : OpAt w g v0 v1 v2 v3 v4 v5 v6 v7 v8 v9) (hb : Below C w w') (hg : g < C) : OpAt w' g v0 v1 v2 v3 v4 v5 v6 v7 v8 v9 := (hb.block g hg).trans h
theorem OpAt.lt {w : World} {g : Nat} {v0 v1 v2 v3 v4 v5 v6 v7 v8 v9 : Value} (h : OpAt w g v0 v1 v2 v3 v4 v5 v6 v7 v8 v9) : g < w.heap.size := (Array.getElem?_eq_some_iff.1 h).1
theorem OpAt.keeps {w w' : World} {g : Nat} {O : Nat → Prop} {v0 v1 v2 v3 v4 v5 v6 v7 v8 v9 : Value} (h : OpAt w g v0 v1 v2 v3 v4 v5 v6 v7 v8 v9) (hk : Keeps O w w') (ho : ¬ O g) : OpAt w' g v0 v1 v2 v3 v4 v5 v6 v7 v8 v9 := (hk.block g (Array.getElem?_eq_some_iff.1 h).1 ho).trans h
/-- A step's start: the operation boxed, room for both answers. -/
theorem plays_start (w : World) (kd K D KA RA KB RB : Int) (A B P : Option Addr) (n c m d l e : Nat) : ∃ wx, (((w.alloc (.cells #[.int .i64 kd, .int .i64 K, .int .i64 D, .int .i64 KA, .int .i64 RA, .slice A n c, .int .i64 KB, .int .i64 RB, .slice B m d, .slice P l e] 28)).alloc (.cells #[.int .i64 0, .int .i64 0, .slice none 0 0] 26)).alloc (.cells #[.int .i64 0, .int .i64 0, .slice none 0 0] 26)).alloc (.cells #[.int .i64 0, .slice none 0 0, .slice none 0 0] 45) = wx ∧
    OpAt wx w.heap.size (.int .i64 kd) (.int .i64 K) (.int .i64 D) (.int .i64 KA) (.int .i64 RA) (.slice A n c) (.int .i64 KB) (.int .i64 RB) (.slice B m d) (.slice P l e) ∧
    RuleAt wx (w.heap.size + 1) (.int .i64 0) (.int .i64 0) (.slice none 0 0) ∧ RuleAt wx (w.heap.size + 1 + 1) (.int .i64 0) (.int .i64 0) (.slice none 0 0) ∧ WantAt wx (w.heap.size + 1 + 1 + 1) (.int .i64 0) (.slice none 0 0) (.slice none 0 0) ∧
    Below w.heap.size w wx ∧ wx.heap.size = w.heap.size + 4 := by
  refine ⟨_, rfl, ?_, ?_, ?_, ?_, ?_, by simp⟩
  · have h0 : OpAt (w.alloc (.cells #[.int .i64 kd, .int .i64 K, .int .i64 D, .int .i64 KA, .int .i64 RA, .slice A n c, .int .i64 KB, .int .i64 RB, .slice B m d, .slice P l e] 28)) w.heap.size (.int .i64 kd) (.int .i64 K) (.int .i64 D) (.int .i64 KA) (.int .i64 RA) (.slice A n c) (.int .i64 KB) (.int .i64 RB) (.slice B m d) (.slice P l e) := heap_new _ _
    have b1 := (Below.refl (w.heap.size + 1) (w.alloc (.cells #[.int .i64 kd, .int .i64 K, .int .i64 D, .int .i64 KA, .int .i64 RA, .slice A n c, .int .i64 KB, .int .i64 RB, .slice B m d, .slice P l e] 28))).alloc (by simp) (.cells #[.int .i64 0, .int .i64 0, .slice none 0 0] 26)
    have b2 := b1.alloc (by simp <;> omega) (.cells #[.int .i64 0, .int .i64 0, .slice none 0 0] 26)
    have b3 := b2.alloc (by simp <;> omega) (.cells #[.int .i64 0, .slice none 0 0, .slice none 0 0] 45)
    exact h0.below b3 (by omega)
  · have h0 := ((RuleAt.new (w.alloc (.cells #[.int .i64 kd, .int .i64 K, .int .i64 D, .int .i64 KA, .int .i64 RA, .slice A n c, .int .i64 KB, .int .i64 RB, .slice B m d, .slice P l e] 28)) (.int .i64 0) (.int .i64 0) (.slice none 0 0)).alloc (.cells #[.int .i64 0, .int .i64 0, .slice none 0 0] 26)).alloc (.cells #[.int .i64 0, .slice none 0 0, .slice none 0 0] 45)
    rw [World.size_alloc] at h0
    exact h0
  · have h0 := (RuleAt.new ((w.alloc (.cells #[.int .i64 kd, .int .i64 K, .int .i64 D, .int .i64 KA, .int .i64 RA, .slice A n c, .int .i64 KB, .int .i64 RB, .slice B m d, .slice P l e] 28)).alloc (.cells #[.int .i64 0, .int .i64 0, .slice none 0 0] 26)) (.int .i64 0) (.int .i64 0) (.slice none 0 0)).alloc (.cells #[.int .i64 0, .slice none 0 0, .slice none 0 0] 45)
    rw [World.size_alloc, World.size_alloc] at h0
    exact h0
  · have h0 := WantAt.new (((w.alloc (.cells #[.int .i64 kd, .int .i64 K, .int .i64 D, .int .i64 KA, .int .i64 RA, .slice A n c, .int .i64 KB, .int .i64 RB, .slice B m d, .slice P l e] 28)).alloc (.cells #[.int .i64 0, .int .i64 0, .slice none 0 0] 26)).alloc (.cells #[.int .i64 0, .int .i64 0, .slice none 0 0] 26)) (.int .i64 0) (.slice none 0 0) (.slice none 0 0)
    rw [World.size_alloc, World.size_alloc, World.size_alloc] at h0
    exact h0
  · exact ((((Below.refl w.heap.size w).alloc (Nat.le_refl _) (.cells #[.int .i64 kd, .int .i64 K, .int .i64 D, .int .i64 KA, .int .i64 RA, .slice A n c, .int .i64 KB, .int .i64 RB, .slice B m d, .slice P l e] 28)).alloc (by simp) (.cells #[.int .i64 0, .int .i64 0, .slice none 0 0] 26)).alloc (by simp; omega) (.cells #[.int .i64 0, .int .i64 0, .slice none 0 0] 26)).alloc (by simp; omega) (.cells #[.int .i64 0, .slice none 0 0, .slice none 0 0] 45)

set_option maxRecDepth 100000 in
set_option maxHeartbeats 4000000 in
theorem plays_shift (w : World) (E : Nat → Addr) (hE : Errs w E) (hEt : ErrT w) (kd K D KA RA KB RB : Int) (A B P : Option Addr) (n c m d l e : Nat) (TA TB Q : List Int) (hA : Sl w A n (TA.map (Value.int .i64))) (hBt : Sl w B m (TB.map (Value.int .i64))) (hP : Sl w P l (Q.map (Value.int .i64))) (hn : n ≤ 9223372036854775807) (hm : m ≤ 9223372036854775807) (hl8 : l * 8 ≤ 140737488351232) (hD1 : -9223372036854775808 ≤ D) (hD2 : D ≤ 9223372036854775807) (hk : (kd.tmod 8 + 8) % 8 = 0) :
    Calls Tryz.prog 7 #[.agg #[.int .i64 kd, .int .i64 K, .int .i64 D, .int .i64 KA, .int .i64 RA, .slice A n c, .int .i64 KB, .int .i64 RB, .slice B m d, .slice P l e]] w fun x w' => x = .returned (.bool true) ∧ Below w.heap.size w w' := by
  obtain ⟨wx, hwx, hop, hz, hy, hu, hb, hsx⟩ := plays_start w kd K D KA RA KB RB A B P n c m d l e
  obtain ⟨K', R', xs, tl, htl, hF, hR⟩ := both_shift K D hD1 hD2
  have HWX := Lib.hid hwx
  have HOP := Lib.hid hop
  have HZ := Lib.hid hz
  have HY := Lib.hid hy
  have HU := Lib.hid hu
  have HB := Lib.hid hb
  have HF := Lib.hid hF
  have HR := Lib.hid hR
  have HTL := Lib.hid htl
  have HEE := Lib.hid (fun (wz : World) (hz : Below w.heap.size w wz) => (⟨hE.below hz, hEt.below hz⟩ : _ ∧ _))
  have HSL := Lib.hid (fun (wz : World) (hz : Below w.heap.size w wz) => (⟨hA.below hz, hBt.below hz, hP.below hz⟩ : _ ∧ _ ∧ _))
  obtain ⟨q0, q1, q2, q3, q4, q5, q6, q7, q8, q9⟩ := hop.facts
  obtain ⟨t1, t2⟩ := tmod8 kd
  obtain ⟨y, hy8⟩ : ∃ y, kd.tmod 8 = y := ⟨_, rfl⟩
  rw [hy8] at hk t1 t2
  have e1 : IntKind.i64.wrap (y + 8) = y + 8 := IntWalk.i64_in _ (by omega)
  have e2 : (y + 8).tmod 8 = 0 := by rw [Int.tmod_eq_emod_of_nonneg (by omega)]; exact hk
  have e4 : 0 ≤ y + 8 := by omega
  have e3 : (y + 8) % 8 = 0 := hk
  have hff := HF.out wx E (HEE.out wx hb).1 
  clear hwx hop hz hy hu hb hF hR htl hE hEt hA hBt hP hk hl8 hD1 hD2
  unfold ruleV at *
  have HFF := Lib.hid hff
  clear hff
  go_enter Tryz.func7, Tryz.ntmps7
  go_wp2_with fail
  rw [HWX.out]
  refine (HFF.out).mono ?_
  rintro x w1 ⟨C1, N1, cc1, v1, rfl, ho1, he1, hb1⟩
  have hlt1 : w.heap.size + 4 ≤ wx.heap.size := Nat.le_of_eq hsx.symm
  have hz1 := HZ.out.below hb1 HZ.out.lt
  have hk2 := keeps_set3 w1 (w.heap.size + 1) (.int .i64 K') (.int .i64 R') (.slice C1 N1 cc1)
  have hz2 := hz1.set3 (.int .i64 K') (.int .i64 R') (.slice C1 N1 cc1)
  have hop2 := (HOP.out.below hb1 HOP.out.lt).keeps hk2 (by omega)
  have hy2 := (HY.out.below hb1 HY.out.lt).keeps hk2 (by omega)
  have hu2 := (HU.out.below hb1 HU.out.lt).keeps hk2 (by omega)
  have ho2 := own_set3 ho1 hz1 (by decide) (.int .i64 K') (.int .i64 R') (.slice C1 N1 cc1)
  have he2 := errV_put3 he1 hz1 (.int .i64 K') (.int .i64 R') (.slice C1 N1 cc1)
  have hb2 := below_set3 (HB.out.trans (hb1.mono HB.out.size)) (show w.heap.size ≤ w.heap.size + 1 by omega) (.int .i64 K') (.int .i64 R') (.slice C1 N1 cc1)
  obtain ⟨z0, z1, z2, z3, z4, z5⟩ := hz1.facts
  obtain ⟨p0, p1, p2, p3, p4, p5, p6, p7, p8, p9⟩ := (HOP.out.below hb1 HOP.out.lt).facts
  obtain ⟨w2, hw2⟩ : ∃ w2, ((w1.setCell ⟨w.heap.size + 1, 0, none⟩ (.int .i64 K')).setCell ⟨w.heap.size + 1, 1, none⟩ (.int .i64 R')).setCell ⟨w.heap.size + 1, 2, none⟩ (.slice C1 N1 cc1) = w2 := ⟨_, rfl⟩
  have hs2 : w2.heap.size = w1.heap.size := by rw [← hw2]; simp
  rw [hw2] at hz2 hop2 hy2 hu2 ho2 he2 hb2
  have hrr := HR.out w2 
  unfold ruleV at *
  have HRR := Lib.hid hrr
  have HW2 := Lib.hid hw2
  have HZ2 := Lib.hid hz2
  have HY2 := Lib.hid hy2
  have HU2 := Lib.hid hu2
  have HO2 := Lib.hid ho2
  have HE2 := Lib.hid he2
  have HB2 := Lib.hid hb2
  have hb1s := hb1.size
  clear hrr hw2 hz2 hop2 hy2 hu2 ho2 he2 hb2 hk2 hz1 ho1 he1 hb1 q0 q1 q2 q3 q4 q5 q6 q7 q8 q9
  go_wp2_with fail
  rw [HW2.out]
  clear z0 z1 z2 z3 z4 z5 p0 p1 p2 p3 p4 p5 p6 p7 p8 p9
  refine (HRR.out).mono ?_
  rintro x w3 ⟨C2, N2, cc2, M, A1, n1, c1, A2, n2, c2, rfl, ho3, hu3, hb3⟩
  have hb3s := hb3.size
  have hzz := HZ2.out.below hb3 HZ2.out.lt
  have hyy := HY2.out.below hb3 HY2.out.lt
  have huu := HU2.out.below hb3 HU2.out.lt
  have hk4 := put6_keeps w3 (w.heap.size + 1 + 1) (w.heap.size + 1 + 1 + 1) (.int .i64 K') (.int .i64 R') (.slice C2 N2 cc2) (.int .i64 (M : Int)) (.slice A1 n1 c1) (.slice A2 n2 c2)
  have hres := put6_res (w := w) hyy huu (by omega) (by omega) (B := w2.heap.size) ho3 (by omega) hu3 (by omega) (HB2.out.trans (hb3.mono HB2.out.size)) K' R'
  have hpf := put6_facts hyy huu (by omega) (.int .i64 K') (.int .i64 R') (.slice C2 N2 cc2) (.int .i64 (M : Int)) (.slice A1 n1 c1) (.slice A2 n2 c2)
  have ho4 := own_keeps (own_below HO2.out hb3) hk4 (fun b hb hO => by
    have h1 := ((own_below HO2.out hb3).lt b hb).1
    omega)
  have he4 := errV_put6 (HE2.out.below hb3) hyy huu (.int .i64 K') (.int .i64 R') (.slice C2 N2 cc2) (.int .i64 (M : Int)) (.slice A1 n1 c1) (.slice A2 n2 c2)
  have hz4 := hzz.keeps hk4 (by omega)
  obtain ⟨d0, d1, d2, d3, d4, d5⟩ := hyy.facts
  obtain ⟨f0, f1, f2, f3, f4, f5⟩ := huu.facts
  obtain ⟨g0, g1, g2, _⟩ := hzz.facts
  have HPW := Lib.hid (show (((((w3.setCell ⟨w.heap.size + 1 + 1, 0, none⟩ (.int .i64 K')).setCell ⟨w.heap.size + 1 + 1, 1, none⟩ (.int .i64 R')).setCell ⟨w.heap.size + 1 + 1, 2, none⟩ (.slice C2 N2 cc2)).setCell ⟨w.heap.size + 1 + 1 + 1, 0, none⟩ (.int .i64 (M : Int))).setCell ⟨w.heap.size + 1 + 1 + 1, 1, none⟩ (.slice A1 n1 c1)).setCell ⟨w.heap.size + 1 + 1 + 1, 2, none⟩ (.slice A2 n2 c2) = put6 w3 (w.heap.size + 1 + 1) (w.heap.size + 1 + 1 + 1) (.int .i64 K') (.int .i64 R') (.slice C2 N2 cc2) (.int .i64 (M : Int)) (.slice A1 n1 c1) (.slice A2 n2 c2) from rfl)
  obtain ⟨w4, hw4⟩ : ∃ w4, put6 w3 (w.heap.size + 1 + 1) (w.heap.size + 1 + 1 + 1) (.int .i64 K') (.int .i64 R') (.slice C2 N2 cc2) (.int .i64 (M : Int)) (.slice A1 n1 c1) (.slice A2 n2 c2) = w4 := ⟨_, rfl⟩
  rw [hw4] at hres hpf ho4 he4 hz4
  have hrl := rules5 w4 K' R' K' R' C1 C2 N1 N2 cc1 cc2 _ _ (Sl.of_own ho4) (Sl.of_own hres.1) (by have := own_le ho4; simp only [maxLen] at this; omega) (by have := own_le hres.1; simp only [maxLen] at this; omega)
  simp only [and_self, decide_true] at hrl
  have HRL := Lib.hid hrl
  have HW4 := Lib.hid hw4
  have HPF := Lib.hid hpf
  have HE4 := Lib.hid he4
  have HWB := Lib.hid hres.2.1
  have HB4 := Lib.hid hres.2.2
  clear hrl hw4 hpf he4 hres ho4 hz4 hk4 hzz hyy huu ho3 hu3 hb3
  go_wp2_with fail
  rw [HPW.out, HW4.out]
  clear d0 d1 d2 d3 d4 d5 f0 f1 f2 f3 f4 f5 g0 g1 g2
  refine (HRL.out).mono ?_
  rintro x w5 ⟨rfl, hb5⟩
  obtain ⟨f0, f1, f2, _⟩ := (HPF.out.2.below hb5 HPF.out.2.lt).facts
  have hb5w := HB4.out.trans (hb5.mono HB4.out.size)
  have HIS := Lib.hid (rawIs_c w5 E (HEE.out w5 hb5w).1 (HEE.out w5 hb5w).2 tl HTL.out v1 _ (HE4.out.below hb5) ((HWB.out.below hb5).want))
  have HB5 := Lib.hid hb5w
  clear hb5 hb5w
  go_wp2_with fail
  refine (HIS.out).mono ?_
  rintro x w6 ⟨rfl, hb6⟩
  have HB6 := Lib.hid (HB5.out.trans (hb6.mono HB5.out.size))
  clear hb6 f0 f1 f2
  go_wp2_with fail
  go_ret
  exact ⟨rfl, HB6.out⟩

set_option maxRecDepth 100000 in
set_option maxHeartbeats 4000000 in
theorem plays_mirror (w : World) (E : Nat → Addr) (hE : Errs w E) (hEt : ErrT w) (kd K D KA RA KB RB : Int) (A B P : Option Addr) (n c m d l e : Nat) (TA TB Q : List Int) (hA : Sl w A n (TA.map (Value.int .i64))) (hBt : Sl w B m (TB.map (Value.int .i64))) (hP : Sl w P l (Q.map (Value.int .i64))) (hn : n ≤ 9223372036854775807) (hm : m ≤ 9223372036854775807) (hl8 : l * 8 ≤ 140737488351232) (hD1 : -9223372036854775808 ≤ D) (hD2 : D ≤ 9223372036854775807) (hk : (kd.tmod 8 + 8) % 8 = 1) :
    Calls Tryz.prog 7 #[.agg #[.int .i64 kd, .int .i64 K, .int .i64 D, .int .i64 KA, .int .i64 RA, .slice A n c, .int .i64 KB, .int .i64 RB, .slice B m d, .slice P l e]] w fun x w' => x = .returned (.bool true) ∧ Below w.heap.size w w' := by
  obtain ⟨wx, hwx, hop, hz, hy, hu, hb, hsx⟩ := plays_start w kd K D KA RA KB RB A B P n c m d l e
  obtain ⟨K', R', xs, tl, htl, hF, hR⟩ := both_mirror KA RA A n c TA hn
  have HWX := Lib.hid hwx
  have HOP := Lib.hid hop
  have HZ := Lib.hid hz
  have HY := Lib.hid hy
  have HU := Lib.hid hu
  have HB := Lib.hid hb
  have HF := Lib.hid hF
  have HR := Lib.hid hR
  have HTL := Lib.hid htl
  have HEE := Lib.hid (fun (wz : World) (hz : Below w.heap.size w wz) => (⟨hE.below hz, hEt.below hz⟩ : _ ∧ _))
  have HSL := Lib.hid (fun (wz : World) (hz : Below w.heap.size w wz) => (⟨hA.below hz, hBt.below hz, hP.below hz⟩ : _ ∧ _ ∧ _))
  obtain ⟨q0, q1, q2, q3, q4, q5, q6, q7, q8, q9⟩ := hop.facts
  obtain ⟨t1, t2⟩ := tmod8 kd
  obtain ⟨y, hy8⟩ : ∃ y, kd.tmod 8 = y := ⟨_, rfl⟩
  rw [hy8] at hk t1 t2
  have e1 : IntKind.i64.wrap (y + 8) = y + 8 := IntWalk.i64_in _ (by omega)
  have e2 : (y + 8).tmod 8 = 1 := by rw [Int.tmod_eq_emod_of_nonneg (by omega)]; exact hk
  have e4 : 0 ≤ y + 8 := by omega
  have e3 : (y + 8) % 8 = 1 := hk
  have hff := HF.out wx E (HEE.out wx hb).1 (HSL.out wx hb).1
  clear hwx hop hz hy hu hb hF hR htl hE hEt hA hBt hP hk hl8 hD1 hD2
  unfold ruleV at *
  have HFF := Lib.hid hff
  clear hff
  go_enter Tryz.func7, Tryz.ntmps7
  go_wp2_with fail
  rw [HWX.out]
  refine (HFF.out).mono ?_
  rintro x w1 ⟨C1, N1, cc1, v1, rfl, ho1, he1, hb1⟩
  have hlt1 : w.heap.size + 4 ≤ wx.heap.size := Nat.le_of_eq hsx.symm
  have hz1 := HZ.out.below hb1 HZ.out.lt
  have hk2 := keeps_set3 w1 (w.heap.size + 1) (.int .i64 K') (.int .i64 R') (.slice C1 N1 cc1)
  have hz2 := hz1.set3 (.int .i64 K') (.int .i64 R') (.slice C1 N1 cc1)
  have hop2 := (HOP.out.below hb1 HOP.out.lt).keeps hk2 (by omega)
  have hy2 := (HY.out.below hb1 HY.out.lt).keeps hk2 (by omega)
  have hu2 := (HU.out.below hb1 HU.out.lt).keeps hk2 (by omega)
  have ho2 := own_set3 ho1 hz1 (by decide) (.int .i64 K') (.int .i64 R') (.slice C1 N1 cc1)
  have he2 := errV_put3 he1 hz1 (.int .i64 K') (.int .i64 R') (.slice C1 N1 cc1)
  have hb2 := below_set3 (HB.out.trans (hb1.mono HB.out.size)) (show w.heap.size ≤ w.heap.size + 1 by omega) (.int .i64 K') (.int .i64 R') (.slice C1 N1 cc1)
  obtain ⟨z0, z1, z2, z3, z4, z5⟩ := hz1.facts
  obtain ⟨p0, p1, p2, p3, p4, p5, p6, p7, p8, p9⟩ := (HOP.out.below hb1 HOP.out.lt).facts
  obtain ⟨w2, hw2⟩ : ∃ w2, ((w1.setCell ⟨w.heap.size + 1, 0, none⟩ (.int .i64 K')).setCell ⟨w.heap.size + 1, 1, none⟩ (.int .i64 R')).setCell ⟨w.heap.size + 1, 2, none⟩ (.slice C1 N1 cc1) = w2 := ⟨_, rfl⟩
  have hs2 : w2.heap.size = w1.heap.size := by rw [← hw2]; simp
  rw [hw2] at hz2 hop2 hy2 hu2 ho2 he2 hb2
  have hrr := HR.out w2 (HSL.out w2 hb2).1
  unfold ruleV at *
  have HRR := Lib.hid hrr
  have HW2 := Lib.hid hw2
  have HZ2 := Lib.hid hz2
  have HY2 := Lib.hid hy2
  have HU2 := Lib.hid hu2
  have HO2 := Lib.hid ho2
  have HE2 := Lib.hid he2
  have HB2 := Lib.hid hb2
  have hb1s := hb1.size
  clear hrr hw2 hz2 hop2 hy2 hu2 ho2 he2 hb2 hk2 hz1 ho1 he1 hb1 q0 q1 q2 q3 q4 q5 q6 q7 q8 q9
  go_wp2_with fail
  rw [HW2.out]
  clear z0 z1 z2 z3 z4 z5 p0 p1 p2 p3 p4 p5 p6 p7 p8 p9
  refine (HRR.out).mono ?_
  rintro x w3 ⟨C2, N2, cc2, M, A1, n1, c1, A2, n2, c2, rfl, ho3, hu3, hb3⟩
  have hb3s := hb3.size
  have hzz := HZ2.out.below hb3 HZ2.out.lt
  have hyy := HY2.out.below hb3 HY2.out.lt
  have huu := HU2.out.below hb3 HU2.out.lt
  have hk4 := put6_keeps w3 (w.heap.size + 1 + 1) (w.heap.size + 1 + 1 + 1) (.int .i64 K') (.int .i64 R') (.slice C2 N2 cc2) (.int .i64 (M : Int)) (.slice A1 n1 c1) (.slice A2 n2 c2)
  have hres := put6_res (w := w) hyy huu (by omega) (by omega) (B := w2.heap.size) ho3 (by omega) hu3 (by omega) (HB2.out.trans (hb3.mono HB2.out.size)) K' R'
  have hpf := put6_facts hyy huu (by omega) (.int .i64 K') (.int .i64 R') (.slice C2 N2 cc2) (.int .i64 (M : Int)) (.slice A1 n1 c1) (.slice A2 n2 c2)
  have ho4 := own_keeps (own_below HO2.out hb3) hk4 (fun b hb hO => by
    have h1 := ((own_below HO2.out hb3).lt b hb).1
    omega)
  have he4 := errV_put6 (HE2.out.below hb3) hyy huu (.int .i64 K') (.int .i64 R') (.slice C2 N2 cc2) (.int .i64 (M : Int)) (.slice A1 n1 c1) (.slice A2 n2 c2)
  have hz4 := hzz.keeps hk4 (by omega)
  obtain ⟨d0, d1, d2, d3, d4, d5⟩ := hyy.facts
  obtain ⟨f0, f1, f2, f3, f4, f5⟩ := huu.facts
  obtain ⟨g0, g1, g2, _⟩ := hzz.facts
  have HPW := Lib.hid (show (((((w3.setCell ⟨w.heap.size + 1 + 1, 0, none⟩ (.int .i64 K')).setCell ⟨w.heap.size + 1 + 1, 1, none⟩ (.int .i64 R')).setCell ⟨w.heap.size + 1 + 1, 2, none⟩ (.slice C2 N2 cc2)).setCell ⟨w.heap.size + 1 + 1 + 1, 0, none⟩ (.int .i64 (M : Int))).setCell ⟨w.heap.size + 1 + 1 + 1, 1, none⟩ (.slice A1 n1 c1)).setCell ⟨w.heap.size + 1 + 1 + 1, 2, none⟩ (.slice A2 n2 c2) = put6 w3 (w.heap.size + 1 + 1) (w.heap.size + 1 + 1 + 1) (.int .i64 K') (.int .i64 R') (.slice C2 N2 cc2) (.int .i64 (M : Int)) (.slice A1 n1 c1) (.slice A2 n2 c2) from rfl)
  obtain ⟨w4, hw4⟩ : ∃ w4, put6 w3 (w.heap.size + 1 + 1) (w.heap.size + 1 + 1 + 1) (.int .i64 K') (.int .i64 R') (.slice C2 N2 cc2) (.int .i64 (M : Int)) (.slice A1 n1 c1) (.slice A2 n2 c2) = w4 := ⟨_, rfl⟩
  rw [hw4] at hres hpf ho4 he4 hz4
  have hrl := rules5 w4 K' R' K' R' C1 C2 N1 N2 cc1 cc2 _ _ (Sl.of_own ho4) (Sl.of_own hres.1) (by have := own_le ho4; simp only [maxLen] at this; omega) (by have := own_le hres.1; simp only [maxLen] at this; omega)
  simp only [and_self, decide_true] at hrl
  have HRL := Lib.hid hrl
  have HW4 := Lib.hid hw4
  have HPF := Lib.hid hpf
  have HE4 := Lib.hid he4
  have HWB := Lib.hid hres.2.1
  have HB4 := Lib.hid hres.2.2
  clear hrl hw4 hpf he4 hres ho4 hz4 hk4 hzz hyy huu ho3 hu3 hb3
  go_wp2_with fail
  rw [HPW.out, HW4.out]
  clear d0 d1 d2 d3 d4 d5 f0 f1 f2 f3 f4 f5 g0 g1 g2
  refine (HRL.out).mono ?_
  rintro x w5 ⟨rfl, hb5⟩
  obtain ⟨f0, f1, f2, _⟩ := (HPF.out.2.below hb5 HPF.out.2.lt).facts
  have hb5w := HB4.out.trans (hb5.mono HB4.out.size)
  have HIS := Lib.hid (rawIs_c w5 E (HEE.out w5 hb5w).1 (HEE.out w5 hb5w).2 tl HTL.out v1 _ (HE4.out.below hb5) ((HWB.out.below hb5).want))
  have HB5 := Lib.hid hb5w
  clear hb5 hb5w
  go_wp2_with fail
  refine (HIS.out).mono ?_
  rintro x w6 ⟨rfl, hb6⟩
  have HB6 := Lib.hid (HB5.out.trans (hb6.mono HB5.out.size))
  clear hb6 f0 f1 f2
  go_wp2_with fail
  go_ret
  exact ⟨rfl, HB6.out⟩

set_option maxRecDepth 100000 in
set_option maxHeartbeats 4000000 in
theorem plays_rename (w : World) (E : Nat → Addr) (hE : Errs w E) (hEt : ErrT w) (kd K D KA RA KB RB : Int) (A B P : Option Addr) (n c m d l e : Nat) (TA TB Q : List Int) (hA : Sl w A n (TA.map (Value.int .i64))) (hBt : Sl w B m (TB.map (Value.int .i64))) (hP : Sl w P l (Q.map (Value.int .i64))) (hn : n ≤ 9223372036854775807) (hm : m ≤ 9223372036854775807) (hl8 : l * 8 ≤ 140737488351232) (hD1 : -9223372036854775808 ≤ D) (hD2 : D ≤ 9223372036854775807) (hk : (kd.tmod 8 + 8) % 8 = 2) :
    Calls Tryz.prog 7 #[.agg #[.int .i64 kd, .int .i64 K, .int .i64 D, .int .i64 KA, .int .i64 RA, .slice A n c, .int .i64 KB, .int .i64 RB, .slice B m d, .slice P l e]] w fun x w' => x = .returned (.bool true) ∧ Below w.heap.size w w' := by
  obtain ⟨wx, hwx, hop, hz, hy, hu, hb, hsx⟩ := plays_start w kd K D KA RA KB RB A B P n c m d l e
  obtain ⟨K', R', xs, tl, htl, hF, hR⟩ := both_rename KA RA A P n c l e TA Q hn hl8 (by simpa using hP.1)
  have HWX := Lib.hid hwx
  have HOP := Lib.hid hop
  have HZ := Lib.hid hz
  have HY := Lib.hid hy
  have HU := Lib.hid hu
  have HB := Lib.hid hb
  have HF := Lib.hid hF
  have HR := Lib.hid hR
  have HTL := Lib.hid htl
  have HEE := Lib.hid (fun (wz : World) (hz : Below w.heap.size w wz) => (⟨hE.below hz, hEt.below hz⟩ : _ ∧ _))
  have HSL := Lib.hid (fun (wz : World) (hz : Below w.heap.size w wz) => (⟨hA.below hz, hBt.below hz, hP.below hz⟩ : _ ∧ _ ∧ _))
  obtain ⟨q0, q1, q2, q3, q4, q5, q6, q7, q8, q9⟩ := hop.facts
  obtain ⟨t1, t2⟩ := tmod8 kd
  obtain ⟨y, hy8⟩ : ∃ y, kd.tmod 8 = y := ⟨_, rfl⟩
  rw [hy8] at hk t1 t2
  have e1 : IntKind.i64.wrap (y + 8) = y + 8 := IntWalk.i64_in _ (by omega)
  have e2 : (y + 8).tmod 8 = 2 := by rw [Int.tmod_eq_emod_of_nonneg (by omega)]; exact hk
  have e4 : 0 ≤ y + 8 := by omega
  have e3 : (y + 8) % 8 = 2 := hk
  have hff := HF.out wx E (HEE.out wx hb).1 (HSL.out wx hb).1 (HSL.out wx hb).2.2
  clear hwx hop hz hy hu hb hF hR htl hE hEt hA hBt hP hk hl8 hD1 hD2
  unfold ruleV at *
  have HFF := Lib.hid hff
  clear hff
  go_enter Tryz.func7, Tryz.ntmps7
  go_wp2_with fail
  rw [HWX.out]
  refine (HFF.out).mono ?_
  rintro x w1 ⟨C1, N1, cc1, v1, rfl, ho1, he1, hb1⟩
  have hlt1 : w.heap.size + 4 ≤ wx.heap.size := Nat.le_of_eq hsx.symm
  have hz1 := HZ.out.below hb1 HZ.out.lt
  have hk2 := keeps_set3 w1 (w.heap.size + 1) (.int .i64 K') (.int .i64 R') (.slice C1 N1 cc1)
  have hz2 := hz1.set3 (.int .i64 K') (.int .i64 R') (.slice C1 N1 cc1)
  have hop2 := (HOP.out.below hb1 HOP.out.lt).keeps hk2 (by omega)
  have hy2 := (HY.out.below hb1 HY.out.lt).keeps hk2 (by omega)
  have hu2 := (HU.out.below hb1 HU.out.lt).keeps hk2 (by omega)
  have ho2 := own_set3 ho1 hz1 (by decide) (.int .i64 K') (.int .i64 R') (.slice C1 N1 cc1)
  have he2 := errV_put3 he1 hz1 (.int .i64 K') (.int .i64 R') (.slice C1 N1 cc1)
  have hb2 := below_set3 (HB.out.trans (hb1.mono HB.out.size)) (show w.heap.size ≤ w.heap.size + 1 by omega) (.int .i64 K') (.int .i64 R') (.slice C1 N1 cc1)
  obtain ⟨z0, z1, z2, z3, z4, z5⟩ := hz1.facts
  obtain ⟨p0, p1, p2, p3, p4, p5, p6, p7, p8, p9⟩ := (HOP.out.below hb1 HOP.out.lt).facts
  obtain ⟨w2, hw2⟩ : ∃ w2, ((w1.setCell ⟨w.heap.size + 1, 0, none⟩ (.int .i64 K')).setCell ⟨w.heap.size + 1, 1, none⟩ (.int .i64 R')).setCell ⟨w.heap.size + 1, 2, none⟩ (.slice C1 N1 cc1) = w2 := ⟨_, rfl⟩
  have hs2 : w2.heap.size = w1.heap.size := by rw [← hw2]; simp
  rw [hw2] at hz2 hop2 hy2 hu2 ho2 he2 hb2
  have hrr := HR.out w2 (HSL.out w2 hb2).1 (HSL.out w2 hb2).2.2
  unfold ruleV at *
  have HRR := Lib.hid hrr
  have HW2 := Lib.hid hw2
  have HZ2 := Lib.hid hz2
  have HY2 := Lib.hid hy2
  have HU2 := Lib.hid hu2
  have HO2 := Lib.hid ho2
  have HE2 := Lib.hid he2
  have HB2 := Lib.hid hb2
  have hb1s := hb1.size
  clear hrr hw2 hz2 hop2 hy2 hu2 ho2 he2 hb2 hk2 hz1 ho1 he1 hb1 q0 q1 q2 q3 q4 q5 q6 q7 q8 q9
  go_wp2_with fail
  rw [HW2.out]
  clear z0 z1 z2 z3 z4 z5 p0 p1 p2 p3 p4 p5 p6 p7 p8 p9
  refine (HRR.out).mono ?_
  rintro x w3 ⟨C2, N2, cc2, M, A1, n1, c1, A2, n2, c2, rfl, ho3, hu3, hb3⟩
  have hb3s := hb3.size
  have hzz := HZ2.out.below hb3 HZ2.out.lt
  have hyy := HY2.out.below hb3 HY2.out.lt
  have huu := HU2.out.below hb3 HU2.out.lt
  have hk4 := put6_keeps w3 (w.heap.size + 1 + 1) (w.heap.size + 1 + 1 + 1) (.int .i64 K') (.int .i64 R') (.slice C2 N2 cc2) (.int .i64 (M : Int)) (.slice A1 n1 c1) (.slice A2 n2 c2)
  have hres := put6_res (w := w) hyy huu (by omega) (by omega) (B := w2.heap.size) ho3 (by omega) hu3 (by omega) (HB2.out.trans (hb3.mono HB2.out.size)) K' R'
  have hpf := put6_facts hyy huu (by omega) (.int .i64 K') (.int .i64 R') (.slice C2 N2 cc2) (.int .i64 (M : Int)) (.slice A1 n1 c1) (.slice A2 n2 c2)
  have ho4 := own_keeps (own_below HO2.out hb3) hk4 (fun b hb hO => by
    have h1 := ((own_below HO2.out hb3).lt b hb).1
    omega)
  have he4 := errV_put6 (HE2.out.below hb3) hyy huu (.int .i64 K') (.int .i64 R') (.slice C2 N2 cc2) (.int .i64 (M : Int)) (.slice A1 n1 c1) (.slice A2 n2 c2)
  have hz4 := hzz.keeps hk4 (by omega)
  obtain ⟨d0, d1, d2, d3, d4, d5⟩ := hyy.facts
  obtain ⟨f0, f1, f2, f3, f4, f5⟩ := huu.facts
  obtain ⟨g0, g1, g2, _⟩ := hzz.facts
  have HPW := Lib.hid (show (((((w3.setCell ⟨w.heap.size + 1 + 1, 0, none⟩ (.int .i64 K')).setCell ⟨w.heap.size + 1 + 1, 1, none⟩ (.int .i64 R')).setCell ⟨w.heap.size + 1 + 1, 2, none⟩ (.slice C2 N2 cc2)).setCell ⟨w.heap.size + 1 + 1 + 1, 0, none⟩ (.int .i64 (M : Int))).setCell ⟨w.heap.size + 1 + 1 + 1, 1, none⟩ (.slice A1 n1 c1)).setCell ⟨w.heap.size + 1 + 1 + 1, 2, none⟩ (.slice A2 n2 c2) = put6 w3 (w.heap.size + 1 + 1) (w.heap.size + 1 + 1 + 1) (.int .i64 K') (.int .i64 R') (.slice C2 N2 cc2) (.int .i64 (M : Int)) (.slice A1 n1 c1) (.slice A2 n2 c2) from rfl)
  obtain ⟨w4, hw4⟩ : ∃ w4, put6 w3 (w.heap.size + 1 + 1) (w.heap.size + 1 + 1 + 1) (.int .i64 K') (.int .i64 R') (.slice C2 N2 cc2) (.int .i64 (M : Int)) (.slice A1 n1 c1) (.slice A2 n2 c2) = w4 := ⟨_, rfl⟩
  rw [hw4] at hres hpf ho4 he4 hz4
  have hrl := rules5 w4 K' R' K' R' C1 C2 N1 N2 cc1 cc2 _ _ (Sl.of_own ho4) (Sl.of_own hres.1) (by have := own_le ho4; simp only [maxLen] at this; omega) (by have := own_le hres.1; simp only [maxLen] at this; omega)
  simp only [and_self, decide_true] at hrl
  have HRL := Lib.hid hrl
  have HW4 := Lib.hid hw4
  have HPF := Lib.hid hpf
  have HE4 := Lib.hid he4
  have HWB := Lib.hid hres.2.1
  have HB4 := Lib.hid hres.2.2
  clear hrl hw4 hpf he4 hres ho4 hz4 hk4 hzz hyy huu ho3 hu3 hb3
  go_wp2_with fail
  rw [HPW.out, HW4.out]
  clear d0 d1 d2 d3 d4 d5 f0 f1 f2 f3 f4 f5 g0 g1 g2
  refine (HRL.out).mono ?_
  rintro x w5 ⟨rfl, hb5⟩
  obtain ⟨f0, f1, f2, _⟩ := (HPF.out.2.below hb5 HPF.out.2.lt).facts
  have hb5w := HB4.out.trans (hb5.mono HB4.out.size)
  have HIS := Lib.hid (rawIs_c w5 E (HEE.out w5 hb5w).1 (HEE.out w5 hb5w).2 tl HTL.out v1 _ (HE4.out.below hb5) ((HWB.out.below hb5).want))
  have HB5 := Lib.hid hb5w
  clear hb5 hb5w
  go_wp2_with fail
  refine (HIS.out).mono ?_
  rintro x w6 ⟨rfl, hb6⟩
  have HB6 := Lib.hid (HB5.out.trans (hb6.mono HB5.out.size))
  clear hb6 f0 f1 f2
  go_wp2_with fail
  go_ret
  exact ⟨rfl, HB6.out⟩

set_option maxRecDepth 100000 in
set_option maxHeartbeats 4000000 in
theorem plays_widen (w : World) (E : Nat → Addr) (hE : Errs w E) (hEt : ErrT w) (kd K D KA RA KB RB : Int) (A B P : Option Addr) (n c m d l e : Nat) (TA TB Q : List Int) (hA : Sl w A n (TA.map (Value.int .i64))) (hBt : Sl w B m (TB.map (Value.int .i64))) (hP : Sl w P l (Q.map (Value.int .i64))) (hn : n ≤ 9223372036854775807) (hm : m ≤ 9223372036854775807) (hl8 : l * 8 ≤ 140737488351232) (hD1 : -9223372036854775808 ≤ D) (hD2 : D ≤ 9223372036854775807) (hk : (kd.tmod 8 + 8) % 8 = 3) :
    Calls Tryz.prog 7 #[.agg #[.int .i64 kd, .int .i64 K, .int .i64 D, .int .i64 KA, .int .i64 RA, .slice A n c, .int .i64 KB, .int .i64 RB, .slice B m d, .slice P l e]] w fun x w' => x = .returned (.bool true) ∧ Below w.heap.size w w' := by
  obtain ⟨wx, hwx, hop, hz, hy, hu, hb, hsx⟩ := plays_start w kd K D KA RA KB RB A B P n c m d l e
  obtain ⟨K', R', xs, tl, htl, hF, hR⟩ := both_widen KA RA A n c TA hn D
  have HWX := Lib.hid hwx
  have HOP := Lib.hid hop
  have HZ := Lib.hid hz
  have HY := Lib.hid hy
  have HU := Lib.hid hu
  have HB := Lib.hid hb
  have HF := Lib.hid hF
  have HR := Lib.hid hR
  have HTL := Lib.hid htl
  have HEE := Lib.hid (fun (wz : World) (hz : Below w.heap.size w wz) => (⟨hE.below hz, hEt.below hz⟩ : _ ∧ _))
  have HSL := Lib.hid (fun (wz : World) (hz : Below w.heap.size w wz) => (⟨hA.below hz, hBt.below hz, hP.below hz⟩ : _ ∧ _ ∧ _))
  obtain ⟨q0, q1, q2, q3, q4, q5, q6, q7, q8, q9⟩ := hop.facts
  obtain ⟨t1, t2⟩ := tmod8 kd
  obtain ⟨y, hy8⟩ : ∃ y, kd.tmod 8 = y := ⟨_, rfl⟩
  rw [hy8] at hk t1 t2
  have e1 : IntKind.i64.wrap (y + 8) = y + 8 := IntWalk.i64_in _ (by omega)
  have e2 : (y + 8).tmod 8 = 3 := by rw [Int.tmod_eq_emod_of_nonneg (by omega)]; exact hk
  have e4 : 0 ≤ y + 8 := by omega
  have e3 : (y + 8) % 8 = 3 := hk
  have hff := HF.out wx E (HEE.out wx hb).1 (HSL.out wx hb).1
  clear hwx hop hz hy hu hb hF hR htl hE hEt hA hBt hP hk hl8 hD1 hD2
  unfold ruleV at *
  have HFF := Lib.hid hff
  clear hff
  go_enter Tryz.func7, Tryz.ntmps7
  go_wp2_with fail
  rw [HWX.out]
  refine (HFF.out).mono ?_
  rintro x w1 ⟨C1, N1, cc1, v1, rfl, ho1, he1, hb1⟩
  have hlt1 : w.heap.size + 4 ≤ wx.heap.size := Nat.le_of_eq hsx.symm
  have hz1 := HZ.out.below hb1 HZ.out.lt
  have hk2 := keeps_set3 w1 (w.heap.size + 1) (.int .i64 K') (.int .i64 R') (.slice C1 N1 cc1)
  have hz2 := hz1.set3 (.int .i64 K') (.int .i64 R') (.slice C1 N1 cc1)
  have hop2 := (HOP.out.below hb1 HOP.out.lt).keeps hk2 (by omega)
  have hy2 := (HY.out.below hb1 HY.out.lt).keeps hk2 (by omega)
  have hu2 := (HU.out.below hb1 HU.out.lt).keeps hk2 (by omega)
  have ho2 := own_set3 ho1 hz1 (by decide) (.int .i64 K') (.int .i64 R') (.slice C1 N1 cc1)
  have he2 := errV_put3 he1 hz1 (.int .i64 K') (.int .i64 R') (.slice C1 N1 cc1)
  have hb2 := below_set3 (HB.out.trans (hb1.mono HB.out.size)) (show w.heap.size ≤ w.heap.size + 1 by omega) (.int .i64 K') (.int .i64 R') (.slice C1 N1 cc1)
  obtain ⟨z0, z1, z2, z3, z4, z5⟩ := hz1.facts
  obtain ⟨p0, p1, p2, p3, p4, p5, p6, p7, p8, p9⟩ := (HOP.out.below hb1 HOP.out.lt).facts
  obtain ⟨w2, hw2⟩ : ∃ w2, ((w1.setCell ⟨w.heap.size + 1, 0, none⟩ (.int .i64 K')).setCell ⟨w.heap.size + 1, 1, none⟩ (.int .i64 R')).setCell ⟨w.heap.size + 1, 2, none⟩ (.slice C1 N1 cc1) = w2 := ⟨_, rfl⟩
  have hs2 : w2.heap.size = w1.heap.size := by rw [← hw2]; simp
  rw [hw2] at hz2 hop2 hy2 hu2 ho2 he2 hb2
  have hrr := HR.out w2 (HSL.out w2 hb2).1
  unfold ruleV at *
  have HRR := Lib.hid hrr
  have HW2 := Lib.hid hw2
  have HZ2 := Lib.hid hz2
  have HY2 := Lib.hid hy2
  have HU2 := Lib.hid hu2
  have HO2 := Lib.hid ho2
  have HE2 := Lib.hid he2
  have HB2 := Lib.hid hb2
  have hb1s := hb1.size
  clear hrr hw2 hz2 hop2 hy2 hu2 ho2 he2 hb2 hk2 hz1 ho1 he1 hb1 q0 q1 q2 q3 q4 q5 q6 q7 q8 q9
  go_wp2_with fail
  rw [HW2.out]
  clear z0 z1 z2 z3 z4 z5 p0 p1 p2 p3 p4 p5 p6 p7 p8 p9
  refine (HRR.out).mono ?_
  rintro x w3 ⟨C2, N2, cc2, M, A1, n1, c1, A2, n2, c2, rfl, ho3, hu3, hb3⟩
  have hb3s := hb3.size
  have hzz := HZ2.out.below hb3 HZ2.out.lt
  have hyy := HY2.out.below hb3 HY2.out.lt
  have huu := HU2.out.below hb3 HU2.out.lt
  have hk4 := put6_keeps w3 (w.heap.size + 1 + 1) (w.heap.size + 1 + 1 + 1) (.int .i64 K') (.int .i64 R') (.slice C2 N2 cc2) (.int .i64 (M : Int)) (.slice A1 n1 c1) (.slice A2 n2 c2)
  have hres := put6_res (w := w) hyy huu (by omega) (by omega) (B := w2.heap.size) ho3 (by omega) hu3 (by omega) (HB2.out.trans (hb3.mono HB2.out.size)) K' R'
  have hpf := put6_facts hyy huu (by omega) (.int .i64 K') (.int .i64 R') (.slice C2 N2 cc2) (.int .i64 (M : Int)) (.slice A1 n1 c1) (.slice A2 n2 c2)
  have ho4 := own_keeps (own_below HO2.out hb3) hk4 (fun b hb hO => by
    have h1 := ((own_below HO2.out hb3).lt b hb).1
    omega)
  have he4 := errV_put6 (HE2.out.below hb3) hyy huu (.int .i64 K') (.int .i64 R') (.slice C2 N2 cc2) (.int .i64 (M : Int)) (.slice A1 n1 c1) (.slice A2 n2 c2)
  have hz4 := hzz.keeps hk4 (by omega)
  obtain ⟨d0, d1, d2, d3, d4, d5⟩ := hyy.facts
  obtain ⟨f0, f1, f2, f3, f4, f5⟩ := huu.facts
  obtain ⟨g0, g1, g2, _⟩ := hzz.facts
  have HPW := Lib.hid (show (((((w3.setCell ⟨w.heap.size + 1 + 1, 0, none⟩ (.int .i64 K')).setCell ⟨w.heap.size + 1 + 1, 1, none⟩ (.int .i64 R')).setCell ⟨w.heap.size + 1 + 1, 2, none⟩ (.slice C2 N2 cc2)).setCell ⟨w.heap.size + 1 + 1 + 1, 0, none⟩ (.int .i64 (M : Int))).setCell ⟨w.heap.size + 1 + 1 + 1, 1, none⟩ (.slice A1 n1 c1)).setCell ⟨w.heap.size + 1 + 1 + 1, 2, none⟩ (.slice A2 n2 c2) = put6 w3 (w.heap.size + 1 + 1) (w.heap.size + 1 + 1 + 1) (.int .i64 K') (.int .i64 R') (.slice C2 N2 cc2) (.int .i64 (M : Int)) (.slice A1 n1 c1) (.slice A2 n2 c2) from rfl)
  obtain ⟨w4, hw4⟩ : ∃ w4, put6 w3 (w.heap.size + 1 + 1) (w.heap.size + 1 + 1 + 1) (.int .i64 K') (.int .i64 R') (.slice C2 N2 cc2) (.int .i64 (M : Int)) (.slice A1 n1 c1) (.slice A2 n2 c2) = w4 := ⟨_, rfl⟩
  rw [hw4] at hres hpf ho4 he4 hz4
  have hrl := rules5 w4 K' R' K' R' C1 C2 N1 N2 cc1 cc2 _ _ (Sl.of_own ho4) (Sl.of_own hres.1) (by have := own_le ho4; simp only [maxLen] at this; omega) (by have := own_le hres.1; simp only [maxLen] at this; omega)
  simp only [and_self, decide_true] at hrl
  have HRL := Lib.hid hrl
  have HW4 := Lib.hid hw4
  have HPF := Lib.hid hpf
  have HE4 := Lib.hid he4
  have HWB := Lib.hid hres.2.1
  have HB4 := Lib.hid hres.2.2
  clear hrl hw4 hpf he4 hres ho4 hz4 hk4 hzz hyy huu ho3 hu3 hb3
  go_wp2_with fail
  rw [HPW.out, HW4.out]
  clear d0 d1 d2 d3 d4 d5 f0 f1 f2 f3 f4 f5 g0 g1 g2
  refine (HRL.out).mono ?_
  rintro x w5 ⟨rfl, hb5⟩
  obtain ⟨f0, f1, f2, _⟩ := (HPF.out.2.below hb5 HPF.out.2.lt).facts
  have hb5w := HB4.out.trans (hb5.mono HB4.out.size)
  have HIS := Lib.hid (rawIs_c w5 E (HEE.out w5 hb5w).1 (HEE.out w5 hb5w).2 tl HTL.out v1 _ (HE4.out.below hb5) ((HWB.out.below hb5).want))
  have HB5 := Lib.hid hb5w
  clear hb5 hb5w
  go_wp2_with fail
  refine (HIS.out).mono ?_
  rintro x w6 ⟨rfl, hb6⟩
  have HB6 := Lib.hid (HB5.out.trans (hb6.mono HB5.out.size))
  clear hb6 f0 f1 f2
  go_wp2_with fail
  go_ret
  exact ⟨rfl, HB6.out⟩

set_option maxRecDepth 100000 in
set_option maxHeartbeats 4000000 in
theorem plays_compose (w : World) (E : Nat → Addr) (hE : Errs w E) (hEt : ErrT w) (kd K D KA RA KB RB : Int) (A B P : Option Addr) (n c m d l e : Nat) (TA TB Q : List Int) (hA : Sl w A n (TA.map (Value.int .i64))) (hBt : Sl w B m (TB.map (Value.int .i64))) (hP : Sl w P l (Q.map (Value.int .i64))) (hn : n ≤ 9223372036854775807) (hm : m ≤ 9223372036854775807) (hl8 : l * 8 ≤ 140737488351232) (hD1 : -9223372036854775808 ≤ D) (hD2 : D ≤ 9223372036854775807) (hk : (kd.tmod 8 + 8) % 8 = 5) :
    Calls Tryz.prog 7 #[.agg #[.int .i64 kd, .int .i64 K, .int .i64 D, .int .i64 KA, .int .i64 RA, .slice A n c, .int .i64 KB, .int .i64 RB, .slice B m d, .slice P l e]] w fun x w' => x = .returned (.bool true) ∧ Below w.heap.size w w' := by
  obtain ⟨wx, hwx, hop, hz, hy, hu, hb, hsx⟩ := plays_start w kd K D KA RA KB RB A B P n c m d l e
  obtain ⟨K', R', xs, tl, htl, hF, hR⟩ := both_compose KA RA KB RB A B n c m d TA TB hn hm
  have HWX := Lib.hid hwx
  have HOP := Lib.hid hop
  have HZ := Lib.hid hz
  have HY := Lib.hid hy
  have HU := Lib.hid hu
  have HB := Lib.hid hb
  have HF := Lib.hid hF
  have HR := Lib.hid hR
  have HTL := Lib.hid htl
  have HEE := Lib.hid (fun (wz : World) (hz : Below w.heap.size w wz) => (⟨hE.below hz, hEt.below hz⟩ : _ ∧ _))
  have HSL := Lib.hid (fun (wz : World) (hz : Below w.heap.size w wz) => (⟨hA.below hz, hBt.below hz, hP.below hz⟩ : _ ∧ _ ∧ _))
  obtain ⟨q0, q1, q2, q3, q4, q5, q6, q7, q8, q9⟩ := hop.facts
  obtain ⟨t1, t2⟩ := tmod8 kd
  obtain ⟨y, hy8⟩ : ∃ y, kd.tmod 8 = y := ⟨_, rfl⟩
  rw [hy8] at hk t1 t2
  have e1 : IntKind.i64.wrap (y + 8) = y + 8 := IntWalk.i64_in _ (by omega)
  have e2 : (y + 8).tmod 8 = 5 := by rw [Int.tmod_eq_emod_of_nonneg (by omega)]; exact hk
  have e4 : 0 ≤ y + 8 := by omega
  have e3 : (y + 8) % 8 = 5 := hk
  have hff := HF.out wx E (HEE.out wx hb).1 (HSL.out wx hb).1 (HSL.out wx hb).2.1
  clear hwx hop hz hy hu hb hF hR htl hE hEt hA hBt hP hk hl8 hD1 hD2
  unfold ruleV at *
  have HFF := Lib.hid hff
  clear hff
  go_enter Tryz.func7, Tryz.ntmps7
  go_wp2_with fail
  rw [HWX.out]
  refine (HFF.out).mono ?_
  rintro x w1 ⟨C1, N1, cc1, v1, rfl, ho1, he1, hb1⟩
  have hlt1 : w.heap.size + 4 ≤ wx.heap.size := Nat.le_of_eq hsx.symm
  have hz1 := HZ.out.below hb1 HZ.out.lt
  have hk2 := keeps_set3 w1 (w.heap.size + 1) (.int .i64 K') (.int .i64 R') (.slice C1 N1 cc1)
  have hz2 := hz1.set3 (.int .i64 K') (.int .i64 R') (.slice C1 N1 cc1)
  have hop2 := (HOP.out.below hb1 HOP.out.lt).keeps hk2 (by omega)
  have hy2 := (HY.out.below hb1 HY.out.lt).keeps hk2 (by omega)
  have hu2 := (HU.out.below hb1 HU.out.lt).keeps hk2 (by omega)
  have ho2 := own_set3 ho1 hz1 (by decide) (.int .i64 K') (.int .i64 R') (.slice C1 N1 cc1)
  have he2 := errV_put3 he1 hz1 (.int .i64 K') (.int .i64 R') (.slice C1 N1 cc1)
  have hb2 := below_set3 (HB.out.trans (hb1.mono HB.out.size)) (show w.heap.size ≤ w.heap.size + 1 by omega) (.int .i64 K') (.int .i64 R') (.slice C1 N1 cc1)
  obtain ⟨z0, z1, z2, z3, z4, z5⟩ := hz1.facts
  obtain ⟨p0, p1, p2, p3, p4, p5, p6, p7, p8, p9⟩ := (HOP.out.below hb1 HOP.out.lt).facts
  obtain ⟨w2, hw2⟩ : ∃ w2, ((w1.setCell ⟨w.heap.size + 1, 0, none⟩ (.int .i64 K')).setCell ⟨w.heap.size + 1, 1, none⟩ (.int .i64 R')).setCell ⟨w.heap.size + 1, 2, none⟩ (.slice C1 N1 cc1) = w2 := ⟨_, rfl⟩
  have hs2 : w2.heap.size = w1.heap.size := by rw [← hw2]; simp
  rw [hw2] at hz2 hop2 hy2 hu2 ho2 he2 hb2
  have hrr := HR.out w2 (HSL.out w2 hb2).1 (HSL.out w2 hb2).2.1
  unfold ruleV at *
  have HRR := Lib.hid hrr
  have HW2 := Lib.hid hw2
  have HZ2 := Lib.hid hz2
  have HY2 := Lib.hid hy2
  have HU2 := Lib.hid hu2
  have HO2 := Lib.hid ho2
  have HE2 := Lib.hid he2
  have HB2 := Lib.hid hb2
  have hb1s := hb1.size
  clear hrr hw2 hz2 hop2 hy2 hu2 ho2 he2 hb2 hk2 hz1 ho1 he1 hb1 q0 q1 q2 q3 q4 q5 q6 q7 q8 q9
  go_wp2_with fail
  rw [HW2.out]
  clear z0 z1 z2 z3 z4 z5 p0 p1 p2 p3 p4 p5 p6 p7 p8 p9
  refine (HRR.out).mono ?_
  rintro x w3 ⟨C2, N2, cc2, M, A1, n1, c1, A2, n2, c2, rfl, ho3, hu3, hb3⟩
  have hb3s := hb3.size
  have hzz := HZ2.out.below hb3 HZ2.out.lt
  have hyy := HY2.out.below hb3 HY2.out.lt
  have huu := HU2.out.below hb3 HU2.out.lt
  have hk4 := put6_keeps w3 (w.heap.size + 1 + 1) (w.heap.size + 1 + 1 + 1) (.int .i64 K') (.int .i64 R') (.slice C2 N2 cc2) (.int .i64 (M : Int)) (.slice A1 n1 c1) (.slice A2 n2 c2)
  have hres := put6_res (w := w) hyy huu (by omega) (by omega) (B := w2.heap.size) ho3 (by omega) hu3 (by omega) (HB2.out.trans (hb3.mono HB2.out.size)) K' R'
  have hpf := put6_facts hyy huu (by omega) (.int .i64 K') (.int .i64 R') (.slice C2 N2 cc2) (.int .i64 (M : Int)) (.slice A1 n1 c1) (.slice A2 n2 c2)
  have ho4 := own_keeps (own_below HO2.out hb3) hk4 (fun b hb hO => by
    have h1 := ((own_below HO2.out hb3).lt b hb).1
    omega)
  have he4 := errV_put6 (HE2.out.below hb3) hyy huu (.int .i64 K') (.int .i64 R') (.slice C2 N2 cc2) (.int .i64 (M : Int)) (.slice A1 n1 c1) (.slice A2 n2 c2)
  have hz4 := hzz.keeps hk4 (by omega)
  obtain ⟨d0, d1, d2, d3, d4, d5⟩ := hyy.facts
  obtain ⟨f0, f1, f2, f3, f4, f5⟩ := huu.facts
  obtain ⟨g0, g1, g2, _⟩ := hzz.facts
  have HPW := Lib.hid (show (((((w3.setCell ⟨w.heap.size + 1 + 1, 0, none⟩ (.int .i64 K')).setCell ⟨w.heap.size + 1 + 1, 1, none⟩ (.int .i64 R')).setCell ⟨w.heap.size + 1 + 1, 2, none⟩ (.slice C2 N2 cc2)).setCell ⟨w.heap.size + 1 + 1 + 1, 0, none⟩ (.int .i64 (M : Int))).setCell ⟨w.heap.size + 1 + 1 + 1, 1, none⟩ (.slice A1 n1 c1)).setCell ⟨w.heap.size + 1 + 1 + 1, 2, none⟩ (.slice A2 n2 c2) = put6 w3 (w.heap.size + 1 + 1) (w.heap.size + 1 + 1 + 1) (.int .i64 K') (.int .i64 R') (.slice C2 N2 cc2) (.int .i64 (M : Int)) (.slice A1 n1 c1) (.slice A2 n2 c2) from rfl)
  obtain ⟨w4, hw4⟩ : ∃ w4, put6 w3 (w.heap.size + 1 + 1) (w.heap.size + 1 + 1 + 1) (.int .i64 K') (.int .i64 R') (.slice C2 N2 cc2) (.int .i64 (M : Int)) (.slice A1 n1 c1) (.slice A2 n2 c2) = w4 := ⟨_, rfl⟩
  rw [hw4] at hres hpf ho4 he4 hz4
  have hrl := rules5 w4 K' R' K' R' C1 C2 N1 N2 cc1 cc2 _ _ (Sl.of_own ho4) (Sl.of_own hres.1) (by have := own_le ho4; simp only [maxLen] at this; omega) (by have := own_le hres.1; simp only [maxLen] at this; omega)
  simp only [and_self, decide_true] at hrl
  have HRL := Lib.hid hrl
  have HW4 := Lib.hid hw4
  have HPF := Lib.hid hpf
  have HE4 := Lib.hid he4
  have HWB := Lib.hid hres.2.1
  have HB4 := Lib.hid hres.2.2
  clear hrl hw4 hpf he4 hres ho4 hz4 hk4 hzz hyy huu ho3 hu3 hb3
  go_wp2_with fail
  rw [HPW.out, HW4.out]
  clear d0 d1 d2 d3 d4 d5 f0 f1 f2 f3 f4 f5 g0 g1 g2
  refine (HRL.out).mono ?_
  rintro x w5 ⟨rfl, hb5⟩
  obtain ⟨f0, f1, f2, _⟩ := (HPF.out.2.below hb5 HPF.out.2.lt).facts
  have hb5w := HB4.out.trans (hb5.mono HB4.out.size)
  have HIS := Lib.hid (rawIs_c w5 E (HEE.out w5 hb5w).1 (HEE.out w5 hb5w).2 tl HTL.out v1 _ (HE4.out.below hb5) ((HWB.out.below hb5).want))
  have HB5 := Lib.hid hb5w
  clear hb5 hb5w
  go_wp2_with fail
  refine (HIS.out).mono ?_
  rintro x w6 ⟨rfl, hb6⟩
  have HB6 := Lib.hid (HB5.out.trans (hb6.mono HB5.out.size))
  clear hb6 f0 f1 f2
  go_wp2_with fail
  go_ret
  exact ⟨rfl, HB6.out⟩

set_option maxRecDepth 100000 in
set_option maxHeartbeats 4000000 in
theorem plays_power (w : World) (E : Nat → Addr) (hE : Errs w E) (hEt : ErrT w) (kd K D KA RA KB RB : Int) (A B P : Option Addr) (n c m d l e : Nat) (TA TB Q : List Int) (hA : Sl w A n (TA.map (Value.int .i64))) (hBt : Sl w B m (TB.map (Value.int .i64))) (hP : Sl w P l (Q.map (Value.int .i64))) (hn : n ≤ 9223372036854775807) (hm : m ≤ 9223372036854775807) (hl8 : l * 8 ≤ 140737488351232) (hD1 : -9223372036854775808 ≤ D) (hD2 : D ≤ 9223372036854775807) (hk : (kd.tmod 8 + 8) % 8 = 6) :
    Calls Tryz.prog 7 #[.agg #[.int .i64 kd, .int .i64 K, .int .i64 D, .int .i64 KA, .int .i64 RA, .slice A n c, .int .i64 KB, .int .i64 RB, .slice B m d, .slice P l e]] w fun x w' => x = .returned (.bool true) ∧ Below w.heap.size w w' := by
  obtain ⟨wx, hwx, hop, hz, hy, hu, hb, hsx⟩ := plays_start w kd K D KA RA KB RB A B P n c m d l e
  obtain ⟨K', R', xs, tl, htl, hF, hR⟩ := both_power KA RA A n c TA hn D hD2
  have HWX := Lib.hid hwx
  have HOP := Lib.hid hop
  have HZ := Lib.hid hz
  have HY := Lib.hid hy
  have HU := Lib.hid hu
  have HB := Lib.hid hb
  have HF := Lib.hid hF
  have HR := Lib.hid hR
  have HTL := Lib.hid htl
  have HEE := Lib.hid (fun (wz : World) (hz : Below w.heap.size w wz) => (⟨hE.below hz, hEt.below hz⟩ : _ ∧ _))
  have HSL := Lib.hid (fun (wz : World) (hz : Below w.heap.size w wz) => (⟨hA.below hz, hBt.below hz, hP.below hz⟩ : _ ∧ _ ∧ _))
  obtain ⟨q0, q1, q2, q3, q4, q5, q6, q7, q8, q9⟩ := hop.facts
  obtain ⟨t1, t2⟩ := tmod8 kd
  obtain ⟨y, hy8⟩ : ∃ y, kd.tmod 8 = y := ⟨_, rfl⟩
  rw [hy8] at hk t1 t2
  have e1 : IntKind.i64.wrap (y + 8) = y + 8 := IntWalk.i64_in _ (by omega)
  have e2 : (y + 8).tmod 8 = 6 := by rw [Int.tmod_eq_emod_of_nonneg (by omega)]; exact hk
  have e4 : 0 ≤ y + 8 := by omega
  have e3 : (y + 8) % 8 = 6 := hk
  have hff := HF.out wx E (HEE.out wx hb).1 (HSL.out wx hb).1
  clear hwx hop hz hy hu hb hF hR htl hE hEt hA hBt hP hk hl8 hD1 hD2
  unfold ruleV at *
  have HFF := Lib.hid hff
  clear hff
  go_enter Tryz.func7, Tryz.ntmps7
  go_wp2_with fail
  rw [HWX.out]
  refine (HFF.out).mono ?_
  rintro x w1 ⟨C1, N1, cc1, v1, rfl, ho1, he1, hb1⟩
  have hlt1 : w.heap.size + 4 ≤ wx.heap.size := Nat.le_of_eq hsx.symm
  have hz1 := HZ.out.below hb1 HZ.out.lt
  have hk2 := keeps_set3 w1 (w.heap.size + 1) (.int .i64 K') (.int .i64 R') (.slice C1 N1 cc1)
  have hz2 := hz1.set3 (.int .i64 K') (.int .i64 R') (.slice C1 N1 cc1)
  have hop2 := (HOP.out.below hb1 HOP.out.lt).keeps hk2 (by omega)
  have hy2 := (HY.out.below hb1 HY.out.lt).keeps hk2 (by omega)
  have hu2 := (HU.out.below hb1 HU.out.lt).keeps hk2 (by omega)
  have ho2 := own_set3 ho1 hz1 (by decide) (.int .i64 K') (.int .i64 R') (.slice C1 N1 cc1)
  have he2 := errV_put3 he1 hz1 (.int .i64 K') (.int .i64 R') (.slice C1 N1 cc1)
  have hb2 := below_set3 (HB.out.trans (hb1.mono HB.out.size)) (show w.heap.size ≤ w.heap.size + 1 by omega) (.int .i64 K') (.int .i64 R') (.slice C1 N1 cc1)
  obtain ⟨z0, z1, z2, z3, z4, z5⟩ := hz1.facts
  obtain ⟨p0, p1, p2, p3, p4, p5, p6, p7, p8, p9⟩ := (HOP.out.below hb1 HOP.out.lt).facts
  obtain ⟨w2, hw2⟩ : ∃ w2, ((w1.setCell ⟨w.heap.size + 1, 0, none⟩ (.int .i64 K')).setCell ⟨w.heap.size + 1, 1, none⟩ (.int .i64 R')).setCell ⟨w.heap.size + 1, 2, none⟩ (.slice C1 N1 cc1) = w2 := ⟨_, rfl⟩
  have hs2 : w2.heap.size = w1.heap.size := by rw [← hw2]; simp
  rw [hw2] at hz2 hop2 hy2 hu2 ho2 he2 hb2
  have hrr := HR.out w2 (HSL.out w2 hb2).1
  unfold ruleV at *
  have HRR := Lib.hid hrr
  have HW2 := Lib.hid hw2
  have HZ2 := Lib.hid hz2
  have HY2 := Lib.hid hy2
  have HU2 := Lib.hid hu2
  have HO2 := Lib.hid ho2
  have HE2 := Lib.hid he2
  have HB2 := Lib.hid hb2
  have hb1s := hb1.size
  clear hrr hw2 hz2 hop2 hy2 hu2 ho2 he2 hb2 hk2 hz1 ho1 he1 hb1 q0 q1 q2 q3 q4 q5 q6 q7 q8 q9
  go_wp2_with fail
  rw [HW2.out]
  clear z0 z1 z2 z3 z4 z5 p0 p1 p2 p3 p4 p5 p6 p7 p8 p9
  refine (HRR.out).mono ?_
  rintro x w3 ⟨C2, N2, cc2, M, A1, n1, c1, A2, n2, c2, rfl, ho3, hu3, hb3⟩
  have hb3s := hb3.size
  have hzz := HZ2.out.below hb3 HZ2.out.lt
  have hyy := HY2.out.below hb3 HY2.out.lt
  have huu := HU2.out.below hb3 HU2.out.lt
  have hk4 := put6_keeps w3 (w.heap.size + 1 + 1) (w.heap.size + 1 + 1 + 1) (.int .i64 K') (.int .i64 R') (.slice C2 N2 cc2) (.int .i64 (M : Int)) (.slice A1 n1 c1) (.slice A2 n2 c2)
  have hres := put6_res (w := w) hyy huu (by omega) (by omega) (B := w2.heap.size) ho3 (by omega) hu3 (by omega) (HB2.out.trans (hb3.mono HB2.out.size)) K' R'
  have hpf := put6_facts hyy huu (by omega) (.int .i64 K') (.int .i64 R') (.slice C2 N2 cc2) (.int .i64 (M : Int)) (.slice A1 n1 c1) (.slice A2 n2 c2)
  have ho4 := own_keeps (own_below HO2.out hb3) hk4 (fun b hb hO => by
    have h1 := ((own_below HO2.out hb3).lt b hb).1
    omega)
  have he4 := errV_put6 (HE2.out.below hb3) hyy huu (.int .i64 K') (.int .i64 R') (.slice C2 N2 cc2) (.int .i64 (M : Int)) (.slice A1 n1 c1) (.slice A2 n2 c2)
  have hz4 := hzz.keeps hk4 (by omega)
  obtain ⟨d0, d1, d2, d3, d4, d5⟩ := hyy.facts
  obtain ⟨f0, f1, f2, f3, f4, f5⟩ := huu.facts
  obtain ⟨g0, g1, g2, _⟩ := hzz.facts
  have HPW := Lib.hid (show (((((w3.setCell ⟨w.heap.size + 1 + 1, 0, none⟩ (.int .i64 K')).setCell ⟨w.heap.size + 1 + 1, 1, none⟩ (.int .i64 R')).setCell ⟨w.heap.size + 1 + 1, 2, none⟩ (.slice C2 N2 cc2)).setCell ⟨w.heap.size + 1 + 1 + 1, 0, none⟩ (.int .i64 (M : Int))).setCell ⟨w.heap.size + 1 + 1 + 1, 1, none⟩ (.slice A1 n1 c1)).setCell ⟨w.heap.size + 1 + 1 + 1, 2, none⟩ (.slice A2 n2 c2) = put6 w3 (w.heap.size + 1 + 1) (w.heap.size + 1 + 1 + 1) (.int .i64 K') (.int .i64 R') (.slice C2 N2 cc2) (.int .i64 (M : Int)) (.slice A1 n1 c1) (.slice A2 n2 c2) from rfl)
  obtain ⟨w4, hw4⟩ : ∃ w4, put6 w3 (w.heap.size + 1 + 1) (w.heap.size + 1 + 1 + 1) (.int .i64 K') (.int .i64 R') (.slice C2 N2 cc2) (.int .i64 (M : Int)) (.slice A1 n1 c1) (.slice A2 n2 c2) = w4 := ⟨_, rfl⟩
  rw [hw4] at hres hpf ho4 he4 hz4
  have hrl := rules5 w4 K' R' K' R' C1 C2 N1 N2 cc1 cc2 _ _ (Sl.of_own ho4) (Sl.of_own hres.1) (by have := own_le ho4; simp only [maxLen] at this; omega) (by have := own_le hres.1; simp only [maxLen] at this; omega)
  simp only [and_self, decide_true] at hrl
  have HRL := Lib.hid hrl
  have HW4 := Lib.hid hw4
  have HPF := Lib.hid hpf
  have HE4 := Lib.hid he4
  have HWB := Lib.hid hres.2.1
  have HB4 := Lib.hid hres.2.2
  clear hrl hw4 hpf he4 hres ho4 hz4 hk4 hzz hyy huu ho3 hu3 hb3
  go_wp2_with fail
  rw [HPW.out, HW4.out]
  clear d0 d1 d2 d3 d4 d5 f0 f1 f2 f3 f4 f5 g0 g1 g2
  refine (HRL.out).mono ?_
  rintro x w5 ⟨rfl, hb5⟩
  obtain ⟨f0, f1, f2, _⟩ := (HPF.out.2.below hb5 HPF.out.2.lt).facts
  have hb5w := HB4.out.trans (hb5.mono HB4.out.size)
  have HIS := Lib.hid (rawIs_c w5 E (HEE.out w5 hb5w).1 (HEE.out w5 hb5w).2 tl HTL.out v1 _ (HE4.out.below hb5) ((HWB.out.below hb5).want))
  have HB5 := Lib.hid hb5w
  clear hb5 hb5w
  go_wp2_with fail
  refine (HIS.out).mono ?_
  rintro x w6 ⟨rfl, hb6⟩
  have HB6 := Lib.hid (HB5.out.trans (hb6.mono HB5.out.size))
  clear hb6 f0 f1 f2
  go_wp2_with fail
  go_ret
  exact ⟨rfl, HB6.out⟩

end Go.Proofs.YtpllojpgpejfmaaGreatDoor
