/- Does a program find an inverse at all: edentop.inverts. Condition: the error variables hold what E says. Two rows that are one are told to be one: row.Same. Condition: the error variables hold what E says. The tops' own checks: counts of edentop, and the fair share. Condition: the error variables hold what E says. -/
import Derived.Deep.RegionHeld3
import Derived.Deep.RegionLaw
import Derived.IntWalk
import Derived.Laws.BitsAllLaws
import Derived.Test.YtedmmmlahpmmoaaGreatDoorV4
import Derived.Test.YtedmmmlahpmmoaaGreatDoorV6
import Derived.Test.YtedmmmlahpmmoaaGreatDoorV8
import Derived.Test.YtedmmmlahpmmoaaGreatDoorV9
import Derived.Test.YtedmmmlahpmmoaaGreatDoorV19
import Derived.Test.YtedmmmlahpmmoaaGreatDoorV23
import Derived.Test.YtedmmmlahpmmoaaGreatDoorV26
import Derived.Test.YtedmmmlahpmmoaaGreatDoorV30
import Derived.Test.YtedmmmlahpmmoaaGreatDoorV31
namespace Go.Proofs.YtedmmmlahpmmoaaGreatDoor
open Go.RowKit RuleP TarjP PairP

theorem ecaT_170 : ecaT 170 8 = [0, 1, 0, 1, 0, 1, 0, 1] := by decide
theorem ecaT_90i : ecaT 90 8 = [0, 1, 0, 1, 1, 0, 1, 0] := by decide
theorem ecaT_240 : ecaT 240 8 = [0, 0, 0, 0, 1, 1, 1, 1] := by decide
theorem rule_170 : IsRule 2 1 [0, 1, 0, 1, 0, 1, 0, 1] := ⟨by decide, by decide, by decide, by decide, by decide⟩
theorem rule_90 : IsRule 2 1 [0, 1, 0, 1, 1, 0, 1, 0] := ⟨by decide, by decide, by decide, by decide, by decide⟩
theorem yes_170 : decide (apartP (2 ^ (2 * workR 1)) (pairG 2 (2 ^ (2 * workR 1)) (workT 2 1 [0, 1, 0, 1, 0, 1, 0, 1])) = []) = true := by
  rw [show 2 ^ (2 * workR 1) = 4 from rfl, show workT 2 1 [0, 1, 0, 1, 0, 1, 0, 1] = [0, 1, 0, 1, 0, 1, 0, 1] from rfl, one_170]
  rfl
theorem yes_90 : decide (apartP (2 ^ (2 * workR 1)) (pairG 2 (2 ^ (2 * workR 1)) (workT 2 1 [0, 1, 0, 1, 1, 0, 1, 0])) = []) = false := by
  rw [show 2 ^ (2 * workR 1) = 4 from rfl, show workT 2 1 [0, 1, 0, 1, 1, 0, 1, 0] = [0, 1, 0, 1, 1, 0, 1, 0] from rfl]
  refine decide_eq_false fun e => ?_
  have h := one_90
  rw [e] at h
  cases h
theorem inv170_c (w : World) (E : Nat → Addr) (hE : Errs w E) (A : Option Addr) (c : Nat) (hT : Sl w A 8 ((ints (ecaT 170 8)).map (Value.int .i64))) :
    Calls Tryz.prog 5 #[ruleV 2 1 A 8 c] w fun e w' => ∃ gt, e = .returned (.tuple #[ruleV 2 1 (some ⟨gt, 0, none⟩) 8 8, .nilIface]) ∧ Sl w' (some ⟨gt, 0, none⟩) 8 ((ints (ecaT 240 8)).map (Value.int .i64)) ∧ Below w.heap.size w w' := by
  rw [ecaT_170] at hT
  refine (inv_good w E hE 2 1 8 c A _ hT rule_170 (by decide)).mono ?_
  intro e w' h
  rcases h.ways with ⟨ρ, T, gt, hy, hf, he, ho, hb⟩ | ⟨n, v, hn, h1, h2, he, hv, hb⟩
  · rw [find_170] at hf
    cases hf
    exact ⟨gt, he, by rw [ecaT_240]; exact Sl.of_own ho, hb⟩
  · obtain ⟨_, hf⟩ := h1 yes_170
    rw [find_170] at hf
    cases hf
theorem inv90_c (w : World) (E : Nat → Addr) (hE : Errs w E) (A : Option Addr) (c : Nat) (hT : Sl w A 8 ((ints (ecaT 90 8)).map (Value.int .i64))) :
    Calls Tryz.prog 5 #[ruleV 2 1 A 8 c] w fun e w' => ∃ v, e = .returned (.tuple #[ruleV 0 0 none 0 0, v]) ∧ ErrIs w' E 9 [(sInverse, 0)] v ∧ Below w.heap.size w w' := by
  rw [ecaT_90i] at hT
  refine (inv_good w E hE 2 1 8 c A _ hT rule_90 (by decide)).mono ?_
  intro e w' h
  rcases h.ways with ⟨ρ, T, gt, hy, hf, he, ho, hb⟩ | ⟨n, v, hn, h1, h2, he, hv, hb⟩
  · rw [yes_90] at hy
    cases hy
  · obtain rfl := h2 yes_90
    exact ⟨v, he, hv, hb⟩

/-- What the law asks of the world. -/
def InvW (w : World) (E : Nat → Addr) : Prop := Errs w E ∧ Apart12 E ∧ ErrBlk w E
theorem InvW.below {w w' : World} {E : Nat → Addr} (h : InvW w E) (hb : Below w.heap.size w w') : InvW w' E := ⟨h.1.below hb, h.2.1, h.2.2.below hb⟩

set_option maxRecDepth 100000 in
set_option maxHeartbeats 2000000 in
theorem inverts_c (w : World) (E : Nat → Addr) (hE : InvW w E) : Calls Tryz.prog 4 #[] w fun e w' => e = .returned (.bool true) ∧ Below w.heap.size w w' := by
  have HE := Lib.hid (fun (wz : World) (hz : Below w.heap.size w wz) => hE.below hz)
  clear hE
  go_enter Tryz.func4, Tryz.ntmps4
  have HC1 := Lib.hid (eca_c w 170 (by decide))
  go_wp2_with fail
  refine (HC1.out).mono ?_
  rintro e w1 ⟨A1, c1, rfl, hT1, hb1⟩
  have HO1 := inv170_c w1 E (HE.out w1 hb1).1 A1 c1 hT1
  unfold ruleV at HO1
  have HO1 := Lib.hid HO1
  have HB1 := Lib.hid hb1
  clear hT1 hb1 HC1
  go_wp2_with fail
  refine (HO1.out).mono ?_
  rintro e w2 ⟨gt, rfl, hS, hb2⟩
  have hb02 := HB1.out.trans (hb2.mono HB1.out.size)
  have hr3 := RuleAt.new w2 (.int .i64 2) (.int .i64 1) (.slice (some ⟨gt, 0, none⟩) 8 8)
  have b3 := (Below.refl w2.heap.size w2).alloc (Nat.le_refl _) (.cells #[.int .i64 2, .int .i64 1, .slice (some ⟨gt, 0, none⟩) 8 8] 24)
  obtain ⟨w3, hw3⟩ : ∃ w3, w2.alloc (.cells #[.int .i64 2, .int .i64 1, .slice (some ⟨gt, 0, none⟩) 8 8] 24) = w3 := ⟨_, rfl⟩
  rw [hw3] at hr3 b3
  have HW3 := Lib.hid hw3
  have HR3 := Lib.hid hr3
  have HS3 := Lib.hid (hS.below b3)
  have HB3 := Lib.hid (hb02.trans (b3.mono hb02.size))
  have HC3 := Lib.hid (eca_c w3 90 (by decide))
  clear hS hb2 hb02 hr3 b3 hw3 HO1
  go_wp2_with fail
  rw [HW3.out]
  refine (HC3.out).mono ?_
  rintro e w4 ⟨A4, c4, rfl, hT4, hb4⟩
  have hb04 := HB3.out.trans (hb4.mono HB3.out.size)
  have HO4 := inv90_c w4 E (HE.out w4 hb04).1 A4 c4 hT4
  unfold ruleV at HO4
  have HO4 := Lib.hid HO4
  have HB4 := Lib.hid hb04
  have HR4 := Lib.hid (HR3.out.below hb4 HR3.out.lt)
  have HS4 := Lib.hid (HS3.out.below hb4)
  clear hT4 hb4 hb04 HC3
  go_wp2_with fail
  refine (HO4.out).mono ?_
  rintro e w5 ⟨v, rfl, hv, hb5⟩
  obtain ⟨u, p, rfl⟩ := hv.iface
  have b6 := (Below.refl w5.heap.size w5).alloc (Nat.le_refl _) (.cells #[.int .i64 0, .int .i64 0, .slice none 0 0] 24)
  obtain ⟨w6, hw6⟩ : ∃ w6, w5.alloc (.cells #[.int .i64 0, .int .i64 0, .slice none 0 0] 24) = w6 := ⟨_, rfl⟩
  rw [hw6] at b6
  have hb06 := (HB4.out.trans (hb5.mono HB4.out.size)).trans (b6.mono (HB4.out.trans (hb5.mono HB4.out.size)).size)
  have HW6 := Lib.hid hw6
  have HB6 := Lib.hid hb06
  have HX := Lib.hid (fun (wz : World) (hz : Below w6.heap.size w6 wz) => (⟨(HE.out _ (hb06.trans (hz.mono hb06.size))), ((HR4.out.below hb5 HR4.out.lt).below b6 (HR4.out.below hb5 HR4.out.lt).lt).below hz ((HR4.out.below hb5 HR4.out.lt).below b6 (HR4.out.below hb5 HR4.out.lt).lt).lt, ((HS4.out.below hb5).below b6).below hz, ErrIs.below hz (ErrIs.below b6 hv)⟩ : InvW wz E ∧ RuleAt wz w2.heap.size (.int .i64 2) (.int .i64 1) (.slice (some ⟨gt, 0, none⟩) 8 8) ∧ Sl wz (some ⟨gt, 0, none⟩) 8 ((ints (ecaT 240 8)).map (Value.int .i64)) ∧ ErrIs wz E 9 [(sInverse, 0)] (.iface u p)))
  have HF := Lib.hid (fun (wz : World) (hz : Below w6.heap.size w6 wz) => (⟨(HX.out wz hz).2.1.facts.1, (HX.out wz hz).2.1.facts.2.1, (HX.out wz hz).2.1.facts.2.2.1, (HX.out wz hz).1.1.e9⟩ : wz.cell? ⟨w2.heap.size, 0, none⟩ = some (.int .i64 2) ∧ wz.cell? ⟨w2.heap.size, 1, none⟩ = some (.int .i64 1) ∧ wz.cell? ⟨w2.heap.size, 2, none⟩ = some (.slice (some ⟨gt, 0, none⟩) 8 8) ∧ wz.cell? ⟨0, 0, none⟩ = some (.iface 169 (.pointer (some (E 9))))))
  have HC7 := Lib.hid (fun (wz : World) => (show Calls Tryz.prog 11 #[.int .i64 240] wz fun e w' => ∃ (A : Option Addr) (c : Nat), e = .returned (.agg #[.int .i64 2, .int .i64 1, .slice A 8 c]) ∧ Sl w' A 8 ((ints (ecaT 240 8)).map (Value.int .i64)) ∧ Below wz.heap.size wz w' from eca_c wz 240 (by decide)))
  have HRU := Lib.hid (fun (wz : World) (hz : Below w6.heap.size w6 wz) (A : Option Addr) (c : Nat) (hA : Sl wz A 8 ((ints (ecaT 240 8)).map (Value.int .i64))) => (by
    have h := rules_b wz 2 1 2 1 (some ⟨gt, 0, none⟩) A 8 8 8 c _ _ (HX.out wz hz).2.2.1 hA (by decide) (by decide)
    rw [decide_eq_true ⟨rfl, rfl, rfl⟩] at h
    unfold ruleV at h
    exact h : Calls Tryz.prog 12 #[.agg #[.int .i64 2, .int .i64 1, .slice (some ⟨gt, 0, none⟩) 8 8], .agg #[.int .i64 2, .int .i64 1, .slice A 8 c]] wz fun e w' => e = .returned (.bool true) ∧ Below wz.heap.size wz w'))
  have HIS := Lib.hid (fun (wz : World) (hz : Below w6.heap.size w6 wz) => errorsIs_c wz E 9 _ _ (HX.out wz hz).2.2.2)
  have HCO := Lib.hid (fun (wz : World) (hz : Below w6.heap.size w6 wz) => (show Calls Tryz.prog 14 #[.iface u p] wz fun e w' => e = .returned (.int .i64 9) ∧ wz = w' from codeF_c wz E (HX.out wz hz).1.1 (HX.out wz hz).1.2.1 (HX.out wz hz).1.2.2 9 (by decide) (by decide) _ _ (HX.out wz hz).2.2.2))
  obtain ⟨z0, z1, z2, z3⟩ := HF.out w6 (Below.refl _ _)
  clear hv hb5 b6 hw6 hb06 HO4 HE HB1 HB3 HB4 HR3 HS3 HR4 HS4
  go_upto_region 3 with fail
  rw [HW6.out]
  go_region_held3 (fun wz => wz.cell? ⟨w2.heap.size, 0, none⟩ = some (.int .i64 2) ∧ wz.cell? ⟨w2.heap.size, 1, none⟩ = some (.int .i64 1) ∧ wz.cell? ⟨w2.heap.size, 2, none⟩ = some (.slice (some ⟨gt, 0, none⟩) 8 8) ∧ wz.cell? ⟨0, 0, none⟩ = some (.iface 169 (.pointer (some (E 9)))))
    (first | (refine ⟨?_, ?_, ?_, ?_⟩ <;> with_reducible assumption) | exact ⟨z0, z1, z2, z3⟩ | go_keep)
    (first
      | (go_simp
         go_at_call 14
         with_reducible refine (HCO.out _ ?_).mono ?_
         · repeat (first | with_reducible exact B8 | with_reducible refine bl_dr ?_)
         rintro e w9 ⟨rfl, rfl⟩
         dsimp only)
      | (go_simp
         go_at_call 13
         with_reducible refine (HIS.out _ ?_).mono ?_
         · repeat (first | with_reducible exact B8 | with_reducible refine bl_dr ?_)
         rintro e w9 ⟨rfl, rfl⟩
         dsimp only)
      | (go_simp
         go_at_call 12
         with_reducible refine (HRU.out _ ?_ _ _ ?_).mono ?_
         · repeat (first | with_reducible exact B7 | with_reducible refine bl_dr ?_)
         · first | exact hT7 | exact hT7.drew
         rintro e w8 ⟨rfl, hb8⟩
         have B8 : Below w6.heap.size w6 w8 := B7.trans (hb8.mono B7.size)
         obtain ⟨y0, y1, y2, y3⟩ := HF.out w8 B8
         dsimp only)
      | (go_simp
         go_at_call 11
         with_reducible refine (HC7.out _).mono ?_
         rintro e w7 ⟨A7, c7, rfl, hT7, hb7⟩
         have B7 : Below w6.heap.size w6 w7 := by
           refine bl_call (Nat.le_refl _) hb7 ?_
           repeat (first | with_reducible exact Below.refl _ _ | with_reducible refine bl_dr ?_)
         obtain ⟨x0, x1, x2, x3⟩ := HF.out w7 B7
         dsimp only)
      | fail)
  have HB8 := Lib.hid (HB6.out.trans (B8.mono HB6.out.size))
  clear B7 B8 hb7 hb8 hT7 x0 x1 x2 x3 y0 y1 y2 y3 z0 z1 z2 z3
  go_wp2_with fail
  exact bodyPost_ret (v := .bool true) (by simp [results, Tryz.results4, go_sem]) rfl ⟨rfl, HB8.out⟩
end Go.Proofs.YtedmmmlahpmmoaaGreatDoor

namespace Go.Proofs.YtedmmmlahpmmoaaGreatDoor
open Go.RowKit RuleP

/-- A row's sizes, as the law has them. -/
structure RowB (D : RowD) : Prop where
  a1 : -4096 ≤ D.at_
  a2 : D.at_ ≤ 4096
  l0 : 0 < D.nl
  l1 : D.nl ≤ 100
  r0 : 0 < D.nr
  r1 : D.nr ≤ 100
  c1 : D.nc ≤ 1100
theorem winZ_ext {c d : Int → Nat} (h : ∀ z, c z = d z) (m : Nat) (z : Int) : winZ c m z = winZ d m z := by
  rw [show c = d from funext h]

set_option maxRecDepth 100000 in
set_option maxHeartbeats 4000000 in
theorem rowSame_c (w : World) (E : Nat → Addr) (hE : Errs w E) (k : Nat) (hk1 : 1 ≤ k) (hk4 : k ≤ 4) (D1 D2 : RowD) (hD1 : RowIs w D1) (hD2 : RowIs w D2) (hs1 : RowSym k D1) (hs2 : RowSym k D2) (q1 : RowB D1) (q2 : RowB D2) (he : ∀ z, D1.sym z = D2.sym z) :
    Calls Tryz.prog 10 #[.int .i64 (k : Int), D1.val, D2.val] w fun e w' => e = .returned (.tuple #[.bool true, .nilIface]) ∧ Below w.heap.size w w' := by
  have hC1 : ∀ (wz : World), Below w.heap.size w wz → Calls Tryz.prog 8 #[.int .i64 (k : Int), D1.val] wz fun e w' => e = .returned .nilIface ∧ Below wz.heap.size wz w' :=
    fun wz hz => rowCheck_d wz E (hE.below hz) k hk1 hk4 D1 (hD1.below hz) hs1 q1.a1 q1.a2 q1.l0 (by have := q1.l1; omega) q1.r0 (by have := q1.r1; omega) (by have := q1.c1; omega)
  have hC2 : ∀ (wz : World), Below w.heap.size w wz → Calls Tryz.prog 8 #[.int .i64 (k : Int), D2.val] wz fun e w' => e = .returned .nilIface ∧ Below wz.heap.size wz w' :=
    fun wz hz => rowCheck_d wz E (hE.below hz) k hk1 hk4 D2 (hD2.below hz) hs2 q2.a1 q2.a2 q2.l0 (by have := q2.l1; omega) q2.r0 (by have := q2.r1; omega) (by have := q2.c1; omega)
  obtain ⟨m, hm⟩ : ∃ m, min D1.at_ D2.at_ = m := ⟨_, rfl⟩
  obtain ⟨m1, hm1⟩ : ∃ m1, m - (D1.nl : Int) = m1 := ⟨_, rfl⟩
  obtain ⟨f, hf⟩ : ∃ f, m1 - (D2.nl : Int) = f := ⟨_, rfl⟩
  obtain ⟨x, hx⟩ : ∃ x, D1.at_ + (D1.nc : Int) = x := ⟨_, rfl⟩
  obtain ⟨y, hy⟩ : ∃ y, D2.at_ + (D2.nc : Int) = y := ⟨_, rfl⟩
  obtain ⟨M, hM⟩ : ∃ M, max x y = M := ⟨_, rfl⟩
  obtain ⟨M1, hM1⟩ : ∃ M1, M + (D1.nr : Int) = M1 := ⟨_, rfl⟩
  obtain ⟨M2, hM2⟩ : ∃ M2, M1 + (D2.nr : Int) = M2 := ⟨_, rfl⟩
  obtain ⟨a1, a2, l0, l1, r0, r1, c1⟩ := q1
  obtain ⟨b1, b2, k0, k1, p0, p1, d1⟩ := q2
  have hM0 : m ≤ M ∧ -4096 ≤ m ∧ m ≤ 4096 ∧ M ≤ 5196 := by omega
  obtain ⟨n, hn⟩ : ∃ n : Nat, M2 - f = (n : Int) := ⟨(M2 - f).toNat, by omega⟩
  have hn0 : 0 < n ∧ n ≤ 20000 ∧ -5000 ≤ f ∧ f ≤ 5000 := by omega
  have hP1 : ∀ (wz : World), Below w.heap.size w wz → Calls Tryz.prog 21 #[D1.val, .int .i64 f, .int .i64 (n : Int)] wz fun e w' => ∃ g, e = .returned (.slice (some ⟨g, 0, none⟩) n n) ∧ Sl w' (some ⟨g, 0, none⟩) n ((ints (winZ D1.sym n f)).map (Value.int .i64)) ∧ Below wz.heap.size wz w' := fun wz hz => by
    refine (piece_c wz D1 (hD1.below hz) ⟨by omega, by omega, l0, by omega, by omega, r0, by omega⟩ f n (by omega) (by omega) (by omega) (by omega)).mono ?_
    rintro e w' ⟨g, rfl, ho, hb⟩
    exact ⟨g, rfl, Sl.of_own ho, hb⟩
  have hP2 : ∀ (wz : World), Below w.heap.size w wz → Calls Tryz.prog 21 #[D2.val, .int .i64 f, .int .i64 (n : Int)] wz fun e w' => ∃ g, e = .returned (.slice (some ⟨g, 0, none⟩) n n) ∧ Sl w' (some ⟨g, 0, none⟩) n ((ints (winZ D1.sym n f)).map (Value.int .i64)) ∧ Below wz.heap.size wz w' := fun wz hz => by
    refine (piece_c wz D2 (hD2.below hz) ⟨by omega, by omega, k0, by omega, by omega, p0, by omega⟩ f n (by omega) (by omega) (by omega) (by omega)).mono ?_
    rintro e w' ⟨g, rfl, ho, hb⟩
    rw [← winZ_ext he] at ho
    exact ⟨g, rfl, Sl.of_own ho, hb⟩
  have HEQ := Lib.hid (fun (wz : World) (g g' : Nat) (h1 : Sl wz (some ⟨g, 0, none⟩) n ((ints (winZ D1.sym n f)).map (Value.int .i64))) (h2 : Sl wz (some ⟨g', 0, none⟩) n ((ints (winZ D1.sym n f)).map (Value.int .i64))) => (by
    have h := equal_c wz (some ⟨g, 0, none⟩) (some ⟨g', 0, none⟩) n n n n _ _ h1 h2 (by omega) (by omega)
    rw [decide_eq_true rfl] at h
    exact h : Calls Tryz.prog 24 #[.slice (some ⟨g, 0, none⟩) n n, .slice (some ⟨g', 0, none⟩) n n] wz fun e w' => e = .returned (.bool true) ∧ Below wz.heap.size wz w'))
  obtain ⟨sym, hsym⟩ : ∃ sym, winZ D1.sym n f = sym := ⟨_, rfl⟩
  rw [hsym] at HEQ
  simp only [hsym] at hP1 hP2
  clear hsym he hs1 hs2 hD1 hD2 hE
  obtain ⟨a, AL, nl, cl, AC, nc, cc, AR, nr, cr, Ll, Lc, Lr⟩ := D1
  obtain ⟨b, BL, ml, dl, BC, mc, dc, BR, mr, dr, Ml, Mc, Mr⟩ := D2
  unfold RowD.val at *
  simp only at *
  have HC1 := Lib.hid hC1
  have HC2 := Lib.hid hC2
  have HP1 := Lib.hid hP1
  have HP2 := Lib.hid hP2
  clear hC1 hC2 hP1 hP2
  obtain ⟨oa, hoa⟩ : ∃ oa : Obj, Obj.cells #[.int .i64 a, .slice AL nl cl, .slice AC nc cc, .slice AR nr cr] 26 = oa := ⟨_, rfl⟩
  obtain ⟨ob, hob⟩ : ∃ ob : Obj, Obj.cells #[.int .i64 b, .slice BL ml dl, .slice BC mc dc, .slice BR mr dr] 26 = ob := ⟨_, rfl⟩
  have hA := (RowAt.new w (.int .i64 a) (.slice AL nl cl) (.slice AC nc cc) (.slice AR nr cr)).alloc ob
  have hB := RowAt.new (w.alloc oa) (.int .i64 b) (.slice BL ml dl) (.slice BC mc dc) (.slice BR mr dr)
  rw [hoa] at hA
  rw [hob, World.size_alloc] at hB
  have b3 := ((Below.refl w.heap.size w).alloc (Nat.le_refl _) oa).alloc (by simp) ob
  obtain ⟨w3, hw3⟩ : ∃ w3, (w.alloc oa).alloc ob = w3 := ⟨_, rfl⟩
  rw [hw3] at hA hB b3
  have e1 : (if b < a then b else a) = m := by split <;> omega
  have e2 : IntKind.i64.wrap (m - (nl : Int)) = m1 := by rw [hm1]; exact IntWalk.i64_in _ (by omega)
  have e3 : IntKind.i64.wrap (m1 - (ml : Int)) = f := by rw [hf]; exact IntWalk.i64_in _ (by omega)
  have e4 : IntKind.i64.wrap (a + (nc : Int)) = x := by rw [hx]; exact IntWalk.i64_in _ (by omega)
  have e5 : IntKind.i64.wrap (b + (mc : Int)) = y := by rw [hy]; exact IntWalk.i64_in _ (by omega)
  have e6 : (if x < y then y else x) = M := by split <;> omega
  have e7 : IntKind.i64.wrap (M + (nr : Int)) = M1 := by rw [hM1]; exact IntWalk.i64_in _ (by omega)
  have e8 : IntKind.i64.wrap (M1 + (mr : Int)) = M2 := by rw [hM2]; exact IntWalk.i64_in _ (by omega)
  have e9 : IntKind.i64.wrap (M2 - f) = (n : Int) := by rw [hn]; exact IntWalk.i64_in _ (by omega)
  obtain ⟨f0, f1, f2, f3, _⟩ := hA.facts
  have HA := Lib.hid hA
  have HB := Lib.hid hB
  have B3 := Lib.hid b3
  have HW3 := Lib.hid (And.intro hw3 (And.intro hoa hob))
  rw [← hw3, ← hoa, ← hob] at f0 f1 f2 f3
  clear hA hB b3 hw3 hoa hob hm1 hf hx hy hM1 hM2 hn
  go_enter Tryz.func10, Tryz.ntmps10
  go_wp2_with fail
  rw [HW3.out.2.1, HW3.out.2.2, HW3.out.1]
  clear f0 f1 f2 f3
  refine (HC1.out w3 B3.out).mono ?_
  rintro e w4 ⟨rfl, b4⟩
  have B4 := Lib.hid (B3.out.trans (b4.mono B3.out.size))
  have HA4 := Lib.hid (HA.out.below b4 HA.out.lt)
  have HB4 := Lib.hid (HB.out.below b4 HB.out.lt)
  obtain ⟨g0, g1, g2, g3, _⟩ := HB4.out.facts
  clear b4
  go_wp2_with fail
  refine (HC2.out w4 B4.out).mono ?_
  rintro e w5 ⟨rfl, b5⟩
  have B5 := Lib.hid (B4.out.trans (b5.mono B4.out.size))
  have HA5 := Lib.hid (HA4.out.below b5 HA4.out.lt)
  have HB5 := Lib.hid (HB4.out.below b5 HB4.out.lt)
  clear b5 g0 g1 g2 g3
  obtain ⟨f0, f1, f2, f3, _⟩ := HA5.out.facts
  obtain ⟨g0, g1, g2, g3, _⟩ := HB5.out.facts
  go_upto_region 9 with (go_quiet (fail))
  go_region_law (first
    | (go_simp
       go_at_call 21
       with_reducible refine (HP1.out _ ?_).mono ?_
       · repeat (first | with_reducible exact B5.out | with_reducible refine bl_dr ?_)
       rintro e w10 ⟨ga, rfl, hs10, hb10⟩
       have hB10 : Below w5.heap.size w5 w10 := by
         refine bl_call (Nat.le_refl _) hb10 ?_
         repeat (first | with_reducible exact Below.refl _ _ | with_reducible refine bl_dr ?_)
       have B10 := Lib.hid (B5.out.trans (hB10.mono B5.out.size))
       have HB10 := Lib.hid (HB5.out.below hB10 HB5.out.lt)
       obtain ⟨z0, z1, z2, z3, _⟩ := HB10.out.facts
       have HS10 := Lib.hid hs10
       clear hB10 hs10 hb10
       dsimp only)
    | (go_simp
       go_at_call 21
       with_reducible refine (HP2.out _ ?_).mono ?_
       · repeat (first | with_reducible exact B10.out | with_reducible refine bl_dr ?_)
       rintro e w11 ⟨gb, rfl, hs11, hb11⟩
       have hB11 : Below w10.heap.size w10 w11 := by
         refine bl_call (Nat.le_refl _) hb11 ?_
         repeat (first | with_reducible exact Below.refl _ _ | with_reducible refine bl_dr ?_)
       have B11 := Lib.hid (B10.out.trans (hB11.mono B10.out.size))
       have HS11 := Lib.hid (And.intro (HS10.out.below hB11) hs11)
       clear hB11 hs11 hb11
       dsimp only)
    | (go_simp
       go_at_call 24
       with_reducible refine (HEQ.out _ _ _ ?_ ?_).mono ?_
       · first | exact HS11.out.1 | exact HS11.out.1.drew | exact HS11.out.1.drew.drew
       · first | exact HS11.out.2 | exact HS11.out.2.drew | exact HS11.out.2.drew.drew
       rintro e w12 ⟨rfl, hb12⟩
       have hB12 : Below w11.heap.size w11 w12 := by
         refine bl_call (Nat.le_refl _) hb12 ?_
         repeat (first | with_reducible exact Below.refl _ _ | with_reducible refine bl_dr ?_)
       have B12 := Lib.hid (B11.out.trans (hB12.mono B11.out.size))
       clear hB12 hb12
       dsimp only)
    | fail)
  all_goals
    try go_wp2_with fail
    exact bodyPost_ret (v := .tuple #[.bool true, .nilIface]) (by simp [results, Tryz.results10, go_sem]) rfl ⟨rfl, by
      repeat (first | with_reducible exact B12.out | with_reducible refine bl_dr ?_)⟩
end Go.Proofs.YtedmmmlahpmmoaaGreatDoor

namespace Go.Proofs.YtedmmmlahpmmoaaGreatDoor
open Go.RowKit RuleP

theorem small_parts {K R : Int} {T : List Int} (h : small K R T = none) : ∃ (k r : Nat) (t : List Nat), K = (k : Int) ∧ R = (r : Int) ∧ T = ints t ∧ IsRule k r t ∧ t.length ≤ 256 := by
  unfold small at h
  split at h
  · cases h
  · rename_i hc
    split at h
    · cases h
    · rename_i h2
      obtain ⟨k, r, t, rfl, rfl, rfl, hr⟩ := check_none hc
      exact ⟨k, r, t, rfl, rfl, rfl, hr, by rw [ints_len] at h2; omega⟩
end Go.Proofs.YtedmmmlahpmmoaaGreatDoor
