/- Both packages' rules tell the same: forms and edenref05, Same. Condition: the tables read from memory; the error variables hold what E says. What a law's step says: edenlaw05.plays, the kind that compares two rules. Condition: the tables read from memory; the error variables hold what E says. The document's narrow form, of a good rule: edenref05.Narrow. Condition: the table reads from memory. Both packages' narrow forms tell the same, and what a law's step says of them: edenlaw05.plays, kind 4. Condition: the tables read from memory; the error variables hold what E says. -/
import Derived.Deep.DeepCutAuto
import Derived.Test.YtpllojpgpejfmaaGreatDoorF3
import Derived.Test.YtpllojpgpejfmaaGreatDoorF10
import Derived.Test.YtpllojpgpejfmaaGreatDoorF12
import Derived.Test.YtpllojpgpejfmaaGreatDoorF17
import Derived.Test.YtpllojpgpejfmaaGreatDoorF21
import Derived.Test.YtpllojpgpejfmaaGreatDoorF25
import Derived.Test.YtpllojpgpejfmaaGreatDoorF26
import Derived.Test.YtpllojpgpejfmaaGreatDoorF29
namespace Go.Proofs.YtpllojpgpejfmaaGreatDoor
open Go.RowKit RuleP

theorem both_same (K R K2 R2 : Int) (A B : Option Addr) (n c m d : Nat) (T T2 : List Int) (hm : n ≤ 9223372036854775807) (hm2 : m ≤ 9223372036854775807) : ∃ (b : Bool) (tl : Option Tale), TaleOk tl ∧
    (∀ (w : World) (E : Nat → Addr), Errs w E → Sl w A n (T.map (Value.int .i64)) → Sl w B m (T2.map (Value.int .i64)) → Calls Tryz.prog 26 #[ruleV K R A n c, ruleV K2 R2 B m d] w (BoolRes w E b tl)) ∧
    (∀ w : World, Sl w A n (T.map (Value.int .i64)) → Sl w B m (T2.map (Value.int .i64)) → Calls Tryz.prog 27 #[ruleV K R A n c, ruleV K2 R2 B m d] w (Bool5E w b tl)) := by
  cases h : checkF 0 K R T with
  | some tl => exact ⟨false, some tl, h ▸ checkF_ok 0 K R T, fun w E hE hT _ => same_bad1 w E hE K R K2 R2 A B n c m d T hT hm tl h, fun w hT hT2 => same5_bad1 w K R K2 R2 A B n c m d T T2 hT hm hT2 hm2 tl h⟩
  | none =>
    cases h2 : checkF 1 K2 R2 T2 with
    | some tl =>
      refine ⟨false, some tl, h2 ▸ checkF_ok 1 K2 R2 T2, ?_, fun w hT hT2 => same5_bad2 w K R K2 R2 A B n c m d T T2 hT hm hT2 hm2 tl h h2⟩
      obtain ⟨k, r, t, rfl, rfl, rfl, hr⟩ := checkF_none h
      exact fun w E hE hT hT2 => same_bad2 w E hE k r A B n c m d t hr hT K2 R2 T2 hT2 hm2 tl h2
    | none =>
      obtain ⟨k, r, t, rfl, rfl, rfl, hr⟩ := checkF_none h
      obtain ⟨k2, r2, t2, rfl, rfl, rfl, hr2⟩ := checkF_none h2
      by_cases hk : k = k2
      · subst hk
        obtain ⟨q, hq⟩ : ∃ q, max r r2 = q := ⟨_, rfl⟩
        have h3 := hr.r3
        have h4 := hr2.r3
        obtain ⟨da, hda⟩ : ∃ da, r + da = q := ⟨q - r, by omega⟩
        obtain ⟨db, hdb⟩ : ∃ db, r2 + db = q := ⟨q - r2, by omega⟩
        have he : decide (k = k ∧ narrow k r t = narrow k r2 t2) = decide (wide k r da t = wide k r2 db t2) := decide_eq_decide.2 ⟨fun hx => (same_wide hr hr2 hda hdb (by omega)).1 hx.2, fun hx => ⟨rfl, (same_wide hr hr2 hda hdb (by omega)).2 hx⟩⟩
        refine ⟨decide (wide k r da t = wide k r2 db t2), none, taleOk0, fun w E hE hT hT2 => ?_, fun w hT hT2 => same5_good w k r r2 A B n c m d t t2 hr hT hr2 hT2 da db q hda hdb (by omega) (by omega)⟩
        rw [← he]
        exact same_good w E hE k r A B n c m d t hr hT k r2 t2 hr2 hT2
      · have he : decide (k = k2 ∧ narrow k r t = narrow k2 r2 t2) = false := decide_eq_false (fun hx => hk hx.1)
        refine ⟨false, none, taleOk0, fun w E hE hT hT2 => ?_, fun w hT hT2 => same5_alien w k r k2 r2 A B n c m d t t2 hr hT hr2 hT2 hk⟩
        rw [← he]
        exact same_good w E hE k r A B n c m d t hr hT k2 r2 t2 hr2 hT2
end Go.Proofs.YtpllojpgpejfmaaGreatDoor

namespace Go.Proofs.YtpllojpgpejfmaaGreatDoor
open Go.RowKit RuleP

set_option maxRecDepth 100000 in
set_option maxHeartbeats 4000000 in
theorem plays_same (w : World) (E : Nat → Addr) (hE : Errs w E) (hEt : ErrT w) (kd K D KA RA KB RB : Int) (A B P : Option Addr) (n c m d l e : Nat) (TA TB Q : List Int) (hA : Sl w A n (TA.map (Value.int .i64))) (hBt : Sl w B m (TB.map (Value.int .i64))) (hP : Sl w P l (Q.map (Value.int .i64))) (hn : n ≤ 9223372036854775807) (hm : m ≤ 9223372036854775807) (hl8 : l * 8 ≤ 140737488351232) (hD1 : -9223372036854775808 ≤ D) (hD2 : D ≤ 9223372036854775807) (hk : (kd.tmod 8 + 8) % 8 = 7) :
    Calls Tryz.prog 7 #[.agg #[.int .i64 kd, .int .i64 K, .int .i64 D, .int .i64 KA, .int .i64 RA, .slice A n c, .int .i64 KB, .int .i64 RB, .slice B m d, .slice P l e]] w fun x w' => x = .returned (.bool true) ∧ Below w.heap.size w w' := by
  obtain ⟨wx, hwx, hop, hz, hy, hu, hb, hsx⟩ := plays_start w kd K D KA RA KB RB A B P n c m d l e
  obtain ⟨b, tl, htl, hF, hR⟩ := both_same KA RA KB RB A B n c m d TA TB hn hm
  have HWX := Lib.hid hwx
  have HOP := Lib.hid hop
  have HZ := Lib.hid hz
  have HY := Lib.hid hy
  have HU := Lib.hid hu
  have HB := Lib.hid hb
  have HF := Lib.hid hF
  have HR := Lib.hid hR
  have HTL := Lib.hid htl
  have HEE := Lib.hid (fun (wz : World) (hz : Below w.heap.size w wz) => (⟨hE.below hz, hEt.below hz⟩ : _ ∧ _))
  have HSL := Lib.hid (fun (wz : World) (hz : Below w.heap.size w wz) => (⟨hA.below hz, hBt.below hz, hP.below hz⟩ : _ ∧ _ ∧ _))
  obtain ⟨q0, q1, q2, q3, q4, q5, q6, q7, q8, q9⟩ := hop.facts
  obtain ⟨t1, t2⟩ := tmod8 kd
  obtain ⟨y, hy8⟩ : ∃ y, kd.tmod 8 = y := ⟨_, rfl⟩
  rw [hy8] at hk t1 t2
  have e1 : IntKind.i64.wrap (y + 8) = y + 8 := IntWalk.i64_in _ (by omega)
  have e2 : (y + 8).tmod 8 = 7 := by rw [Int.tmod_eq_emod_of_nonneg (by omega)]; exact hk
  have e4 : 0 ≤ y + 8 := by omega
  have e3 : (y + 8) % 8 = 7 := hk
  have hff := HF.out wx E (HEE.out wx hb).1 (HSL.out wx hb).1 (HSL.out wx hb).2.1
  clear hwx hop hz hy hu hb hF hR htl hE hEt hA hBt hP hk hl8 hD1 hD2
  unfold ruleV at *
  have HFF := Lib.hid hff
  clear hff
  go_enter Tryz.func7, Tryz.ntmps7
  go_wp2_with fail
  rw [HWX.out]
  refine (HFF.out).mono ?_
  rintro x w1 ⟨v1, rfl, he1, hb1⟩
  have hb1w := HB.out.trans (hb1.mono HB.out.size)
  have hrr := HR.out w1 (HSL.out w1 hb1w).1 (HSL.out w1 hb1w).2.1
  unfold ruleV at *
  have HRR := Lib.hid hrr
  have HE1 := Lib.hid he1
  have HB1 := Lib.hid hb1w
  obtain ⟨p0, p1, p2, p3, p4, p5, p6, p7, p8, p9⟩ := (HOP.out.below hb1 HOP.out.lt).facts
  clear hrr he1 hb1w hb1 q0 q1 q2 q3 q4 q5 q6 q7 q8 q9
  go_wp2_with fail
  clear p0 p1 p2 p3 p4 p5 p6 p7 p8 p9
  refine (HRR.out).mono ?_
  rintro x w3 ⟨M, A1, n1, c1, A2, n2, c2, rfl, hu3, hb3⟩
  have ba := (Below.refl w3.heap.size w3).alloc (Nat.le_refl _) (.cells #[.int .i64 (M : Int), .slice A1 n1 c1, .slice A2 n2 c2] 45)
  have hwt := WantAt.new w3 (.int .i64 (M : Int)) (.slice A1 n1 c1) (.slice A2 n2 c2)
  obtain ⟨w4, hw4⟩ : ∃ w4, w3.alloc (.cells #[.int .i64 (M : Int), .slice A1 n1 c1, .slice A2 n2 c2] 45) = w4 := ⟨_, rfl⟩
  rw [hw4] at ba hwt
  have hb4 := hb3.trans (ba.mono hb3.size)
  have hb4w := HB1.out.trans (hb4.mono HB1.out.size)
  have HIS := Lib.hid (rawIs_c w4 E (HEE.out w4 hb4w).1 (HEE.out w4 hb4w).2 tl HTL.out v1 _ (HE1.out.below hb4) ((hu3.below ba).want))
  have HB4 := Lib.hid hb4w
  have HW4 := Lib.hid hw4
  obtain ⟨f0, f1, f2, _⟩ := hwt.facts
  clear hb4 hb4w ba hw4 hu3 hb3 hwt
  go_wp2_with fail
  rw [HW4.out]
  refine (HIS.out).mono ?_
  rintro x w6 ⟨rfl, hb6⟩
  have HB6 := Lib.hid (HB4.out.trans (hb6.mono HB4.out.size))
  clear hb6 f0 f1 f2
  go_wp2_with fail
  go_ret
  exact ⟨rfl, HB6.out⟩

end Go.Proofs.YtpllojpgpejfmaaGreatDoor

namespace Go.Proofs.YtpllojpgpejfmaaGreatDoor
open Go.RowKit RuleP

/-- A rule with a list of zeros, new in memory. -/
structure NewRow5 (v0 V : World) (gI gT k ρ M : Nat) : Prop where
  at_ : RuleAt V gI (.int .i64 (k : Int)) (.int .i64 (ρ : Int)) (.slice (some ⟨gT, 0, none⟩) M M)
  own : V.ownsRow v0.heap.size 3 1 (.slice (some ⟨gT, 0, none⟩) M M) M ((ints (List.replicate M 0)).map (Value.int .i64))
  old : Below v0.heap.size v0 V
  le : v0.heap.size ≤ gI
  ne : gI ≠ gT
theorem new_row51 (v0 : World) (k ρ M : Nat) (h : M ≤ maxLen) : NewRow5 v0 (((v0.alloc (.cells (madeCells #[.int .i64 0] M) 3)).alloc (.cells #[.int .i64 (k : Int), .int .i64 (ρ : Int), .slice (some ⟨v0.heap.size, 0, none⟩) M M] 26)).drew) (v0.heap.size + 1) v0.heap.size k ρ M := by
  have b1 := (Below.refl v0.heap.size v0).alloc (Nat.le_refl _) (.cells (madeCells #[.int .i64 0] M) 3)
  have h1 := RuleAt.new (v0.alloc (.cells (madeCells #[.int .i64 0] M) 3)) (.int .i64 (k : Int)) (.int .i64 (ρ : Int)) (.slice (some ⟨v0.heap.size, 0, none⟩) M M)
  rw [World.size_alloc] at h1
  refine ⟨h1, ?_, ?_, Nat.le_succ _, Nat.succ_ne_self _⟩
  · exact own_below ((mkP v0 v0.heap.size rfl M h).alloc (.cells #[.int .i64 (k : Int), .int .i64 (ρ : Int), .slice (some ⟨v0.heap.size, 0, none⟩) M M] 26)) (Below.refl _ _).drew
  · exact (b1.alloc b1.size _).drew
theorem new_row52 (v0 : World) (k ρ M : Nat) (h : M ≤ maxLen) : NewRow5 v0 (((v0.alloc (.cells #[.int .i64 (k : Int), .int .i64 (ρ : Int), .slice (some ⟨v0.heap.size + 1, 0, none⟩) M M] 26)).alloc (.cells (madeCells #[.int .i64 0] M) 3)).drew) v0.heap.size (v0.heap.size + 1) k ρ M := by
  have b1 := (Below.refl v0.heap.size v0).alloc (Nat.le_refl _) (.cells #[.int .i64 (k : Int), .int .i64 (ρ : Int), .slice (some ⟨v0.heap.size + 1, 0, none⟩) M M] 26)
  have h1 := (RuleAt.new v0 (.int .i64 (k : Int)) (.int .i64 (ρ : Int)) (.slice (some ⟨v0.heap.size + 1, 0, none⟩) M M)).alloc (.cells (madeCells #[.int .i64 0] M) 3)
  have h2 := mkP (v0.alloc (.cells #[.int .i64 (k : Int), .int .i64 (ρ : Int), .slice (some ⟨v0.heap.size + 1, 0, none⟩) M M] 26)) (v0.heap.size + 1) (by simp) M h
  refine ⟨h1, ?_, ?_, Nat.le_refl _, (Nat.succ_ne_self _).symm⟩
  · exact own_base (own_below h2 (Below.refl _ _).drew) (Nat.le_succ _)
  · exact (b1.alloc b1.size _).drew

set_option maxRecDepth 100000 in
set_option maxHeartbeats 4000000 in
theorem narrow5_good (w : World) (k r : Nat) (A : Option Addr) (n c : Nat) (t : List Nat) (hr : IsRule k r t) (hT : Sl w A n ((ints t).map (Value.int .i64))) :
    Calls Tryz.prog 21 #[ruleV (k : Int) (r : Int) A n c] w (Rule5E w (k : Int) ((narrow k r t).1 : Int) (narrow k r t).2 none) := by
  have hn : t.length = n := by simpa [ints] using hT.1
  have hn16 := hr.le
  rw [hn] at hn16
  have hk1 := hr.k1
  have hk4 := hr.k4
  have hr3 := hr.r3
  have hr0 := ((RuleAt.new w (.int .i64 (k : Int)) (.int .i64 (r : Int)) (.slice A n c)).alloc (.cells #[.int .i64 0, .int .i64 0, .slice none 0 0] 26)).alloc (.cells #[.int .i64 0, .slice none 0 0, .slice none 0 0] 45)
  have hz0 := (RuleAt.new (w.alloc (.cells #[.int .i64 (k : Int), .int .i64 (r : Int), .slice A n c] 26)) (.int .i64 0) (.int .i64 0) (.slice none 0 0)).alloc (.cells #[.int .i64 0, .slice none 0 0, .slice none 0 0] 45)
  have hw0 := WantAt.new ((w.alloc (.cells #[.int .i64 (k : Int), .int .i64 (r : Int), .slice A n c] 26)).alloc (.cells #[.int .i64 0, .int .i64 0, .slice none 0 0] 26)) (.int .i64 0) (.slice none 0 0) (.slice none 0 0)
  rw [World.size_alloc] at hz0
  rw [World.size_alloc, World.size_alloc] at hw0
  have hb0 := (((Below.refl w.heap.size w).alloc (Nat.le_refl _) (.cells #[.int .i64 (k : Int), .int .i64 (r : Int), .slice A n c] 26)).alloc (by simp) (.cells #[.int .i64 0, .int .i64 0, .slice none 0 0] 26)).alloc (by simp; omega) (.cells #[.int .i64 0, .slice none 0 0, .slice none 0 0] 45)
  obtain ⟨wx, hwx⟩ : ∃ wx, ((w.alloc (.cells #[.int .i64 (k : Int), .int .i64 (r : Int), .slice A n c] 26)).alloc (.cells #[.int .i64 0, .int .i64 0, .slice none 0 0] 26)).alloc (.cells #[.int .i64 0, .slice none 0 0, .slice none 0 0] 45) = wx := ⟨_, rfl⟩
  have hsx : wx.heap.size = w.heap.size + 3 := by rw [← hwx]; simp
  have HWX := Lib.hid hwx
  obtain ⟨q0, q1, q2, _⟩ := hr0.facts
  rw [hwx] at hr0 hz0 hw0 hb0
  have hf := fault5_c wx 0 (k : Int) (r : Int) A n c (ints t) (hT.below hb0) (by omega)
  rw [checkF_rule 0 hr] at hf
  have HF := Lib.hid hf
  have HR0 := Lib.hid hr0
  have HZ0 := Lib.hid hz0
  have HW0 := Lib.hid hw0
  have HB0 := Lib.hid hb0
  have HRU := Lib.hid hr
  have HT := Lib.hid (fun (wz : World) (hz : Below w.heap.size w wz) => hT.below hz)
  have HN := Lib.hid hn
  obtain ⟨L2, hL2⟩ : ∃ L2, 2 * r + 1 = L2 := ⟨_, rfl⟩
  have HDG := Lib.hid (fun (wz : World) (i : Nat) (hi : i ≤ 16384) => digits_c wz k L2 i hk1 (by omega) (by omega) (by omega))
  have HL2 := Lib.hid hL2
  have g1 : IntKind.i64.wrap (2 * (r : Int)) = 2 * (r : Int) := IntWalk.i64_in _ (by omega)
  have g2 : IntKind.i64.wrap (2 * (r : Int) + 1) = (L2 : Int) := by rw [show 2 * (r : Int) + 1 = (L2 : Int) from by omega]; exact IntWalk.i64_in _ (by omega)
  have hL27 : L2 ≤ 7 := by omega
  clear hL2
  have HWO := Lib.hid (fun (wz : World) (L : Nat) (h : L ≤ 7) => words5_c wz k L hk1 hk4 h)
  clear hf hwx hr0 hz0 hw0 hb0 hr hT hn
  unfold ruleV at *
  go_enter Tryz.func21, Tryz.ntmps21
  go_wp2_with fail
  rw [HWX.out]
  clear q0 q1 q2
  refine (HF.out).mono ?_
  rintro e w1 ⟨N, A1, n1, c1, A2, n2, c2, rfl, hu, hb1⟩
  obtain rfl : N = 0 := hu.num
  obtain ⟨rfl, rfl, rfl, rfl, rfl, rfl⟩ : A1 = none ∧ n1 = 0 ∧ c1 = 0 ∧ A2 = none ∧ n2 = 0 ∧ c2 = 0 := by
    have e := hu.none_eq
    simp at e
    obtain ⟨⟨q1, q2, q3⟩, q4, q5, q6⟩ := e
    exact ⟨q1, q2, q3, q4, q5, q6⟩
  have hb2 : Below w1.heap.size w1 (w1.alloc (.cells #[.int .i64 0, .slice none 0 0, .slice none 0 0] 45)) := (Below.refl _ _).alloc (Nat.le_refl _) _
  have hv2 := WantAt.new w1 (.int .i64 0) (.slice none 0 0) (.slice none 0 0)
  obtain ⟨wy, hwy⟩ : ∃ wy, w1.alloc (.cells #[.int .i64 0, .slice none 0 0, .slice none 0 0] 45) = wy := ⟨_, rfl⟩
  have HWY := Lib.hid hwy
  have hlt2 : w1.heap.size < wy.heap.size := by rw [← hwy]; simp
  rw [hwy] at hb2 hv2
  have hs1 := hb1.size
  have hr2 := (HR0.out.below hb1 (by omega)).below hb2 (by omega)
  have hz2 := (HZ0.out.below hb1 (by omega)).below hb2 (by omega)
  have hw2 := (HW0.out.below hb1 (by omega)).below hb2 (by omega)
  have hbx := HB0.out.trans ((hb1.trans (hb2.mono hb1.size)).mono HB0.out.size)
  have HBAD := Lib.hid (badZero5 wy)
  obtain ⟨ge, hge'⟩ : ∃ ge, w1.heap.size = ge := ⟨_, rfl⟩
  rw [hge'] at hv2 hs1 hlt2
  have hge : w.heap.size + 3 ≤ ge := by omega
  obtain ⟨v0, v1, v2, _⟩ := hv2.facts
  have HGE := Lib.hid hge'
  have HR2 := Lib.hid hr2
  have HZ2 := Lib.hid hz2
  have HW2 := Lib.hid hw2
  have HV2 := Lib.hid hv2
  have HB2 := Lib.hid hbx
  clear hu hb1 hb2 hr2 hz2 hw2 hv2 hbx hwy hge' hs1 hsx
  rw [show ((0 : Nat) : Int) = 0 from rfl]
  go_wp2_with fail
  rw [HWY.out, HGE.out]
  refine (HBAD.out).mono ?_
  rintro e w3 ⟨rfl, hb3⟩
  have hge2 : ge < w3.heap.size := Nat.lt_of_lt_of_le hlt2 hb3.size
  have HR3 := Lib.hid (HR2.out.below hb3 (by omega))
  have HZ3 := Lib.hid (HZ2.out.below hb3 (by omega))
  have HW3 := Lib.hid (HW2.out.below hb3 (by omega))
  have HV3 := Lib.hid (HV2.out.below hb3 (by omega))
  have HB3 := Lib.hid (HB2.out.trans (hb3.mono HB2.out.size))
  obtain ⟨r0, r1, r2, _⟩ := HR3.out.facts
  clear v0 v1 v2 hb3 hlt2 HF HR0 HZ0 HW0 HB0 HWX HWY HGE HR2 HZ2 HW2 HV2 HB2 HBAD
  go_wp2_with fail
  clear r0 r1 r2
  go_loopw [5] (fun iv wl => ∃ (ρ : Nat), iv = .int .i64 (ρ : Int) ∧ ρ ≤ r ∧ Hid (∀ ρ' d', ρ' < ρ → ρ' + d' = r → wide k ρ' d' (inTo k r ρ' d' t t.length) ≠ t) ∧
    Hid (RuleAt wl w.heap.size (.int .i64 (k : Int)) (.int .i64 (r : Int)) (.slice A n c)) ∧ Hid (RuleAt wl (w.heap.size + 1) (.int .i64 0) (.int .i64 0) (.slice none 0 0)) ∧ Hid (WantAt wl (w.heap.size + 1 + 1) (.int .i64 0) (.slice none 0 0) (.slice none 0 0)) ∧ Hid (Below w.heap.size w wl)) (fun iv _ => r - (intOf iv).toNat)
  case atStart => exact ⟨0, rfl, Nat.zero_le _, Lib.hid (fun _ _ h => absurd h (Nat.not_lt_zero _)), HR3, HZ3, HW3, HB3⟩
  case round =>
    clear HR3 HZ3 HW3 HB3 HV3
    obtain ⟨ρ, rfl, hρ, HNO, HR, HZ, HW, HB⟩ := hrel
    obtain ⟨v0, rfl⟩ : ∃ v0, v0 = wr := ⟨_, rfl⟩
    obtain ⟨r0, r1, r2, _⟩ := HR.out.facts
    by_cases hlt : ρ < r
    · have hlt' : (ρ : Int) < (r : Int) := by omega
      obtain ⟨L, hL⟩ : ∃ L, 2 * ρ + 1 = L := ⟨_, rfl⟩
      obtain ⟨M, hM⟩ : ∃ M, k ^ L = M := ⟨_, rfl⟩
      obtain ⟨d, hd⟩ : ∃ d, r - ρ = d := ⟨_, rfl⟩
      have hM16 : M ≤ 16384 := by
        rw [← hM]
        exact Nat.le_trans (Nat.pow_le_pow_left hk4 _) (Nat.le_trans (Nat.pow_le_pow_right (by decide) (show L ≤ 7 by omega)) (by decide))
      have HWv := Lib.hid (fun (wz : World) => (hM ▸ HWO.out wz L (by omega) : Calls Tryz.prog 48 #[.int .i64 (k : Int), .int .i64 (L : Int)] wz fun e w' => e = .returned (.int .i64 (M : Int)) ∧ wz = w'))
      have e1 : IntKind.i64.wrap (2 * (ρ : Int)) = 2 * (ρ : Int) := IntWalk.i64_in _ (by omega)
      have e2 : IntKind.i64.wrap (2 * (ρ : Int) + 1) = (L : Int) := by rw [show 2 * (ρ : Int) + 1 = (L : Int) from by omega]; exact IntWalk.i64_in _ (by omega)
      have hmk := fun (wz : World) => run_make_row' (P := Tryz.prog) 24 3 (.int .i64 0) 8 tInts.und tInts.info rfl .i64 .i64 M (by omega) (by omega) wz
      have hrl := HR.out.lt
      have HLM := Lib.hid (And.intro hL (And.intro hM hd))
      have HM := Lib.hid (show M ≤ maxLen by simp only [maxLen]; omega)
      clear hL hM hd
      go_upto_region 8 with fail
      go_cut [7] (fun s7 wx => ∃ gI gT : Nat, s7 = .pointer (some ⟨gI, 0, none⟩) ∧ NewRow5 v0 wx gI gT k ρ M)
      case first =>
        go_region_law (first
          | (go_simp
             go_at_call 48
             with_reducible refine (HWv.out _).mono ?_
             rintro e w1' ⟨rfl, hw1'⟩
             rw [← hw1']
             clear hw1'
             try dsimp only)
          | fail)
        all_goals (try go_wp2_with fail)
        all_goals go_meet
        all_goals first
          | exact ⟨_, _, rfl, new_row51 v0 k ρ M HM.out⟩
          | exact ⟨_, _, rfl, new_row52 v0 k ρ M HM.out⟩
      case rest =>
        obtain ⟨gI, gT, rfl, hNew⟩ := hcut
        have hwl := HW.out.lt
        have hTlt := (hNew.own.lt gT rfl)
        have hIT : gI ≠ gT := hNew.ne
        have HIc := Lib.hid hNew.at_
        have HTc := Lib.hid (own_base hNew.own (show w.heap.size + 3 ≤ v0.heap.size by omega))
        have HRc := Lib.hid (HR.out.below hNew.old HR.out.lt)
        have HZc := Lib.hid (HZ.out.below hNew.old HZ.out.lt)
        have HWc := Lib.hid (HW.out.below hNew.old HW.out.lt)
        have HBc := Lib.hid (HB.out.trans (hNew.old.mono HB.out.size))
        have hgI : w.heap.size + 3 ≤ gI := by have := hNew.le; omega
        have hgT : w.heap.size + 3 ≤ gT := by omega
        obtain ⟨r0, r1, r2, _⟩ := HRc.out.facts
        obtain ⟨H, hH⟩ : ∃ H, L2 - d = H := ⟨_, rfl⟩
        have e3 : IntKind.i64.wrap ((r : Int) - (ρ : Int)) = (d : Int) := by
          have := HLM.out.2.2
          rw [show (r : Int) - (ρ : Int) = (d : Int) from by omega]
          exact IntWalk.i64_in _ (by omega)
        have hdL : d + L ≤ L2 := by have := HL2.out; have := HLM.out.1; have := HLM.out.2.2; omega
        have hHL : H - d = L := by have := HL2.out; have := HLM.out.1; have := HLM.out.2.2; omega
        have hL7 : L ≤ 7 := by have := HLM.out.1; omega
        have hdr : d ≤ 3 := by have := HLM.out.2.2; omega
        have hd1 : d < H := by have := HL2.out; have := HLM.out.1; have := HLM.out.2.2; omega
        have s1 : IntKind.i64.wrap ((L2 : Int) - (d : Int)) = (H : Int) := by rw [show (L2 : Int) - (d : Int) = (H : Int) from by omega]; exact IntWalk.i64_in _ (by omega)
        have s0 : (0 : Int) ≤ (d : Int) := by omega
        have s2 : (d : Int) ≤ (H : Int) := by omega
        have s3 : (H : Int) ≤ (L2 : Int) := by omega
        have s4 : ¬ L2 = d := by omega
        have hHL2 : H ≤ L2 := by omega
        have HHE := Lib.hid hH
        have HLD := Lib.hid (And.intro hdL hHL)
        clear hNew hTlt hH hdL hHL HR HZ HW HB e1 e2 hmk hrl
        go_wp2_with fail
        clear r0 r1 r2
        go_loopw [9] (fun jv wl => ∃ i : Nat, jv = .int .i64 (i : Int) ∧ i ≤ n ∧ Hid (wl.ownsRow (w.heap.size + 3) 3 1 (.slice (some ⟨gT, 0, none⟩) M M) M ((ints (inTo k r ρ d t i)).map (Value.int .i64))) ∧ Hid (RuleAt wl gI (.int .i64 (k : Int)) (.int .i64 (ρ : Int)) (.slice (some ⟨gT, 0, none⟩) M M)) ∧
          Hid (RuleAt wl w.heap.size (.int .i64 (k : Int)) (.int .i64 (r : Int)) (.slice A n c)) ∧ Hid (RuleAt wl (w.heap.size + 1) (.int .i64 0) (.int .i64 0) (.slice none 0 0)) ∧ Hid (WantAt wl (w.heap.size + 1 + 1) (.int .i64 0) (.slice none 0 0) (.slice none 0 0)) ∧ Hid (Below w.heap.size w wl)) (fun jv _ => n - (intOf jv).toNat)
        case atStart => exact ⟨0, rfl, Nat.zero_le _, Lib.hid (by rw [show inTo k r ρ d t 0 = List.replicate M 0 by rw [inTo, HLM.out.1, HLM.out.2.1]]; exact HTc.out), HIc, HRc, HZc, HWc, HBc⟩
        case round =>
          clear HIc HTc HRc HZc HWc HBc
          obtain ⟨i, rfl, hi, HT1, HI, HR, HZ, HW, HB⟩ := hrel
          obtain ⟨v1, rfl⟩ : ∃ v1, v1 = wr := ⟨_, rfl⟩
          obtain ⟨r0, r1, r2, _⟩ := HR.out.facts
          by_cases hin : i < n
          · have hin' : (i : Int) < (n : Int) := by omega
            have HDv := Lib.hid (HDG.out v1 i (by omega))
            go_wp2_with fail
            refine (HDv.out).mono ?_
            rintro e v5 ⟨rfl, hown, hb⟩
            obtain ⟨g, hg⟩ : ∃ g, v1.heap.size = g := ⟨_, rfl⟩
            rw [hg] at hown ⊢
            have hb5 := HB.out.trans (hb.mono HB.out.size)
            have hT5 := own_below HT1.out hb
            have hI5 := HI.out.below hb HI.out.lt
            have hR5 := HR.out.below hb HR.out.lt
            have hZ5 := HZ.out.below hb HZ.out.lt
            have hW5 := HW.out.below hb HW.out.lt
            have hsym := win_sym (digB_sym (show 0 < k by omega) L2 i) d L
            have hwl : (win (digB k L2 i) d L).length = L := win_len (by rw [digB_len]; exact HLD.out.1)
            have hsl := sl_win (Sl.of_own hown) (i := d) (m := L) HLD.out.1
            have hVAL := fun (wz : World) (hz : Below v5.heap.size v5 wz) => value_c wz k (some ⟨g, d, none⟩) L H (win (digB k L2 i) d L) hk1 hk4 hsym (hsl.below hz) hL7
            have hvn := wval_lt hsym
            rw [hwl, HLM.out.2.1] at hvn
            have hZH : H - d = L := HLD.out.2
            have hLH : L2 - d = H := HHE.out
            obtain ⟨ad, y, rfl, hy, hcy⟩ := wordM5 (HT.out v5 hb5) hin
            obtain ⟨V, hV⟩ : ∃ V, wval k (win (digB k L2 i) d L) = V := ⟨_, rfl⟩
            rw [hV] at hvn
            simp only [hV] at hVAL
            have hnx : inTo k r ρ d t (i + 1) = (inTo k r ρ d t i).set V y := by
              rw [inTo, HL2.out, HLM.out.1, hV, List.getD_eq_getElem?_getD, hy]
              rfl
            have hvn' : (V : Int) < (M : Int) := by omega
            have hv0 : (0 : Int) ≤ (V : Int) := by omega
            have hil : (inTo k r ρ d t i).length = M := by rw [inTo_len, HLM.out.1, HLM.out.2.1]
            obtain ⟨x, hx⟩ : ∃ x, (inTo k r ρ d t i)[V]? = some x := ⟨_, List.getElem?_eq_getElem (by omega)⟩
            have fa := hT5.frozenAt V
            have ca : v5.cell? ⟨gT, V, none⟩ = some (.int .i64 (x : Int)) := by
              rw [hT5.cellAt V (by omega), ints_map, List.getElem?_map, hx]
              rfl
            have o1 := (hT5.stored V (.int .i64 (y : Int))).1
            have e4 : ((ints (inTo k r ρ d t i)).map (Value.int .i64)).set V (.int .i64 (y : Int)) = (ints (inTo k r ρ d t (i + 1))).map (Value.int .i64) := by
              rw [hnx, ints_map, ints_map, List.map_set]
            rw [e4] at o1
            have hk1' := Keeps.of_setCell v5 ⟨gT, V, none⟩ (.int .i64 (y : Int))
            have hI6 := hI5.keeps hk1' hIT
            have hR6 := hR5.keeps hk1' (show ¬ w.heap.size = gT by omega)
            have hZ6 := hZ5.keeps hk1' (show ¬ w.heap.size + 1 = gT by omega)
            have hW6 := hW5.keeps hk1' (show ¬ w.heap.size + 1 + 1 = gT by omega)
            have hb6 := hb5.trans (hk1'.below hb5.size (fun b hb => by rw [show b = gT from hb]; omega))
            have HX := Lib.hid (And.intro o1 (And.intro hI6 (And.intro hR6 (And.intro hZ6 (And.intro hW6 hb6)))))
            obtain ⟨r0', r1', r2', _⟩ := hR5.facts
            obtain ⟨p0, p1, p2, _⟩ := hI5.facts
            have HVAL := Lib.hid hVAL
            clear r0 r1 r2 hown hb hb5 hT5 hI5 hR5 hZ5 hW5 hsym hwl hsl hVAL hy hV hg hnx hil hx o1 e4 hk1' hI6 hR6 hZ6 hW6 hb6
            go_wp2_with fail
            go_region_law (first
              | (go_simp
                 go_at_call 52
                 first
                   | with_reducible refine (HVAL.out v5 (Below.refl _ _)).mono ?_
                   | with_reducible refine (HVAL.out v5.drew (Below.refl _ _).drew).mono ?_
                 rintro e v6 ⟨rfl, rfl⟩
                 dsimp only)
              | fail)
            all_goals
              go_wp2_with fail
              have hdr := (Below.refl (v5.setCell ⟨gT, V, none⟩ (.int .i64 (y : Int))).heap.size (v5.setCell ⟨gT, V, none⟩ (.int .i64 (y : Int)))).drew
              exact ⟨⟨i + 1, by go_num, by omega, Lib.hid (own_below HX.out.1 hdr), Lib.hid (HX.out.2.1.below hdr HX.out.2.1.lt), Lib.hid (HX.out.2.2.1.below hdr HX.out.2.2.1.lt), Lib.hid (HX.out.2.2.2.1.below hdr HX.out.2.2.2.1.lt), Lib.hid (HX.out.2.2.2.2.1.below hdr HX.out.2.2.2.2.1.lt), Lib.hid (HX.out.2.2.2.2.2.trans (hdr.mono HX.out.2.2.2.2.2.size))⟩, by simp [intOf]; omega⟩
          · have hin' : ¬ (i : Int) < (n : Int) := by omega
            have hieq : i = n := by omega
            have hT2 := HT1.out
            rw [hieq, ← HN.out] at hT2
            clear hieq
            obtain ⟨u, hu⟩ : ∃ u, inTo k r ρ d t t.length = u := ⟨_, rfl⟩
            rw [hu] at hT2
            have hru : IsRule k ρ u := hu ▸ inTo_rule HRU.out (by omega)
            have hρd : ρ + d = r := by have := HLM.out.2.2; omega
            have HWD := Lib.hid (fun (wz : World) (hz : Below v1.heap.size v1 wz) => wide5_c wz k ρ d r hρd (some ⟨gT, 0, none⟩) M M u hru hr3 (Sl.of_own (own_below hT2 hz)))
            have HTV := Lib.hid (fun (wz : World) (hz : Below v1.heap.size v1 wz) => HT.out wz (HB.out.trans (hz.mono HB.out.size)))
            obtain ⟨p0, p1, p2, _⟩ := HI.out.facts
            have HT2 := Lib.hid hT2
            have HUD := Lib.hid (And.intro hu hρd)
            have hn63 : n ≤ 9223372036854775807 := by omega
            clear hT2 hru hu hρd
            unfold ruleV at HWD
            go_upto_region 15 with fail
            go_cut [77] (fun b wx => b = .bool (decide (wide k ρ d u = t)) ∧ Hid (Below v1.heap.size v1 wx))
            case first =>
              go_region_law (first
                | (go_simp
                   go_at_call 29
                   first
                     | with_reducible refine (rules5 v4 _ _ _ _ _ _ _ _ _ _ _ _ (Sl.of_own hown4) (HTV.out v4 hb4') (by have := own_le hown4; simp only [maxLen] at this; omega) hn63).mono ?_
                     | with_reducible refine (rules5 v4.drew _ _ _ _ _ _ _ _ _ _ _ _ ((Sl.of_own hown4).below (Below.refl _ _).drew) (HTV.out v4.drew hb4'.drew) (by have := own_le hown4; simp only [maxLen] at this; omega) hn63).mono ?_
                   rintro e v6 ⟨rfl, hb6'⟩
                   have hb66 : Below v1.heap.size v1 v6 := by
                     first | exact hb4'.trans (hb6'.mono hb4'.size) | exact hb4'.trans (((Below.refl _ _).drew.trans hb6').mono hb4'.size)
                   dsimp only)
                | (go_simp
                   go_at_call 58
                   first
                     | with_reducible refine (HWD.out v1 (Below.refl _ _)).mono ?_
                     | with_reducible refine (HWD.out v1.drew (Below.refl _ _).drew).mono ?_
                   rintro e v4 ⟨C4, N4, c4, rfl, hown4, hb4⟩
                   have hb4' : Below v1.heap.size v1 v4 := by first | exact hb4 | exact (Below.refl _ _).drew.trans hb4
                   obtain ⟨r0', r1', r2', _⟩ := (HR.out.below hb4' HR.out.lt).facts
                   dsimp only)
                | fail)
              all_goals
                have hde : decide (ints (wide k ρ d u) = ints t) = decide (wide k ρ d u = t) := decide_eq_decide.2 ⟨fun h => ints_inj h, fun h => by rw [h]⟩
                try simp only [true_and]
                rw [hde]
                clear hde
                go_wp2_with fail
                go_meet
                exact ⟨rfl, Lib.hid (by first | exact hb66 | exact hb66.drew)⟩
            case rest =>
              obtain ⟨rfl, hbc⟩ := hcut
              have hR6 := HR.out.below hbc.out HR.out.lt
              have hI6 := HI.out.below hbc.out HI.out.lt
              have hZ6 := HZ.out.below hbc.out HZ.out.lt
              have hW6 := HW.out.below hbc.out HW.out.lt
              have hB6 := HB.out.trans (hbc.out.mono HB.out.size)
              have hT6 := own_below HT2.out hbc.out
              clear r0 r1 r2 p0 p1 p2
              by_cases hfit : wide k ρ d u = t
              · rw [decide_eq_true hfit]
                have hnr : narrow k r t = (ρ, u) := by
                  have := narrow_ref HRU.out HUD.out.2 (by rw [HUD.out.1]; exact hfit) HNO.out
                  rw [HUD.out.1] at this
                  exact this
                have HNR := Lib.hid hnr
                obtain ⟨p0, p1, p2, _⟩ := hI6.facts
                clear hfit hnr
                have hres := put6_res (w := w) hZ6 hW6 (by omega) (by omega) hT6 (by omega) (M := 0) (WantB.zero wc (w.heap.size + 3)) (by omega) hB6 (k : Int) (ρ : Int)
                have hpf := put6_facts hZ6 hW6 (by omega) (.int .i64 (k : Int)) (.int .i64 (ρ : Int)) (.slice (some ⟨gT, 0, none⟩) M M) (.int .i64 0) (.slice none 0 0) (.slice none 0 0)
                obtain ⟨d0, d1, d2, f0, f1, f2⟩ := (hW6).facts
                obtain ⟨z0, z1, z2, z3, z4, z5⟩ := (hZ6).facts
                have HRS := Lib.hid hres
                have HPF := Lib.hid hpf
                have HPW := Lib.hid (show ((((((wc).setCell ⟨(w.heap.size + 1), 0, none⟩ (.int .i64 (k : Int))).setCell ⟨(w.heap.size + 1), 1, none⟩ (.int .i64 (ρ : Int))).setCell ⟨(w.heap.size + 1), 2, none⟩ (.slice (some ⟨gT, 0, none⟩) M M)).setCell ⟨(w.heap.size + 1 + 1), 0, none⟩ (.int .i64 0)).setCell ⟨(w.heap.size + 1 + 1), 1, none⟩ (.slice none 0 0)).setCell ⟨(w.heap.size + 1 + 1), 2, none⟩ (.slice none 0 0) = put6 (wc) (w.heap.size + 1) (w.heap.size + 1 + 1) (.int .i64 (k : Int)) (.int .i64 (ρ : Int)) (.slice (some ⟨gT, 0, none⟩) M M) (.int .i64 0) (.slice none 0 0) (.slice none 0 0) from rfl)
                clear hres hpf hR6 hI6 hZ6 hW6 hB6 hT6
                go_wp2_with fail
                rw [HPW.out]
                obtain ⟨⟨s0, s1, s2, _⟩, s3, s4, s5, _⟩ := (⟨HPF.out.1.facts, HPF.out.2.facts⟩ : _ ∧ _)
                have HR := HRS.out
                exact bodyPost_ret (v := .tuple #[.agg #[.int .i64 (k : Int), .int .i64 (ρ : Int), .slice (some ⟨gT, 0, none⟩) M M], .agg #[.int .i64 0, .slice none 0 0, .slice none 0 0]]) (by simp [results, Tryz.results21, go_sem, s0, s1, s2, s3, s4, s5]) rfl (by rw [HNR.out]; exact ⟨some ⟨gT, 0, none⟩, M, M, 0, _, _, _, _, _, _, rfl, HR.1, HR.2.1, HR.2.2⟩)
              · rw [decide_eq_false hfit]
                have HNO2 := Lib.hid (show ∀ ρ' d', ρ' < ρ + 1 → ρ' + d' = r → wide k ρ' d' (inTo k r ρ' d' t t.length) ≠ t by
                  intro ρ' d' h1 h2
                  by_cases e : ρ' = ρ
                  · subst e
                    have e2 : d' = d := by have := HUD.out.2; omega
                    subst e2
                    rw [HUD.out.1]
                    exact hfit
                  · exact HNO.out ρ' d' (by omega) h2)
                clear hfit
                go_wp2_with fail
                exact ⟨⟨ρ + 1, by go_num, by omega, HNO2, Lib.hid hR6, Lib.hid hZ6, Lib.hid hW6, Lib.hid hB6⟩, by simp [intOf]; omega⟩
    · have hlt' : ¬ (ρ : Int) < (r : Int) := by omega
      obtain rfl : ρ = r := by omega
      have hnr := narrow_ref_all HRU.out HNO.out
      have HNR := Lib.hid hnr
      have hcp := fun (wz : World) (hz : Below v0.heap.size v0 wz) => copy_c wz A n c _ (HT.out wz (HB.out.trans (hz.mono HB.out.size))) (by intro v hv; obtain ⟨z, _, rfl⟩ := List.mem_map.1 hv; rfl) (by omega)
      have HCP := Lib.hid hcp
      clear hnr hcp
      go_wp2_with fail
      go_region_law (first
        | (go_simp
           go_at_call 60
           first
             | with_reducible refine (HCP.out v0 (Below.refl _ _)).mono ?_
             | with_reducible refine (HCP.out v0.drew (Below.refl _ _).drew).mono ?_
           rintro e v5 ⟨C5, c5, rfl, hown5, hb5⟩
           have hb5' : Below v0.heap.size v0 v5 := by first | exact hb5 | exact (Below.refl _ _).drew.trans hb5
           obtain ⟨r0', r1', r2', _⟩ := (HR.out.below hb5' HR.out.lt).facts
           obtain ⟨d0, d1, d2, f0, f1, f2⟩ := (HW.out.below hb5' HW.out.lt).facts
           obtain ⟨z0, z1, z2, z3, z4, z5⟩ := (HZ.out.below hb5' HZ.out.lt).facts
           dsimp only)
        | fail)
      all_goals
        have hwlt := HW.out.lt
        have hz5 := HZ.out.below hb5' HZ.out.lt
        have hw5 := HW.out.below hb5' HW.out.lt
        have ho5 := own_base hown5 (base' := w.heap.size + 3) (by first | exact Nat.le_of_lt_succ (by omega) | (show w.heap.size + 3 ≤ v0.heap.size; omega))
        have hres := put6_res (w := w) hz5 hw5 (by omega) (by omega) ho5 (by omega) (M := 0) (WantB.zero v5 (w.heap.size + 3)) (by omega) (HB.out.trans (hb5'.mono HB.out.size)) (k : Int) (ρ : Int)
        have hpf := put6_facts hz5 hw5 (by omega) (.int .i64 (k : Int)) (.int .i64 (ρ : Int)) (.slice C5 n c5) (.int .i64 0) (.slice none 0 0) (.slice none 0 0)
        have HPW := Lib.hid (show ((((((v5.setCell ⟨w.heap.size + 1, 0, none⟩ (.int .i64 (k : Int))).setCell ⟨w.heap.size + 1, 1, none⟩ (.int .i64 (ρ : Int))).setCell ⟨w.heap.size + 1, 2, none⟩ (.slice C5 n c5)).setCell ⟨w.heap.size + 1 + 1, 0, none⟩ (.int .i64 0)).setCell ⟨w.heap.size + 1 + 1, 1, none⟩ (.slice none 0 0)).setCell ⟨w.heap.size + 1 + 1, 2, none⟩ (.slice none 0 0)) = put6 v5 (w.heap.size + 1) (w.heap.size + 1 + 1) (.int .i64 (k : Int)) (.int .i64 (ρ : Int)) (.slice C5 n c5) (.int .i64 0) (.slice none 0 0) (.slice none 0 0) from rfl)
        obtain ⟨W, hW⟩ : ∃ W, put6 v5 (w.heap.size + 1) (w.heap.size + 1 + 1) (.int .i64 (k : Int)) (.int .i64 (ρ : Int)) (.slice C5 n c5) (.int .i64 0) (.slice none 0 0) (.slice none 0 0) = W := ⟨_, rfl⟩
        rw [hW] at hpf HPW
        have hres' : W.ownsRow w.heap.size 3 1 (.slice C5 n c5) n ((ints t).map (Value.int .i64)) ∧ WantB W w.heap.size none (.agg #[.int .i64 0, .slice none 0 0, .slice none 0 0]) ∧ Below w.heap.size w W := by rw [← hW]; exact hres
        have HRS := Lib.hid hres'
        obtain ⟨⟨s0, s1, s2, _⟩, s3, s4, s5, _⟩ := (⟨hpf.1.facts, hpf.2.facts⟩ : _ ∧ _)
        clear hres hres' hpf hW hz5 hw5 ho5 hown5 hb5 hb5' d0 d1 d2 f0 f1 f2 z0 z1 z2 z3 z4 z5 r0' r1' r2' r0 r1 r2
        rw [HPW.out]
        clear HPW
        go_wp2_with fail
        have HR := HRS.out
        have hdr := (Below.refl W.heap.size W).drew
        first
          | exact bodyPost_ret (v := .tuple #[.agg #[.int .i64 (k : Int), .int .i64 (ρ : Int), .slice C5 n c5], .agg #[.int .i64 0, .slice none 0 0, .slice none 0 0]]) (by simp [results, Tryz.results21, go_sem, s0, s1, s2, s3, s4, s5]) rfl (by rw [HNR.out]; exact ⟨C5, n, c5, 0, _, _, _, _, _, _, rfl, HR.1, HR.2.1, HR.2.2⟩)
          | exact bodyPost_ret (v := .tuple #[.agg #[.int .i64 (k : Int), .int .i64 (ρ : Int), .slice C5 n c5], .agg #[.int .i64 0, .slice none 0 0, .slice none 0 0]]) (by simp [results, Tryz.results21, go_sem, s0, s1, s2, s3, s4, s5]) rfl (by rw [HNR.out]; exact ⟨C5, n, c5, 0, _, _, _, _, _, _, rfl, own_below HR.1 hdr, HR.2.1.below hdr, HR.2.2.trans (hdr.mono HR.2.2.size)⟩)


end Go.Proofs.YtpllojpgpejfmaaGreatDoor

namespace Go.Proofs.YtpllojpgpejfmaaGreatDoor
open Go.RowKit RuleP

theorem both_narrow (K R : Int) (A : Option Addr) (n c : Nat) (T : List Int) (hm : n ≤ 9223372036854775807) : ∃ (K' R' : Int) (xs : List Nat) (tl : Option Tale), TaleOk tl ∧
    (∀ (w : World) (E : Nat → Addr), Errs w E → Sl w A n (T.map (Value.int .i64)) → Calls Tryz.prog 20 #[ruleV K R A n c] w (RuleRes w E K' R' (ints xs) tl)) ∧
    (∀ w : World, Sl w A n (T.map (Value.int .i64)) → Calls Tryz.prog 21 #[ruleV K R A n c] w (Rule5E w K' R' xs tl)) := by
  cases h : checkF 0 K R T with
  | some tl => exact ⟨0, 0, [], some tl, h ▸ checkF_ok 0 K R T, fun w E hE hT => narrow_bad w E hE K R A n c T hT hm tl h, fun w hT => narrow5_bad w K R A n c T hT hm tl h⟩
  | none =>
    obtain ⟨k, r, t, rfl, rfl, rfl, hr⟩ := checkF_none h
    exact ⟨k, (narrow k r t).1, (narrow k r t).2, none, taleOk0, fun w E hE hT => narrow_good w E hE k r A n c t hr hT, fun w hT => narrow5_good w k r A n c t hr hT⟩

set_option maxRecDepth 100000 in
set_option maxHeartbeats 4000000 in
theorem plays_narrow (w : World) (E : Nat → Addr) (hE : Errs w E) (hEt : ErrT w) (kd K D KA RA KB RB : Int) (A B P : Option Addr) (n c m d l e : Nat) (TA TB Q : List Int) (hA : Sl w A n (TA.map (Value.int .i64))) (hBt : Sl w B m (TB.map (Value.int .i64))) (hP : Sl w P l (Q.map (Value.int .i64))) (hn : n ≤ 9223372036854775807) (hm : m ≤ 9223372036854775807) (hl8 : l * 8 ≤ 140737488351232) (hD1 : -9223372036854775808 ≤ D) (hD2 : D ≤ 9223372036854775807) (hk : (kd.tmod 8 + 8) % 8 = 4) :
    Calls Tryz.prog 7 #[.agg #[.int .i64 kd, .int .i64 K, .int .i64 D, .int .i64 KA, .int .i64 RA, .slice A n c, .int .i64 KB, .int .i64 RB, .slice B m d, .slice P l e]] w fun x w' => x = .returned (.bool true) ∧ Below w.heap.size w w' := by
  obtain ⟨wx, hwx, hop, hz, hy, hu, hb, hsx⟩ := plays_start w kd K D KA RA KB RB A B P n c m d l e
  obtain ⟨K', R', xs, tl, htl, hF, hR⟩ := both_narrow KA RA A n c TA hn
  have HWX := Lib.hid hwx
  have HOP := Lib.hid hop
  have HZ := Lib.hid hz
  have HY := Lib.hid hy
  have HU := Lib.hid hu
  have HB := Lib.hid hb
  have HF := Lib.hid hF
  have HR := Lib.hid hR
  have HTL := Lib.hid htl
  have HEE := Lib.hid (fun (wz : World) (hz : Below w.heap.size w wz) => (⟨hE.below hz, hEt.below hz⟩ : _ ∧ _))
  have HSL := Lib.hid (fun (wz : World) (hz : Below w.heap.size w wz) => (⟨hA.below hz, hBt.below hz, hP.below hz⟩ : _ ∧ _ ∧ _))
  obtain ⟨q0, q1, q2, q3, q4, q5, q6, q7, q8, q9⟩ := hop.facts
  obtain ⟨t1, t2⟩ := tmod8 kd
  obtain ⟨y, hy8⟩ : ∃ y, kd.tmod 8 = y := ⟨_, rfl⟩
  rw [hy8] at hk t1 t2
  have e1 : IntKind.i64.wrap (y + 8) = y + 8 := IntWalk.i64_in _ (by omega)
  have e2 : (y + 8).tmod 8 = 4 := by rw [Int.tmod_eq_emod_of_nonneg (by omega)]; exact hk
  have e4 : 0 ≤ y + 8 := by omega
  have e3 : (y + 8) % 8 = 4 := hk
  have hff := HF.out wx E (HEE.out wx hb).1 (HSL.out wx hb).1
  clear hwx hop hz hy hu hb hF hR htl hE hEt hA hBt hP hk hl8 hD1 hD2
  unfold ruleV at *
  have HFF := Lib.hid hff
  clear hff
  go_enter Tryz.func7, Tryz.ntmps7
  go_wp2_with fail
  rw [HWX.out]
  refine (HFF.out).mono ?_
  rintro x w1 ⟨C1, N1, cc1, v1, rfl, ho1, he1, hb1⟩
  have hlt1 : w.heap.size + 4 ≤ wx.heap.size := Nat.le_of_eq hsx.symm
  have hz1 := HZ.out.below hb1 HZ.out.lt
  have hk2 := keeps_set3 w1 (w.heap.size + 1) (.int .i64 K') (.int .i64 R') (.slice C1 N1 cc1)
  have hz2 := hz1.set3 (.int .i64 K') (.int .i64 R') (.slice C1 N1 cc1)
  have hop2 := (HOP.out.below hb1 HOP.out.lt).keeps hk2 (by omega)
  have hy2 := (HY.out.below hb1 HY.out.lt).keeps hk2 (by omega)
  have hu2 := (HU.out.below hb1 HU.out.lt).keeps hk2 (by omega)
  have ho2 := own_set3 ho1 hz1 (by decide) (.int .i64 K') (.int .i64 R') (.slice C1 N1 cc1)
  have he2 := errV_put3 he1 hz1 (.int .i64 K') (.int .i64 R') (.slice C1 N1 cc1)
  have hb2 := below_set3 (HB.out.trans (hb1.mono HB.out.size)) (show w.heap.size ≤ w.heap.size + 1 by omega) (.int .i64 K') (.int .i64 R') (.slice C1 N1 cc1)
  obtain ⟨z0, z1, z2, z3, z4, z5⟩ := hz1.facts
  obtain ⟨p0, p1, p2, p3, p4, p5, p6, p7, p8, p9⟩ := (HOP.out.below hb1 HOP.out.lt).facts
  obtain ⟨w2, hw2⟩ : ∃ w2, ((w1.setCell ⟨w.heap.size + 1, 0, none⟩ (.int .i64 K')).setCell ⟨w.heap.size + 1, 1, none⟩ (.int .i64 R')).setCell ⟨w.heap.size + 1, 2, none⟩ (.slice C1 N1 cc1) = w2 := ⟨_, rfl⟩
  have hs2 : w2.heap.size = w1.heap.size := by rw [← hw2]; simp
  rw [hw2] at hz2 hop2 hy2 hu2 ho2 he2 hb2
  have hrr := HR.out w2 (HSL.out w2 hb2).1
  unfold ruleV at *
  have HRR := Lib.hid hrr
  have HW2 := Lib.hid hw2
  have HZ2 := Lib.hid hz2
  have HY2 := Lib.hid hy2
  have HU2 := Lib.hid hu2
  have HO2 := Lib.hid ho2
  have HE2 := Lib.hid he2
  have HB2 := Lib.hid hb2
  have hb1s := hb1.size
  clear hrr hw2 hz2 hop2 hy2 hu2 ho2 he2 hb2 hk2 hz1 ho1 he1 hb1 q0 q1 q2 q3 q4 q5 q6 q7 q8 q9
  go_wp2_with fail
  rw [HW2.out]
  clear z0 z1 z2 z3 z4 z5 p0 p1 p2 p3 p4 p5 p6 p7 p8 p9
  refine (HRR.out).mono ?_
  rintro x w3 ⟨C2, N2, cc2, M, A1, n1, c1, A2, n2, c2, rfl, ho3, hu3, hb3⟩
  have hb3s := hb3.size
  have hzz := HZ2.out.below hb3 HZ2.out.lt
  have hyy := HY2.out.below hb3 HY2.out.lt
  have huu := HU2.out.below hb3 HU2.out.lt
  have hk4 := put6_keeps w3 (w.heap.size + 1 + 1) (w.heap.size + 1 + 1 + 1) (.int .i64 K') (.int .i64 R') (.slice C2 N2 cc2) (.int .i64 (M : Int)) (.slice A1 n1 c1) (.slice A2 n2 c2)
  have hres := put6_res (w := w) hyy huu (by omega) (by omega) (B := w2.heap.size) ho3 (by omega) hu3 (by omega) (HB2.out.trans (hb3.mono HB2.out.size)) K' R'
  have hpf := put6_facts hyy huu (by omega) (.int .i64 K') (.int .i64 R') (.slice C2 N2 cc2) (.int .i64 (M : Int)) (.slice A1 n1 c1) (.slice A2 n2 c2)
  have ho4 := own_keeps (own_below HO2.out hb3) hk4 (fun b hb hO => by
    have h1 := ((own_below HO2.out hb3).lt b hb).1
    omega)
  have he4 := errV_put6 (HE2.out.below hb3) hyy huu (.int .i64 K') (.int .i64 R') (.slice C2 N2 cc2) (.int .i64 (M : Int)) (.slice A1 n1 c1) (.slice A2 n2 c2)
  have hz4 := hzz.keeps hk4 (by omega)
  obtain ⟨d0, d1, d2, d3, d4, d5⟩ := hyy.facts
  obtain ⟨f0, f1, f2, f3, f4, f5⟩ := huu.facts
  obtain ⟨g0, g1, g2, _⟩ := hzz.facts
  have HPW := Lib.hid (show (((((w3.setCell ⟨w.heap.size + 1 + 1, 0, none⟩ (.int .i64 K')).setCell ⟨w.heap.size + 1 + 1, 1, none⟩ (.int .i64 R')).setCell ⟨w.heap.size + 1 + 1, 2, none⟩ (.slice C2 N2 cc2)).setCell ⟨w.heap.size + 1 + 1 + 1, 0, none⟩ (.int .i64 (M : Int))).setCell ⟨w.heap.size + 1 + 1 + 1, 1, none⟩ (.slice A1 n1 c1)).setCell ⟨w.heap.size + 1 + 1 + 1, 2, none⟩ (.slice A2 n2 c2) = put6 w3 (w.heap.size + 1 + 1) (w.heap.size + 1 + 1 + 1) (.int .i64 K') (.int .i64 R') (.slice C2 N2 cc2) (.int .i64 (M : Int)) (.slice A1 n1 c1) (.slice A2 n2 c2) from rfl)
  obtain ⟨w4, hw4⟩ : ∃ w4, put6 w3 (w.heap.size + 1 + 1) (w.heap.size + 1 + 1 + 1) (.int .i64 K') (.int .i64 R') (.slice C2 N2 cc2) (.int .i64 (M : Int)) (.slice A1 n1 c1) (.slice A2 n2 c2) = w4 := ⟨_, rfl⟩
  rw [hw4] at hres hpf ho4 he4 hz4
  have hrl := rules5 w4 K' R' K' R' C1 C2 N1 N2 cc1 cc2 _ _ (Sl.of_own ho4) (Sl.of_own hres.1) (by have := own_le ho4; simp only [maxLen] at this; omega) (by have := own_le hres.1; simp only [maxLen] at this; omega)
  simp only [and_self, decide_true] at hrl
  have HRL := Lib.hid hrl
  have HW4 := Lib.hid hw4
  have HPF := Lib.hid hpf
  have HE4 := Lib.hid he4
  have HWB := Lib.hid hres.2.1
  have HB4 := Lib.hid hres.2.2
  clear hrl hw4 hpf he4 hres ho4 hz4 hk4 hzz hyy huu ho3 hu3 hb3
  go_wp2_with fail
  rw [HPW.out, HW4.out]
  clear d0 d1 d2 d3 d4 d5 f0 f1 f2 f3 f4 f5 g0 g1 g2
  refine (HRL.out).mono ?_
  rintro x w5 ⟨rfl, hb5⟩
  obtain ⟨f0, f1, f2, _⟩ := (HPF.out.2.below hb5 HPF.out.2.lt).facts
  have hb5w := HB4.out.trans (hb5.mono HB4.out.size)
  have HIS := Lib.hid (rawIs_c w5 E (HEE.out w5 hb5w).1 (HEE.out w5 hb5w).2 tl HTL.out v1 _ (HE4.out.below hb5) ((HWB.out.below hb5).want))
  have HB5 := Lib.hid hb5w
  clear hb5 hb5w
  go_wp2_with fail
  refine (HIS.out).mono ?_
  rintro x w6 ⟨rfl, hb6⟩
  have HB6 := Lib.hid (HB5.out.trans (hb6.mono HB5.out.size))
  clear hb6 f0 f1 f2
  go_wp2_with fail
  go_ret
  exact ⟨rfl, HB6.out⟩

end Go.Proofs.YtpllojpgpejfmaaGreatDoor
