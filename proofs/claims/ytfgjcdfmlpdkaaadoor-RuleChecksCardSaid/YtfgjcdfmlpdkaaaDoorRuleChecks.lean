/- The call of RuleChecks: it returns true. Condition: the table reads from memory; the error variables hold what E says. -/
import Derived.Test.YtfgjcdfmlpdkaaaDoorLentR
import Derived.Test.YtfgjcdfmlpdkaaaDoorRefR
import Derived.Test.YtfgjcdfmlpdkaaaDoorLaw4A
namespace Go.Proofs.YtfgjcdfmlpdkaaaDoor
open Go.RowKit RuleP

theorem size_u (w : World) (E : Nat → Addr) (hE : Errs w E) (K R : Int) :
    Calls Tryd.prog 22 #[.int .i64 K, .int .i64 R] w fun e w' => ∃ v, e = .returned (.tuple #[.int .i64 (sizeN K R), v]) ∧ ErrV w' E (wantOf (size K R)) v ∧ Below w.heap.size w w' := by
  by_cases hc : K < 1 ∨ 4 < K ∨ R < 0 ∨ 3 < R
  · refine (size_err w E hE K R hc).mono ?_
    rintro e w' ⟨b, rfl, he, hb⟩
    have hs : size K R = .error (3, [(sRule, 0)]) := by unfold size; rw [if_pos hc]
    exact ⟨_, by unfold sizeN; rw [hs], by rw [hs]; exact he, hb⟩
  · obtain ⟨k, rfl⟩ : ∃ k : Nat, K = (k : Int) := ⟨K.toNat, by omega⟩
    obtain ⟨r, rfl⟩ : ∃ r : Nat, R = (r : Int) := ⟨R.toNat, by omega⟩
    refine (size_ok w k r (by omega) (by omega) (by omega)).mono ?_
    rintro e w' ⟨rfl, rfl⟩
    have hs : size (k : Int) (r : Int) = .ok ((k ^ (2 * r + 1) : Nat) : Int) := by unfold size; rw [if_neg hc]; rfl
    exact ⟨_, by unfold sizeN; rw [hs], by rw [hs]; rfl, Below.refl _ _⟩
theorem size_taleOk (K R : Int) : TaleOk (wantOf (size K R)) := by
  intro t ht
  unfold size at ht
  split at ht
  · cases ht; exact ⟨by decide, by decide⟩
  · cases ht

theorem sl_take' {w : World} {A : Option Addr} {n m : Nat} {xs ys : List Value} (h : Sl w A m (xs ++ ys)) (hn : xs.length = n) : Sl w A n xs :=
  ⟨hn, fun k v hv => h.2 k v (by rw [List.getElem?_append_left (List.getElem?_eq_some_iff.1 hv).1]; exact hv)⟩

set_option maxRecDepth 100000 in
set_option maxHeartbeats 4000000 in
theorem ruleChecks_c (w : World) (E : Nat → Addr) (hE : Errs w E) (hT : ErrT w) (K R k radius : Int) (A : Option Addr) (n c : Nat) (T : List Int) (hS : Sl w A n (T.map (Value.int .i64))) (hn : n ≤ c) (hz : c * 8 ≤ 140737488351232) :
    Calls Tryd.prog 11 #[ruleV K R A n c, .int .i64 k, .int .i64 radius] w fun e w' => e = .returned (.bool true) ∧ Below w.heap.size w w' := by
  have hb0 := (Below.refl w.heap.size w).alloc (Nat.le_refl _) (.cells #[.int .i64 K, .int .i64 R, .slice A n c] 24)
  have HE := Lib.hid (hE.below hb0)
  have hr0 := RuleAt.new w (.int .i64 K) (.int .i64 R) (.slice A n c)
  have HLR := Lib.hid (fun (wz : World) (hz' : Below w.heap.size w wz) => lentRule_c wz K R A n c _ (hS.below hz') (ints_one T) (by omega))
  unfold ruleV at *
  go_enter Tryd.func11, Tryd.ntmps11
  go_wp2_with fail
  refine (awake4_c _ E HE.out).mono ?_
  rintro e w1 ⟨rfl, b1⟩
  have hr1 := hr0.below b1 (by simp)
  have hb1 := below_box b1
  obtain ⟨r0, r1, r2, _⟩ := hr1.facts
  clear b1
  go_wp2_with fail
  refine (HLR.out w1 hb1).mono ?_
  rintro e w2 ⟨g, rfl, hg, hown, b2⟩
  have hb2 := hb1.trans (b2.mono hb1.size)
  have hr2 := hr1.below b2 hr1.lt
  have hm3 := RuleAt.new w2 (.int .i64 K) (.int .i64 R) (.slice (some ⟨g, 0, none⟩) n (n + 2))
  have hr3 := hr2.alloc (.cells #[.int .i64 K, .int .i64 R, .slice (some ⟨g, 0, none⟩) n (n + 2)] 24)
  have hb3 := hb2.alloc hb2.size (.cells #[.int .i64 K, .int .i64 R, .slice (some ⟨g, 0, none⟩) n (n + 2)] 24)
  have ho3 := hown.alloc (.cells #[.int .i64 K, .int .i64 R, .slice (some ⟨g, 0, none⟩) n (n + 2)] 24)
  obtain ⟨w3, hw3⟩ : ∃ w3, w2.alloc (.cells #[.int .i64 K, .int .i64 R, .slice (some ⟨g, 0, none⟩) n (n + 2)] 24) = w3 := ⟨_, rfl⟩
  have HW3 := Lib.hid hw3
  rw [hw3] at hm3 hr3 hb3 ho3
  clear r0 r1 r2 hr1 hr2 hb1 hb2 hown b2 hw3
  go_wp2_with fail
  rw [HW3.out]
  refine (size_u w3 E (hE.below hb3) k radius).mono ?_
  rintro e w4 ⟨v4, rfl, he4, b4⟩
  have hb4 := hb3.trans (b4.mono hb3.size)
  go_wp2_with fail
  refine (refSize_c w4 k radius).mono ?_
  rintro e w5 ⟨N5, A5, n5, c5, D5, m5, d5, rfl, hu5, b5⟩
  have hb5 := hb4.trans (b5.mono hb4.size)
  have hm5 := (hm3.below b4 hm3.lt).below b5 (Nat.lt_of_lt_of_le hm3.lt b4.size)
  have hr5 := (hr3.below b4 hr3.lt).below b5 (Nat.lt_of_lt_of_le hr3.lt b4.size)
  have ho5 := own_below (own_below ho3 b4) b5
  have he5 := he4.below b5
  have hm6 := hm5.alloc (.cells #[.int .i64 (N5 : Int), .slice A5 n5 c5, .slice D5 m5 d5] 60)
  have hr6 := hr5.alloc (.cells #[.int .i64 (N5 : Int), .slice A5 n5 c5, .slice D5 m5 d5] 60)
  have hb6 := hb5.alloc hb5.size (.cells #[.int .i64 (N5 : Int), .slice A5 n5 c5, .slice D5 m5 d5] 60)
  have hb56 : Below w5.heap.size w5 (w5.alloc (.cells #[.int .i64 (N5 : Int), .slice A5 n5 c5, .slice D5 m5 d5] 60)) := (Below.refl _ _).alloc (Nat.le_refl _) _
  have ho6 := own_below ho5 hb56
  have he6 := he5.below hb56
  have hu6 := hu5.below hb56
  have hx6 := WantAt.new w5 (.int .i64 (N5 : Int)) (.slice A5 n5 c5) (.slice D5 m5 d5)
  obtain ⟨w6, hw6⟩ : ∃ w6, w5.alloc (.cells #[.int .i64 (N5 : Int), .slice A5 n5 c5, .slice D5 m5 d5] 60) = w6 := ⟨_, rfl⟩
  have HW6 := Lib.hid hw6
  rw [hw6] at hm6 hr6 hb6 ho6 he6 hu6 hx6
  have hS6 := Sl.of_own ho6
  have hA6 : Sl w6 (some ⟨g, 0, none⟩) n (T.map (Value.int .i64)) := sl_take' hS6 (by simpa using hS.1)
  have hSB := hS.below hb6
  have HCK := Lib.hid (fun (wz : World) (hz : Below w6.heap.size w6 wz) => check_c wz E (hE.below (hb6.trans (hz.mono hb6.size))) K R (some ⟨g, 0, none⟩) n (n + 2) T (hA6.below hz) (by omega))
  have HSM := Lib.hid (fun (wz : World) (hz : Below w6.heap.size w6 wz) => small_c wz E (hE.below (hb6.trans (hz.mono hb6.size))) K R (some ⟨g, 0, none⟩) n (n + 2) T (hA6.below hz) (by omega))
  have HRC := Lib.hid (fun (wz : World) (hz : Below w6.heap.size w6 wz) => refCheck_c wz K R A n c T (hSB.below hz) (by omega))
  have HRS := Lib.hid (fun (wz : World) (hz : Below w6.heap.size w6 wz) => refSmall_c wz K R A n c T (hSB.below hz) (by omega))
  have HKP := Lib.hid (fun (wz : World) (hz : Below w6.heap.size w6 wz) => keptRule_c wz K R (some ⟨g, 0, none⟩) A n (n + 2) c T (hSB.below hz) (hS6.below hz) (Nat.le_refl _) (by simp only [maxLen]; omega))
  have HIS := Lib.hid (fun (wz : World) (hz : Below w6.heap.size w6 wz) (t : Option Tale) (ht : TaleOk t) (v u : Value) (hv : ErrV wz E t v) (hu : WantV wz t u) => rawIs_c wz E (hE.below (hb6.trans (hz.mono hb6.size))) (hT.below (hb6.trans (hz.mono hb6.size))) t ht v u hv hu)
  have HF := Lib.hid (fun (wz : World) (hz : Below w6.heap.size w6 wz) => (⟨cell_later hz hr6.facts.1, cell_later hz hr6.facts.2.1, cell_later hz hr6.facts.2.2.1, cell_later hz hm6.facts.1, cell_later hz hm6.facts.2.1, cell_later hz hm6.facts.2.2.1, cell_later hz hx6.facts.1, cell_later hz hx6.facts.2.1, cell_later hz hx6.facts.2.2.1⟩ :
    wz.cell? ⟨w.heap.size, 0, none⟩ = some (.int .i64 K) ∧ wz.cell? ⟨w.heap.size, 1, none⟩ = some (.int .i64 R) ∧ wz.cell? ⟨w.heap.size, 2, none⟩ = some (.slice A n c) ∧
    wz.cell? ⟨w2.heap.size, 0, none⟩ = some (.int .i64 K) ∧ wz.cell? ⟨w2.heap.size, 1, none⟩ = some (.int .i64 R) ∧ wz.cell? ⟨w2.heap.size, 2, none⟩ = some (.slice (some ⟨g, 0, none⟩) n (n + 2)) ∧
    wz.cell? ⟨w5.heap.size, 0, none⟩ = some (.int .i64 (N5 : Int)) ∧ wz.cell? ⟨w5.heap.size, 1, none⟩ = some (.slice A5 n5 c5) ∧ wz.cell? ⟨w5.heap.size, 2, none⟩ = some (.slice D5 m5 d5)))
  have HE6 := Lib.hid he6
  have HU6 := Lib.hid hu6
  have HB6 := Lib.hid hb6
  have hnn : (sizeN k radius == sizeN k radius) = true := by simp
  obtain ⟨sN, hsN⟩ : ∃ sN, sizeN k radius = sN := ⟨_, rfl⟩
  rw [hsN] at hnn ⊢
  clear hE hT hS hm5 hr5 hb5 hb56 ho5 he5 hu5 hm3 hr3 hb3 ho3 he4 hb4 b4 b5 hw6 hS6 hA6 hSB hm6 hr6 hb6 ho6 he6 hu6 hx6 hsN
  unfold ruleV at *
  go_wp2_with fail
  rw [HW6.out]
  go_region_held3 (fun wz => wz.cell? ⟨w.heap.size, 0, none⟩ = some (.int .i64 K) ∧ wz.cell? ⟨w.heap.size, 1, none⟩ = some (.int .i64 R) ∧ wz.cell? ⟨w.heap.size, 2, none⟩ = some (.slice A n c) ∧
    wz.cell? ⟨w2.heap.size, 0, none⟩ = some (.int .i64 K) ∧ wz.cell? ⟨w2.heap.size, 1, none⟩ = some (.int .i64 R) ∧ wz.cell? ⟨w2.heap.size, 2, none⟩ = some (.slice (some ⟨g, 0, none⟩) n (n + 2)) ∧
    wz.cell? ⟨w5.heap.size, 0, none⟩ = some (.int .i64 (N5 : Int)) ∧ wz.cell? ⟨w5.heap.size, 1, none⟩ = some (.slice A5 n5 c5) ∧ wz.cell? ⟨w5.heap.size, 2, none⟩ = some (.slice D5 m5 d5))
    (first | exact HF.out _ ((Below.refl _ _).drew) | exact HF.out _ hb7 | exact HF.out _ hb8 | exact HF.out _ hb9 | exact HF.out _ hb10 | exact HF.out _ hb11 | exact HF.out _ hb12 | exact HF.out _ hb13 | exact HF.out _ hb14)
    (first
      | (go_simp
         go_at_call 30
         refine (HKP.out _ hb13).mono ?_
         rintro e w14 ⟨rfl, b14⟩
         have hb14 : Below w6.heap.size w6 w14 := hb13.trans (b14.mono hb13.size)
         dsimp only)
      | (go_simp
         go_at_call 36
         refine (HIS.out _ hb12 _ (size_taleOk k radius) _ _ (HE6.out.below hb12) (HU6.out.below hb12).want).mono ?_
         rintro e w13 ⟨rfl, b13⟩
         have hb13 : Below w6.heap.size w6 w13 := hb12.trans (b13.mono hb12.size)
         dsimp only)
      | (go_simp
         go_at_call 36
         refine (HIS.out _ hb11 _ (small_ok K R T) _ _ (he10.below b11) hu11.want).mono ?_
         rintro e w12 ⟨rfl, b12⟩
         have hb12 : Below w6.heap.size w6 w12 := hb11.trans (b12.mono hb11.size)
         dsimp only)
      | (go_simp
         go_at_call 47
         refine (HRS.out _ hb10).mono ?_
         rintro e w11 ⟨N11, A11, n11, c11, D11, m11, d11, rfl, hu11, b11⟩
         have hb11 : Below w6.heap.size w6 w11 := hb10.trans (b11.mono hb10.size)
         dsimp only)
      | (go_simp
         go_at_call 46
         refine (HSM.out _ hb9).mono ?_
         rintro e w10 ⟨v10, rfl, he10, b10⟩
         have hb10 : Below w6.heap.size w6 w10 := hb9.trans (b10.mono hb9.size)
         dsimp only)
      | (go_simp
         go_at_call 36
         refine (HIS.out _ hb8 _ (check_ok K R T) _ _ (he7.below b8) hu8.want).mono ?_
         rintro e w9 ⟨rfl, b9⟩
         have hb9 : Below w6.heap.size w6 w9 := hb8.trans (b9.mono hb8.size)
         dsimp only)
      | (go_simp
         go_at_call 45
         refine (HRC.out _ hb7).mono ?_
         rintro e w8 ⟨N8, A8, n8, c8, D8, m8, d8, rfl, hu8, b8⟩
         have hb8 : Below w6.heap.size w6 w8 := hb7.trans (b8.mono hb7.size)
         dsimp only)
      | (go_simp
         go_at_call 44
         refine (HCK.out _ ((Below.refl _ _).drew)).mono ?_
         rintro e w7 ⟨v7, rfl, he7, b7⟩
         have hb7 : Below w6.heap.size w6 w7 := ((Below.refl w6.heap.size w6).drew).trans b7
         dsimp only))
  go_wp2_with fail
  go_ret
  exact ⟨rfl, HB6.out.trans (hb14.mono HB6.out.size)⟩
end Go.Proofs.YtfgjcdfmlpdkaaaDoor
