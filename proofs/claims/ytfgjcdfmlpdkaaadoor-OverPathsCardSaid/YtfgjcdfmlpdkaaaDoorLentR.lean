/- A rule lent: edenraw.LentRule, KeptRule. Condition: the table reads from memory. -/
import Derived.Test.YtfgjcdfmlpdkaaaDoorLentB
import Derived.Test.YtfgjcdfmlpdkaaaDoorStruct
import Derived.Deep.RegionHeld3
namespace Go.Proofs.YtfgjcdfmlpdkaaaDoor
open Go.RowKit RuleP

set_option maxRecDepth 100000 in
set_option maxHeartbeats 2000000 in
theorem lentRule_c (w : World) (K R : Int) (A : Option Addr) (n c : Nat) (ys : List Value) (h : Sl w A n ys) (h1 : ∀ v ∈ ys, v.oneCell' = true) (hm : n * 8 ≤ 140737488351232) :
    Calls Tryd.prog 29 #[ruleV K R A n c] w fun e w' => ∃ g, e = .returned (ruleV K R (some ⟨g, 0, none⟩) n (n + 2)) ∧ w.heap.size ≤ g ∧
      w'.ownsRow w.heap.size 3 1 (.slice (some ⟨g, 0, none⟩) (n + 2) (n + 2)) (n + 2) (ys ++ [.int .i64 7001, .int .i64 7002]) ∧ Below w.heap.size w w' := by
  have hr0 := (RuleAt.new w (.int .i64 K) (.int .i64 R) (.slice A n c)).alloc (.cells #[.int .i64 0, .int .i64 0, .slice none 0 0] 24)
  have hw0 := RuleAt.new (w.alloc (.cells #[.int .i64 K, .int .i64 R, .slice A n c] 24)) (.int .i64 0) (.int .i64 0) (.slice none 0 0)
  rw [World.size_alloc] at hw0
  have hb0 := ((Below.refl w.heap.size w).alloc (Nat.le_refl _) (.cells #[.int .i64 K, .int .i64 R, .slice A n c] 24)).alloc (by simp) (.cells #[.int .i64 0, .int .i64 0, .slice none 0 0] 24)
  have hT0 := (h.alloc (.cells #[.int .i64 K, .int .i64 R, .slice A n c] 24)).alloc (.cells #[.int .i64 0, .int .i64 0, .slice none 0 0] 24)
  obtain ⟨r0, r1, r2, _⟩ := hr0.facts
  obtain ⟨wx, hwx⟩ : ∃ wx, (w.alloc (.cells #[.int .i64 K, .int .i64 R, .slice A n c] 24)).alloc (.cells #[.int .i64 0, .int .i64 0, .slice none 0 0] 24) = wx := ⟨_, rfl⟩
  have hsx : wx.heap.size = w.heap.size + 2 := by rw [← hwx]; simp
  have HWX := Lib.hid hwx
  rw [hwx] at hr0 hw0 hb0 hT0 r0 r1 r2
  have HL := Lib.hid (lent_c wx.drew A n c ys hT0 h1 hm)
  have HW0 := Lib.hid hw0
  have HB0 := Lib.hid hb0
  clear hw0 hb0 h hT0 hr0 hwx h1
  unfold ruleV
  go_enter Tryd.func29, Tryd.ntmps29
  go_wp2_with fail
  rw [HWX.out]
  go_region_held3 (fun w' => w'.cell? ⟨w.heap.size, 0, none⟩ = some (.int .i64 K) ∧ w'.cell? ⟨w.heap.size, 1, none⟩ = some (.int .i64 R) ∧ w'.cell? ⟨w.heap.size, 2, none⟩ = some (.slice A n c))
    (first | go_keep)
    (first
      | (go_simp
         go_at_call 15
         refine (HL.out).mono ?_
         rintro e w1 ⟨rfl, hown, hbd⟩
         have hb : Below wx.heap.size wx w1 := ((Below.refl wx.heap.size wx).drew).trans hbd
         have z0 := cell_later hb r0
         have z1 := cell_later hb r1
         have z2 := cell_later hb r2
         have hw1 := HW0.out.below hb (by rw [hsx]; exact Nat.lt_succ_self _)
         obtain ⟨d0, d1, d2, f0, f1, f2⟩ := hw1.facts
         dsimp only))
  have hsd : wx.drew.heap.size = w.heap.size + 2 := hsx
  have hown2 := own_base (own_set3 hown hw1 (by decide) (.int .i64 K) (.int .i64 R) (.slice (some ⟨wx.drew.heap.size, 0, none⟩) n (n + 2))) (base' := w.heap.size) (by omega)
  have hb2 := below_set3 (HB0.out.trans (hb.mono HB0.out.size)) (Nat.le_succ _) (.int .i64 K) (.int .i64 R) (.slice (some ⟨wx.drew.heap.size, 0, none⟩) n (n + 2))
  rw [hsd] at hown2 hb2
  have HO := Lib.hid hown2
  have HB := Lib.hid hb2
  clear hown2 hb2 hown hb hbd hw1
  go_wp2_with fail
  exact bodyPost_ret (v := .agg #[.int .i64 K, .int .i64 R, .slice (some ⟨w.heap.size + 2, 0, none⟩) n (n + 2)]) (by simp [results, Tryd.results29, go_sem, d0, d1, d2]) rfl ⟨w.heap.size + 2, rfl, by omega, HO.out, HB.out⟩

set_option maxRecDepth 100000 in
set_option maxHeartbeats 2000000 in
theorem keptRule_c (w : World) (K R : Int) (A B : Option Addr) (n c d : Nat) (xs : List Int) (hB : Sl w B n (xs.map (Value.int .i64))) (hA : Sl w A (n + 2) (xs.map (Value.int .i64) ++ [.int .i64 7001, .int .i64 7002])) (hc : n + 2 ≤ c) (hm : c ≤ maxLen) :
    Calls Tryd.prog 30 #[ruleV K R A n c, ruleV K R B n d] w fun e w' => e = .returned (.bool true) ∧ Below w.heap.size w w' := by
  have hr0 := (RuleAt.new w (.int .i64 K) (.int .i64 R) (.slice A n c)).alloc (.cells #[.int .i64 K, .int .i64 R, .slice B n d] 24)
  have hw0 := RuleAt.new (w.alloc (.cells #[.int .i64 K, .int .i64 R, .slice A n c] 24)) (.int .i64 K) (.int .i64 R) (.slice B n d)
  rw [World.size_alloc] at hw0
  have hb0 := ((Below.refl w.heap.size w).alloc (Nat.le_refl _) (.cells #[.int .i64 K, .int .i64 R, .slice A n c] 24)).alloc (by simp) (.cells #[.int .i64 K, .int .i64 R, .slice B n d] 24)
  have HK := Lib.hid (fun (wz : World) (hz : Below w.heap.size w wz) => kept_c wz A B n c d xs (hB.below hz) (hA.below hz) hc hm)
  have HB0 := Lib.hid hb0
  have hKK : (K == K) = true := by simp
  have hRR : (R == R) = true := by simp
  obtain ⟨r0, r1, r2, _⟩ := hr0.facts
  obtain ⟨s0, s1, s2, _⟩ := hw0.facts
  clear hw0 hb0 hr0 hA hB
  unfold ruleV
  go_enter Tryd.func30, Tryd.ntmps30
  go_wp2_with fail
  refine (HK.out _ HB0.out).mono ?_
  rintro e w1 ⟨rfl, hb1⟩
  have HB := Lib.hid (HB0.out.trans (hb1.mono HB0.out.size))
  clear hb1
  go_wp2_with fail
  go_ret
  exact ⟨rfl, HB.out⟩
end Go.Proofs.YtfgjcdfmlpdkaaaDoor
