/- What is a rule: rule.Check, rule.Small. Condition: the table reads from memory; the error variables hold what E says. -/
import Derived.Test.YtfgnghgmffaepaaDoorRuleA
namespace Go.Proofs.YtfgnghgmffaepaaDoor
open Go.RowKit RuleP

/-- A rule as a value. -/
def ruleV (K R : Int) (A : Option Addr) (n c : Nat) : Value := .agg #[.int .i64 K, .int .i64 R, .slice A n c]
theorem below_box {w w1 : World} {o : Obj} (h : Below (w.alloc o).heap.size (w.alloc o) w1) : Below w.heap.size w w1 := ((Below.refl _ _).alloc (Nat.le_refl _) o).trans (h.mono (by simp))
theorem box_cells {w w1 : World} {x0 x1 x2 : Value} {t : TypeId} (h : Below (w.alloc (.cells #[x0, x1, x2] t)).heap.size (w.alloc (.cells #[x0, x1, x2] t)) w1) :
    w1.cell? ⟨w.heap.size, 0, none⟩ = some x0 ∧ w1.cell? ⟨w.heap.size, 1, none⟩ = some x1 ∧ w1.cell? ⟨w.heap.size, 2, none⟩ = some x2 := by
  obtain ⟨a, b, c, _⟩ := blk_cells (heap_new w (.cells #[x0, x1, x2] t))
  exact ⟨cell_later h a, cell_later h b, cell_later h c⟩

theorem ErrV.some {w : World} {E : Nat → Addr} {n : Nat} {l : List (ByteArray × Int)} {v : Value} (h : ErrIs w E n l v) : ErrV w E (some (n, l)) v := h
theorem place_nonneg (i : Nat) : decide ((0 : Int) ≤ place (some i)) = true := decide_eq_true (by simp only [place]; omega)

set_option maxRecDepth 100000 in
set_option maxHeartbeats 2000000 in
theorem check_c (w : World) (E : Nat → Addr) (hE : Errs w E) (K R : Int) (A : Option Addr) (n c : Nat) (T : List Int) (hT : Sl w A n (T.map (Value.int .i64))) (hm : n ≤ 9223372036854775807) :
    Calls Tryd.prog 52 #[ruleV K R A n c] w fun e w' => ∃ v, e = .returned v ∧ ErrV w' E (check K R T) v ∧ Below w.heap.size w w' := by
  have hl : T.length = n := by simpa using hT.1
  have HL := Lib.hid hl
  clear hl
  have hE1 : Errs (w.alloc (.cells #[.int .i64 K, .int .i64 R, .slice A n c] 24)) E := hE.below ((Below.refl _ _).alloc (Nat.le_refl _) _)
  have HE := Lib.hid hE1
  have hT1 := hT.alloc (.cells #[.int .i64 K, .int .i64 R, .slice A n c] 24)
  have HT := Lib.hid hT1
  clear hE hE1 hT hT1
  unfold ruleV
  by_cases hk : K < 1 ∨ 4 < K
  · have hc : Hid (check K R T = some (1, [(sRule, 0)])) := Lib.hid (by unfold check; rw [if_pos hk])
    have hk' : K < 1 ∨ (1 ≤ K ∧ 4 < K) := by omega
    clear hk
    rcases hk' with hk | ⟨hk, hk'⟩
    all_goals
      go_enter Tryd.func52, Tryd.ntmps52
      go_wp2_with fail
      refine (ruleWrong_c _ E HE.out 0 1 (by decide) (by decide)).mono ?_
      rintro e w1 ⟨rfl, he, hb⟩
      have hP := ErrV.some he; rw [← hc.out] at hP; rw [World.size_alloc] at hP
      have HP := Lib.hid hP
      have HB := Lib.hid (below_box hb)
      clear he hb hP
      go_wp2_with fail
      go_ret
      exact ⟨_, rfl, HP.out, HB.out⟩
  by_cases hr : R < 0 ∨ 3 < R
  · have hc : Hid (check K R T = some (1, [(sRule, 1)])) := Lib.hid (by unfold check; rw [if_neg hk, if_pos hr])
    have hs : K < 1 ∨ 4 < K ∨ R < 0 ∨ 3 < R := by omega
    have hk1 : 1 ≤ K := by omega
    have hk4 : K ≤ 4 := by omega
    clear hk hr
    go_enter Tryd.func52, Tryd.ntmps52
    go_wp2_with fail
    refine (size_err _ E HE.out K R hs).mono ?_
    rintro e w1 ⟨b, rfl, _, hb⟩
    have HE1 := Lib.hid (HE.out.below hb)
    unfold errV
    go_wp2_with fail
    refine (ruleWrong_c _ E HE1.out 1 1 (by decide) (by decide)).mono ?_
    rintro e w2 ⟨rfl, he, hb2⟩
    have hP := ErrV.some he; rw [← hc.out] at hP
    have HP := Lib.hid hP
    have HB := Lib.hid ((below_box hb).trans (hb2.mono (below_box hb).size))
    clear he hb hb2 hP
    go_wp2_with fail
    go_ret
    exact ⟨_, rfl, HP.out, HB.out⟩
  obtain ⟨k, rfl⟩ : ∃ k : Nat, K = (k : Int) := ⟨K.toNat, by omega⟩
  obtain ⟨r, rfl⟩ : ∃ r : Nat, R = (r : Int) := ⟨R.toNat, by omega⟩
  have hk1 : 1 ≤ k := by omega
  have hk4 : k ≤ 4 := by omega
  have hr3 : r ≤ 3 := by omega
  have hsz := size_ok (w.alloc (.cells #[.int .i64 (k : Int), .int .i64 (r : Int), .slice A n c] 24)) k r hk1 hk4 hr3
  have HSZ := Lib.hid hsz
  by_cases hn : T.length ≠ k ^ (2 * r + 1)
  · have hc : Hid (check (k : Int) (r : Int) T = some (1, [(sRule, 2)])) := Lib.hid (by unfold check; rw [if_neg hk, if_neg hr, if_pos (by simpa using hn)])
    obtain ⟨L, hL⟩ : ∃ L, k ^ (2 * r + 1) = L := ⟨_, rfl⟩
    rw [hL] at hn HSZ
    have hne : ((n : Int) != (L : Int)) = true := by have := HL.out; simp; omega
    clear hk hr hL hsz hn
    go_enter Tryd.func52, Tryd.ntmps52
    go_wp2_with fail
    refine (HSZ.out).mono ?_
    rintro e w1 ⟨rfl, rfl⟩
    go_wp2_with fail
    refine (ruleWrong_c _ E HE.out 2 1 (by decide) (by decide)).mono ?_
    rintro e w1 ⟨rfl, he, hb⟩
    have hP := ErrV.some he; rw [← hc.out] at hP; rw [World.size_alloc] at hP
    have HP := Lib.hid hP
    have HB := Lib.hid (below_box hb)
    clear he hb hP
    go_wp2_with fail
    go_ret
    exact ⟨_, rfl, HP.out, HB.out⟩
  have hn' : T.length = k ^ (2 * r + 1) := Decidable.not_not.1 hn
  have hc : check (k : Int) (r : Int) T = match odd (k : Int) T with
      | some i => some (1, [(sRule, 3 + (i : Int))])
      | none => none := by unfold check; rw [if_neg hk, if_neg hr, if_neg (by simpa using hn)]; cases odd (k : Int) T <;> rfl
  rw [← hn', HL.out] at HSZ
  have hnn : ((n : Int) != (n : Int)) = false := by simp
  have hle : n ≤ 16384 := by
    have := pow_le (k := k) (r := r) hk4 hr3
    rw [← hn', HL.out] at this
    exact this
  have hod := ruleOdd_c (w.alloc (.cells #[.int .i64 (k : Int), .int .i64 (r : Int), .slice A n c] 24)) (k : Int) A n c T HT.out hm
  have HOD := Lib.hid hod
  clear hk hr hsz hn hn' hod
  cases ho : odd (k : Int) T with
  | some i =>
    rw [ho] at hc HOD
    have HC := Lib.hid hc
    have hi : i < n := by have := odd_some ho; have := HL.out; omega
    have hpl : place (some i) = (i : Int) := rfl
    rw [hpl] at HOD
    clear hc ho hpl
    go_enter Tryd.func52, Tryd.ntmps52
    go_wp2_with fail
    refine (HSZ.out).mono ?_
    rintro e w1 ⟨rfl, rfl⟩
    go_wp2_with fail
    refine (HOD.out).mono ?_
    rintro e w1 ⟨rfl, hb1⟩
    have HE1 := Lib.hid (HE.out.below hb1)
    go_wp2_with fail
    refine (ruleWrong_c _ E HE1.out (3 + (i : Int)) 1 (by decide) (by decide)).mono ?_
    rintro e w2 ⟨rfl, he, hb2⟩
    have hP := ErrV.some he; rw [← HC.out] at hP
    have HP := Lib.hid hP
    have HB := Lib.hid ((below_box hb1).trans (hb2.mono (below_box hb1).size))
    clear he hb1 hb2 hP
    go_wp2_with fail
    go_ret
    exact ⟨_, rfl, HP.out, HB.out⟩
  | none =>
    rw [ho] at hc HOD
    have HC := Lib.hid hc
    have hpl : place none = -1 := rfl
    rw [hpl] at HOD
    clear hc ho hpl
    go_enter Tryd.func52, Tryd.ntmps52
    go_wp2_with fail
    refine (HSZ.out).mono ?_
    rintro e w1 ⟨rfl, rfl⟩
    go_wp2_with fail
    refine (HOD.out).mono ?_
    rintro e w1 ⟨rfl, hb1⟩
    have HB := Lib.hid (below_box hb1)
    clear hb1
    go_wp2_with fail
    go_ret
    exact ⟨_, rfl, by rw [HC.out]; rfl, HB.out⟩

set_option maxRecDepth 100000 in
set_option maxHeartbeats 1000000 in
theorem small_c (w : World) (E : Nat → Addr) (hE : Errs w E) (K R : Int) (A : Option Addr) (n c : Nat) (T : List Int) (hT : Sl w A n (T.map (Value.int .i64))) (hm : n ≤ 9223372036854775807) :
    Calls Tryd.prog 72 #[ruleV K R A n c] w fun e w' => ∃ v, e = .returned v ∧ ErrV w' E (small K R T) v ∧ Below w.heap.size w w' := by
  have hl : T.length = n := by simpa using hT.1
  have HL := Lib.hid hl
  clear hl
  have hE1 : Errs (w.alloc (.cells #[.int .i64 K, .int .i64 R, .slice A n c] 24)) E := hE.below ((Below.refl _ _).alloc (Nat.le_refl _) _)
  have HE := Lib.hid hE1
  have hT1 := hT.alloc (.cells #[.int .i64 K, .int .i64 R, .slice A n c] 24)
  have HCK := Lib.hid (check_c _ E hE1 K R A n c T hT1 hm)
  clear hE hE1 hT hT1
  unfold ruleV at *
  cases ho : check K R T with
  | some t =>
    have hs : Hid (small K R T = some t) := Lib.hid (by unfold small; rw [ho])
    rw [ho] at HCK
    clear ho
    go_enter Tryd.func72, Tryd.ntmps72
    go_wp2_with fail
    refine (HCK.out).mono ?_
    rintro e w1 ⟨v, rfl, he, hb⟩
    obtain ⟨u, p, rfl⟩ := ErrIs.iface (show ErrIs w1 E t.1 t.2 v from he)
    have hP : ErrV w1 E (some t) (.iface u p) := he
    rw [← hs.out] at hP
    have HP := Lib.hid hP
    have HB := Lib.hid (below_box hb)
    clear he hb hP
    go_wp2_with fail
    go_ret
    exact ⟨_, rfl, HP.out, HB.out⟩
  | none =>
    rw [ho] at HCK
    by_cases h256 : 256 < n
    · have hs : Hid (small K R T = some (4, [(sRule, 0)])) := Lib.hid (by unfold small; rw [ho]; simp only; rw [if_pos (by rw [HL.out]; exact h256)])
      clear ho
      go_enter Tryd.func72, Tryd.ntmps72
      go_wp2_with fail
      refine (HCK.out).mono ?_
      rintro e w1 ⟨v, rfl, rfl, hb⟩
      obtain ⟨b0, b1, b2⟩ := box_cells hb
      have HE1 := Lib.hid (HE.out.below hb)
      have HB1 := Lib.hid (below_box hb)
      clear hb
      go_wp2_with fail
      refine (ruleWrong_c _ E HE1.out 0 4 (by decide) (by decide)).mono ?_
      rintro e w2 ⟨rfl, he, hb2⟩
      have hP := ErrV.some he; rw [← hs.out] at hP
      have HP := Lib.hid hP
      have HB := Lib.hid (HB1.out.trans (hb2.mono HB1.out.size))
      clear he hb2 hP
      go_wp2_with fail
      go_ret
      exact ⟨_, rfl, HP.out, HB.out⟩
    · have hs : Hid (small K R T = none) := Lib.hid (by unfold small; rw [ho]; simp only; rw [if_neg (by rw [HL.out]; exact h256)])
      clear ho
      go_enter Tryd.func72, Tryd.ntmps72
      go_wp2_with fail
      refine (HCK.out).mono ?_
      rintro e w1 ⟨v, rfl, rfl, hb⟩
      obtain ⟨b0, b1, b2⟩ := box_cells hb
      have HB := Lib.hid (below_box hb)
      clear hb
      go_wp2_with fail
      go_ret
      exact ⟨_, rfl, by rw [hs.out]; rfl, HB.out⟩
end Go.Proofs.YtfgnghgmffaepaaDoor
