/- overlap.Before where it refuses, overlap.Has, Nodes, Edge. Condition: the lists read from memory; the error variables hold what E says. -/
import Derived.Test.YtfgjcdfmlpdkaaaDoorOverBef
namespace Go.Proofs.YtfgjcdfmlpdkaaaDoor
open Go.RowKit RuleP

/-- What Before tells. -/
def beforeT (K R : Int) (T W : List Int) (most : Int) : Option Tale :=
  match checkO K R T W 256 with
  | some t => some t
  | none => if most < 0 then some (3, [(sOver, 2)]) else if 256 < most then some (4, [(sOver, 2)]) else none
theorem beforeT_ok (K R : Int) (T W : List Int) (most : Int) : TaleOk (beforeT K R T W most) := by
  intro x h
  unfold beforeT at h
  split at h
  · rename_i t ht
    cases h
    exact checkO_ok K R T W 256 _ ht
  · split at h
    · cases h; decide
    · split at h
      · cases h; decide
      · cases h
theorem beforeT_none {K R : Int} {T W : List Int} {most : Int} (h : beforeT K R T W most = none) :
    ∃ (k r q : Nat) (t v : List Nat), K = (k : Int) ∧ R = (r : Int) ∧ most = (q : Int) ∧ T = ints t ∧ W = ints v ∧ IsRule k r t ∧ t.length ≤ 256 ∧ v.length ≤ 256 ∧ q ≤ 256 ∧ ∀ x ∈ v, x < k := by
  unfold beforeT at h
  split at h
  · cases h
  · rename_i hc
    obtain ⟨k, r, t, v, rfl, rfl, rfl, rfl, hr, hl, hv, hs⟩ := checkO_none hc
    split at h
    · cases h
    · split at h
      · cases h
      · exact ⟨k, r, most.toNat, t, v, rfl, rfl, by omega, rfl, rfl, hr, hl, hv, by omega, hs⟩

set_option maxRecDepth 100000 in
set_option maxHeartbeats 2000000 in
theorem before_bad (w : World) (E : Nat → Addr) (hE : Errs w E) (K R most : Int) (A B : Option Addr) (n c m d : Nat) (T W : List Int) (hT : Sl w A n (T.map (Value.int .i64))) (hm : n ≤ 9223372036854775807) (hW : Sl w B m (W.map (Value.int .i64))) (hm2 : m ≤ 9223372036854775807)
    (tl : Tale) (h : beforeT K R T W most = some tl) :
    Calls Tryd.prog 16 #[ruleV K R A n c, .slice B m d, .int .i64 most] w fun e w' => ∃ v, e = .returned (.tuple #[.slice none 0 0, .bool false, v]) ∧ ErrV w' E (some tl) v ∧ Below w.heap.size w w' := by
  have hr0 := RuleAt.new w (.int .i64 K) (.int .i64 R) (.slice A n c)
  have hb0 := (Below.refl w.heap.size w).alloc (Nat.le_refl _) (.cells #[.int .i64 K, .int .i64 R, .slice A n c] 24)
  obtain ⟨r0, r1, r2, _⟩ := hr0.facts
  have HCK := Lib.hid (overCheck_c _ E (hE.below hb0) K R A B n c m d 256 T W (hT.below hb0) hm (hW.below hb0) hm2 (by decide))
  have HE := Lib.hid hE
  have HB := Lib.hid hb0
  clear hr0 hb0 hT hW hE
  unfold beforeT at h
  unfold ruleV at *
  cases ho : checkO K R T W 256 with
  | some t =>
    rw [ho] at h HCK
    obtain rfl : t = tl := Option.some.inj h
    clear h ho
    go_enter Tryd.func16, Tryd.ntmps16
    go_wp2_with fail
    refine (HCK.out).mono ?_
    rintro e w1 ⟨v, rfl, he, hb⟩
    obtain ⟨u, p, rfl⟩ := ErrIs.iface (show ErrIs w1 E t.1 t.2 v from he)
    have HP := Lib.hid he
    have HB1 := Lib.hid (below_box hb)
    clear he hb
    go_wp2_with fail
    go_ret3
    exact ⟨_, rfl, HP.out, HB1.out⟩
  | none =>
    rw [ho] at h HCK
    simp only at h
    clear ho
    by_cases h1 : most < 0
    · rw [if_pos h1] at h
      have HTL := Lib.hid h
      clear h
      go_enter Tryd.func16, Tryd.ntmps16
      go_wp2_with fail
      refine (HCK.out).mono ?_
      rintro e w1 ⟨v, rfl, rfl, hb⟩
      have HB1 := Lib.hid (below_box hb)
      have HW1 := Lib.hid (overWrong_c w1 E (HE.out.below HB1.out) 2 3 (by decide) (by decide))
      clear hb
      go_wp2_with fail
      refine (HW1.out).mono ?_
      rintro e w2 ⟨rfl, he, hb2⟩
      have hP := ErrV.some he
      rw [HTL.out] at hP
      have HP := Lib.hid hP
      have HB2 := Lib.hid (HB1.out.trans (hb2.mono HB1.out.size))
      clear he hb2 hP
      go_wp2_with fail
      go_ret3
      exact ⟨_, rfl, HP.out, HB2.out⟩
    · rw [if_neg h1] at h
      by_cases h2 : 256 < most
      · rw [if_pos h2] at h
        have HTL := Lib.hid h
        clear h
        go_enter Tryd.func16, Tryd.ntmps16
        go_wp2_with fail
        refine (HCK.out).mono ?_
        rintro e w1 ⟨v, rfl, rfl, hb⟩
        have HB1 := Lib.hid (below_box hb)
        have HW1 := Lib.hid (overWrong_c w1 E (HE.out.below HB1.out) 2 4 (by decide) (by decide))
        clear hb
        go_wp2_with fail
        refine (HW1.out).mono ?_
        rintro e w2 ⟨rfl, he, hb2⟩
        have hP := ErrV.some he
        rw [HTL.out] at hP
        have HP := Lib.hid hP
        have HB2 := Lib.hid (HB1.out.trans (hb2.mono HB1.out.size))
        clear he hb2 hP
        go_wp2_with fail
        go_ret3
        exact ⟨_, rfl, HP.out, HB2.out⟩
      · rw [if_neg h2] at h
        cases h

theorem beforeT_zero (K R : Int) (T W : List Int) : beforeT K R T W 0 = checkO K R T W 256 := by
  unfold beforeT
  cases checkO K R T W 256 with
  | some t => rfl
  | none => rfl

/-- Has the word a preimage. -/
def hasB (k r : Nat) (t W : List Nat) : Bool := decide (before k r t W ≠ [])

set_option maxRecDepth 100000 in
theorem has_bad (w : World) (E : Nat → Addr) (hE : Errs w E) (K R : Int) (A B : Option Addr) (n c m d : Nat) (T W : List Int) (hT : Sl w A n (T.map (Value.int .i64))) (hm : n ≤ 9223372036854775807) (hW : Sl w B m (W.map (Value.int .i64))) (hm2 : m ≤ 9223372036854775807)
    (tl : Tale) (h : checkO K R T W 256 = some tl) :
    Calls Tryd.prog 27 #[ruleV K R A n c, .slice B m d] w fun e w' => ∃ v, e = .returned (.tuple #[.bool false, v]) ∧ ErrV w' E (some tl) v ∧ Below w.heap.size w w' := by
  have hr0 := RuleAt.new w (.int .i64 K) (.int .i64 R) (.slice A n c)
  have hb0 := (Below.refl w.heap.size w).alloc (Nat.le_refl _) (.cells #[.int .i64 K, .int .i64 R, .slice A n c] 24)
  obtain ⟨r0, r1, r2, _⟩ := hr0.facts
  have HCK := Lib.hid (before_bad _ E (hE.below hb0) K R 0 A B n c m d T W (hT.below hb0) hm (hW.below hb0) hm2 tl (by rw [beforeT_zero]; exact h))
  have HB := Lib.hid hb0
  clear hr0 hb0 hT hW hE h
  unfold ruleV at *
  go_enter Tryd.func27, Tryd.ntmps27
  go_wp2_with fail
  refine (HCK.out).mono ?_
  rintro e w1 ⟨v, rfl, he, hb⟩
  obtain ⟨u, p, rfl⟩ := ErrIs.iface (show ErrIs w1 E tl.1 tl.2 v from he)
  have HP := Lib.hid he
  have HB1 := Lib.hid (below_box hb)
  clear he hb
  go_wp2_with fail
  go_ret2
  exact ⟨_, rfl, HP.out, HB1.out⟩

set_option maxRecDepth 100000 in
theorem has_good (w : World) (E : Nat → Addr) (hE : Errs w E) (k r : Nat) (A B : Option Addr) (n c m d : Nat) (t W : List Nat) (hr : IsRule k r t) (hsm : t.length ≤ 256) (hs : ∀ x ∈ W, x < k) (hT : Sl w A n ((ints t).map (Value.int .i64))) (hW : Sl w B m ((ints W).map (Value.int .i64))) (hm : m ≤ 256) :
    Calls Tryd.prog 27 #[ruleV k r A n c, .slice B m d] w fun e w' => e = .returned (.tuple #[.bool (hasB k r t W), .nilIface]) ∧ Below w.heap.size w w' := by
  have hr0 := RuleAt.new w (.int .i64 k) (.int .i64 r) (.slice A n c)
  have hb0 := (Below.refl w.heap.size w).alloc (Nat.le_refl _) (.cells #[.int .i64 (k : Int), .int .i64 (r : Int), .slice A n c] 24)
  obtain ⟨r0, r1, r2, _⟩ := hr0.facts
  have hbf := before_good _ E (hE.below hb0) k r 0 A B n c m d t W hr hsm hs (hT.below hb0) (hW.below hb0) hm (by decide)
  have HBF := Lib.hid hbf
  have HB := Lib.hid hb0
  clear hr0 hb0 hT hW hE hr hs hbf
  unfold ruleV at *
  go_enter Tryd.func27, Tryd.ntmps27
  go_wp2_with fail
  refine (HBF.out).mono ?_
  rintro e w1 ⟨LA, lc, rows, L, more, rfl, hown, hel, hfar, hb, hF⟩
  have hL : L.length = 0 := by rw [hF.list]; simp
  have hmr : more = hasB k r t W := by
    rw [hF.more]
    unfold hasB
    cases before k r t W <;> simp
  have HM := Lib.hid hmr
  have HB1 := Lib.hid (below_box hb)
  rw [hL]
  clear hown hel hfar hb hF hL hmr
  cases more with
  | true =>
    go_wp2_with fail
    go_ret2
    exact ⟨by rw [← HM.out]; rfl, HB1.out⟩
  | false =>
    go_wp2_with fail
    go_ret2
    exact ⟨by rw [← HM.out]; rfl, HB1.out⟩

/-- How many nodes. -/
def nodesN (K R : Int) : Nat := K.toNat ^ (2 * R.toNat)

set_option maxRecDepth 100000 in
theorem overNodes_c (w : World) (E : Nat → Addr) (hE : Errs w E) (K R : Int) (A : Option Addr) (n c : Nat) (T : List Int) (hT : Sl w A n (T.map (Value.int .i64))) (hm : n ≤ 9223372036854775807) :
    Calls Tryd.prog 37 #[ruleV K R A n c] w fun e w' => ∃ v, e = .returned (.tuple #[.int .i64 (if smallO K R T = none then (nodesN K R : Int) else 0), v]) ∧ ErrV w' E (smallO K R T) v ∧ Below w.heap.size w w' := by
  have hr0 := RuleAt.new w (.int .i64 K) (.int .i64 R) (.slice A n c)
  have hb0 := (Below.refl w.heap.size w).alloc (Nat.le_refl _) (.cells #[.int .i64 K, .int .i64 R, .slice A n c] 24)
  obtain ⟨r0, r1, r2, _⟩ := hr0.facts
  have HS := Lib.hid (overSmall_c _ E (hE.below hb0) K R A n c T (hT.below hb0) hm)
  have HR := Lib.hid hr0
  have hl : T.length = n := by simpa using hT.1
  clear hr0 hb0 hT hE
  cases ho : smallO K R T with
  | some t =>
    rw [ho] at HS
    rw [if_neg (by simp)]
    unfold ruleV at *
    clear ho
    go_enter Tryd.func37, Tryd.ntmps37
    go_wp2_with fail
    refine (HS.out).mono ?_
    rintro e w1 ⟨v, rfl, he, hb⟩
    obtain ⟨u, p, rfl⟩ := ErrIs.iface (show ErrIs w1 E t.1 t.2 v from he)
    have HP := Lib.hid he
    have HB1 := Lib.hid (below_box hb)
    clear he hb
    go_wp2_with fail
    go_ret2
    exact ⟨_, rfl, HP.out, HB1.out⟩
  | none =>
    rw [if_pos rfl]
    obtain ⟨k, r, t, rfl, rfl, rfl, hr, h256⟩ := smallO_none ho
    rw [ho] at HS
    have hk1 := hr.k1
    have hnd := (nodes_div hr).1
    rw [ints_len] at hl
    subst hl
    have HND := Lib.hid (fun wz => nodes_c wz (k := k) (r := r) (A := A) (n := t.length) (c := c) hk1 (by omega))
    rw [hnd] at HND
    unfold ruleV at *
    clear ho hr hnd
    go_enter Tryd.func37, Tryd.ntmps37
    go_wp2_with fail
    refine (HS.out).mono ?_
    rintro e w1 ⟨v, rfl, rfl, hb⟩
    obtain ⟨q0, q1, q2, _⟩ := (HR.out.below hb (by simp)).facts
    have HB1 := Lib.hid (below_box hb)
    clear hb
    go_wp2_with fail
    refine (HND.out _).mono ?_
    rintro e w2 ⟨rfl, hb2⟩
    have HB2 := Lib.hid (HB1.out.trans (hb2.mono HB1.out.size))
    clear hb2
    go_wp2_with fail
    go_ret2
    exact ⟨_, rfl, rfl, HB2.out⟩
end Go.Proofs.YtfgjcdfmlpdkaaaDoor
