/- overlap.Before where it refuses, overlap.Has, Nodes, Edge. Condition: the lists read from memory; the error variables hold what E says. Where an edge leads: overlap.Edge. Condition: the list reads from memory; the error variables hold what E says. -/
import Derived.Test.YthilnpfpllplaaaGreatDoorS12
namespace Go.Proofs.YthilnpfpllplaaaGreatDoor
open Go.RowKit RuleP

/-- What Before tells. -/
def beforeT (K R : Int) (T W : List Int) (most : Int) : Option Tale :=
  match checkO K R T W 256 with
  | some t => some t
  | none => if most < 0 then some (3, [(sOver, 2)]) else if 256 < most then some (4, [(sOver, 2)]) else none
set_option maxRecDepth 100000 in
set_option maxHeartbeats 2000000 in
theorem before_bad (w : World) (E : Nat → Addr) (hE : Errs w E) (K R most : Int) (A B : Option Addr) (n c m d : Nat) (T W : List Int) (hT : Sl w A n (T.map (Value.int .i64))) (hm : n ≤ 9223372036854775807) (hW : Sl w B m (W.map (Value.int .i64))) (hm2 : m ≤ 9223372036854775807)
    (tl : Tale) (h : beforeT K R T W most = some tl) :
    Calls Tryz.prog 51 #[ruleV K R A n c, .slice B m d, .int .i64 most] w fun e w' => ∃ v, e = .returned (.tuple #[.slice none 0 0, .bool false, v]) ∧ ErrV w' E (some tl) v ∧ Below w.heap.size w w' := by
  have hr0 := RuleAt.new w (.int .i64 K) (.int .i64 R) (.slice A n c)
  have hb0 := (Below.refl w.heap.size w).alloc (Nat.le_refl _) (.cells #[.int .i64 K, .int .i64 R, .slice A n c] 24)
  obtain ⟨r0, r1, r2, _⟩ := hr0.facts
  have HCK := Lib.hid (overCheck_c _ E (hE.below hb0) K R A B n c m d 256 T W (hT.below hb0) hm (hW.below hb0) hm2 (by decide))
  have HE := Lib.hid hE
  have HB := Lib.hid hb0
  clear hr0 hb0 hT hW hE
  unfold beforeT at h
  unfold ruleV at *
  cases ho : checkO K R T W 256 with
  | some t =>
    rw [ho] at h HCK
    obtain rfl : t = tl := Option.some.inj h
    clear h ho
    go_enter Tryz.func51, Tryz.ntmps51
    go_wp2_with fail
    refine (HCK.out).mono ?_
    rintro e w1 ⟨v, rfl, he, hb⟩
    obtain ⟨u, p, rfl⟩ := ErrIs.iface (show ErrIs w1 E t.1 t.2 v from he)
    have HP := Lib.hid he
    have HB1 := Lib.hid (below_box hb)
    clear he hb
    go_wp2_with fail
    go_ret3
    exact ⟨_, rfl, HP.out, HB1.out⟩
  | none =>
    rw [ho] at h HCK
    simp only at h
    clear ho
    by_cases h1 : most < 0
    · rw [if_pos h1] at h
      have HTL := Lib.hid h
      clear h
      go_enter Tryz.func51, Tryz.ntmps51
      go_wp2_with fail
      refine (HCK.out).mono ?_
      rintro e w1 ⟨v, rfl, rfl, hb⟩
      have HB1 := Lib.hid (below_box hb)
      have HW1 := Lib.hid (overWrong_c w1 E (HE.out.below HB1.out) 2 3 (by decide) (by decide))
      clear hb
      go_wp2_with fail
      refine (HW1.out).mono ?_
      rintro e w2 ⟨rfl, he, hb2⟩
      have hP := ErrV.some he
      rw [HTL.out] at hP
      have HP := Lib.hid hP
      have HB2 := Lib.hid (HB1.out.trans (hb2.mono HB1.out.size))
      clear he hb2 hP
      go_wp2_with fail
      go_ret3
      exact ⟨_, rfl, HP.out, HB2.out⟩
    · rw [if_neg h1] at h
      by_cases h2 : 256 < most
      · rw [if_pos h2] at h
        have HTL := Lib.hid h
        clear h
        go_enter Tryz.func51, Tryz.ntmps51
        go_wp2_with fail
        refine (HCK.out).mono ?_
        rintro e w1 ⟨v, rfl, rfl, hb⟩
        have HB1 := Lib.hid (below_box hb)
        have HW1 := Lib.hid (overWrong_c w1 E (HE.out.below HB1.out) 2 4 (by decide) (by decide))
        clear hb
        go_wp2_with fail
        refine (HW1.out).mono ?_
        rintro e w2 ⟨rfl, he, hb2⟩
        have hP := ErrV.some he
        rw [HTL.out] at hP
        have HP := Lib.hid hP
        have HB2 := Lib.hid (HB1.out.trans (hb2.mono HB1.out.size))
        clear he hb2 hP
        go_wp2_with fail
        go_ret3
        exact ⟨_, rfl, HP.out, HB2.out⟩
      · rw [if_neg h2] at h
        cases h

theorem beforeT_zero (K R : Int) (T W : List Int) : beforeT K R T W 0 = checkO K R T W 256 := by
  unfold beforeT
  cases checkO K R T W 256 with
  | some t => rfl
  | none => rfl

/-- Has the word a preimage. -/
def hasB (k r : Nat) (t W : List Nat) : Bool := decide (before k r t W ≠ [])

set_option maxRecDepth 100000 in
theorem has_bad (w : World) (E : Nat → Addr) (hE : Errs w E) (K R : Int) (A B : Option Addr) (n c m d : Nat) (T W : List Int) (hT : Sl w A n (T.map (Value.int .i64))) (hm : n ≤ 9223372036854775807) (hW : Sl w B m (W.map (Value.int .i64))) (hm2 : m ≤ 9223372036854775807)
    (tl : Tale) (h : checkO K R T W 256 = some tl) :
    Calls Tryz.prog 25 #[ruleV K R A n c, .slice B m d] w fun e w' => ∃ v, e = .returned (.tuple #[.bool false, v]) ∧ ErrV w' E (some tl) v ∧ Below w.heap.size w w' := by
  have hr0 := RuleAt.new w (.int .i64 K) (.int .i64 R) (.slice A n c)
  have hb0 := (Below.refl w.heap.size w).alloc (Nat.le_refl _) (.cells #[.int .i64 K, .int .i64 R, .slice A n c] 24)
  obtain ⟨r0, r1, r2, _⟩ := hr0.facts
  have HCK := Lib.hid (before_bad _ E (hE.below hb0) K R 0 A B n c m d T W (hT.below hb0) hm (hW.below hb0) hm2 tl (by rw [beforeT_zero]; exact h))
  have HB := Lib.hid hb0
  clear hr0 hb0 hT hW hE h
  unfold ruleV at *
  go_enter Tryz.func25, Tryz.ntmps25
  go_wp2_with fail
  refine (HCK.out).mono ?_
  rintro e w1 ⟨v, rfl, he, hb⟩
  obtain ⟨u, p, rfl⟩ := ErrIs.iface (show ErrIs w1 E tl.1 tl.2 v from he)
  have HP := Lib.hid he
  have HB1 := Lib.hid (below_box hb)
  clear he hb
  go_wp2_with fail
  go_ret2
  exact ⟨_, rfl, HP.out, HB1.out⟩

set_option maxRecDepth 100000 in
theorem has_good (w : World) (E : Nat → Addr) (hE : Errs w E) (k r : Nat) (A B : Option Addr) (n c m d : Nat) (t W : List Nat) (hr : IsRule k r t) (hsm : t.length ≤ 256) (hs : ∀ x ∈ W, x < k) (hT : Sl w A n ((ints t).map (Value.int .i64))) (hW : Sl w B m ((ints W).map (Value.int .i64))) (hm : m ≤ 256) :
    Calls Tryz.prog 25 #[ruleV k r A n c, .slice B m d] w fun e w' => e = .returned (.tuple #[.bool (hasB k r t W), .nilIface]) ∧ Below w.heap.size w w' := by
  have hr0 := RuleAt.new w (.int .i64 k) (.int .i64 r) (.slice A n c)
  have hb0 := (Below.refl w.heap.size w).alloc (Nat.le_refl _) (.cells #[.int .i64 (k : Int), .int .i64 (r : Int), .slice A n c] 24)
  obtain ⟨r0, r1, r2, _⟩ := hr0.facts
  have hbf := before_good _ E (hE.below hb0) k r 0 A B n c m d t W hr hsm hs (hT.below hb0) (hW.below hb0) hm (by decide)
  have HBF := Lib.hid hbf
  have HB := Lib.hid hb0
  clear hr0 hb0 hT hW hE hr hs hbf
  unfold ruleV at *
  go_enter Tryz.func25, Tryz.ntmps25
  go_wp2_with fail
  refine (HBF.out).mono ?_
  rintro e w1 ⟨LA, lc, rows, L, more, rfl, hown, hel, hfar, hb, hF⟩
  have hL : L.length = 0 := by rw [hF.list]; simp
  have hmr : more = hasB k r t W := by
    rw [hF.more]
    unfold hasB
    cases before k r t W <;> simp
  have HM := Lib.hid hmr
  have HB1 := Lib.hid (below_box hb)
  rw [hL]
  clear hown hel hfar hb hF hL hmr
  cases more with
  | true =>
    go_wp2_with fail
    go_ret2
    exact ⟨by rw [← HM.out]; rfl, HB1.out⟩
  | false =>
    go_wp2_with fail
    go_ret2
    exact ⟨by rw [← HM.out]; rfl, HB1.out⟩

/-- How many nodes. -/
def nodesN (K R : Int) : Nat := K.toNat ^ (2 * R.toNat)

set_option maxRecDepth 100000 in
theorem overNodes_c (w : World) (E : Nat → Addr) (hE : Errs w E) (K R : Int) (A : Option Addr) (n c : Nat) (T : List Int) (hT : Sl w A n (T.map (Value.int .i64))) (hm : n ≤ 9223372036854775807) :
    Calls Tryz.prog 113 #[ruleV K R A n c] w fun e w' => ∃ v, e = .returned (.tuple #[.int .i64 (if smallO K R T = none then (nodesN K R : Int) else 0), v]) ∧ ErrV w' E (smallO K R T) v ∧ Below w.heap.size w w' := by
  have hr0 := RuleAt.new w (.int .i64 K) (.int .i64 R) (.slice A n c)
  have hb0 := (Below.refl w.heap.size w).alloc (Nat.le_refl _) (.cells #[.int .i64 K, .int .i64 R, .slice A n c] 24)
  obtain ⟨r0, r1, r2, _⟩ := hr0.facts
  have HS := Lib.hid (overSmall_c _ E (hE.below hb0) K R A n c T (hT.below hb0) hm)
  have HR := Lib.hid hr0
  have hl : T.length = n := by simpa using hT.1
  clear hr0 hb0 hT hE
  cases ho : smallO K R T with
  | some t =>
    rw [ho] at HS
    rw [if_neg (by simp)]
    unfold ruleV at *
    clear ho
    go_enter Tryz.func113, Tryz.ntmps113
    go_wp2_with fail
    refine (HS.out).mono ?_
    rintro e w1 ⟨v, rfl, he, hb⟩
    obtain ⟨u, p, rfl⟩ := ErrIs.iface (show ErrIs w1 E t.1 t.2 v from he)
    have HP := Lib.hid he
    have HB1 := Lib.hid (below_box hb)
    clear he hb
    go_wp2_with fail
    go_ret2
    exact ⟨_, rfl, HP.out, HB1.out⟩
  | none =>
    rw [if_pos rfl]
    obtain ⟨k, r, t, rfl, rfl, rfl, hr, h256⟩ := smallO_none ho
    rw [ho] at HS
    have hk1 := hr.k1
    have hnd := (nodes_div hr).1
    rw [ints_len] at hl
    subst hl
    have HND := Lib.hid (fun wz => nodes_c wz (k := k) (r := r) (A := A) (n := t.length) (c := c) hk1 (by omega))
    rw [hnd] at HND
    unfold ruleV at *
    clear ho hr hnd
    go_enter Tryz.func113, Tryz.ntmps113
    go_wp2_with fail
    refine (HS.out).mono ?_
    rintro e w1 ⟨v, rfl, rfl, hb⟩
    obtain ⟨q0, q1, q2, _⟩ := (HR.out.below hb (by simp)).facts
    have HB1 := Lib.hid (below_box hb)
    clear hb
    go_wp2_with fail
    refine (HND.out _).mono ?_
    rintro e w2 ⟨rfl, hb2⟩
    have HB2 := Lib.hid (HB1.out.trans (hb2.mono HB1.out.size))
    clear hb2
    go_wp2_with fail
    go_ret2
    exact ⟨_, rfl, rfl, HB2.out⟩
end Go.Proofs.YthilnpfpllplaaaGreatDoor

namespace Go.Proofs.YthilnpfpllplaaaGreatDoor
open Go.RowKit RuleP

set_option maxRecDepth 100000 in
set_option maxHeartbeats 2000000 in
theorem edge_good (w : World) (E : Nat → Addr) (hE : Errs w E) (k r u s : Nat) (A : Option Addr) (n c : Nat) (t : List Nat) (hT : Sl w A n ((ints t).map (Value.int .i64))) (hr : IsRule k r t) (h256 : t.length ≤ 256) (hu : u < k ^ (2 * r)) (hs : s < k) :
    Calls Tryz.prog 134 #[ruleV k r A n c, .int .i64 (u : Int), .int .i64 (s : Int)] w fun e w' => e = .returned (.tuple #[.int .i64 (((u * k + s) % k ^ (2 * r) : Nat) : Int), .int .i64 ((t.getD (u * k + s) 0 : Nat) : Int), .nilIface]) ∧ Below w.heap.size w w' := by
  have hr0 := RuleAt.new w (.int .i64 k) (.int .i64 r) (.slice A n c)
  have hb0 := (Below.refl w.heap.size w).alloc (Nat.le_refl _) (.cells #[.int .i64 (k : Int), .int .i64 (r : Int), .slice A n c] 24)
  obtain ⟨r0, r1, r2, _⟩ := hr0.facts
  have hl : t.length = n := by simpa [ints] using hT.1
  subst hl
  have hsm := overSmall_c _ E (hE.below hb0) k r A t.length c (ints t) (hT.below hb0) (by omega)
  rw [smallO_rule hr h256] at hsm
  have HS := Lib.hid hsm
  have HT := Lib.hid hT
  have HR := Lib.hid hr0
  have hk1 := hr.k1
  have hk4 := hr.k4
  obtain ⟨hnd, hNk⟩ := nodes_div hr
  have HND := Lib.hid (fun wz => nodes_c wz (k := k) (r := r) (A := A) (n := t.length) (c := c) hk1 (by omega))
  rw [hnd] at HND
  obtain ⟨N, hNN⟩ : ∃ N, k ^ (2 * r) = N := ⟨_, rfl⟩
  rw [hNN] at HND hu hNk ⊢
  have hN0 : 0 < N := by omega
  have hq1 : u * k + s < t.length := by
    rw [hNk]
    have : (u + 1) * k ≤ N * k := Nat.mul_le_mul_right _ hu
    rw [Nat.add_mul, Nat.one_mul] at this
    omega
  obtain ⟨q, hq⟩ : ∃ q, u * k = q := ⟨_, rfl⟩
  have hqi : IntKind.i64.wrap ((u : Int) * (k : Int)) = (q : Int) := by
    rw [show (u : Int) * (k : Int) = (q : Int) by rw [← hq]; simp]
    exact IntWalk.i64_in _ (by rw [hq] at hq1; omega)
  rw [hq] at hq1 ⊢
  obtain ⟨e0, hee⟩ : ∃ e0, q + s = e0 := ⟨_, rfl⟩
  have hei : IntKind.i64.wrap ((q : Int) + (s : Int)) = (e0 : Int) := by
    rw [show (q : Int) + (s : Int) = (e0 : Int) by omega]
    exact IntWalk.i64_in _ (by omega)
  rw [hee] at hq1 ⊢
  have n0 : ¬ N = 0 := by omega
  have n1 : ¬ ((N : Int) = 0) := by omega
  have n2 : ((N : Int) == 0) = false := by simp; omega
  have n3 : IntKind.i64.wrap ((e0 : Int).tmod (N : Int)) = ((e0 % N : Nat) : Int) := by
    rw [show (e0 : Int).tmod (N : Int) = ((e0 % N : Nat) : Int) from rfl]
    have hml : e0 % N ≤ e0 := Nat.mod_le _ _
    generalize e0 % N = z at hml
    exact IntWalk.i64_in _ (by omega)
  have a1 : decide ((u : Int) < 0) = false := decide_eq_false (by omega)
  have a2 : decide ((N : Int) ≤ (u : Int)) = false := decide_eq_false (by omega)
  have a3 : decide ((s : Int) < 0) = false := decide_eq_false (by omega)
  have a4 : decide ((k : Int) ≤ (s : Int)) = false := decide_eq_false (by omega)
  have a5 : ¬ N ≤ u := by omega
  have a6 : ¬ k ≤ s := by omega
  obtain ⟨y, hy⟩ : ∃ y, t.getD e0 0 = y := ⟨_, rfl⟩
  rw [hy]
  have HY := Lib.hid hy
  have HN3 := Lib.hid n3
  unfold ruleV at *
  clear hb0 hr0 hT hE hr hnd hNk hNN hq hee hsm hy
  go_enter Tryz.func134, Tryz.ntmps134
  go_wp2_with fail
  refine (HS.out).mono ?_
  rintro e w1 ⟨v, rfl, rfl, hb⟩
  have hr1 := HR.out.below hb (by simp)
  obtain ⟨q0, q1, q2, _⟩ := hr1.facts
  have HB1 := Lib.hid (below_box hb)
  have HR1 := Lib.hid hr1
  clear hb hr1
  go_wp2_with fail
  refine (HND.out _).mono ?_
  rintro e w2 ⟨rfl, hb2⟩
  have hr2 := HR1.out.below hb2 HR1.out.lt
  obtain ⟨p0, p1, p2, _⟩ := hr2.facts
  have HR2 := Lib.hid hr2
  have HB2 := Lib.hid (HB1.out.trans (hb2.mono HB1.out.size))
  clear hb2 hr2
  have hT2 := HT.out.below HB2.out
  rw [ints_map] at hT2
  obtain ⟨ta, y', rfl, hye, htc⟩ := hT2.word_ hq1
  obtain rfl : y' = y := by
    have := HY.out
    rw [List.getD_eq_getElem?_getD, hye] at this
    exact this
  have HT2 := Lib.hid hT2
  clear hT2 hye
  go_wp2_with fail
  go_region_held3 (fun w' => w'.cell? ⟨w.heap.size, 0, none⟩ = some (.int .i64 (k : Int)) ∧ w'.cell? ⟨w.heap.size, 1, none⟩ = some (.int .i64 (r : Int)) ∧ w'.cell? ⟨w.heap.size, 2, none⟩ = some (.slice (some ta) t.length c) ∧ w'.cell? (ta.add e0) = some (.int .i64 (y' : Int)))
    (first | (refine ⟨?_, ?_, ?_, ?_⟩ <;> assumption) | go_keep)
    (first
      | (go_at_call 88
         refine (HND.out _).mono ?_
         rintro e3 w3 ⟨rfl, hb3⟩
         have x0 := cell_later hb3 p0
         have x1 := cell_later hb3 p1
         have x2 := cell_later hb3 p2
         have x3 := cell_later hb3 htc))
  have HB3 := Lib.hid (HB2.out.trans ((Below.refl w2.heap.size w2).drew.trans hb3 |>.mono HB2.out.size))
  clear hb3 x0 x1 x2 x3 p0 p1 p2 htc
  go_wp2_with fail
  go_ret3
  exact ⟨rfl, HB3.out⟩
end Go.Proofs.YthilnpfpllplaaaGreatDoor
