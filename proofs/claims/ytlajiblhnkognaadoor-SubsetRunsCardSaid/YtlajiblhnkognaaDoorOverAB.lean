/- What is told of a small rule, how many nodes there are: overlap.wrong, small, nodes, Nodes, Edge. Condition: the table reads from memory; the error variables hold what E says. What is told of a rule and a word: overlap.check. Condition: the lists read from memory; the error variables hold what E says. -/
import Derived.Test.YtlajiblhnkognaaDoorRuleB
import Derived.Test.YtlajiblhnkognaaDoorUnderW
import Derived.Test.YtlajiblhnkognaaDoorPreQ
import Derived.Test.YtlajiblhnkognaaDoorStruct
namespace Go.Proofs.YtlajiblhnkognaaDoor
open Go.RowKit RuleP

def sOver : ByteArray := ⟨#[111, 118, 101, 114, 108, 97, 112]⟩

theorem overWrong_c (w : World) (E : Nat → Addr) (hE : Errs w E) (at' : Int) (n : Nat) (h1 : 1 ≤ n) (h2 : n ≤ 11) :
    Calls Tryd.prog 65 #[.int .i64 at', .int .i64 (n : Int)] w fun e w' => e = .returned (errV w.heap.size) ∧ ErrIs w' E n [(sOver, at')] (errV w.heap.size) ∧ Below w.heap.size w w' := by
  have HE := Lib.hid hE
  clear hE
  go_enter Tryd.func65, Tryd.ntmps65
  go_wp2_with fail
  refine (new_c w E HE.out sOver at' n h1 h2).mono ?_
  rintro e w' ⟨rfl, rfl⟩
  go_wp2_with fail
  go_ret
  exact ⟨rfl, ⟨w.heap.size, _, rfl, heap_new _ _, rfl⟩, (Below.refl _ _).alloc (Nat.le_refl _) _⟩

/-- What overlap tells of a rule that is no small one. -/
def smallO (K R : Int) (T : List Int) : Option Tale := under sOver 0 (small K R T)
theorem smallO_ok (K R : Int) (T : List Int) : TaleOk (smallO K R T) := under_ok (small_ok K R T)
theorem smallO_none {K R : Int} {T : List Int} (h : smallO K R T = none) : ∃ (k r : Nat) (t : List Nat), K = (k : Int) ∧ R = (r : Int) ∧ T = ints t ∧ IsRule k r t ∧ t.length ≤ 256 := by
  have hs : small K R T = none := by
    unfold smallO under at h
    split at h
    · assumption
    · cases h
  unfold small at hs
  split at hs
  · cases hs
  · rename_i hc
    obtain ⟨k, r, t, rfl, rfl, rfl, hr⟩ := check_none hc
    refine ⟨k, r, t, rfl, rfl, rfl, hr, ?_⟩
    split at hs
    · cases hs
    · rw [ints_len] at *
      omega
theorem small_rule {k r : Nat} {t : List Nat} (h : IsRule k r t) (hl : t.length ≤ 256) : small k r (ints t) = none := by
  unfold small
  rw [check_rule h]
  simp only
  rw [if_neg (by rw [ints_len]; omega)]
theorem smallO_rule {k r : Nat} {t : List Nat} (h : IsRule k r t) (hl : t.length ≤ 256) : smallO k r (ints t) = none := by
  unfold smallO
  rw [small_rule h hl]
  rfl

set_option maxRecDepth 100000 in
theorem overSmall_c (w : World) (E : Nat → Addr) (hE : Errs w E) (K R : Int) (A : Option Addr) (n c : Nat) (T : List Int) (hT : Sl w A n (T.map (Value.int .i64))) (hm : n ≤ 9223372036854775807) :
    Calls Tryd.prog 70 #[ruleV K R A n c] w fun e w' => ∃ v, e = .returned v ∧ ErrV w' E (smallO K R T) v ∧ Below w.heap.size w w' := by
  have hb0 := (Below.refl w.heap.size w).alloc (Nat.le_refl _) (.cells #[.int .i64 K, .int .i64 R, .slice A n c] 24)
  have hr0 := RuleAt.new w (.int .i64 K) (.int .i64 R) (.slice A n c)
  obtain ⟨r0, r1, r2, _⟩ := hr0.facts
  have HS := Lib.hid (small_c _ E (hE.below hb0) K R A n c T (hT.below hb0) hm)
  have HS' := Lib.hid (small_c w E hE K R A n c T hT hm)
  have HB := Lib.hid hb0
  clear hb0 hr0 hT hE
  unfold ruleV at *
  go_enter Tryd.func70, Tryd.ntmps70
  go_wp2_with fail
  refine (HS.out).mono ?_
  rintro e w1 ⟨v, rfl, he, hb⟩
  have HU := Lib.hid (under_c w1 E sOver 0 _ v he)
  have HB1 := Lib.hid (below_box hb)
  clear he hb
  go_wp2_with fail
  refine (HU.out).mono ?_
  rintro e w2 ⟨v', rfl, he, hb⟩
  have HE := Lib.hid he
  have HB2 := Lib.hid (HB1.out.trans (hb.mono HB1.out.size))
  clear he hb
  go_wp2_with fail
  go_ret
  exact ⟨_, rfl, HE.out, HB2.out⟩

theorem nodes_div {k r : Nat} {t : List Nat} (h : IsRule k r t) : t.length / k = k ^ (2 * r) ∧ t.length = k ^ (2 * r) * k := by
  have h1 := h.k1
  have e : t.length = k ^ (2 * r) * k := by rw [h.len, Nat.pow_succ]
  exact ⟨by rw [e]; exact Nat.mul_div_cancel _ (by omega), e⟩

theorem nodes_c (w : World) {k r n c : Nat} {A : Option Addr} (hk : 1 ≤ k) (hn : n ≤ 16384) :
    Calls Tryd.prog 66 #[ruleV (k : Int) (r : Int) A n c] w fun e w' => e = .returned (.int .i64 ((n / k : Nat) : Int)) ∧ Below w.heap.size w w' := by
  have hk0 : ((k : Int) == 0) = false := by simp; omega
  have hk0' : ¬ ((k : Int) = 0) := by omega
  have hle : n / k ≤ n := Nat.div_le_self _ _
  have hd : wrap64 ((n : Int) / (k : Int)) = ((n / k : Nat) : Int) := by
    rw [show (n : Int) / (k : Int) = ((n / k : Nat) : Int) from rfl]
    generalize n / k = q at hle
    exact IntWalk.wrap64_in _ (by omega)
  unfold ruleV
  go_enter Tryd.func66, Tryd.ntmps66
  go_wp2_with fail
  go_ret
  exact ⟨by rw [← hd]; rfl, (Below.refl _ _).alloc (Nat.le_refl _) _⟩
end Go.Proofs.YtlajiblhnkognaaDoor

namespace Go.Proofs.YtlajiblhnkognaaDoor
open Go.RowKit RuleP

set_option maxHeartbeats 400000 in
theorem overOddF_c (w : World) (x k : Int) (b : Nat) (hb : w.cell? ⟨b, 0, none⟩ = some (.int .i64 k)) :
    Calls Tryd.prog 81 #[.int .i64 x, .pointer (some ⟨b, 0, none⟩)] w fun e w' => e = .returned (.bool (decide (x < 0 ∨ k ≤ x))) ∧ w = w' := by
  by_cases h : x < 0
  · have h1 : decide (x < 0) = true := decide_eq_true h
    have hd : Hid (decide (x < 0 ∨ k ≤ x) = true) := Lib.hid (decide_eq_true (.inl h))
    go_enter Tryd.func81, Tryd.ntmps81
    go_wp2_with fail
    go_ret
    exact ⟨by first | rfl | (rw [hd.out]; rfl), rfl⟩
  · have h1 : decide (x < 0) = false := decide_eq_false h
    have hd : Hid (decide (x < 0 ∨ k ≤ x) = decide (k ≤ x)) := Lib.hid (by simp [h])
    go_enter Tryd.func81, Tryd.ntmps81
    go_wp2_with fail
    go_ret
    exact ⟨by first | rfl | (rw [hd.out]; rfl), rfl⟩

/-- What overlap tells of a rule and a word of at most so many symbols. -/
def checkO (K R : Int) (T W : List Int) (most : Nat) : Option Tale :=
  match smallO K R T with
  | some t => some t
  | none => if most < W.length then some (4, [(sOver, 1)]) else match odd K W with
    | some i => some (2, [(sOver, (i : Int))])
    | none => none
theorem checkO_ok (K R : Int) (T W : List Int) (most : Nat) : TaleOk (checkO K R T W most) := by
  intro x h
  unfold checkO at h
  split at h
  · rename_i t ht
    cases h
    exact smallO_ok K R T _ ht
  · split at h
    · cases h; decide
    · split at h
      · cases h; exact ⟨by simp, by simp⟩
      · cases h
theorem checkO_none {K R : Int} {T W : List Int} {most : Nat} (h : checkO K R T W most = none) :
    ∃ (k r : Nat) (t v : List Nat), K = (k : Int) ∧ R = (r : Int) ∧ T = ints t ∧ W = ints v ∧ IsRule k r t ∧ t.length ≤ 256 ∧ v.length ≤ most ∧ ∀ x ∈ v, x < k := by
  unfold checkO at h
  split at h
  · cases h
  · rename_i hs
    obtain ⟨k, r, t, rfl, rfl, rfl, hr, hl⟩ := smallO_none hs
    split at h
    · cases h
    · rename_i hm
      split at h
      · cases h
      · rename_i ho
        obtain ⟨v, rfl, hv⟩ := odd_nat ho
        exact ⟨k, r, t, v, rfl, rfl, rfl, rfl, hr, hl, by rw [ints_len] at hm; omega, hv⟩
theorem checkO_good {k r : Nat} {t v : List Nat} {most : Nat} (hr : IsRule k r t) (hl : t.length ≤ 256) (hv : ∀ x ∈ v, x < k) (hm : v.length ≤ most) : checkO k r (ints t) (ints v) most = none := by
  unfold checkO
  rw [smallO_rule hr hl]
  simp only
  rw [if_neg (by rw [ints_len]; omega), odd_ints hv]

set_option maxRecDepth 100000 in
set_option maxHeartbeats 2000000 in
theorem overCheck_c (w : World) (E : Nat → Addr) (hE : Errs w E) (K R : Int) (A B : Option Addr) (n c m d most : Nat) (T W : List Int) (hT : Sl w A n (T.map (Value.int .i64))) (hm : n ≤ 9223372036854775807)
    (hW : Sl w B m (W.map (Value.int .i64))) (hm2 : m ≤ 9223372036854775807) (_ : most ≤ 100000) :
    Calls Tryd.prog 64 #[ruleV K R A n c, .slice B m d, .int .i64 (most : Int)] w fun e w' => ∃ v, e = .returned v ∧ ErrV w' E (checkO K R T W most) v ∧ Below w.heap.size w w' := by
  have hl : W.length = m := by simpa using hW.1
  have HL := Lib.hid hl
  have hb0 := (Below.refl w.heap.size w).alloc (Nat.le_refl _) (.cells #[.int .i64 K, .int .i64 R, .slice A n c] 24)
  have hr0 := RuleAt.new w (.int .i64 K) (.int .i64 R) (.slice A n c)
  obtain ⟨r0, r1, r2, _⟩ := hr0.facts
  have HS := Lib.hid (overSmall_c _ E (hE.below hb0) K R A n c T (hT.below hb0) hm)
  have HB := Lib.hid hb0
  have HE := Lib.hid hE
  have HW := Lib.hid hW
  have HR := Lib.hid hr0
  clear hb0 hr0 hT hE hW hl
  unfold ruleV at *
  cases ho : smallO K R T with
  | some t =>
    have hs : Hid (checkO K R T W most = some t) := Lib.hid (by unfold checkO; rw [ho])
    rw [ho] at HS
    clear ho
    go_enter Tryd.func64, Tryd.ntmps64
    go_wp2_with fail
    refine (HS.out).mono ?_
    rintro e w1 ⟨v, rfl, he, hb⟩
    obtain ⟨u, p, rfl⟩ := ErrIs.iface (show ErrIs w1 E t.1 t.2 v from he)
    have hP : ErrV w1 E (some t) (.iface u p) := he
    rw [← hs.out] at hP
    have HP := Lib.hid hP
    have HB1 := Lib.hid (below_box hb)
    clear he hb hP
    go_wp2_with fail
    go_ret
    exact ⟨_, rfl, HP.out, HB1.out⟩
  | none =>
    rw [ho] at HS
    by_cases hmm : most < m
    · have hs : Hid (checkO K R T W most = some (4, [(sOver, 1)])) := Lib.hid (by unfold checkO; rw [ho]; simp only; rw [if_pos (by rw [HL.out]; exact hmm)])
      clear ho
      go_enter Tryd.func64, Tryd.ntmps64
      go_wp2_with fail
      refine (HS.out).mono ?_
      rintro e w1 ⟨v, rfl, rfl, hb⟩
      have HB1 := Lib.hid (below_box hb)
      have HW1 := Lib.hid (overWrong_c w1 E (HE.out.below HB1.out) 1 4 (by decide) (by decide))
      clear hb
      go_wp2_with fail
      refine (HW1.out).mono ?_
      rintro e w2 ⟨rfl, he, hb2⟩
      have hP := ErrV.some he
      rw [← hs.out] at hP
      have HP := Lib.hid hP
      have HB2 := Lib.hid (HB1.out.trans (hb2.mono HB1.out.size))
      clear he hb2 hP
      go_wp2_with fail
      go_ret
      exact ⟨_, rfl, HP.out, HB2.out⟩
    · go_enter Tryd.func64, Tryd.ntmps64
      go_wp2_with fail
      refine (HS.out).mono ?_
      rintro e w1 ⟨v, rfl, rfl, hb⟩
      have hr1 := HR.out.below hb (by simp)
      have HB1 := Lib.hid (below_box hb)
      have hi := indexFunc_c w1 81 ⟨w.heap.size, 0, none⟩ (fun x => decide (x < 0 ∨ K ≤ x)) B m d W (HW.out.below HB1.out) hm2
        (fun x wz => run_enter Tryd.func81 (by kernel_rfl) (by kernel_rfl) _ _) (fun x => overOddF_c _ x K _ hr1.facts.1)
      change Calls _ _ _ _ (fun e w' => e = .returned (.int .i64 (place (odd K W))) ∧ _ = w') at hi
      have HI := Lib.hid hi
      clear hb hi hr1
      go_wp2_with fail
      refine (HI.out).mono ?_
      rintro e w2 ⟨rfl, rfl⟩
      cases hod : odd K W with
      | none =>
        have hs : Hid (checkO K R T W most = none) := Lib.hid (by unfold checkO; rw [ho]; simp only; rw [if_neg (by rw [HL.out]; exact hmm), hod])
        have hpl : place none = -1 := rfl
        rw [hpl]
        clear ho hod hpl
        go_wp2_with fail
        go_ret
        exact ⟨_, rfl, by rw [hs.out]; rfl, HB1.out⟩
      | some i =>
        have hs : Hid (checkO K R T W most = some (2, [(sOver, (i : Int))])) := Lib.hid (by unfold checkO; rw [ho]; simp only; rw [if_neg (by rw [HL.out]; exact hmm), hod])
        have hpl : place (some i) = (i : Int) := rfl
        rw [hpl]
        have HW1 := Lib.hid (overWrong_c w1 E (HE.out.below HB1.out) (i : Int) 2 (by decide) (by decide))
        clear ho hod hpl
        go_wp2_with fail
        refine (HW1.out).mono ?_
        rintro e w2 ⟨rfl, he, hb2⟩
        have hP := ErrV.some he
        rw [← hs.out] at hP
        have HP := Lib.hid hP
        have HB2 := Lib.hid (HB1.out.trans (hb2.mono HB1.out.size))
        clear he hb2 hP
        go_wp2_with fail
        go_ret
        exact ⟨_, rfl, HP.out, HB2.out⟩
end Go.Proofs.YtlajiblhnkognaaDoor
