/- What is told of a small rule, how many nodes there are: overlap.wrong, small, nodes, Nodes, Edge. Condition: the table reads from memory; the error variables hold what E says. -/
import Derived.Test.YtfgjcdfmlpdkaaaDoorRuleB
import Derived.Test.YtfgjcdfmlpdkaaaDoorUnder
import Derived.Test.YtfgjcdfmlpdkaaaDoorOverQ
import Derived.Test.YtfgjcdfmlpdkaaaDoorStruct
namespace Go.Proofs.YtfgjcdfmlpdkaaaDoor
open Go.RowKit RuleP

def sOver : ByteArray := ⟨#[111, 118, 101, 114, 108, 97, 112]⟩

theorem overWrong_c (w : World) (E : Nat → Addr) (hE : Errs w E) (at' : Int) (n : Nat) (h1 : 1 ≤ n) (h2 : n ≤ 11) :
    Calls Tryd.prog 57 #[.int .i64 at', .int .i64 (n : Int)] w fun e w' => e = .returned (errV w.heap.size) ∧ ErrIs w' E n [(sOver, at')] (errV w.heap.size) ∧ Below w.heap.size w w' := by
  have HE := Lib.hid hE
  clear hE
  go_enter Tryd.func57, Tryd.ntmps57
  go_wp2_with fail
  refine (new_c w E HE.out sOver at' n h1 h2).mono ?_
  rintro e w' ⟨rfl, rfl⟩
  go_wp2_with fail
  go_ret
  exact ⟨rfl, ⟨w.heap.size, _, rfl, heap_new _ _, rfl⟩, (Below.refl _ _).alloc (Nat.le_refl _) _⟩

/-- What overlap tells of a rule that is no small one. -/
def smallO (K R : Int) (T : List Int) : Option Tale := under sOver 0 (small K R T)
theorem smallO_ok (K R : Int) (T : List Int) : TaleOk (smallO K R T) := under_ok (small_ok K R T)
theorem smallO_none {K R : Int} {T : List Int} (h : smallO K R T = none) : ∃ (k r : Nat) (t : List Nat), K = (k : Int) ∧ R = (r : Int) ∧ T = ints t ∧ IsRule k r t ∧ t.length ≤ 256 := by
  have hs : small K R T = none := by
    unfold smallO under at h
    split at h
    · assumption
    · cases h
  unfold small at hs
  split at hs
  · cases hs
  · rename_i hc
    obtain ⟨k, r, t, rfl, rfl, rfl, hr⟩ := check_none hc
    refine ⟨k, r, t, rfl, rfl, rfl, hr, ?_⟩
    split at hs
    · cases hs
    · rw [ints_len] at *
      omega
theorem small_rule {k r : Nat} {t : List Nat} (h : IsRule k r t) (hl : t.length ≤ 256) : small k r (ints t) = none := by
  unfold small
  rw [check_rule h]
  simp only
  rw [if_neg (by rw [ints_len]; omega)]
theorem smallO_rule {k r : Nat} {t : List Nat} (h : IsRule k r t) (hl : t.length ≤ 256) : smallO k r (ints t) = none := by
  unfold smallO
  rw [small_rule h hl]
  rfl

set_option maxRecDepth 100000 in
theorem overSmall_c (w : World) (E : Nat → Addr) (hE : Errs w E) (K R : Int) (A : Option Addr) (n c : Nat) (T : List Int) (hT : Sl w A n (T.map (Value.int .i64))) (hm : n ≤ 9223372036854775807) :
    Calls Tryd.prog 83 #[ruleV K R A n c] w fun e w' => ∃ v, e = .returned v ∧ ErrV w' E (smallO K R T) v ∧ Below w.heap.size w w' := by
  have hb0 := (Below.refl w.heap.size w).alloc (Nat.le_refl _) (.cells #[.int .i64 K, .int .i64 R, .slice A n c] 24)
  have hr0 := RuleAt.new w (.int .i64 K) (.int .i64 R) (.slice A n c)
  obtain ⟨r0, r1, r2, _⟩ := hr0.facts
  have HS := Lib.hid (small_c _ E (hE.below hb0) K R A n c T (hT.below hb0) hm)
  have HS' := Lib.hid (small_c w E hE K R A n c T hT hm)
  have HB := Lib.hid hb0
  clear hb0 hr0 hT hE
  unfold ruleV at *
  go_enter Tryd.func83, Tryd.ntmps83
  go_wp2_with fail
  refine (HS.out).mono ?_
  rintro e w1 ⟨v, rfl, he, hb⟩
  have HU := Lib.hid (under_c w1 E sOver 0 _ v he)
  have HB1 := Lib.hid (below_box hb)
  clear he hb
  go_wp2_with fail
  refine (HU.out).mono ?_
  rintro e w2 ⟨v', rfl, he, hb⟩
  have HE := Lib.hid he
  have HB2 := Lib.hid (HB1.out.trans (hb.mono HB1.out.size))
  clear he hb
  go_wp2_with fail
  go_ret
  exact ⟨_, rfl, HE.out, HB2.out⟩

theorem nodes_div {k r : Nat} {t : List Nat} (h : IsRule k r t) : t.length / k = k ^ (2 * r) ∧ t.length = k ^ (2 * r) * k := by
  have h1 := h.k1
  have e : t.length = k ^ (2 * r) * k := by rw [h.len, Nat.pow_succ]
  exact ⟨by rw [e]; exact Nat.mul_div_cancel _ (by omega), e⟩

theorem nodes_c (w : World) {k r n c : Nat} {A : Option Addr} (hk : 1 ≤ k) (hn : n ≤ 16384) :
    Calls Tryd.prog 58 #[ruleV (k : Int) (r : Int) A n c] w fun e w' => e = .returned (.int .i64 ((n / k : Nat) : Int)) ∧ Below w.heap.size w w' := by
  have hk0 : ((k : Int) == 0) = false := by simp; omega
  have hk0' : ¬ ((k : Int) = 0) := by omega
  have hle : n / k ≤ n := Nat.div_le_self _ _
  have hd : wrap64 ((n : Int) / (k : Int)) = ((n / k : Nat) : Int) := by
    rw [show (n : Int) / (k : Int) = ((n / k : Nat) : Int) from rfl]
    generalize n / k = q at hle
    exact IntWalk.wrap64_in _ (by omega)
  unfold ruleV
  go_enter Tryd.func58, Tryd.ntmps58
  go_wp2_with fail
  go_ret
  exact ⟨by rw [← hd]; rfl, (Below.refl _ _).alloc (Nat.le_refl _) _⟩
end Go.Proofs.YtfgjcdfmlpdkaaaDoor
