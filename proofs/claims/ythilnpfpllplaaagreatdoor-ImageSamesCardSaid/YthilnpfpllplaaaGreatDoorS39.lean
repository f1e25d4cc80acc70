/- The decimal text: what nat.Text returns. Condition: the limbs read from memory. Rules out of rules: forms.Compose and Shift. Condition: the tables read from memory; the error variables hold what E says. The law's helper image; Compose of any rules. Condition: the lists read from memory; the error variables hold what E says. -/
import Derived.BigQuiet
import Derived.Deep.QuietTactic
import Derived.Deep.RegionHeld3
import Derived.Deep.RegionLaw
import Derived.Laws.BitsAllLaws
import Derived.Lib.Strings
import Derived.Lib.Slices
import Derived.Lib.Small
import Derived.Lib.Walk
import Derived.Lib.BitFns
import Derived.Test.YthilnpfpllplaaaGreatDoorS6
import Derived.Test.YthilnpfpllplaaaGreatDoorS7
import Derived.Test.YthilnpfpllplaaaGreatDoorS8
import Derived.Test.YthilnpfpllplaaaGreatDoorS26
import Derived.Test.YthilnpfpllplaaaGreatDoorS35
import Derived.Test.YthilnpfpllplaaaGreatDoorS37
import Derived.Test.YthilnpfpllplaaaGreatDoorS38
namespace Go.Proofs.YthilnpfpllplaaaGreatDoor
open Go.RowKit NatP

def chars (D : List Nat) : List Value := (D.map dch).map bv
theorem pow_le_pow2 {k n V : Nat} (h : 10 ^ k ≤ V) (hv : V < W32 ^ n) : k < 32 * n + 1 := by
  rcases Nat.lt_or_ge k (32 * n + 1) with h1 | h1
  · exact h1
  · have h2 : 2 ^ (32 * n) ≤ 10 ^ k := Nat.le_trans (Nat.pow_le_pow_right (by decide) (by omega)) (Nat.pow_le_pow_left (by decide) k)
    rw [Nat.pow_mul] at h2
    have h3 : (2 ^ 32 : Nat) = W32 := rfl
    rw [h3] at h2
    omega

/-- Digits done, and what is left of the number. -/
structure TextTo (V n : Nat) (D : List Nat) (v : Nat) : Prop where
  ok : OkB 10 D
  eq : valB 10 D + 10 ^ D.length * v = V
theorem TextTo.len {V n v : Nat} {D : List Nat} (h : TextTo V n D v) (hV : V < W32 ^ n) (hv : 0 < v) : D.length < 32 * n + 1 := by
  refine pow_le_pow2 (V := V) ?_ hV
  have : 10 ^ D.length * 1 ≤ 10 ^ D.length * v := Nat.mul_le_mul (Nat.le_refl _) hv
  have := h.eq
  omega
/-- And digits of one rest done. -/
structure TextIn (V : Nat) (D : List Nat) (v r : Nat) : Prop where
  ok : OkB 10 D
  eq : valB 10 D + 10 ^ D.length * r + v = V
theorem TextIn.step {V v r : Nat} {D : List Nat} (h : TextIn V D v r) : TextIn V (D ++ [r % 10]) v (r / 10) := by
  refine ⟨ok_append h.ok (fun x hx => by simp at hx; subst hx; exact Nat.mod_lt _ (by decide)), ?_⟩
  rw [val_snoc, List.length_append, List.length_singleton, Nat.pow_succ]
  have e1 := h.eq
  have e2 := Nat.mod_add_div r 10
  generalize r % 10 = a at *
  generalize r / 10 = b at *
  have e3 : 10 ^ D.length * (a + 10 * b) = 10 ^ D.length * r := by rw [e2]
  rw [Nat.mul_add, ← Nat.mul_assoc] at e3
  omega
theorem TextTo.go {V n v : Nat} {D : List Nat} (h : TextTo V n D v) : TextIn V D (10 ^ D.length * (1000000000 * (v / 1000000000))) (v % 1000000000) := by
  refine ⟨h.ok, ?_⟩
  have e1 := h.eq
  have e2 := Nat.mod_add_div v 1000000000
  rw [Nat.add_assoc, ← Nat.mul_add, e2]
  exact e1
theorem TextIn.stop {V n v k : Nat} {D : List Nat} (h : TextIn V D (10 ^ k * (1000000000 * v)) 0) (hk : D.length = k + 9) : TextTo V n D v := by
  refine ⟨h.ok, ?_⟩
  have e := h.eq
  rw [Nat.mul_zero, Nat.add_zero] at e
  rw [hk, Nat.pow_add, Nat.mul_assoc]
  exact e

/-- The bytes from m on, the last first. -/
def TextOut (m : Nat) (cs L : List Value) : Prop := L = (cs.drop m).reverse
theorem TextOut.step {k : Nat} {cs L : List Value} {u : Value} (h : TextOut (k + 1) cs L) (hu : cs[k]? = some u) : TextOut k cs (L ++ [u]) := by
  obtain ⟨hk, e⟩ := List.getElem?_eq_some_iff.1 hu
  unfold TextOut at *
  rw [List.drop_eq_getElem_cons hk, e, List.reverse_cons, ← h]
theorem TextOut.start (D : List Nat) : TextOut D.length (chars D) [] := by
  unfold TextOut
  rw [List.drop_of_length_le (by simp [chars])]; rfl
theorem TextOut.stop {D : List Nat} {L : List Value} (h : TextOut 0 (chars D) L) : L = ((D.map dch).reverse).map bv := by
  unfold TextOut at h
  rw [h, List.drop_zero, chars, List.map_reverse]
end Go.Proofs.YthilnpfpllplaaaGreatDoor

namespace Go.Proofs.YthilnpfpllplaaaGreatDoor
open Go.RowKit RuleP

set_option maxRecDepth 100000 in
set_option maxHeartbeats 1000000 in
theorem compose_big (w : World) (E : Nat → Addr) (hE : Errs w E) (k r : Nat) (A B : Option Addr) (n c m d : Nat) (t : List Nat) (hr : IsRule k r t) (hT : Sl w A n ((ints t).map (Value.int .i64))) (r2 : Nat) (t2 : List Nat) (hr2 : IsRule k r2 t2) (hT2 : Sl w B m ((ints t2).map (Value.int .i64))) (hbig : 3 < r + r2) :
    Calls Tryz.prog 31 #[ruleV k r A n c, ruleV (k : Int) (r2 : Int) B m d] w (RuleRes w E 0 0 [] (some (4, [(sForms, 0)]))) := by
  have hn : t.length = n := by simpa [ints] using hT.1
  have hn16 := hr.le
  rw [hn] at hn16
  have hn2 : t2.length = m := by simpa [ints] using hT2.1
  have hm16 := hr2.le
  rw [hn2] at hm16
  have HRU2 := Lib.hid hr2
  have hrr3 := hr2.r3
  clear hn2 hr2
  have hbW := ((((Below.refl w.heap.size w).alloc (Nat.le_refl _) (.cells #[.int .i64 (k : Int), .int .i64 (r : Int), .slice A n c] 24)).alloc (by simp) (.cells #[.int .i64 (k : Int), .int .i64 (r2 : Int), .slice B m d] 24)).alloc (by simp; omega) (.cells #[.int .i64 0, .int .i64 0, .slice none 0 0] 24))
  have hr0 := (((RuleAt.new (w) (.int .i64 (k : Int)) (.int .i64 (r : Int)) (.slice A n c)).alloc (.cells #[.int .i64 (k : Int), .int .i64 (r2 : Int), .slice B m d] 24)).alloc (.cells #[.int .i64 0, .int .i64 0, .slice none 0 0] 24))
  have hr1 := ((RuleAt.new (w.alloc (.cells #[.int .i64 (k : Int), .int .i64 (r : Int), .slice A n c] 24)) (.int .i64 (k : Int)) (.int .i64 (r2 : Int)) (.slice B m d)).alloc (.cells #[.int .i64 0, .int .i64 0, .slice none 0 0] 24))
  have hr2 := (RuleAt.new ((w.alloc (.cells #[.int .i64 (k : Int), .int .i64 (r : Int), .slice A n c] 24)).alloc (.cells #[.int .i64 (k : Int), .int .i64 (r2 : Int), .slice B m d] 24)) (.int .i64 0) (.int .i64 0) (.slice none 0 0))
  simp only [World.size_alloc] at hr1 hr2
  obtain ⟨W, hW⟩ : ∃ W, ((w.alloc (.cells #[.int .i64 (k : Int), .int .i64 (r : Int), .slice A n c] 24)).alloc (.cells #[.int .i64 (k : Int), .int .i64 (r2 : Int), .slice B m d] 24)).alloc (.cells #[.int .i64 0, .int .i64 0, .slice none 0 0] 24) = W := ⟨_, rfl⟩
  have hWs : W.heap.size = w.heap.size + 3 := by rw [← hW]; simp
  rw [hW] at hbW hr0 hr1 hr2
  have HR0 := Lib.hid hr0
  obtain ⟨a0, b0, c0, _⟩ := hr0.facts
  have HR1 := Lib.hid hr1
  obtain ⟨a1, b1, c1, _⟩ := hr1.facts
  have HR2 := Lib.hid hr2
  obtain ⟨a2, b2, c2, _⟩ := hr2.facts
  have HW := Lib.hid hW
  have HWS := Lib.hid hWs
  have HBW := Lib.hid hbW
  have hck := formsCheck_c W E (hE.below HBW.out) 0 (k : Int) (r : Int) A n c (ints t) (hT.below HBW.out) (by omega)
  rw [checkF_rule 0 hr] at hck
  have HC1 := Lib.hid hck
  have hck2 := fun (wz : World) (hz : Below W.heap.size W wz) => formsCheck_c wz E (hE.below (HBW.out.trans (hz.mono HBW.out.size))) 1 (k : Int) (r2 : Int) B m d (ints t2) (hT2.below (HBW.out.trans (hz.mono HBW.out.size))) (by omega)
  rw [checkF_rule 1 HRU2.out] at hck2
  have HC2 := Lib.hid hck2
  have HTT := Lib.hid (fun (wz : World) (hz : Below W.heap.size W wz) => (⟨hT.below (HBW.out.trans (hz.mono HBW.out.size)), hT2.below (HBW.out.trans (hz.mono HBW.out.size))⟩ : _ ∧ _))
  have HEE := Lib.hid (fun (wz : World) (hz : Below W.heap.size W wz) => hE.below (HBW.out.trans (hz.mono HBW.out.size)))
  have HRU := Lib.hid hr
  have hr3 := hr.r3
  clear hr0 hr1 hr2 hW hWs hbW hT hE hck hck2 hn hr hT2
  unfold ruleV at *
  go_enter Tryz.func31, Tryz.ntmps31
  go_wp2_with fail
  rw [HW.out]
  refine (HC1.out).mono ?_
  rintro e w1 ⟨v1, rfl, he1, hb1⟩
  have he1' : v1 = .nilIface := he1
  clear he1
  subst he1'
  obtain ⟨a1, b1, c1, _⟩ := (HR1.out.below hb1 HR1.out.lt).facts
  go_wp2_with fail
  refine (HC2.out w1 hb1).mono ?_
  rintro e w2 ⟨v2, rfl, he2, hb2'⟩
  have hb2 := pure_trans hb1 hb2'
  clear hb2'
  have he2' : v2 = .nilIface := he2
  clear he2
  subst he2'
  obtain ⟨a0, b0, c0, _⟩ := (HR0.out.below hb2 HR0.out.lt).facts
  obtain ⟨a1, b1, c1, _⟩ := (HR1.out.below hb2 HR1.out.lt).facts
  have hkk : ((k : Int) != (k : Int)) = false := by simp
  have hb3' : (3 : Int) < (r : Int) + (r2 : Int) := by omega
  clear hbig
  have HWR := Lib.hid (formsWrong_c w2 E (HEE.out w2 hb2) 0 4 (by decide) (by decide))
  go_wp2_with fail
  refine (HWR.out).mono ?_
  rintro e w3 ⟨rfl, he3, hb3'⟩
  have hb3 := pure_trans hb2 hb3'
  unfold errV at *
  clear hb3'
  have hrx := HR2.out.below hb3 HR2.out.lt
  obtain ⟨hRA, hRS⟩ := res_err (tl := (4, [(sForms, 0)])) hrx he3 (HBW.out.trans (hb3.mono HBW.out.size)) (show w.heap.size ≤ w.heap.size + 1 + 1 by omega)
  have HRA := Lib.hid hRA
  have HRS := Lib.hid hRS
  obtain ⟨d0, d1, d2, f0, f1, f2⟩ := hrx.facts
  clear hRA hRS hrx he3
  go_wp2_with fail
  obtain ⟨d0, d1, d2, _⟩ := HRA.out.facts
  exact bodyPost_ret (v := .tuple #[.agg #[.int .i64 0, .int .i64 0, .slice none 0 0], .iface 86 (.pointer (some ⟨w2.heap.size, 0, none⟩))]) (by simp [results, Tryz.results31, go_sem, d0, d1, d2]) rfl HRS.out
set_option maxRecDepth 100000 in
set_option maxHeartbeats 1000000 in
theorem compose_good (w : World) (E : Nat → Addr) (hE : Errs w E) (k r : Nat) (A B : Option Addr) (n c m d : Nat) (t : List Nat) (hr : IsRule k r t) (hT : Sl w A n ((ints t).map (Value.int .i64))) (r2 q : Nat) (t2 : List Nat) (hr2 : IsRule k r2 t2) (hT2 : Sl w B m ((ints t2).map (Value.int .i64))) (hq : r + r2 = q) (hq3 : q ≤ 3) :
    Calls Tryz.prog 31 #[ruleV k r A n c, ruleV (k : Int) (r2 : Int) B m d] w (RuleRes w E k q (ints (comp k r t r2 t2)) none) := by
  have hn : t.length = n := by simpa [ints] using hT.1
  have hn16 := hr.le
  rw [hn] at hn16
  have hn2 : t2.length = m := by simpa [ints] using hT2.1
  have hm16 := hr2.le
  rw [hn2] at hm16
  have HRU2 := Lib.hid hr2
  have hrr3 := hr2.r3
  clear hn2 hr2
  have hbW := ((((Below.refl w.heap.size w).alloc (Nat.le_refl _) (.cells #[.int .i64 (k : Int), .int .i64 (r : Int), .slice A n c] 24)).alloc (by simp) (.cells #[.int .i64 (k : Int), .int .i64 (r2 : Int), .slice B m d] 24)).alloc (by simp; omega) (.cells #[.int .i64 0, .int .i64 0, .slice none 0 0] 24))
  have hr0 := (((RuleAt.new (w) (.int .i64 (k : Int)) (.int .i64 (r : Int)) (.slice A n c)).alloc (.cells #[.int .i64 (k : Int), .int .i64 (r2 : Int), .slice B m d] 24)).alloc (.cells #[.int .i64 0, .int .i64 0, .slice none 0 0] 24))
  have hr1 := ((RuleAt.new (w.alloc (.cells #[.int .i64 (k : Int), .int .i64 (r : Int), .slice A n c] 24)) (.int .i64 (k : Int)) (.int .i64 (r2 : Int)) (.slice B m d)).alloc (.cells #[.int .i64 0, .int .i64 0, .slice none 0 0] 24))
  have hr2 := (RuleAt.new ((w.alloc (.cells #[.int .i64 (k : Int), .int .i64 (r : Int), .slice A n c] 24)).alloc (.cells #[.int .i64 (k : Int), .int .i64 (r2 : Int), .slice B m d] 24)) (.int .i64 0) (.int .i64 0) (.slice none 0 0))
  simp only [World.size_alloc] at hr1 hr2
  obtain ⟨W, hW⟩ : ∃ W, ((w.alloc (.cells #[.int .i64 (k : Int), .int .i64 (r : Int), .slice A n c] 24)).alloc (.cells #[.int .i64 (k : Int), .int .i64 (r2 : Int), .slice B m d] 24)).alloc (.cells #[.int .i64 0, .int .i64 0, .slice none 0 0] 24) = W := ⟨_, rfl⟩
  have hWs : W.heap.size = w.heap.size + 3 := by rw [← hW]; simp
  rw [hW] at hbW hr0 hr1 hr2
  have HR0 := Lib.hid hr0
  obtain ⟨a0, b0, c0, _⟩ := hr0.facts
  have HR1 := Lib.hid hr1
  obtain ⟨a1, b1, c1, _⟩ := hr1.facts
  have HR2 := Lib.hid hr2
  obtain ⟨a2, b2, c2, _⟩ := hr2.facts
  have HW := Lib.hid hW
  have HWS := Lib.hid hWs
  have HBW := Lib.hid hbW
  have hck := formsCheck_c W E (hE.below HBW.out) 0 (k : Int) (r : Int) A n c (ints t) (hT.below HBW.out) (by omega)
  rw [checkF_rule 0 hr] at hck
  have HC1 := Lib.hid hck
  have hck2 := fun (wz : World) (hz : Below W.heap.size W wz) => formsCheck_c wz E (hE.below (HBW.out.trans (hz.mono HBW.out.size))) 1 (k : Int) (r2 : Int) B m d (ints t2) (hT2.below (HBW.out.trans (hz.mono HBW.out.size))) (by omega)
  rw [checkF_rule 1 HRU2.out] at hck2
  have HC2 := Lib.hid hck2
  have HTT := Lib.hid (fun (wz : World) (hz : Below W.heap.size W wz) => (⟨hT.below (HBW.out.trans (hz.mono HBW.out.size)), hT2.below (HBW.out.trans (hz.mono HBW.out.size))⟩ : _ ∧ _))
  have HEE := Lib.hid (fun (wz : World) (hz : Below W.heap.size W wz) => hE.below (HBW.out.trans (hz.mono HBW.out.size)))
  have HRU := Lib.hid hr
  have hr3 := hr.r3
  clear hr0 hr1 hr2 hW hWs hbW hT hE hck hck2 hn hr hT2
  unfold ruleV at *
  go_enter Tryz.func31, Tryz.ntmps31
  go_wp2_with fail
  rw [HW.out]
  refine (HC1.out).mono ?_
  rintro e w1 ⟨v1, rfl, he1, hb1⟩
  have he1' : v1 = .nilIface := he1
  clear he1
  subst he1'
  obtain ⟨a1, b1, c1, _⟩ := (HR1.out.below hb1 HR1.out.lt).facts
  go_wp2_with fail
  refine (HC2.out w1 hb1).mono ?_
  rintro e w2 ⟨v2, rfl, he2, hb2'⟩
  have hb2 := pure_trans hb1 hb2'
  clear hb2'
  have he2' : v2 = .nilIface := he2
  clear he2
  subst he2'
  obtain ⟨a0, b0, c0, _⟩ := (HR0.out.below hb2 HR0.out.lt).facts
  obtain ⟨a1, b1, c1, _⟩ := (HR1.out.below hb2 HR1.out.lt).facts
  have hkk : ((k : Int) != (k : Int)) = false := by simp
  have hb3' : ¬ (3 : Int) < (r : Int) + (r2 : Int) := by omega
  have HBH := Lib.hid (behindF_c w2 E (HEE.out w2 hb2) k r r2 q hq A B n c m d t t2 HRU.out HRU2.out hq3 (HTT.out w2 hb2).1 (HTT.out w2 hb2).2)
  unfold ruleV at HBH
  clear hq hq3
  go_wp2_with fail
  refine (HBH.out).mono ?_
  rintro e w3 ⟨g, N, rfl, hT3, hb3'⟩
  have hb3 := pure_trans hb2 hb3'
  have hge := Nat.le_trans HBW.out.size hb2.size
  clear hb3'
  have hrx := HR2.out.below hb3 HR2.out.lt
  obtain ⟨hRA, hRS⟩ := res_new (E := E) (K := (k : Int)) (R := (q : Int)) hrx hT3 (HBW.out.trans (hb3.mono HBW.out.size)) (show w.heap.size ≤ w.heap.size + 1 + 1 by omega) hge
  have HRA := Lib.hid hRA
  have HRS := Lib.hid hRS
  obtain ⟨d0, d1, d2, f0, f1, f2⟩ := hrx.facts
  clear hRA hRS hrx hT3
  unfold ruleV
  go_wp2_with fail
  obtain ⟨d0, d1, d2, _⟩ := HRA.out.facts
  exact bodyPost_ret (v := .tuple #[.agg #[.int .i64 (k : Int), .int .i64 (q : Int), .slice (some ⟨g, 0, none⟩) N N], .nilIface]) (by simp [results, Tryz.results31, go_sem, d0, d1, d2]) rfl HRS.out
end Go.Proofs.YthilnpfpllplaaaGreatDoor

namespace Go.Proofs.YthilnpfpllplaaaGreatDoor
open Go.RowKit RuleP

end Go.Proofs.YthilnpfpllplaaaGreatDoor
