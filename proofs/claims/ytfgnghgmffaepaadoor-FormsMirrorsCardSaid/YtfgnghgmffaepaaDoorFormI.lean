/- Rules out of rules: forms.Compose and Shift. Condition: the tables read from memory; the error variables hold what E says. The law's helper image; Compose of any rules. Condition: the lists read from memory; the error variables hold what E says. -/
import Derived.Test.YtfgnghgmffaepaaDoorFormB
import Derived.Test.YtfgnghgmffaepaaDoorLaw5A
import Derived.BigQuiet
import Derived.Deep.QuietTactic
namespace Go.Proofs.YtfgnghgmffaepaaDoor
open Go.RowKit RuleP

set_option maxRecDepth 100000 in
set_option maxHeartbeats 1000000 in
theorem compose_bad1 (w : World) (E : Nat → Addr) (hE : Errs w E) (K R K2 R2 : Int) (A B : Option Addr) (n c m d : Nat) (T : List Int) (hT : Sl w A n (T.map (Value.int .i64))) (hm : n ≤ 9223372036854775807) (tl : Tale) (h : checkF 0 K R T = some tl) :
    Calls Tryd.prog 10 #[ruleV K R A n c, ruleV K2 R2 B m d] w (RuleRes w E 0 0 [] (some tl)) := by
  have hbW := ((((Below.refl w.heap.size w).alloc (Nat.le_refl _) (.cells #[.int .i64 K, .int .i64 R, .slice A n c] 24)).alloc (by simp) (.cells #[.int .i64 K2, .int .i64 R2, .slice B m d] 24)).alloc (by simp; omega) (.cells #[.int .i64 0, .int .i64 0, .slice none 0 0] 24))
  have hr0 := (((RuleAt.new (w) (.int .i64 K) (.int .i64 R) (.slice A n c)).alloc (.cells #[.int .i64 K2, .int .i64 R2, .slice B m d] 24)).alloc (.cells #[.int .i64 0, .int .i64 0, .slice none 0 0] 24))
  have hr1 := ((RuleAt.new (w.alloc (.cells #[.int .i64 K, .int .i64 R, .slice A n c] 24)) (.int .i64 K2) (.int .i64 R2) (.slice B m d)).alloc (.cells #[.int .i64 0, .int .i64 0, .slice none 0 0] 24))
  have hr2 := (RuleAt.new ((w.alloc (.cells #[.int .i64 K, .int .i64 R, .slice A n c] 24)).alloc (.cells #[.int .i64 K2, .int .i64 R2, .slice B m d] 24)) (.int .i64 0) (.int .i64 0) (.slice none 0 0))
  simp only [World.size_alloc] at hr1 hr2
  obtain ⟨W, hW⟩ : ∃ W, ((w.alloc (.cells #[.int .i64 K, .int .i64 R, .slice A n c] 24)).alloc (.cells #[.int .i64 K2, .int .i64 R2, .slice B m d] 24)).alloc (.cells #[.int .i64 0, .int .i64 0, .slice none 0 0] 24) = W := ⟨_, rfl⟩
  have hWs : W.heap.size = w.heap.size + 3 := by rw [← hW]; simp
  rw [hW] at hbW hr0 hr1 hr2
  have HR0 := Lib.hid hr0
  obtain ⟨a0, b0, c0, _⟩ := hr0.facts
  have HR1 := Lib.hid hr1
  obtain ⟨a1, b1, c1, _⟩ := hr1.facts
  have HR2 := Lib.hid hr2
  obtain ⟨a2, b2, c2, _⟩ := hr2.facts
  have HW := Lib.hid hW
  have HWS := Lib.hid hWs
  have HBW := Lib.hid hbW
  have HC1 := Lib.hid (formsCheck_c W E (hE.below HBW.out) 0 K R A n c T (hT.below HBW.out) hm)
  rw [h] at HC1
  clear hr0 hr1 hr2 hW hWs hbW hT hE h
  unfold ruleV at *
  go_enter Tryd.func10, Tryd.ntmps10
  go_wp2_with fail
  rw [HW.out]
  refine (HC1.out).mono ?_
  rintro e w1 ⟨v1, rfl, he1, hb1⟩
  have he1' : ErrIs w1 E tl.1 tl.2 v1 := he1
  obtain ⟨u, p, rfl⟩ := he1'.iface
  clear he1
  have hrx := HR2.out.below hb1 HR2.out.lt
  obtain ⟨hRA, hRS⟩ := res_err hrx he1' (HBW.out.trans (hb1.mono HBW.out.size)) (show w.heap.size ≤ w.heap.size + 1 + 1 by omega)
  have HRA := Lib.hid hRA
  have HRS := Lib.hid hRS
  obtain ⟨d0, d1, d2, f0, f1, f2⟩ := hrx.facts
  clear hRA hRS hrx he1'
  go_wp2_with fail
  obtain ⟨d0, d1, d2, _⟩ := HRA.out.facts
  exact bodyPost_ret (v := .tuple #[.agg #[.int .i64 0, .int .i64 0, .slice none 0 0], .iface u p]) (by simp [results, Tryd.results10, go_sem, d0, d1, d2]) rfl HRS.out
set_option maxRecDepth 100000 in
set_option maxHeartbeats 1000000 in
theorem compose_bad2 (w : World) (E : Nat → Addr) (hE : Errs w E) (k r : Nat) (A B : Option Addr) (n c m d : Nat) (t : List Nat) (hr : IsRule k r t) (hT : Sl w A n ((ints t).map (Value.int .i64))) (K2 R2 : Int) (T2 : List Int) (hT2 : Sl w B m (T2.map (Value.int .i64))) (hm2 : m ≤ 9223372036854775807) (tl : Tale) (h2 : checkF 1 K2 R2 T2 = some tl) :
    Calls Tryd.prog 10 #[ruleV k r A n c, ruleV K2 R2 B m d] w (RuleRes w E 0 0 [] (some tl)) := by
  have hn : t.length = n := by simpa [ints] using hT.1
  have hn16 := hr.le
  rw [hn] at hn16
  have hbW := ((((Below.refl w.heap.size w).alloc (Nat.le_refl _) (.cells #[.int .i64 (k : Int), .int .i64 (r : Int), .slice A n c] 24)).alloc (by simp) (.cells #[.int .i64 K2, .int .i64 R2, .slice B m d] 24)).alloc (by simp; omega) (.cells #[.int .i64 0, .int .i64 0, .slice none 0 0] 24))
  have hr0 := (((RuleAt.new (w) (.int .i64 (k : Int)) (.int .i64 (r : Int)) (.slice A n c)).alloc (.cells #[.int .i64 K2, .int .i64 R2, .slice B m d] 24)).alloc (.cells #[.int .i64 0, .int .i64 0, .slice none 0 0] 24))
  have hr1 := ((RuleAt.new (w.alloc (.cells #[.int .i64 (k : Int), .int .i64 (r : Int), .slice A n c] 24)) (.int .i64 K2) (.int .i64 R2) (.slice B m d)).alloc (.cells #[.int .i64 0, .int .i64 0, .slice none 0 0] 24))
  have hr2 := (RuleAt.new ((w.alloc (.cells #[.int .i64 (k : Int), .int .i64 (r : Int), .slice A n c] 24)).alloc (.cells #[.int .i64 K2, .int .i64 R2, .slice B m d] 24)) (.int .i64 0) (.int .i64 0) (.slice none 0 0))
  simp only [World.size_alloc] at hr1 hr2
  obtain ⟨W, hW⟩ : ∃ W, ((w.alloc (.cells #[.int .i64 (k : Int), .int .i64 (r : Int), .slice A n c] 24)).alloc (.cells #[.int .i64 K2, .int .i64 R2, .slice B m d] 24)).alloc (.cells #[.int .i64 0, .int .i64 0, .slice none 0 0] 24) = W := ⟨_, rfl⟩
  have hWs : W.heap.size = w.heap.size + 3 := by rw [← hW]; simp
  rw [hW] at hbW hr0 hr1 hr2
  have HR0 := Lib.hid hr0
  obtain ⟨a0, b0, c0, _⟩ := hr0.facts
  have HR1 := Lib.hid hr1
  obtain ⟨a1, b1, c1, _⟩ := hr1.facts
  have HR2 := Lib.hid hr2
  obtain ⟨a2, b2, c2, _⟩ := hr2.facts
  have HW := Lib.hid hW
  have HWS := Lib.hid hWs
  have HBW := Lib.hid hbW
  have hck := formsCheck_c W E (hE.below HBW.out) 0 (k : Int) (r : Int) A n c (ints t) (hT.below HBW.out) (by omega)
  rw [checkF_rule 0 hr] at hck
  have HC1 := Lib.hid hck
  have hck2 := fun (wz : World) (hz : Below W.heap.size W wz) => formsCheck_c wz E (hE.below (HBW.out.trans (hz.mono HBW.out.size))) 1 K2 R2 B m d T2 (hT2.below (HBW.out.trans (hz.mono HBW.out.size))) (by omega)
  rw [h2] at hck2
  have HC2 := Lib.hid hck2
  have HTT := Lib.hid (fun (wz : World) (hz : Below W.heap.size W wz) => (⟨hT.below (HBW.out.trans (hz.mono HBW.out.size)), hT2.below (HBW.out.trans (hz.mono HBW.out.size))⟩ : _ ∧ _))
  have HEE := Lib.hid (fun (wz : World) (hz : Below W.heap.size W wz) => hE.below (HBW.out.trans (hz.mono HBW.out.size)))
  have HRU := Lib.hid hr
  have hr3 := hr.r3
  clear hr0 hr1 hr2 hW hWs hbW hT hE hck hck2 hn hr hT2 h2
  unfold ruleV at *
  go_enter Tryd.func10, Tryd.ntmps10
  go_wp2_with fail
  rw [HW.out]
  refine (HC1.out).mono ?_
  rintro e w1 ⟨v1, rfl, he1, hb1⟩
  have he1' : v1 = .nilIface := he1
  clear he1
  subst he1'
  obtain ⟨a1, b1, c1, _⟩ := (HR1.out.below hb1 HR1.out.lt).facts
  go_wp2_with fail
  refine (HC2.out w1 hb1).mono ?_
  rintro e w2 ⟨v2, rfl, he2, hb2'⟩
  have hb2 := pure_trans hb1 hb2'
  clear hb2'
  have he2' : ErrIs w2 E tl.1 tl.2 v2 := he2
  obtain ⟨u, p, rfl⟩ := he2'.iface
  clear he2
  have hrx := HR2.out.below hb2 HR2.out.lt
  obtain ⟨hRA, hRS⟩ := res_err hrx he2' (HBW.out.trans (hb2.mono HBW.out.size)) (show w.heap.size ≤ w.heap.size + 1 + 1 by omega)
  have HRA := Lib.hid hRA
  have HRS := Lib.hid hRS
  obtain ⟨d0, d1, d2, f0, f1, f2⟩ := hrx.facts
  clear hRA hRS hrx he2'
  go_wp2_with fail
  obtain ⟨d0, d1, d2, _⟩ := HRA.out.facts
  exact bodyPost_ret (v := .tuple #[.agg #[.int .i64 0, .int .i64 0, .slice none 0 0], .iface u p]) (by simp [results, Tryd.results10, go_sem, d0, d1, d2]) rfl HRS.out
set_option maxRecDepth 100000 in
set_option maxHeartbeats 1000000 in
theorem compose_alien (w : World) (E : Nat → Addr) (hE : Errs w E) (k r : Nat) (A B : Option Addr) (n c m d : Nat) (t : List Nat) (hr : IsRule k r t) (hT : Sl w A n ((ints t).map (Value.int .i64))) (k2 r2 : Nat) (t2 : List Nat) (hr2 : IsRule k2 r2 t2) (hT2 : Sl w B m ((ints t2).map (Value.int .i64))) (hk : k ≠ k2) :
    Calls Tryd.prog 10 #[ruleV k r A n c, ruleV (k2 : Int) (r2 : Int) B m d] w (RuleRes w E 0 0 [] (some (3, [(sForms, 1)]))) := by
  have hn : t.length = n := by simpa [ints] using hT.1
  have hn16 := hr.le
  rw [hn] at hn16
  have hn2 : t2.length = m := by simpa [ints] using hT2.1
  have hm16 := hr2.le
  rw [hn2] at hm16
  have HRU2 := Lib.hid hr2
  have hrr3 := hr2.r3
  clear hn2 hr2
  have hbW := ((((Below.refl w.heap.size w).alloc (Nat.le_refl _) (.cells #[.int .i64 (k : Int), .int .i64 (r : Int), .slice A n c] 24)).alloc (by simp) (.cells #[.int .i64 (k2 : Int), .int .i64 (r2 : Int), .slice B m d] 24)).alloc (by simp; omega) (.cells #[.int .i64 0, .int .i64 0, .slice none 0 0] 24))
  have hr0 := (((RuleAt.new (w) (.int .i64 (k : Int)) (.int .i64 (r : Int)) (.slice A n c)).alloc (.cells #[.int .i64 (k2 : Int), .int .i64 (r2 : Int), .slice B m d] 24)).alloc (.cells #[.int .i64 0, .int .i64 0, .slice none 0 0] 24))
  have hr1 := ((RuleAt.new (w.alloc (.cells #[.int .i64 (k : Int), .int .i64 (r : Int), .slice A n c] 24)) (.int .i64 (k2 : Int)) (.int .i64 (r2 : Int)) (.slice B m d)).alloc (.cells #[.int .i64 0, .int .i64 0, .slice none 0 0] 24))
  have hr2 := (RuleAt.new ((w.alloc (.cells #[.int .i64 (k : Int), .int .i64 (r : Int), .slice A n c] 24)).alloc (.cells #[.int .i64 (k2 : Int), .int .i64 (r2 : Int), .slice B m d] 24)) (.int .i64 0) (.int .i64 0) (.slice none 0 0))
  simp only [World.size_alloc] at hr1 hr2
  obtain ⟨W, hW⟩ : ∃ W, ((w.alloc (.cells #[.int .i64 (k : Int), .int .i64 (r : Int), .slice A n c] 24)).alloc (.cells #[.int .i64 (k2 : Int), .int .i64 (r2 : Int), .slice B m d] 24)).alloc (.cells #[.int .i64 0, .int .i64 0, .slice none 0 0] 24) = W := ⟨_, rfl⟩
  have hWs : W.heap.size = w.heap.size + 3 := by rw [← hW]; simp
  rw [hW] at hbW hr0 hr1 hr2
  have HR0 := Lib.hid hr0
  obtain ⟨a0, b0, c0, _⟩ := hr0.facts
  have HR1 := Lib.hid hr1
  obtain ⟨a1, b1, c1, _⟩ := hr1.facts
  have HR2 := Lib.hid hr2
  obtain ⟨a2, b2, c2, _⟩ := hr2.facts
  have HW := Lib.hid hW
  have HWS := Lib.hid hWs
  have HBW := Lib.hid hbW
  have hck := formsCheck_c W E (hE.below HBW.out) 0 (k : Int) (r : Int) A n c (ints t) (hT.below HBW.out) (by omega)
  rw [checkF_rule 0 hr] at hck
  have HC1 := Lib.hid hck
  have hck2 := fun (wz : World) (hz : Below W.heap.size W wz) => formsCheck_c wz E (hE.below (HBW.out.trans (hz.mono HBW.out.size))) 1 (k2 : Int) (r2 : Int) B m d (ints t2) (hT2.below (HBW.out.trans (hz.mono HBW.out.size))) (by omega)
  rw [checkF_rule 1 HRU2.out] at hck2
  have HC2 := Lib.hid hck2
  have HTT := Lib.hid (fun (wz : World) (hz : Below W.heap.size W wz) => (⟨hT.below (HBW.out.trans (hz.mono HBW.out.size)), hT2.below (HBW.out.trans (hz.mono HBW.out.size))⟩ : _ ∧ _))
  have HEE := Lib.hid (fun (wz : World) (hz : Below W.heap.size W wz) => hE.below (HBW.out.trans (hz.mono HBW.out.size)))
  have HRU := Lib.hid hr
  have hr3 := hr.r3
  clear hr0 hr1 hr2 hW hWs hbW hT hE hck hck2 hn hr hT2
  unfold ruleV at *
  go_enter Tryd.func10, Tryd.ntmps10
  go_wp2_with fail
  rw [HW.out]
  refine (HC1.out).mono ?_
  rintro e w1 ⟨v1, rfl, he1, hb1⟩
  have he1' : v1 = .nilIface := he1
  clear he1
  subst he1'
  obtain ⟨a1, b1, c1, _⟩ := (HR1.out.below hb1 HR1.out.lt).facts
  go_wp2_with fail
  refine (HC2.out w1 hb1).mono ?_
  rintro e w2 ⟨v2, rfl, he2, hb2'⟩
  have hb2 := pure_trans hb1 hb2'
  clear hb2'
  have he2' : v2 = .nilIface := he2
  clear he2
  subst he2'
  obtain ⟨a0, b0, c0, _⟩ := (HR0.out.below hb2 HR0.out.lt).facts
  obtain ⟨a1, b1, c1, _⟩ := (HR1.out.below hb2 HR1.out.lt).facts
  have hkk : ((k : Int) != (k2 : Int)) = true := by simp; omega
  clear hk
  have HWR := Lib.hid (formsWrong_c w2 E (HEE.out w2 hb2) 1 3 (by decide) (by decide))
  go_wp2_with fail
  refine (HWR.out).mono ?_
  rintro e w3 ⟨rfl, he3, hb3'⟩
  have hb3 := pure_trans hb2 hb3'
  unfold errV at *
  clear hb3'
  have hrx := HR2.out.below hb3 HR2.out.lt
  obtain ⟨hRA, hRS⟩ := res_err (tl := (3, [(sForms, 1)])) hrx he3 (HBW.out.trans (hb3.mono HBW.out.size)) (show w.heap.size ≤ w.heap.size + 1 + 1 by omega)
  have HRA := Lib.hid hRA
  have HRS := Lib.hid hRS
  obtain ⟨d0, d1, d2, f0, f1, f2⟩ := hrx.facts
  clear hRA hRS hrx he3
  go_wp2_with fail
  obtain ⟨d0, d1, d2, _⟩ := HRA.out.facts
  exact bodyPost_ret (v := .tuple #[.agg #[.int .i64 0, .int .i64 0, .slice none 0 0], .iface 67 (.pointer (some ⟨w2.heap.size, 0, none⟩))]) (by simp [results, Tryd.results10, go_sem, d0, d1, d2]) rfl HRS.out
set_option maxRecDepth 100000 in
set_option maxHeartbeats 1000000 in
theorem compose_big (w : World) (E : Nat → Addr) (hE : Errs w E) (k r : Nat) (A B : Option Addr) (n c m d : Nat) (t : List Nat) (hr : IsRule k r t) (hT : Sl w A n ((ints t).map (Value.int .i64))) (r2 : Nat) (t2 : List Nat) (hr2 : IsRule k r2 t2) (hT2 : Sl w B m ((ints t2).map (Value.int .i64))) (hbig : 3 < r + r2) :
    Calls Tryd.prog 10 #[ruleV k r A n c, ruleV (k : Int) (r2 : Int) B m d] w (RuleRes w E 0 0 [] (some (4, [(sForms, 0)]))) := by
  have hn : t.length = n := by simpa [ints] using hT.1
  have hn16 := hr.le
  rw [hn] at hn16
  have hn2 : t2.length = m := by simpa [ints] using hT2.1
  have hm16 := hr2.le
  rw [hn2] at hm16
  have HRU2 := Lib.hid hr2
  have hrr3 := hr2.r3
  clear hn2 hr2
  have hbW := ((((Below.refl w.heap.size w).alloc (Nat.le_refl _) (.cells #[.int .i64 (k : Int), .int .i64 (r : Int), .slice A n c] 24)).alloc (by simp) (.cells #[.int .i64 (k : Int), .int .i64 (r2 : Int), .slice B m d] 24)).alloc (by simp; omega) (.cells #[.int .i64 0, .int .i64 0, .slice none 0 0] 24))
  have hr0 := (((RuleAt.new (w) (.int .i64 (k : Int)) (.int .i64 (r : Int)) (.slice A n c)).alloc (.cells #[.int .i64 (k : Int), .int .i64 (r2 : Int), .slice B m d] 24)).alloc (.cells #[.int .i64 0, .int .i64 0, .slice none 0 0] 24))
  have hr1 := ((RuleAt.new (w.alloc (.cells #[.int .i64 (k : Int), .int .i64 (r : Int), .slice A n c] 24)) (.int .i64 (k : Int)) (.int .i64 (r2 : Int)) (.slice B m d)).alloc (.cells #[.int .i64 0, .int .i64 0, .slice none 0 0] 24))
  have hr2 := (RuleAt.new ((w.alloc (.cells #[.int .i64 (k : Int), .int .i64 (r : Int), .slice A n c] 24)).alloc (.cells #[.int .i64 (k : Int), .int .i64 (r2 : Int), .slice B m d] 24)) (.int .i64 0) (.int .i64 0) (.slice none 0 0))
  simp only [World.size_alloc] at hr1 hr2
  obtain ⟨W, hW⟩ : ∃ W, ((w.alloc (.cells #[.int .i64 (k : Int), .int .i64 (r : Int), .slice A n c] 24)).alloc (.cells #[.int .i64 (k : Int), .int .i64 (r2 : Int), .slice B m d] 24)).alloc (.cells #[.int .i64 0, .int .i64 0, .slice none 0 0] 24) = W := ⟨_, rfl⟩
  have hWs : W.heap.size = w.heap.size + 3 := by rw [← hW]; simp
  rw [hW] at hbW hr0 hr1 hr2
  have HR0 := Lib.hid hr0
  obtain ⟨a0, b0, c0, _⟩ := hr0.facts
  have HR1 := Lib.hid hr1
  obtain ⟨a1, b1, c1, _⟩ := hr1.facts
  have HR2 := Lib.hid hr2
  obtain ⟨a2, b2, c2, _⟩ := hr2.facts
  have HW := Lib.hid hW
  have HWS := Lib.hid hWs
  have HBW := Lib.hid hbW
  have hck := formsCheck_c W E (hE.below HBW.out) 0 (k : Int) (r : Int) A n c (ints t) (hT.below HBW.out) (by omega)
  rw [checkF_rule 0 hr] at hck
  have HC1 := Lib.hid hck
  have hck2 := fun (wz : World) (hz : Below W.heap.size W wz) => formsCheck_c wz E (hE.below (HBW.out.trans (hz.mono HBW.out.size))) 1 (k : Int) (r2 : Int) B m d (ints t2) (hT2.below (HBW.out.trans (hz.mono HBW.out.size))) (by omega)
  rw [checkF_rule 1 HRU2.out] at hck2
  have HC2 := Lib.hid hck2
  have HTT := Lib.hid (fun (wz : World) (hz : Below W.heap.size W wz) => (⟨hT.below (HBW.out.trans (hz.mono HBW.out.size)), hT2.below (HBW.out.trans (hz.mono HBW.out.size))⟩ : _ ∧ _))
  have HEE := Lib.hid (fun (wz : World) (hz : Below W.heap.size W wz) => hE.below (HBW.out.trans (hz.mono HBW.out.size)))
  have HRU := Lib.hid hr
  have hr3 := hr.r3
  clear hr0 hr1 hr2 hW hWs hbW hT hE hck hck2 hn hr hT2
  unfold ruleV at *
  go_enter Tryd.func10, Tryd.ntmps10
  go_wp2_with fail
  rw [HW.out]
  refine (HC1.out).mono ?_
  rintro e w1 ⟨v1, rfl, he1, hb1⟩
  have he1' : v1 = .nilIface := he1
  clear he1
  subst he1'
  obtain ⟨a1, b1, c1, _⟩ := (HR1.out.below hb1 HR1.out.lt).facts
  go_wp2_with fail
  refine (HC2.out w1 hb1).mono ?_
  rintro e w2 ⟨v2, rfl, he2, hb2'⟩
  have hb2 := pure_trans hb1 hb2'
  clear hb2'
  have he2' : v2 = .nilIface := he2
  clear he2
  subst he2'
  obtain ⟨a0, b0, c0, _⟩ := (HR0.out.below hb2 HR0.out.lt).facts
  obtain ⟨a1, b1, c1, _⟩ := (HR1.out.below hb2 HR1.out.lt).facts
  have hkk : ((k : Int) != (k : Int)) = false := by simp
  have hb3' : (3 : Int) < (r : Int) + (r2 : Int) := by omega
  clear hbig
  have HWR := Lib.hid (formsWrong_c w2 E (HEE.out w2 hb2) 0 4 (by decide) (by decide))
  go_wp2_with fail
  refine (HWR.out).mono ?_
  rintro e w3 ⟨rfl, he3, hb3'⟩
  have hb3 := pure_trans hb2 hb3'
  unfold errV at *
  clear hb3'
  have hrx := HR2.out.below hb3 HR2.out.lt
  obtain ⟨hRA, hRS⟩ := res_err (tl := (4, [(sForms, 0)])) hrx he3 (HBW.out.trans (hb3.mono HBW.out.size)) (show w.heap.size ≤ w.heap.size + 1 + 1 by omega)
  have HRA := Lib.hid hRA
  have HRS := Lib.hid hRS
  obtain ⟨d0, d1, d2, f0, f1, f2⟩ := hrx.facts
  clear hRA hRS hrx he3
  go_wp2_with fail
  obtain ⟨d0, d1, d2, _⟩ := HRA.out.facts
  exact bodyPost_ret (v := .tuple #[.agg #[.int .i64 0, .int .i64 0, .slice none 0 0], .iface 67 (.pointer (some ⟨w2.heap.size, 0, none⟩))]) (by simp [results, Tryd.results10, go_sem, d0, d1, d2]) rfl HRS.out
set_option maxRecDepth 100000 in
set_option maxHeartbeats 1000000 in
theorem compose_good (w : World) (E : Nat → Addr) (hE : Errs w E) (k r : Nat) (A B : Option Addr) (n c m d : Nat) (t : List Nat) (hr : IsRule k r t) (hT : Sl w A n ((ints t).map (Value.int .i64))) (r2 q : Nat) (t2 : List Nat) (hr2 : IsRule k r2 t2) (hT2 : Sl w B m ((ints t2).map (Value.int .i64))) (hq : r + r2 = q) (hq3 : q ≤ 3) :
    Calls Tryd.prog 10 #[ruleV k r A n c, ruleV (k : Int) (r2 : Int) B m d] w (RuleRes w E k q (ints (comp k r t r2 t2)) none) := by
  have hn : t.length = n := by simpa [ints] using hT.1
  have hn16 := hr.le
  rw [hn] at hn16
  have hn2 : t2.length = m := by simpa [ints] using hT2.1
  have hm16 := hr2.le
  rw [hn2] at hm16
  have HRU2 := Lib.hid hr2
  have hrr3 := hr2.r3
  clear hn2 hr2
  have hbW := ((((Below.refl w.heap.size w).alloc (Nat.le_refl _) (.cells #[.int .i64 (k : Int), .int .i64 (r : Int), .slice A n c] 24)).alloc (by simp) (.cells #[.int .i64 (k : Int), .int .i64 (r2 : Int), .slice B m d] 24)).alloc (by simp; omega) (.cells #[.int .i64 0, .int .i64 0, .slice none 0 0] 24))
  have hr0 := (((RuleAt.new (w) (.int .i64 (k : Int)) (.int .i64 (r : Int)) (.slice A n c)).alloc (.cells #[.int .i64 (k : Int), .int .i64 (r2 : Int), .slice B m d] 24)).alloc (.cells #[.int .i64 0, .int .i64 0, .slice none 0 0] 24))
  have hr1 := ((RuleAt.new (w.alloc (.cells #[.int .i64 (k : Int), .int .i64 (r : Int), .slice A n c] 24)) (.int .i64 (k : Int)) (.int .i64 (r2 : Int)) (.slice B m d)).alloc (.cells #[.int .i64 0, .int .i64 0, .slice none 0 0] 24))
  have hr2 := (RuleAt.new ((w.alloc (.cells #[.int .i64 (k : Int), .int .i64 (r : Int), .slice A n c] 24)).alloc (.cells #[.int .i64 (k : Int), .int .i64 (r2 : Int), .slice B m d] 24)) (.int .i64 0) (.int .i64 0) (.slice none 0 0))
  simp only [World.size_alloc] at hr1 hr2
  obtain ⟨W, hW⟩ : ∃ W, ((w.alloc (.cells #[.int .i64 (k : Int), .int .i64 (r : Int), .slice A n c] 24)).alloc (.cells #[.int .i64 (k : Int), .int .i64 (r2 : Int), .slice B m d] 24)).alloc (.cells #[.int .i64 0, .int .i64 0, .slice none 0 0] 24) = W := ⟨_, rfl⟩
  have hWs : W.heap.size = w.heap.size + 3 := by rw [← hW]; simp
  rw [hW] at hbW hr0 hr1 hr2
  have HR0 := Lib.hid hr0
  obtain ⟨a0, b0, c0, _⟩ := hr0.facts
  have HR1 := Lib.hid hr1
  obtain ⟨a1, b1, c1, _⟩ := hr1.facts
  have HR2 := Lib.hid hr2
  obtain ⟨a2, b2, c2, _⟩ := hr2.facts
  have HW := Lib.hid hW
  have HWS := Lib.hid hWs
  have HBW := Lib.hid hbW
  have hck := formsCheck_c W E (hE.below HBW.out) 0 (k : Int) (r : Int) A n c (ints t) (hT.below HBW.out) (by omega)
  rw [checkF_rule 0 hr] at hck
  have HC1 := Lib.hid hck
  have hck2 := fun (wz : World) (hz : Below W.heap.size W wz) => formsCheck_c wz E (hE.below (HBW.out.trans (hz.mono HBW.out.size))) 1 (k : Int) (r2 : Int) B m d (ints t2) (hT2.below (HBW.out.trans (hz.mono HBW.out.size))) (by omega)
  rw [checkF_rule 1 HRU2.out] at hck2
  have HC2 := Lib.hid hck2
  have HTT := Lib.hid (fun (wz : World) (hz : Below W.heap.size W wz) => (⟨hT.below (HBW.out.trans (hz.mono HBW.out.size)), hT2.below (HBW.out.trans (hz.mono HBW.out.size))⟩ : _ ∧ _))
  have HEE := Lib.hid (fun (wz : World) (hz : Below W.heap.size W wz) => hE.below (HBW.out.trans (hz.mono HBW.out.size)))
  have HRU := Lib.hid hr
  have hr3 := hr.r3
  clear hr0 hr1 hr2 hW hWs hbW hT hE hck hck2 hn hr hT2
  unfold ruleV at *
  go_enter Tryd.func10, Tryd.ntmps10
  go_wp2_with fail
  rw [HW.out]
  refine (HC1.out).mono ?_
  rintro e w1 ⟨v1, rfl, he1, hb1⟩
  have he1' : v1 = .nilIface := he1
  clear he1
  subst he1'
  obtain ⟨a1, b1, c1, _⟩ := (HR1.out.below hb1 HR1.out.lt).facts
  go_wp2_with fail
  refine (HC2.out w1 hb1).mono ?_
  rintro e w2 ⟨v2, rfl, he2, hb2'⟩
  have hb2 := pure_trans hb1 hb2'
  clear hb2'
  have he2' : v2 = .nilIface := he2
  clear he2
  subst he2'
  obtain ⟨a0, b0, c0, _⟩ := (HR0.out.below hb2 HR0.out.lt).facts
  obtain ⟨a1, b1, c1, _⟩ := (HR1.out.below hb2 HR1.out.lt).facts
  have hkk : ((k : Int) != (k : Int)) = false := by simp
  have hb3' : ¬ (3 : Int) < (r : Int) + (r2 : Int) := by omega
  have HBH := Lib.hid (behind_c w2 E (HEE.out w2 hb2) k r r2 q hq A B n c m d t t2 HRU.out HRU2.out hq3 (HTT.out w2 hb2).1 (HTT.out w2 hb2).2)
  unfold ruleV at HBH
  clear hq hq3
  go_wp2_with fail
  refine (HBH.out).mono ?_
  rintro e w3 ⟨g, N, rfl, hT3, hb3'⟩
  have hb3 := pure_trans hb2 hb3'
  have hge := Nat.le_trans HBW.out.size hb2.size
  clear hb3'
  have hrx := HR2.out.below hb3 HR2.out.lt
  obtain ⟨hRA, hRS⟩ := res_new (E := E) (K := (k : Int)) (R := (q : Int)) hrx hT3 (HBW.out.trans (hb3.mono HBW.out.size)) (show w.heap.size ≤ w.heap.size + 1 + 1 by omega) hge
  have HRA := Lib.hid hRA
  have HRS := Lib.hid hRS
  obtain ⟨d0, d1, d2, f0, f1, f2⟩ := hrx.facts
  clear hRA hRS hrx hT3
  unfold ruleV
  go_wp2_with fail
  obtain ⟨d0, d1, d2, _⟩ := HRA.out.facts
  exact bodyPost_ret (v := .tuple #[.agg #[.int .i64 (k : Int), .int .i64 (q : Int), .slice (some ⟨g, 0, none⟩) N N], .nilIface]) (by simp [results, Tryd.results10, go_sem, d0, d1, d2]) rfl HRS.out
end Go.Proofs.YtfgnghgmffaepaaDoor

namespace Go.Proofs.YtfgnghgmffaepaaDoor
open Go.RowKit RuleP

set_option maxRecDepth 100000 in
theorem imageL_good (w : World) (E : Nat → Addr) (hE : Errs w E) (k r : Nat) (A B : Option Addr) (n c m d M : Nat) (t v : List Nat) (hr : IsRule k r t) (hv : ∀ x ∈ v, x < k) (hT : Sl w A n ((ints t).map (Value.int .i64))) (hW : Sl w B m ((ints v).map (Value.int .i64))) (hm : m ≤ 4096) (hM : v.length - 2 * r = M) :
    Calls Tryd.prog 8 #[ruleV k r A n c, .slice B m d] w fun e w' => ∃ C c', e = .returned (.tuple #[.slice C M c', .bool true]) ∧ w'.ownsRow w.heap.size 3 1 (.slice C M c') M ((ints (image k r t v)).map (Value.int .i64)) ∧ Below w.heap.size w w' := by
  have hb0 := (Below.refl w.heap.size w).alloc (Nat.le_refl _) (.cells #[.int .i64 (k : Int), .int .i64 (r : Int), .slice A n c] 24)
  have hst := step_m _ E (hE.below hb0) k r A B n c m d M t v hr hv (hT.below hb0) (hW.below hb0) hm hM
  unfold ruleV at *
  have HST := Lib.hid hst
  have HB0 := Lib.hid hb0
  clear hst hb0 hT hW hE hr hv hM
  go_enter Tryd.func8, Tryd.ntmps8
  go_wp2_with fail
  refine (HST.out).mono ?_
  rintro e w1 ⟨C, cc, rfl, ho, hb⟩
  have HB1 := Lib.hid (below_box hb)
  have HO := Lib.hid (own_base ho (show w.heap.size ≤ _ by simp))
  clear ho hb
  go_wp2_with (go_quiet (fail))
  go_ret2
  exact ⟨C, cc, rfl, HO.out, below_drewN HB1.out _⟩

/-- Compose refuses. -/
def CompErr (K R : Int) (T : List Int) (K2 R2 : Int) (T2 : List Int) (tl : Tale) : Prop :=
  ∀ (w : World) (E : Nat → Addr) (A B : Option Addr) (n c m d : Nat), Errs w E → Sl w A n (T.map (Value.int .i64)) → Sl w B m (T2.map (Value.int .i64)) → n ≤ 9223372036854775807 → m ≤ 9223372036854775807 →
    Calls Tryd.prog 10 #[ruleV K R A n c, ruleV K2 R2 B m d] w (RuleRes w E 0 0 [] (some tl))
theorem comp_cases (K R : Int) (T : List Int) (K2 R2 : Int) (T2 : List Int) : (∃ tl, CompErr K R T K2 R2 T2 tl) ∨
    ∃ (k r r2 q : Nat) (t t2 : List Nat), K = (k : Int) ∧ K2 = (k : Int) ∧ R = (r : Int) ∧ R2 = (r2 : Int) ∧ T = ints t ∧ T2 = ints t2 ∧ IsRule k r t ∧ IsRule k r2 t2 ∧ r + r2 = q ∧ q ≤ 3 := by
  cases h1 : checkF 0 K R T with
  | some tl => exact .inl ⟨tl, fun w E A B n c m d hE hT hT2 hm _ => compose_bad1 w E hE K R K2 R2 A B n c m d T hT hm tl h1⟩
  | none =>
    obtain ⟨k, r, t, rfl, rfl, rfl, hr⟩ := checkF_none h1
    cases h2 : checkF 1 K2 R2 T2 with
    | some tl => exact .inl ⟨tl, fun w E A B n c m d hE hT hT2 _ hm2 => compose_bad2 w E hE k r A B n c m d t hr hT K2 R2 T2 hT2 hm2 tl h2⟩
    | none =>
      obtain ⟨k2, r2, t2, rfl, rfl, rfl, hr2⟩ := checkF_none h2
      by_cases hk : k = k2
      · subst hk
        by_cases hq : r + r2 ≤ 3
        · exact .inr ⟨k, r, r2, _, t, t2, rfl, rfl, rfl, rfl, rfl, rfl, hr, hr2, rfl, hq⟩
        · exact .inl ⟨_, fun w E A B n c m d hE hT hT2 _ _ => compose_big w E hE k r A B n c m d t hr hT r2 t2 hr2 hT2 (by omega)⟩
      · exact .inl ⟨_, fun w E A B n c m d hE hT hT2 _ _ => compose_alien w E hE k r A B n c m d t hr hT k2 r2 t2 hr2 hT2 hk⟩
end Go.Proofs.YtfgnghgmffaepaaDoor
