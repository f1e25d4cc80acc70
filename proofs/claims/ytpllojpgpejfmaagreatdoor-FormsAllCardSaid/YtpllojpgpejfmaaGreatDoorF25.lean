/- Rules out of rules: forms.Compose and Shift. Condition: the tables read from memory; the error variables hold what E says. The law's helper image; Compose of any rules. Condition: the lists read from memory; the error variables hold what E says. Both packages' rules out of rules tell the same: forms and edenref05, Mirror, Widen, Compose, Power. Condition: the tables read from memory; the error variables hold what E says. -/
import Derived.BigQuiet
import Derived.Deep.QuietTactic
import Derived.Test.YtpllojpgpejfmaaGreatDoorF7
import Derived.Test.YtpllojpgpejfmaaGreatDoorF17
import Derived.Test.YtpllojpgpejfmaaGreatDoorF19
import Derived.Test.YtpllojpgpejfmaaGreatDoorF20
import Derived.Test.YtpllojpgpejfmaaGreatDoorF22
import Derived.Test.YtpllojpgpejfmaaGreatDoorF24
namespace Go.Proofs.YtpllojpgpejfmaaGreatDoor
open Go.RowKit RuleP

set_option maxRecDepth 100000 in
set_option maxHeartbeats 1000000 in
theorem compose_bad1 (w : World) (E : Nat → Addr) (hE : Errs w E) (K R K2 R2 : Int) (A B : Option Addr) (n c m d : Nat) (T : List Int) (hT : Sl w A n (T.map (Value.int .i64))) (hm : n ≤ 9223372036854775807) (tl : Tale) (h : checkF 0 K R T = some tl) :
    Calls Tryz.prog 22 #[ruleV K R A n c, ruleV K2 R2 B m d] w (RuleRes w E 0 0 [] (some tl)) := by
  have hbW := ((((Below.refl w.heap.size w).alloc (Nat.le_refl _) (.cells #[.int .i64 K, .int .i64 R, .slice A n c] 26)).alloc (by simp) (.cells #[.int .i64 K2, .int .i64 R2, .slice B m d] 26)).alloc (by simp; omega) (.cells #[.int .i64 0, .int .i64 0, .slice none 0 0] 26))
  have hr0 := (((RuleAt.new (w) (.int .i64 K) (.int .i64 R) (.slice A n c)).alloc (.cells #[.int .i64 K2, .int .i64 R2, .slice B m d] 26)).alloc (.cells #[.int .i64 0, .int .i64 0, .slice none 0 0] 26))
  have hr1 := ((RuleAt.new (w.alloc (.cells #[.int .i64 K, .int .i64 R, .slice A n c] 26)) (.int .i64 K2) (.int .i64 R2) (.slice B m d)).alloc (.cells #[.int .i64 0, .int .i64 0, .slice none 0 0] 26))
  have hr2 := (RuleAt.new ((w.alloc (.cells #[.int .i64 K, .int .i64 R, .slice A n c] 26)).alloc (.cells #[.int .i64 K2, .int .i64 R2, .slice B m d] 26)) (.int .i64 0) (.int .i64 0) (.slice none 0 0))
  simp only [World.size_alloc] at hr1 hr2
  obtain ⟨W, hW⟩ : ∃ W, ((w.alloc (.cells #[.int .i64 K, .int .i64 R, .slice A n c] 26)).alloc (.cells #[.int .i64 K2, .int .i64 R2, .slice B m d] 26)).alloc (.cells #[.int .i64 0, .int .i64 0, .slice none 0 0] 26) = W := ⟨_, rfl⟩
  have hWs : W.heap.size = w.heap.size + 3 := by rw [← hW]; simp
  rw [hW] at hbW hr0 hr1 hr2
  have HR0 := Lib.hid hr0
  obtain ⟨a0, b0, c0, _⟩ := hr0.facts
  have HR1 := Lib.hid hr1
  obtain ⟨a1, b1, c1, _⟩ := hr1.facts
  have HR2 := Lib.hid hr2
  obtain ⟨a2, b2, c2, _⟩ := hr2.facts
  have HW := Lib.hid hW
  have HWS := Lib.hid hWs
  have HBW := Lib.hid hbW
  have HC1 := Lib.hid (formsCheck_c W E (hE.below HBW.out) 0 K R A n c T (hT.below HBW.out) hm)
  rw [h] at HC1
  clear hr0 hr1 hr2 hW hWs hbW hT hE h
  unfold ruleV at *
  go_enter Tryz.func22, Tryz.ntmps22
  go_wp2_with fail
  rw [HW.out]
  refine (HC1.out).mono ?_
  rintro e w1 ⟨v1, rfl, he1, hb1⟩
  have he1' : ErrIs w1 E tl.1 tl.2 v1 := he1
  obtain ⟨u, p, rfl⟩ := he1'.iface
  clear he1
  have hrx := HR2.out.below hb1 HR2.out.lt
  obtain ⟨hRA, hRS⟩ := res_err hrx he1' (HBW.out.trans (hb1.mono HBW.out.size)) (show w.heap.size ≤ w.heap.size + 1 + 1 by omega)
  have HRA := Lib.hid hRA
  have HRS := Lib.hid hRS
  obtain ⟨d0, d1, d2, f0, f1, f2⟩ := hrx.facts
  clear hRA hRS hrx he1'
  go_wp2_with fail
  obtain ⟨d0, d1, d2, _⟩ := HRA.out.facts
  exact bodyPost_ret (v := .tuple #[.agg #[.int .i64 0, .int .i64 0, .slice none 0 0], .iface u p]) (by simp [results, Tryz.results22, go_sem, d0, d1, d2]) rfl HRS.out
set_option maxRecDepth 100000 in
set_option maxHeartbeats 1000000 in
theorem compose_bad2 (w : World) (E : Nat → Addr) (hE : Errs w E) (k r : Nat) (A B : Option Addr) (n c m d : Nat) (t : List Nat) (hr : IsRule k r t) (hT : Sl w A n ((ints t).map (Value.int .i64))) (K2 R2 : Int) (T2 : List Int) (hT2 : Sl w B m (T2.map (Value.int .i64))) (hm2 : m ≤ 9223372036854775807) (tl : Tale) (h2 : checkF 1 K2 R2 T2 = some tl) :
    Calls Tryz.prog 22 #[ruleV k r A n c, ruleV K2 R2 B m d] w (RuleRes w E 0 0 [] (some tl)) := by
  have hn : t.length = n := by simpa [ints] using hT.1
  have hn16 := hr.le
  rw [hn] at hn16
  have hbW := ((((Below.refl w.heap.size w).alloc (Nat.le_refl _) (.cells #[.int .i64 (k : Int), .int .i64 (r : Int), .slice A n c] 26)).alloc (by simp) (.cells #[.int .i64 K2, .int .i64 R2, .slice B m d] 26)).alloc (by simp; omega) (.cells #[.int .i64 0, .int .i64 0, .slice none 0 0] 26))
  have hr0 := (((RuleAt.new (w) (.int .i64 (k : Int)) (.int .i64 (r : Int)) (.slice A n c)).alloc (.cells #[.int .i64 K2, .int .i64 R2, .slice B m d] 26)).alloc (.cells #[.int .i64 0, .int .i64 0, .slice none 0 0] 26))
  have hr1 := ((RuleAt.new (w.alloc (.cells #[.int .i64 (k : Int), .int .i64 (r : Int), .slice A n c] 26)) (.int .i64 K2) (.int .i64 R2) (.slice B m d)).alloc (.cells #[.int .i64 0, .int .i64 0, .slice none 0 0] 26))
  have hr2 := (RuleAt.new ((w.alloc (.cells #[.int .i64 (k : Int), .int .i64 (r : Int), .slice A n c] 26)).alloc (.cells #[.int .i64 K2, .int .i64 R2, .slice B m d] 26)) (.int .i64 0) (.int .i64 0) (.slice none 0 0))
  simp only [World.size_alloc] at hr1 hr2
  obtain ⟨W, hW⟩ : ∃ W, ((w.alloc (.cells #[.int .i64 (k : Int), .int .i64 (r : Int), .slice A n c] 26)).alloc (.cells #[.int .i64 K2, .int .i64 R2, .slice B m d] 26)).alloc (.cells #[.int .i64 0, .int .i64 0, .slice none 0 0] 26) = W := ⟨_, rfl⟩
  have hWs : W.heap.size = w.heap.size + 3 := by rw [← hW]; simp
  rw [hW] at hbW hr0 hr1 hr2
  have HR0 := Lib.hid hr0
  obtain ⟨a0, b0, c0, _⟩ := hr0.facts
  have HR1 := Lib.hid hr1
  obtain ⟨a1, b1, c1, _⟩ := hr1.facts
  have HR2 := Lib.hid hr2
  obtain ⟨a2, b2, c2, _⟩ := hr2.facts
  have HW := Lib.hid hW
  have HWS := Lib.hid hWs
  have HBW := Lib.hid hbW
  have hck := formsCheck_c W E (hE.below HBW.out) 0 (k : Int) (r : Int) A n c (ints t) (hT.below HBW.out) (by omega)
  rw [checkF_rule 0 hr] at hck
  have HC1 := Lib.hid hck
  have hck2 := fun (wz : World) (hz : Below W.heap.size W wz) => formsCheck_c wz E (hE.below (HBW.out.trans (hz.mono HBW.out.size))) 1 K2 R2 B m d T2 (hT2.below (HBW.out.trans (hz.mono HBW.out.size))) (by omega)
  rw [h2] at hck2
  have HC2 := Lib.hid hck2
  have HTT := Lib.hid (fun (wz : World) (hz : Below W.heap.size W wz) => (⟨hT.below (HBW.out.trans (hz.mono HBW.out.size)), hT2.below (HBW.out.trans (hz.mono HBW.out.size))⟩ : _ ∧ _))
  have HEE := Lib.hid (fun (wz : World) (hz : Below W.heap.size W wz) => hE.below (HBW.out.trans (hz.mono HBW.out.size)))
  have HRU := Lib.hid hr
  have hr3 := hr.r3
  clear hr0 hr1 hr2 hW hWs hbW hT hE hck hck2 hn hr hT2 h2
  unfold ruleV at *
  go_enter Tryz.func22, Tryz.ntmps22
  go_wp2_with fail
  rw [HW.out]
  refine (HC1.out).mono ?_
  rintro e w1 ⟨v1, rfl, he1, hb1⟩
  have he1' : v1 = .nilIface := he1
  clear he1
  subst he1'
  obtain ⟨a1, b1, c1, _⟩ := (HR1.out.below hb1 HR1.out.lt).facts
  go_wp2_with fail
  refine (HC2.out w1 hb1).mono ?_
  rintro e w2 ⟨v2, rfl, he2, hb2'⟩
  have hb2 := pure_trans hb1 hb2'
  clear hb2'
  have he2' : ErrIs w2 E tl.1 tl.2 v2 := he2
  obtain ⟨u, p, rfl⟩ := he2'.iface
  clear he2
  have hrx := HR2.out.below hb2 HR2.out.lt
  obtain ⟨hRA, hRS⟩ := res_err hrx he2' (HBW.out.trans (hb2.mono HBW.out.size)) (show w.heap.size ≤ w.heap.size + 1 + 1 by omega)
  have HRA := Lib.hid hRA
  have HRS := Lib.hid hRS
  obtain ⟨d0, d1, d2, f0, f1, f2⟩ := hrx.facts
  clear hRA hRS hrx he2'
  go_wp2_with fail
  obtain ⟨d0, d1, d2, _⟩ := HRA.out.facts
  exact bodyPost_ret (v := .tuple #[.agg #[.int .i64 0, .int .i64 0, .slice none 0 0], .iface u p]) (by simp [results, Tryz.results22, go_sem, d0, d1, d2]) rfl HRS.out
set_option maxRecDepth 100000 in
set_option maxHeartbeats 1000000 in
theorem compose_alien (w : World) (E : Nat → Addr) (hE : Errs w E) (k r : Nat) (A B : Option Addr) (n c m d : Nat) (t : List Nat) (hr : IsRule k r t) (hT : Sl w A n ((ints t).map (Value.int .i64))) (k2 r2 : Nat) (t2 : List Nat) (hr2 : IsRule k2 r2 t2) (hT2 : Sl w B m ((ints t2).map (Value.int .i64))) (hk : k ≠ k2) :
    Calls Tryz.prog 22 #[ruleV k r A n c, ruleV (k2 : Int) (r2 : Int) B m d] w (RuleRes w E 0 0 [] (some (3, [(sForms, 1)]))) := by
  have hn : t.length = n := by simpa [ints] using hT.1
  have hn16 := hr.le
  rw [hn] at hn16
  have hn2 : t2.length = m := by simpa [ints] using hT2.1
  have hm16 := hr2.le
  rw [hn2] at hm16
  have HRU2 := Lib.hid hr2
  have hrr3 := hr2.r3
  clear hn2 hr2
  have hbW := ((((Below.refl w.heap.size w).alloc (Nat.le_refl _) (.cells #[.int .i64 (k : Int), .int .i64 (r : Int), .slice A n c] 26)).alloc (by simp) (.cells #[.int .i64 (k2 : Int), .int .i64 (r2 : Int), .slice B m d] 26)).alloc (by simp; omega) (.cells #[.int .i64 0, .int .i64 0, .slice none 0 0] 26))
  have hr0 := (((RuleAt.new (w) (.int .i64 (k : Int)) (.int .i64 (r : Int)) (.slice A n c)).alloc (.cells #[.int .i64 (k2 : Int), .int .i64 (r2 : Int), .slice B m d] 26)).alloc (.cells #[.int .i64 0, .int .i64 0, .slice none 0 0] 26))
  have hr1 := ((RuleAt.new (w.alloc (.cells #[.int .i64 (k : Int), .int .i64 (r : Int), .slice A n c] 26)) (.int .i64 (k2 : Int)) (.int .i64 (r2 : Int)) (.slice B m d)).alloc (.cells #[.int .i64 0, .int .i64 0, .slice none 0 0] 26))
  have hr2 := (RuleAt.new ((w.alloc (.cells #[.int .i64 (k : Int), .int .i64 (r : Int), .slice A n c] 26)).alloc (.cells #[.int .i64 (k2 : Int), .int .i64 (r2 : Int), .slice B m d] 26)) (.int .i64 0) (.int .i64 0) (.slice none 0 0))
  simp only [World.size_alloc] at hr1 hr2
  obtain ⟨W, hW⟩ : ∃ W, ((w.alloc (.cells #[.int .i64 (k : Int), .int .i64 (r : Int), .slice A n c] 26)).alloc (.cells #[.int .i64 (k2 : Int), .int .i64 (r2 : Int), .slice B m d] 26)).alloc (.cells #[.int .i64 0, .int .i64 0, .slice none 0 0] 26) = W := ⟨_, rfl⟩
  have hWs : W.heap.size = w.heap.size + 3 := by rw [← hW]; simp
  rw [hW] at hbW hr0 hr1 hr2
  have HR0 := Lib.hid hr0
  obtain ⟨a0, b0, c0, _⟩ := hr0.facts
  have HR1 := Lib.hid hr1
  obtain ⟨a1, b1, c1, _⟩ := hr1.facts
  have HR2 := Lib.hid hr2
  obtain ⟨a2, b2, c2, _⟩ := hr2.facts
  have HW := Lib.hid hW
  have HWS := Lib.hid hWs
  have HBW := Lib.hid hbW
  have hck := formsCheck_c W E (hE.below HBW.out) 0 (k : Int) (r : Int) A n c (ints t) (hT.below HBW.out) (by omega)
  rw [checkF_rule 0 hr] at hck
  have HC1 := Lib.hid hck
  have hck2 := fun (wz : World) (hz : Below W.heap.size W wz) => formsCheck_c wz E (hE.below (HBW.out.trans (hz.mono HBW.out.size))) 1 (k2 : Int) (r2 : Int) B m d (ints t2) (hT2.below (HBW.out.trans (hz.mono HBW.out.size))) (by omega)
  rw [checkF_rule 1 HRU2.out] at hck2
  have HC2 := Lib.hid hck2
  have HTT := Lib.hid (fun (wz : World) (hz : Below W.heap.size W wz) => (⟨hT.below (HBW.out.trans (hz.mono HBW.out.size)), hT2.below (HBW.out.trans (hz.mono HBW.out.size))⟩ : _ ∧ _))
  have HEE := Lib.hid (fun (wz : World) (hz : Below W.heap.size W wz) => hE.below (HBW.out.trans (hz.mono HBW.out.size)))
  have HRU := Lib.hid hr
  have hr3 := hr.r3
  clear hr0 hr1 hr2 hW hWs hbW hT hE hck hck2 hn hr hT2
  unfold ruleV at *
  go_enter Tryz.func22, Tryz.ntmps22
  go_wp2_with fail
  rw [HW.out]
  refine (HC1.out).mono ?_
  rintro e w1 ⟨v1, rfl, he1, hb1⟩
  have he1' : v1 = .nilIface := he1
  clear he1
  subst he1'
  obtain ⟨a1, b1, c1, _⟩ := (HR1.out.below hb1 HR1.out.lt).facts
  go_wp2_with fail
  refine (HC2.out w1 hb1).mono ?_
  rintro e w2 ⟨v2, rfl, he2, hb2'⟩
  have hb2 := pure_trans hb1 hb2'
  clear hb2'
  have he2' : v2 = .nilIface := he2
  clear he2
  subst he2'
  obtain ⟨a0, b0, c0, _⟩ := (HR0.out.below hb2 HR0.out.lt).facts
  obtain ⟨a1, b1, c1, _⟩ := (HR1.out.below hb2 HR1.out.lt).facts
  have hkk : ((k : Int) != (k2 : Int)) = true := by simp; omega
  clear hk
  have HWR := Lib.hid (formsWrong_c w2 E (HEE.out w2 hb2) 1 3 (by decide) (by decide))
  go_wp2_with fail
  refine (HWR.out).mono ?_
  rintro e w3 ⟨rfl, he3, hb3'⟩
  have hb3 := pure_trans hb2 hb3'
  unfold errV at *
  clear hb3'
  have hrx := HR2.out.below hb3 HR2.out.lt
  obtain ⟨hRA, hRS⟩ := res_err (tl := (3, [(sForms, 1)])) hrx he3 (HBW.out.trans (hb3.mono HBW.out.size)) (show w.heap.size ≤ w.heap.size + 1 + 1 by omega)
  have HRA := Lib.hid hRA
  have HRS := Lib.hid hRS
  obtain ⟨d0, d1, d2, f0, f1, f2⟩ := hrx.facts
  clear hRA hRS hrx he3
  go_wp2_with fail
  obtain ⟨d0, d1, d2, _⟩ := HRA.out.facts
  exact bodyPost_ret (v := .tuple #[.agg #[.int .i64 0, .int .i64 0, .slice none 0 0], .iface 95 (.pointer (some ⟨w2.heap.size, 0, none⟩))]) (by simp [results, Tryz.results22, go_sem, d0, d1, d2]) rfl HRS.out
set_option maxRecDepth 100000 in
set_option maxHeartbeats 1000000 in
theorem compose_big (w : World) (E : Nat → Addr) (hE : Errs w E) (k r : Nat) (A B : Option Addr) (n c m d : Nat) (t : List Nat) (hr : IsRule k r t) (hT : Sl w A n ((ints t).map (Value.int .i64))) (r2 : Nat) (t2 : List Nat) (hr2 : IsRule k r2 t2) (hT2 : Sl w B m ((ints t2).map (Value.int .i64))) (hbig : 3 < r + r2) :
    Calls Tryz.prog 22 #[ruleV k r A n c, ruleV (k : Int) (r2 : Int) B m d] w (RuleRes w E 0 0 [] (some (4, [(sForms, 0)]))) := by
  have hn : t.length = n := by simpa [ints] using hT.1
  have hn16 := hr.le
  rw [hn] at hn16
  have hn2 : t2.length = m := by simpa [ints] using hT2.1
  have hm16 := hr2.le
  rw [hn2] at hm16
  have HRU2 := Lib.hid hr2
  have hrr3 := hr2.r3
  clear hn2 hr2
  have hbW := ((((Below.refl w.heap.size w).alloc (Nat.le_refl _) (.cells #[.int .i64 (k : Int), .int .i64 (r : Int), .slice A n c] 26)).alloc (by simp) (.cells #[.int .i64 (k : Int), .int .i64 (r2 : Int), .slice B m d] 26)).alloc (by simp; omega) (.cells #[.int .i64 0, .int .i64 0, .slice none 0 0] 26))
  have hr0 := (((RuleAt.new (w) (.int .i64 (k : Int)) (.int .i64 (r : Int)) (.slice A n c)).alloc (.cells #[.int .i64 (k : Int), .int .i64 (r2 : Int), .slice B m d] 26)).alloc (.cells #[.int .i64 0, .int .i64 0, .slice none 0 0] 26))
  have hr1 := ((RuleAt.new (w.alloc (.cells #[.int .i64 (k : Int), .int .i64 (r : Int), .slice A n c] 26)) (.int .i64 (k : Int)) (.int .i64 (r2 : Int)) (.slice B m d)).alloc (.cells #[.int .i64 0, .int .i64 0, .slice none 0 0] 26))
  have hr2 := (RuleAt.new ((w.alloc (.cells #[.int .i64 (k : Int), .int .i64 (r : Int), .slice A n c] 26)).alloc (.cells #[.int .i64 (k : Int), .int .i64 (r2 : Int), .slice B m d] 26)) (.int .i64 0) (.int .i64 0) (.slice none 0 0))
  simp only [World.size_alloc] at hr1 hr2
  obtain ⟨W, hW⟩ : ∃ W, ((w.alloc (.cells #[.int .i64 (k : Int), .int .i64 (r : Int), .slice A n c] 26)).alloc (.cells #[.int .i64 (k : Int), .int .i64 (r2 : Int), .slice B m d] 26)).alloc (.cells #[.int .i64 0, .int .i64 0, .slice none 0 0] 26) = W := ⟨_, rfl⟩
  have hWs : W.heap.size = w.heap.size + 3 := by rw [← hW]; simp
  rw [hW] at hbW hr0 hr1 hr2
  have HR0 := Lib.hid hr0
  obtain ⟨a0, b0, c0, _⟩ := hr0.facts
  have HR1 := Lib.hid hr1
  obtain ⟨a1, b1, c1, _⟩ := hr1.facts
  have HR2 := Lib.hid hr2
  obtain ⟨a2, b2, c2, _⟩ := hr2.facts
  have HW := Lib.hid hW
  have HWS := Lib.hid hWs
  have HBW := Lib.hid hbW
  have hck := formsCheck_c W E (hE.below HBW.out) 0 (k : Int) (r : Int) A n c (ints t) (hT.below HBW.out) (by omega)
  rw [checkF_rule 0 hr] at hck
  have HC1 := Lib.hid hck
  have hck2 := fun (wz : World) (hz : Below W.heap.size W wz) => formsCheck_c wz E (hE.below (HBW.out.trans (hz.mono HBW.out.size))) 1 (k : Int) (r2 : Int) B m d (ints t2) (hT2.below (HBW.out.trans (hz.mono HBW.out.size))) (by omega)
  rw [checkF_rule 1 HRU2.out] at hck2
  have HC2 := Lib.hid hck2
  have HTT := Lib.hid (fun (wz : World) (hz : Below W.heap.size W wz) => (⟨hT.below (HBW.out.trans (hz.mono HBW.out.size)), hT2.below (HBW.out.trans (hz.mono HBW.out.size))⟩ : _ ∧ _))
  have HEE := Lib.hid (fun (wz : World) (hz : Below W.heap.size W wz) => hE.below (HBW.out.trans (hz.mono HBW.out.size)))
  have HRU := Lib.hid hr
  have hr3 := hr.r3
  clear hr0 hr1 hr2 hW hWs hbW hT hE hck hck2 hn hr hT2
  unfold ruleV at *
  go_enter Tryz.func22, Tryz.ntmps22
  go_wp2_with fail
  rw [HW.out]
  refine (HC1.out).mono ?_
  rintro e w1 ⟨v1, rfl, he1, hb1⟩
  have he1' : v1 = .nilIface := he1
  clear he1
  subst he1'
  obtain ⟨a1, b1, c1, _⟩ := (HR1.out.below hb1 HR1.out.lt).facts
  go_wp2_with fail
  refine (HC2.out w1 hb1).mono ?_
  rintro e w2 ⟨v2, rfl, he2, hb2'⟩
  have hb2 := pure_trans hb1 hb2'
  clear hb2'
  have he2' : v2 = .nilIface := he2
  clear he2
  subst he2'
  obtain ⟨a0, b0, c0, _⟩ := (HR0.out.below hb2 HR0.out.lt).facts
  obtain ⟨a1, b1, c1, _⟩ := (HR1.out.below hb2 HR1.out.lt).facts
  have hkk : ((k : Int) != (k : Int)) = false := by simp
  have hb3' : (3 : Int) < (r : Int) + (r2 : Int) := by omega
  clear hbig
  have HWR := Lib.hid (formsWrong_c w2 E (HEE.out w2 hb2) 0 4 (by decide) (by decide))
  go_wp2_with fail
  refine (HWR.out).mono ?_
  rintro e w3 ⟨rfl, he3, hb3'⟩
  have hb3 := pure_trans hb2 hb3'
  unfold errV at *
  clear hb3'
  have hrx := HR2.out.below hb3 HR2.out.lt
  obtain ⟨hRA, hRS⟩ := res_err (tl := (4, [(sForms, 0)])) hrx he3 (HBW.out.trans (hb3.mono HBW.out.size)) (show w.heap.size ≤ w.heap.size + 1 + 1 by omega)
  have HRA := Lib.hid hRA
  have HRS := Lib.hid hRS
  obtain ⟨d0, d1, d2, f0, f1, f2⟩ := hrx.facts
  clear hRA hRS hrx he3
  go_wp2_with fail
  obtain ⟨d0, d1, d2, _⟩ := HRA.out.facts
  exact bodyPost_ret (v := .tuple #[.agg #[.int .i64 0, .int .i64 0, .slice none 0 0], .iface 95 (.pointer (some ⟨w2.heap.size, 0, none⟩))]) (by simp [results, Tryz.results22, go_sem, d0, d1, d2]) rfl HRS.out
set_option maxRecDepth 100000 in
set_option maxHeartbeats 1000000 in
theorem compose_good (w : World) (E : Nat → Addr) (hE : Errs w E) (k r : Nat) (A B : Option Addr) (n c m d : Nat) (t : List Nat) (hr : IsRule k r t) (hT : Sl w A n ((ints t).map (Value.int .i64))) (r2 q : Nat) (t2 : List Nat) (hr2 : IsRule k r2 t2) (hT2 : Sl w B m ((ints t2).map (Value.int .i64))) (hq : r + r2 = q) (hq3 : q ≤ 3) :
    Calls Tryz.prog 22 #[ruleV k r A n c, ruleV (k : Int) (r2 : Int) B m d] w (RuleRes w E k q (ints (comp k r t r2 t2)) none) := by
  have hn : t.length = n := by simpa [ints] using hT.1
  have hn16 := hr.le
  rw [hn] at hn16
  have hn2 : t2.length = m := by simpa [ints] using hT2.1
  have hm16 := hr2.le
  rw [hn2] at hm16
  have HRU2 := Lib.hid hr2
  have hrr3 := hr2.r3
  clear hn2 hr2
  have hbW := ((((Below.refl w.heap.size w).alloc (Nat.le_refl _) (.cells #[.int .i64 (k : Int), .int .i64 (r : Int), .slice A n c] 26)).alloc (by simp) (.cells #[.int .i64 (k : Int), .int .i64 (r2 : Int), .slice B m d] 26)).alloc (by simp; omega) (.cells #[.int .i64 0, .int .i64 0, .slice none 0 0] 26))
  have hr0 := (((RuleAt.new (w) (.int .i64 (k : Int)) (.int .i64 (r : Int)) (.slice A n c)).alloc (.cells #[.int .i64 (k : Int), .int .i64 (r2 : Int), .slice B m d] 26)).alloc (.cells #[.int .i64 0, .int .i64 0, .slice none 0 0] 26))
  have hr1 := ((RuleAt.new (w.alloc (.cells #[.int .i64 (k : Int), .int .i64 (r : Int), .slice A n c] 26)) (.int .i64 (k : Int)) (.int .i64 (r2 : Int)) (.slice B m d)).alloc (.cells #[.int .i64 0, .int .i64 0, .slice none 0 0] 26))
  have hr2 := (RuleAt.new ((w.alloc (.cells #[.int .i64 (k : Int), .int .i64 (r : Int), .slice A n c] 26)).alloc (.cells #[.int .i64 (k : Int), .int .i64 (r2 : Int), .slice B m d] 26)) (.int .i64 0) (.int .i64 0) (.slice none 0 0))
  simp only [World.size_alloc] at hr1 hr2
  obtain ⟨W, hW⟩ : ∃ W, ((w.alloc (.cells #[.int .i64 (k : Int), .int .i64 (r : Int), .slice A n c] 26)).alloc (.cells #[.int .i64 (k : Int), .int .i64 (r2 : Int), .slice B m d] 26)).alloc (.cells #[.int .i64 0, .int .i64 0, .slice none 0 0] 26) = W := ⟨_, rfl⟩
  have hWs : W.heap.size = w.heap.size + 3 := by rw [← hW]; simp
  rw [hW] at hbW hr0 hr1 hr2
  have HR0 := Lib.hid hr0
  obtain ⟨a0, b0, c0, _⟩ := hr0.facts
  have HR1 := Lib.hid hr1
  obtain ⟨a1, b1, c1, _⟩ := hr1.facts
  have HR2 := Lib.hid hr2
  obtain ⟨a2, b2, c2, _⟩ := hr2.facts
  have HW := Lib.hid hW
  have HWS := Lib.hid hWs
  have HBW := Lib.hid hbW
  have hck := formsCheck_c W E (hE.below HBW.out) 0 (k : Int) (r : Int) A n c (ints t) (hT.below HBW.out) (by omega)
  rw [checkF_rule 0 hr] at hck
  have HC1 := Lib.hid hck
  have hck2 := fun (wz : World) (hz : Below W.heap.size W wz) => formsCheck_c wz E (hE.below (HBW.out.trans (hz.mono HBW.out.size))) 1 (k : Int) (r2 : Int) B m d (ints t2) (hT2.below (HBW.out.trans (hz.mono HBW.out.size))) (by omega)
  rw [checkF_rule 1 HRU2.out] at hck2
  have HC2 := Lib.hid hck2
  have HTT := Lib.hid (fun (wz : World) (hz : Below W.heap.size W wz) => (⟨hT.below (HBW.out.trans (hz.mono HBW.out.size)), hT2.below (HBW.out.trans (hz.mono HBW.out.size))⟩ : _ ∧ _))
  have HEE := Lib.hid (fun (wz : World) (hz : Below W.heap.size W wz) => hE.below (HBW.out.trans (hz.mono HBW.out.size)))
  have HRU := Lib.hid hr
  have hr3 := hr.r3
  clear hr0 hr1 hr2 hW hWs hbW hT hE hck hck2 hn hr hT2
  unfold ruleV at *
  go_enter Tryz.func22, Tryz.ntmps22
  go_wp2_with fail
  rw [HW.out]
  refine (HC1.out).mono ?_
  rintro e w1 ⟨v1, rfl, he1, hb1⟩
  have he1' : v1 = .nilIface := he1
  clear he1
  subst he1'
  obtain ⟨a1, b1, c1, _⟩ := (HR1.out.below hb1 HR1.out.lt).facts
  go_wp2_with fail
  refine (HC2.out w1 hb1).mono ?_
  rintro e w2 ⟨v2, rfl, he2, hb2'⟩
  have hb2 := pure_trans hb1 hb2'
  clear hb2'
  have he2' : v2 = .nilIface := he2
  clear he2
  subst he2'
  obtain ⟨a0, b0, c0, _⟩ := (HR0.out.below hb2 HR0.out.lt).facts
  obtain ⟨a1, b1, c1, _⟩ := (HR1.out.below hb2 HR1.out.lt).facts
  have hkk : ((k : Int) != (k : Int)) = false := by simp
  have hb3' : ¬ (3 : Int) < (r : Int) + (r2 : Int) := by omega
  have HBH := Lib.hid (behindF_c w2 E (HEE.out w2 hb2) k r r2 q hq A B n c m d t t2 HRU.out HRU2.out hq3 (HTT.out w2 hb2).1 (HTT.out w2 hb2).2)
  unfold ruleV at HBH
  clear hq hq3
  go_wp2_with fail
  refine (HBH.out).mono ?_
  rintro e w3 ⟨g, N, rfl, hT3, hb3'⟩
  have hb3 := pure_trans hb2 hb3'
  have hge := Nat.le_trans HBW.out.size hb2.size
  clear hb3'
  have hrx := HR2.out.below hb3 HR2.out.lt
  obtain ⟨hRA, hRS⟩ := res_new (E := E) (K := (k : Int)) (R := (q : Int)) hrx hT3 (HBW.out.trans (hb3.mono HBW.out.size)) (show w.heap.size ≤ w.heap.size + 1 + 1 by omega) hge
  have HRA := Lib.hid hRA
  have HRS := Lib.hid hRS
  obtain ⟨d0, d1, d2, f0, f1, f2⟩ := hrx.facts
  clear hRA hRS hrx hT3
  unfold ruleV
  go_wp2_with fail
  obtain ⟨d0, d1, d2, _⟩ := HRA.out.facts
  exact bodyPost_ret (v := .tuple #[.agg #[.int .i64 (k : Int), .int .i64 (q : Int), .slice (some ⟨g, 0, none⟩) N N], .nilIface]) (by simp [results, Tryz.results22, go_sem, d0, d1, d2]) rfl HRS.out
end Go.Proofs.YtpllojpgpejfmaaGreatDoor

namespace Go.Proofs.YtpllojpgpejfmaaGreatDoor
open Go.RowKit RuleP

end Go.Proofs.YtpllojpgpejfmaaGreatDoor

namespace Go.Proofs.YtpllojpgpejfmaaGreatDoor
open Go.RowKit RuleP

theorem taleOk5 {n : Nat} (h : 1 ≤ n ∧ n ≤ 11) (l : List (ByteArray × Int)) : TaleOk (some (n, l)) := fun x hx => by cases hx; exact h
theorem taleOk0 : TaleOk none := fun _ hx => by cases hx
theorem both_mirror (K R : Int) (A : Option Addr) (n c : Nat) (T : List Int) (hm : n ≤ 9223372036854775807) : ∃ (K' R' : Int) (xs : List Nat) (tl : Option Tale), TaleOk tl ∧
    (∀ (w : World) (E : Nat → Addr), Errs w E → Sl w A n (T.map (Value.int .i64)) → Calls Tryz.prog 11 #[ruleV K R A n c] w (RuleRes w E K' R' (ints xs) tl)) ∧
    (∀ w : World, Sl w A n (T.map (Value.int .i64)) → Calls Tryz.prog 15 #[ruleV K R A n c] w (Rule5E w K' R' xs tl)) := by
  cases h : checkF 0 K R T with
  | some tl => exact ⟨0, 0, [], some tl, h ▸ checkF_ok 0 K R T, fun w E hE hT => mirror_bad w E hE K R A n c T hT hm tl h, fun w hT => mirror5_bad w K R A n c T hT hm tl h⟩
  | none =>
    obtain ⟨k, r, t, rfl, rfl, rfl, hr⟩ := checkF_none h
    exact ⟨k, r, mir k r t, none, taleOk0, fun w E hE hT => mirror_good w E hE k r A n c t hr hT, fun w hT => mirror5_good w k r A n c t hr hT⟩

theorem both_widen (K R : Int) (A : Option Addr) (n c : Nat) (T : List Int) (hm : n ≤ 9223372036854775807) (q : Int) : ∃ (K' R' : Int) (xs : List Nat) (tl : Option Tale), TaleOk tl ∧
    (∀ (w : World) (E : Nat → Addr), Errs w E → Sl w A n (T.map (Value.int .i64)) → Calls Tryz.prog 18 #[ruleV K R A n c, .int .i64 q] w (RuleRes w E K' R' (ints xs) tl)) ∧
    (∀ w : World, Sl w A n (T.map (Value.int .i64)) → Calls Tryz.prog 19 #[ruleV K R A n c, .int .i64 q] w (Rule5E w K' R' xs tl)) := by
  cases h : checkF 0 K R T with
  | some tl => exact ⟨0, 0, [], some tl, h ▸ checkF_ok 0 K R T, fun w E hE hT => widen_bad w E hE K R A n c T hT hm q tl h, fun w hT => widen5_bad w K R A n c T hT hm q tl h⟩
  | none =>
    obtain ⟨k, r, t, rfl, rfl, rfl, hr⟩ := checkF_none h
    by_cases hq : q < (r : Int) ∨ 3 < q
    · exact ⟨0, 0, [], _, taleOk5 (by decide) _, fun w E hE hT => widen_arg w E hE k r A n c t hr hT q hq, fun w hT => widen5_arg w k r A n c t hr hT q hq⟩
    · obtain ⟨Q, rfl⟩ : ∃ Q : Nat, q = (Q : Int) := ⟨q.toNat, by omega⟩
      obtain ⟨d, hd⟩ : ∃ d, r + d = Q := ⟨Q - r, by omega⟩
      exact ⟨k, Q, wide k r d t, none, taleOk0, fun w E hE hT => widen_good w E hE k r A n c t hr hT d Q hd (by omega), fun w hT => widen5_good w k r A n c t hr hT d Q hd (by omega)⟩

theorem both_compose (K R K2 R2 : Int) (A B : Option Addr) (n c m d : Nat) (T T2 : List Int) (hm : n ≤ 9223372036854775807) (hm2 : m ≤ 9223372036854775807) : ∃ (K' R' : Int) (xs : List Nat) (tl : Option Tale), TaleOk tl ∧
    (∀ (w : World) (E : Nat → Addr), Errs w E → Sl w A n (T.map (Value.int .i64)) → Sl w B m (T2.map (Value.int .i64)) → Calls Tryz.prog 22 #[ruleV K R A n c, ruleV K2 R2 B m d] w (RuleRes w E K' R' (ints xs) tl)) ∧
    (∀ w : World, Sl w A n (T.map (Value.int .i64)) → Sl w B m (T2.map (Value.int .i64)) → Calls Tryz.prog 23 #[ruleV K R A n c, ruleV K2 R2 B m d] w (Rule5E w K' R' xs tl)) := by
  cases h : checkF 0 K R T with
  | some tl => exact ⟨0, 0, [], some tl, h ▸ checkF_ok 0 K R T, fun w E hE hT _ => compose_bad1 w E hE K R K2 R2 A B n c m d T hT hm tl h, fun w hT hT2 => compose5_bad1 w K R K2 R2 A B n c m d T T2 hT hm hT2 hm2 tl h⟩
  | none =>
    cases h2 : checkF 1 K2 R2 T2 with
    | some tl =>
      refine ⟨0, 0, [], some tl, h2 ▸ checkF_ok 1 K2 R2 T2, ?_, fun w hT hT2 => compose5_bad2 w K R K2 R2 A B n c m d T T2 hT hm hT2 hm2 tl h h2⟩
      obtain ⟨k, r, t, rfl, rfl, rfl, hr⟩ := checkF_none h
      exact fun w E hE hT hT2 => compose_bad2 w E hE k r A B n c m d t hr hT K2 R2 T2 hT2 hm2 tl h2
    | none =>
      obtain ⟨k, r, t, rfl, rfl, rfl, hr⟩ := checkF_none h
      obtain ⟨k2, r2, t2, rfl, rfl, rfl, hr2⟩ := checkF_none h2
      by_cases hk : k = k2
      · subst hk
        by_cases hb : 3 < r + r2
        · exact ⟨0, 0, [], _, taleOk5 (by decide) _, fun w E hE hT hT2 => compose_big w E hE k r A B n c m d t hr hT r2 t2 hr2 hT2 hb, fun w hT hT2 => compose5_big w k r r2 A B n c m d t t2 hr hT hr2 hT2 hb⟩
        · exact ⟨k, ((r + r2 : Nat) : Int), comp k r t r2 t2, none, taleOk0, fun w E hE hT hT2 => compose_good w E hE k r A B n c m d t hr hT r2 (r + r2) t2 hr2 hT2 rfl (by omega), fun w hT hT2 => compose5_good w k r r2 A B n c m d t t2 hr hT hr2 hT2 (r + r2) rfl (by omega)⟩
      · exact ⟨0, 0, [], _, taleOk5 (by decide) _, fun w E hE hT hT2 => compose_alien w E hE k r A B n c m d t hr hT k2 r2 t2 hr2 hT2 hk, fun w hT hT2 => compose5_alien w k r k2 r2 A B n c m d t t2 hr hT hr2 hT2 hk⟩

theorem both_power (K R : Int) (A : Option Addr) (n c : Nat) (T : List Int) (hm : n ≤ 9223372036854775807) (x : Int) (hx : x ≤ 9223372036854775807) : ∃ (K' R' : Int) (xs : List Nat) (tl : Option Tale), TaleOk tl ∧
    (∀ (w : World) (E : Nat → Addr), Errs w E → Sl w A n (T.map (Value.int .i64)) → Calls Tryz.prog 24 #[ruleV K R A n c, .int .i64 x] w (RuleRes w E K' R' (ints xs) tl)) ∧
    (∀ w : World, Sl w A n (T.map (Value.int .i64)) → Calls Tryz.prog 25 #[ruleV K R A n c, .int .i64 x] w (Rule5E w K' R' xs tl)) := by
  cases h : checkF 0 K R T with
  | some tl => exact ⟨0, 0, [], some tl, h ▸ checkF_ok 0 K R T, fun w E hE hT => power_bad w E hE K R A n c T hT hm x tl h, fun w hT => power5_bad w K R A n c T hT hm x tl h⟩
  | none =>
    obtain ⟨k, r, t, rfl, rfl, rfl, hr⟩ := checkF_none h
    by_cases hn : x < 0
    · exact ⟨0, 0, [], _, taleOk5 (by decide) _, fun w E hE hT => power_neg w E hE k r A n c t hr hT x hn, fun w hT => power5_neg w k r A n c t hr hT x hn⟩
    · obtain ⟨q, rfl⟩ : ∃ q : Nat, x = (q : Int) := ⟨x.toNat, by omega⟩
      by_cases hz : r = 0
      · subst hz
        exact ⟨k, 0, pw k 0 t q, none, taleOk0, fun w E hE hT => power_zero w E hE k 0 A n c t hr hT rfl q (by omega), fun w hT => power5_zero w k 0 A n c t hr hT q rfl (by omega)⟩
      · have hr1 : 0 < r := by omega
        by_cases hq : 3 / r < q
        · have hbig : 3 < (q : Int) ∨ 3 < (r : Int) * (q : Int) := by
            right
            have h1 : 3 < q * r := (Nat.div_lt_iff_lt_mul hr1).1 hq
            rw [Nat.mul_comm] at h1
            have h2 : ((r * q : Nat) : Int) = (r : Int) * (q : Int) := by simp
            omega
          exact ⟨0, 0, [], _, taleOk5 (by decide) _, fun w E hE hT => power_big w E hE k r A n c t hr hT q _ hr1 rfl hq, fun w hT => power5_big w k r A n c t hr hT q (by omega) hr1 hbig⟩
        · have h3 : q * r ≤ 3 := Nat.le_trans (Nat.mul_le_mul_right r (Nat.le_of_not_lt hq)) (Nat.div_mul_le_self 3 r)
          exact ⟨k, ((q * r : Nat) : Int), pw k r t q, none, taleOk0, fun w E hE hT => power_pos w E hE k r A n c t hr hT q _ hr1 rfl (Nat.le_of_not_lt hq), fun w hT => power5_pos w k r A n c t hr hT q (q * r) hr1 rfl h3⟩
end Go.Proofs.YtpllojpgpejfmaaGreatDoor
