/- Rules out of rules: forms.wrong, check, widened, behind, inner. Condition: the tables read from memory; the error variables hold what E says. Rules out of rules: forms.Widen, Mirror, Compose, Shift of any input. Condition: the tables read from memory; the error variables hold what E says. The rule with the radius 1 at least: pairs.working. Condition: the table reads from memory; the error variables hold what E says. How the row of a pair comes out of the arrows: plain lists, no program. No condition. -/
import Derived.Test.YtedmmmlahpmmoaaGreatDoorV8
import Derived.Test.YtedmmmlahpmmoaaGreatDoorV9
import Derived.Test.YtedmmmlahpmmoaaGreatDoorV19
import Derived.Test.YtedmmmlahpmmoaaGreatDoorV20
namespace Go.Proofs.YtedmmmlahpmmoaaGreatDoor
open Go.RowKit RuleP

def sForms : ByteArray := ⟨#[102, 111, 114, 109, 115]⟩
/-- What forms tells of what is no rule. -/
def checkF (at' K R : Int) (T : List Int) : Option Tale := under sForms at' (check K R T)
theorem checkF_rule {k r : Nat} {t : List Nat} (at' : Int) (h : IsRule k r t) : checkF at' k r (ints t) = none := by
  unfold checkF
  rw [check_rule h]
  rfl
set_option maxRecDepth 100000 in
theorem formsCheck_c (w : World) (E : Nat → Addr) (hE : Errs w E) (at' K R : Int) (A : Option Addr) (n c : Nat) (T : List Int) (hT : Sl w A n (T.map (Value.int .i64))) (hm : n ≤ 9223372036854775807) :
    Calls Tryz.prog 72 #[.int .i64 at', ruleV K R A n c] w fun e w' => ∃ v, e = .returned v ∧ ErrV w' E (checkF at' K R T) v ∧ Below w.heap.size w w' := by
  have hb0 := (Below.refl w.heap.size w).alloc (Nat.le_refl _) (.cells #[.int .i64 K, .int .i64 R, .slice A n c] 24)
  have HS := Lib.hid (check_c _ E (hE.below hb0) K R A n c T (hT.below hb0) hm)
  have HB := Lib.hid hb0
  clear hb0 hT hE
  unfold ruleV at *
  go_enter Tryz.func72, Tryz.ntmps72
  go_wp2_with fail
  refine (HS.out).mono ?_
  rintro e w1 ⟨v, rfl, he, hb⟩
  have HU := Lib.hid (under_c w1 E sForms at' _ v he)
  have HB1 := Lib.hid (below_box hb)
  clear he hb
  go_wp2_with fail
  refine (HU.out).mono ?_
  rintro e w2 ⟨v', rfl, he, hb⟩
  have HE := Lib.hid he
  have HB2 := Lib.hid (HB1.out.trans (hb.mono HB1.out.size))
  clear he hb
  go_wp2_with fail
  go_ret
  exact ⟨_, rfl, HE.out, HB2.out⟩

/-- The answer is a rule whose table is new memory. -/
def NewRule (w : World) (k r : Nat) (t : List Nat) (e : Ending) (w' : World) : Prop :=
  ∃ g N, e = .returned (ruleV (k : Int) (r : Int) (some ⟨g, 0, none⟩) N N) ∧ w'.ownsRow w.heap.size 3 1 (.slice (some ⟨g, 0, none⟩) N N) N ((ints t).map (Value.int .i64)) ∧ Below w.heap.size w w'

set_option maxRecDepth 100000 in
set_option maxHeartbeats 1000000 in
theorem widened_c (w : World) (k r d q : Nat) (hq : r + d = q) (A : Option Addr) (n c : Nat) (t : List Nat) (hr : IsRule k r t) (h3 : q ≤ 3) (hT : Sl w A n ((ints t).map (Value.int .i64))) :
    Calls Tryz.prog 74 #[ruleV k r A n c, .int .i64 (q : Int)] w (NewRule w k q (wide k r d t)) := by
  have hb1 := (Below.refl w.heap.size w).alloc (Nat.le_refl _) (.cells #[.int .i64 (k : Int), .int .i64 (r : Int), .slice A n c] 24)
  have hb2 := hb1.alloc (by simp) (.cells #[.int .i64 0, .int .i64 0, .slice none 0 0] 24)
  have hb3 := hb2.alloc (by simp; omega) (.cells #[.int .i64 (d : Int)] 3)
  have hr1 := ((RuleAt.new w (.int .i64 (k : Int)) (.int .i64 (r : Int)) (.slice A n c)).alloc (.cells #[.int .i64 0, .int .i64 0, .slice none 0 0] 24)).alloc (.cells #[.int .i64 (d : Int)] 3)
  have hr2 := (RuleAt.new (w.alloc (.cells #[.int .i64 (k : Int), .int .i64 (r : Int), .slice A n c] 24)) (.int .i64 0) (.int .i64 0) (.slice none 0 0)).alloc (.cells #[.int .i64 (d : Int)] 3)
  have hd3 := heap_new ((w.alloc (.cells #[.int .i64 (k : Int), .int .i64 (r : Int), .slice A n c] 24)).alloc (.cells #[.int .i64 0, .int .i64 0, .slice none 0 0] 24)) (.cells #[.int .i64 (d : Int)] 3)
  simp only [World.size_alloc] at hr2 hd3
  obtain ⟨W, hW⟩ : ∃ W, ((w.alloc (.cells #[.int .i64 (k : Int), .int .i64 (r : Int), .slice A n c] 24)).alloc (.cells #[.int .i64 0, .int .i64 0, .slice none 0 0] 24)).alloc (.cells #[.int .i64 (d : Int)] 3) = W := ⟨_, rfl⟩
  have hWs : W.heap.size = w.heap.size + 3 := by rw [← hW]; simp
  rw [hW] at hr1 hr2 hb3
  have hd3' : W.heap[w.heap.size + 1 + 1]? = some (.cells #[.int .i64 (d : Int)] 3 (0, 0)) := by rw [← hW]; exact hd3
  have hmd := made2_c W k q 95 (.pointer (some ⟨w.heap.size, 0, none⟩)) (.pointer (some ⟨w.heap.size + 1 + 1, 0, none⟩)) (fun v => sy k t (win v d (2 * r + 1))) hr.k1 hr.k4 h3
    (fun v wz => run_enter Tryz.func95 (by kernel_rfl) (by kernel_rfl) _ _)
    (fun wz hz g v hl hs hV => by
      subst hq
      exact widened1_c wz g w.heap.size (w.heap.size + 1 + 1) k r d A n c t v hr h3 hs (hT.below (hb3.trans (hz.mono hb3.size))) (hr1.below hz (by omega)) (by
        have := (hz.block (w.heap.size + 1 + 1) (by omega)).trans hd3'
        rw [cell_of_row wz _ _ _ _ _ this]; rfl) hV)
  have HMD := Lib.hid hmd
  have hqr : (q : Int) - (r : Int) = (d : Int) := by omega
  have HQ := Lib.hid hq
  have HB3 := Lib.hid hb3
  have HR2 := Lib.hid hr2
  have HW := Lib.hid hW
  have HWS := Lib.hid hWs
  have hr3 := hr.r3
  clear hmd hb1 hb2 hb3 hr1 hr2 hd3 hd3' hW hWs hT hr hq
  unfold ruleV
  go_enter Tryz.func74, Tryz.ntmps74
  go_wp2_with fail
  rw [HW.out]
  refine (HMD.out).mono ?_
  rintro e w4 ⟨g, rfl, hT4, hb4⟩
  obtain ⟨N, hN⟩ : ∃ N, k ^ (2 * q + 1) = N := ⟨_, rfl⟩
  rw [hN] at hT4
  rw [hN]
  have hr4 := HR2.out.below hb4 (by rw [HWS.out]; omega)
  obtain ⟨d0, d1, d2, f0, f1, f2⟩ := hr4.facts
  have HR4 := Lib.hid (hr4.set3 (.int .i64 (k : Int)) (.int .i64 (q : Int)) (.slice (some ⟨g, 0, none⟩) N N))
  have hge := (hT4.lt g rfl).1
  rw [HWS.out] at hge
  have HT4 := Lib.hid (own_base (own_keeps hT4 (keeps_set3 w4 (w.heap.size + 1) (.int .i64 (k : Int)) (.int .i64 (q : Int)) (.slice (some ⟨g, 0, none⟩) N N)) (fun g' hg h => by simp [Value.ownBlock] at hg; rw [show g' = w.heap.size + 1 from h] at hg; omega)) (show w.heap.size ≤ W.heap.size by rw [HWS.out]; omega))
  have HB4 := Lib.hid (below_set3 (HB3.out.trans (hb4.mono HB3.out.size)) (show w.heap.size ≤ w.heap.size + 1 by omega) (.int .i64 (k : Int)) (.int .i64 (q : Int)) (.slice (some ⟨g, 0, none⟩) N N))
  have HWD := Lib.hid (show tab k (2 * q + 1) (fun v => sy k t (win v d (2 * r + 1))) = wide k r d t by rw [← HQ.out]; rfl)
  rw [HWD.out] at HT4
  unfold ruleV
  clear hT4 hb4 hr4 hN hge
  go_wp2_with fail
  obtain ⟨d0, d1, d2, f0, f1, f2⟩ := HR4.out.facts
  exact bodyPost_ret (v := .agg #[.int .i64 (k : Int), .int .i64 (q : Int), .slice (some ⟨g, 0, none⟩) N N]) (by simp [results, Tryz.results74, go_sem, d0, d1, d2]) rfl ⟨g, N, rfl, HT4.out, HB4.out⟩

end Go.Proofs.YtedmmmlahpmmoaaGreatDoor

namespace Go.Proofs.YtedmmmlahpmmoaaGreatDoor
open Go.RowKit RuleP

/-- The answer is a rule whose table is new memory, and an error or none. -/
def RuleRes (w : World) (E : Nat → Addr) (K R : Int) (T : List Int) (tl : Option Tale) (e : Ending) (w' : World) : Prop :=
  ∃ (C : Option Addr) (N cc : Nat) (v : Value), e = .returned (.tuple #[ruleV K R C N cc, v]) ∧ w'.ownsRow w.heap.size 3 1 (.slice C N cc) N (T.map (Value.int .i64)) ∧ ErrV w' E tl v ∧ Below w.heap.size w w'

/-- Behind the store of no rule beside an error. -/
theorem res_err {w0 w1 : World} {E : Nat → Addr} {g : Nat} {tl : Tale} {v x0 x1 x2 : Value} (hR : RuleAt w1 g x0 x1 x2) (he : ErrIs w1 E tl.1 tl.2 v) (hb : Below w0.heap.size w0 w1) (hg : w0.heap.size ≤ g) :
    RuleAt (((w1.setCell ⟨g, 0, none⟩ (.int .i64 0)).setCell ⟨g, 1, none⟩ (.int .i64 0)).setCell ⟨g, 2, none⟩ (.slice none 0 0)) g (.int .i64 0) (.int .i64 0) (.slice none 0 0) ∧
    RuleRes w0 E 0 0 [] (some tl) (.returned (.tuple #[ruleV 0 0 none 0 0, v])) (((w1.setCell ⟨g, 0, none⟩ (.int .i64 0)).setCell ⟨g, 1, none⟩ (.int .i64 0)).setCell ⟨g, 2, none⟩ (.slice none 0 0)) :=
  ⟨hR.set3 _ _ _, none, 0, 0, v, rfl, ⟨rfl, .inl ⟨rfl, rfl⟩⟩, ErrIs.set3 he hR _ _ _, below_set3 hb hg _ _ _⟩
/-- Behind the store of a rule. -/
theorem res_new {w0 w1 : World} {E : Nat → Addr} {B g gt N : Nat} {K R : Int} {T : List Int} {x0 x1 x2 : Value} (hR : RuleAt w1 g x0 x1 x2) (hT : w1.ownsRow B 3 1 (.slice (some ⟨gt, 0, none⟩) N N) N (T.map (Value.int .i64))) (hb : Below w0.heap.size w0 w1) (hg : w0.heap.size ≤ g) (hB : w0.heap.size ≤ B) :
    RuleAt (((w1.setCell ⟨g, 0, none⟩ (.int .i64 K)).setCell ⟨g, 1, none⟩ (.int .i64 R)).setCell ⟨g, 2, none⟩ (.slice (some ⟨gt, 0, none⟩) N N)) g (.int .i64 K) (.int .i64 R) (.slice (some ⟨gt, 0, none⟩) N N) ∧
    RuleRes w0 E K R T none (.returned (.tuple #[ruleV K R (some ⟨gt, 0, none⟩) N N, .nilIface])) (((w1.setCell ⟨g, 0, none⟩ (.int .i64 K)).setCell ⟨g, 1, none⟩ (.int .i64 R)).setCell ⟨g, 2, none⟩ (.slice (some ⟨gt, 0, none⟩) N N)) :=
  ⟨hR.set3 _ _ _, _, N, N, .nilIface, rfl, own_base (own_set3 hT hR (by decide) _ _ _) hB, rfl, below_set3 hb hg _ _ _⟩

set_option maxRecDepth 100000 in
set_option maxHeartbeats 1000000 in
theorem widen_good (w : World) (E : Nat → Addr) (hE : Errs w E) (k r : Nat) (A : Option Addr) (n c : Nat) (t : List Nat) (hr : IsRule k r t) (hT : Sl w A n ((ints t).map (Value.int .i64))) (d q : Nat) (hq : r + d = q) (h3 : q ≤ 3) :
    Calls Tryz.prog 58 #[ruleV k r A n c, .int .i64 (q : Int)] w (RuleRes w E k q (ints (wide k r d t)) none) := by
  have hn : t.length = n := by simpa [ints] using hT.1
  have hn16 := hr.le
  rw [hn] at hn16
  have hbW := (((Below.refl w.heap.size w).alloc (Nat.le_refl _) (.cells #[.int .i64 (k : Int), .int .i64 (r : Int), .slice A n c] 24)).alloc (by simp) (.cells #[.int .i64 0, .int .i64 0, .slice none 0 0] 24))
  have hr0 := ((RuleAt.new (w) (.int .i64 (k : Int)) (.int .i64 (r : Int)) (.slice A n c)).alloc (.cells #[.int .i64 0, .int .i64 0, .slice none 0 0] 24))
  have hr1 := (RuleAt.new (w.alloc (.cells #[.int .i64 (k : Int), .int .i64 (r : Int), .slice A n c] 24)) (.int .i64 0) (.int .i64 0) (.slice none 0 0))
  simp only [World.size_alloc] at hr1
  obtain ⟨W, hW⟩ : ∃ W, (w.alloc (.cells #[.int .i64 (k : Int), .int .i64 (r : Int), .slice A n c] 24)).alloc (.cells #[.int .i64 0, .int .i64 0, .slice none 0 0] 24) = W := ⟨_, rfl⟩
  have hWs : W.heap.size = w.heap.size + 2 := by rw [← hW]; simp
  rw [hW] at hbW hr0 hr1
  have HR0 := Lib.hid hr0
  obtain ⟨a0, b0, c0, _⟩ := hr0.facts
  have HR1 := Lib.hid hr1
  obtain ⟨a1, b1, c1, _⟩ := hr1.facts
  have HW := Lib.hid hW
  have HWS := Lib.hid hWs
  have HBW := Lib.hid hbW
  have hck := formsCheck_c W E (hE.below HBW.out) 0 (k : Int) (r : Int) A n c (ints t) (hT.below HBW.out) (by omega)
  rw [checkF_rule 0 hr] at hck
  have HC1 := Lib.hid hck
  have HTT := Lib.hid (fun (wz : World) (hz : Below W.heap.size W wz) => hT.below (HBW.out.trans (hz.mono HBW.out.size)))
  have HEE := Lib.hid (fun (wz : World) (hz : Below W.heap.size W wz) => hE.below (HBW.out.trans (hz.mono HBW.out.size)))
  have HRU := Lib.hid hr
  have hr3 := hr.r3
  clear hr0 hr1 hW hWs hbW hT hE hck hn hr
  unfold ruleV at *
  go_enter Tryz.func58, Tryz.ntmps58
  go_wp2_with fail
  rw [HW.out]
  refine (HC1.out).mono ?_
  rintro e w1 ⟨v1, rfl, he1, hb1⟩
  have he1' : v1 = .nilIface := he1
  clear he1
  subst he1'
  obtain ⟨a0, b0, c0, _⟩ := (HR0.out.below hb1 HR0.out.lt).facts
  have HWD := Lib.hid (widened_c w1 k r d q hq A n c t HRU.out h3 (HTT.out w1 hb1))
  have hq1 : (r : Int) ≤ (q : Int) := by omega
  have hq2 : (q : Int) ≤ 3 := by omega
  unfold ruleV at HWD
  clear hq h3
  go_wp2_with fail
  refine (HWD.out).mono ?_
  rintro e w2 ⟨g, N, rfl, hT2, hb2'⟩
  have hb2 := pure_trans hb1 hb2'
  have hge := Nat.le_trans HBW.out.size hb1.size
  clear hb2'
  have hrx := HR1.out.below hb2 HR1.out.lt
  obtain ⟨hRA, hRS⟩ := res_new (E := E) (K := (k : Int)) (R := (q : Int)) hrx hT2 (HBW.out.trans (hb2.mono HBW.out.size)) (show w.heap.size ≤ w.heap.size + 1 by omega) hge
  have HRA := Lib.hid hRA
  have HRS := Lib.hid hRS
  obtain ⟨d0, d1, d2, f0, f1, f2⟩ := hrx.facts
  clear hRA hRS hrx hT2
  unfold ruleV
  go_wp2_with fail
  obtain ⟨d0, d1, d2, _⟩ := HRA.out.facts
  exact bodyPost_ret (v := .tuple #[.agg #[.int .i64 (k : Int), .int .i64 (q : Int), .slice (some ⟨g, 0, none⟩) N N], .nilIface]) (by simp [results, Tryz.results58, go_sem, d0, d1, d2]) rfl HRS.out
end Go.Proofs.YtedmmmlahpmmoaaGreatDoor

namespace Go.Proofs.YtedmmmlahpmmoaaGreatDoor
open Go.RowKit RuleP

def sPairs : ByteArray := ⟨#[112, 97, 105, 114, 115]⟩
set_option maxRecDepth 100000 in
set_option maxHeartbeats 1000000 in
theorem working_bad (w : World) (E : Nat → Addr) (hE : Errs w E) (K R : Int) (A : Option Addr) (n c : Nat) (T : List Int) (hT : Sl w A n (T.map (Value.int .i64))) (hm : n ≤ 9223372036854775807) (tl : Tale) (hs : small K R T = some tl) :
    Calls Tryz.prog 43 #[ruleV K R A n c] w (RuleRes w E 0 0 [] (some (tl.1, (sPairs, 0) :: tl.2))) := by
  have hb2 := ((Below.refl w.heap.size w).alloc (Nat.le_refl _) (.cells #[.int .i64 K, .int .i64 R, .slice A n c] 24)).alloc (by simp) (.cells #[.int .i64 0, .int .i64 0, .slice none 0 0] 24)
  have hr2 := (RuleAt.new w (.int .i64 K) (.int .i64 R) (.slice A n c)).alloc (.cells #[.int .i64 0, .int .i64 0, .slice none 0 0] 24)
  have hz2 := RuleAt.new (w.alloc (.cells #[.int .i64 K, .int .i64 R, .slice A n c] 24)) (.int .i64 0) (.int .i64 0) (.slice none 0 0)
  rw [World.size_alloc] at hz2
  obtain ⟨r0, r1, r2, _⟩ := hr2.facts
  obtain ⟨w2, hw2⟩ : ∃ w2, (w.alloc (.cells #[.int .i64 K, .int .i64 R, .slice A n c] 24)).alloc (.cells #[.int .i64 0, .int .i64 0, .slice none 0 0] 24) = w2 := ⟨_, rfl⟩
  rw [hw2] at hb2 hr2 hz2
  have hsm := small_c w2 E (hE.below hb2) K R A n c T (hT.below hb2) hm
  rw [hs] at hsm
  have HS := Lib.hid hsm
  have HW2 := Lib.hid hw2
  have HB2 := Lib.hid hb2
  have HZ2 := Lib.hid hz2
  have hes : ¬ (1 : Int) = 2 := by decide
  clear hw2 hb2 hr2 hz2 hE hT hs hsm hes
  unfold ruleV at HS ⊢
  go_enter Tryz.func43, Tryz.ntmps43
  go_wp2_with fail
  rw [HW2.out]
  refine (HS.out).mono ?_
  rintro e w3 ⟨v, rfl, he, hb⟩
  obtain ⟨u, p, rfl⟩ := ErrIs.iface (show ErrIs w3 E tl.1 tl.2 v from he)
  have HU := Lib.hid (under_c w3 E sPairs 0 _ _ he)
  have hz3 := HZ2.out.below hb HZ2.out.lt
  have HZ3 := Lib.hid hz3
  have HB3 := Lib.hid (HB2.out.trans (hb.mono HB2.out.size))
  clear he hb hz3
  go_wp2_with fail
  refine (HU.out).mono ?_
  rintro e w4 ⟨v', rfl, he, hb⟩
  have he' : ErrIs w4 E tl.1 ((sPairs, 0) :: tl.2) v' := he
  obtain ⟨u2, p2, rfl⟩ := ErrIs.iface he'
  have hz4 := HZ3.out.below hb HZ3.out.lt
  obtain ⟨d0, d1, d2, f0, f1, f2⟩ := hz4.facts
  have hb4 := HB3.out.trans (hb.mono HB3.out.size)
  obtain ⟨hzz, hres⟩ := res_err (w0 := w) (tl := (tl.1, (sPairs, 0) :: tl.2)) hz4 he' hb4 (by omega)
  have HZZ := Lib.hid hzz
  have HRS := Lib.hid hres
  clear hz4 hzz he he' hb hb4 HU hres
  go_wp2_with fail
  obtain ⟨d0, d1, d2, _⟩ := HZZ.out.facts
  exact bodyPost_ret (v := .tuple #[.agg #[.int .i64 0, .int .i64 0, .slice none 0 0], .iface u2 p2]) (by simp [results, Tryz.results43, go_sem, d0, d1, d2]) rfl HRS.out

/-- The rule that pairs works with. -/
def workR (r : Nat) : Nat := if r = 0 then 1 else r
def workT (k r : Nat) (t : List Nat) : List Nat := if r = 0 then wide k 0 1 t else t
theorem work_rule {k r : Nat} {t : List Nat} (hr : IsRule k r t) (h : t.length ≤ 256) : IsRule k (workR r) (workT k r t) ∧ (workT k r t).length ≤ 256 ∧ 0 < workR r := by
  unfold workR workT
  by_cases h0 : r = 0
  · subst h0
    rw [if_pos rfl, if_pos rfl]
    have h1 := wide_rule (d := 1) hr (by decide)
    refine ⟨h1, ?_, by decide⟩
    rw [h1.len]
    exact Nat.le_trans (Nat.pow_le_pow_left hr.k4 _) (by decide)
  · rw [if_neg h0, if_neg h0]
    exact ⟨hr, h, by omega⟩
/-- A rule that reads from memory, and no error. -/
def WorkRes (w : World) (k r : Nat) (t : List Nat) (e : Ending) (w' : World) : Prop :=
  ∃ (C : Option Addr) (n c : Nat), e = .returned (.tuple #[ruleV (k : Int) (r : Int) C n c, .nilIface]) ∧ Sl w' C n ((ints t).map (Value.int .i64)) ∧ Below w.heap.size w w'

set_option maxRecDepth 100000 in
set_option maxHeartbeats 1000000 in
theorem working_c (w : World) (E : Nat → Addr) (hE : Errs w E) (k r : Nat) (A : Option Addr) (n c : Nat) (t : List Nat) (hT : Sl w A n ((ints t).map (Value.int .i64))) (hr : IsRule k r t) (h256 : t.length ≤ 256) :
    Calls Tryz.prog 43 #[ruleV (k : Int) (r : Int) A n c] w (WorkRes w k (workR r) (workT k r t)) := by
  have hn : t.length = n := by simpa [ints] using hT.1
  have hb2 := ((Below.refl w.heap.size w).alloc (Nat.le_refl _) (.cells #[.int .i64 (k : Int), .int .i64 (r : Int), .slice A n c] 24)).alloc (by simp) (.cells #[.int .i64 0, .int .i64 0, .slice none 0 0] 24)
  have hr2 := (RuleAt.new w (.int .i64 (k : Int)) (.int .i64 (r : Int)) (.slice A n c)).alloc (.cells #[.int .i64 0, .int .i64 0, .slice none 0 0] 24)
  have hz2 := RuleAt.new (w.alloc (.cells #[.int .i64 (k : Int), .int .i64 (r : Int), .slice A n c] 24)) (.int .i64 0) (.int .i64 0) (.slice none 0 0)
  rw [World.size_alloc] at hz2
  obtain ⟨r0, r1, r2, _⟩ := hr2.facts
  obtain ⟨w2, hw2⟩ : ∃ w2, (w.alloc (.cells #[.int .i64 (k : Int), .int .i64 (r : Int), .slice A n c] 24)).alloc (.cells #[.int .i64 0, .int .i64 0, .slice none 0 0] 24) = w2 := ⟨_, rfl⟩
  rw [hw2] at hb2 hr2 hz2
  have hsm := small_c w2 E (hE.below hb2) (k : Int) (r : Int) A n c (ints t) (hT.below hb2) (by omega)
  rw [small_rule hr h256] at hsm
  have HS := Lib.hid hsm
  have HW2 := Lib.hid hw2
  have HB2 := Lib.hid hb2
  have HR2 := Lib.hid hr2
  have HZ2 := Lib.hid hz2
  have HT := Lib.hid (fun (wz : World) (hz : Below w.heap.size w wz) => hT.below hz)
  have HWI := Lib.hid (fun (wz : World) (hz : Below w.heap.size w wz) (h0 : r = 0) => widen_good wz E (hE.below hz) k r A n c t hr (hT.below hz) 1 1 (by omega) (by decide))
  clear hw2 hb2 hr2 hz2 hE hT hsm hr
  unfold ruleV at HS ⊢
  by_cases h0 : r = 0
  · have e1 : workR r = 1 := by unfold workR; rw [if_pos h0]
    have e2 : workT k r t = wide k 0 1 t := by unfold workT; rw [if_pos h0]
    rw [e1, e2]
    have HH0 := Lib.hid h0
    clear e1 e2 h0
    go_enter Tryz.func43, Tryz.ntmps43
    go_wp2_with fail
    rw [HW2.out]
    refine (HS.out).mono ?_
    rintro e w3 ⟨v, rfl, rfl, hb⟩
    have hr3 := HR2.out.below hb HR2.out.lt
    obtain ⟨r0, r1, r2, _⟩ := hr3.facts
    have hb3 := HB2.out.trans (hb.mono HB2.out.size)
    have hwi := HWI.out w3 hb3 HH0.out
    have HZ3 := Lib.hid (HZ2.out.below hb HZ2.out.lt)
    have HB3 := Lib.hid hb3
    obtain rfl := HH0.out
    unfold ruleV at hwi
    have HWX := Lib.hid hwi
    clear hb3 hwi hb hr3 HH0
    go_wp2_with fail
    refine (HWX.out).mono ?_
    rintro e w4 ⟨C, N, cc, v, rfl, ho, rfl, hb⟩
    unfold ruleV
    have hz4 := HZ3.out.below hb HZ3.out.lt
    obtain ⟨d0, d1, d2, f0, f1, f2⟩ := hz4.facts
    have hb4 := HB3.out.trans (hb.mono HB3.out.size)
    have hzz := hz4.set3 (.int .i64 (k : Int)) (.int .i64 1) (.slice C N cc)
    have HZZ := Lib.hid hzz
    have HO := Lib.hid (Sl.of_own (own_set3 ho hz4 (by decide) (.int .i64 (k : Int)) (.int .i64 1) (.slice C N cc)))
    have HBX := Lib.hid (below_set3 hb4 (show w.heap.size ≤ w.heap.size + 1 by omega) (.int .i64 (k : Int)) (.int .i64 1) (.slice C N cc))
    clear hz4 hb4 hzz ho hb HWX
    go_wp2_with fail
    obtain ⟨d0, d1, d2, _⟩ := HZZ.out.facts
    exact bodyPost_ret (v := .tuple #[.agg #[.int .i64 (k : Int), .int .i64 1, .slice C N cc], .nilIface]) (by simp [results, Tryz.results43, go_sem, d0, d1, d2]) rfl ⟨C, N, cc, rfl, HO.out, HBX.out⟩
  · have e1 : workR r = r := by unfold workR; rw [if_neg h0]
    have e2 : workT k r t = t := by unfold workT; rw [if_neg h0]
    rw [e1, e2]
    have h0' : ¬ (r : Int) = 0 := by omega
    clear e1 e2 h0 HWI
    go_enter Tryz.func43, Tryz.ntmps43
    go_wp2_with fail
    rw [HW2.out]
    refine (HS.out).mono ?_
    rintro e w3 ⟨v, rfl, rfl, hb⟩
    have hr3 := HR2.out.below hb HR2.out.lt
    have hz3 := HZ2.out.below hb HZ2.out.lt
    obtain ⟨r0, r1, r2, _⟩ := hr3.facts
    obtain ⟨d0, d1, d2, f0, f1, f2⟩ := hz3.facts
    have hb3 := HB2.out.trans (hb.mono HB2.out.size)
    have hbx := below_set3 hb3 (show w.heap.size ≤ w.heap.size + 1 by omega) (.int .i64 (k : Int)) (.int .i64 (r : Int)) (.slice A n c)
    have HT3 := Lib.hid (HT.out _ hbx)
    have HZZ := Lib.hid (hz3.set3 (.int .i64 (k : Int)) (.int .i64 (r : Int)) (.slice A n c))
    have HBX := Lib.hid hbx
    clear hr3 hz3 hb3 hbx hb
    go_wp2_with fail
    obtain ⟨d0, d1, d2, _⟩ := HZZ.out.facts
    exact bodyPost_ret (v := .tuple #[.agg #[.int .i64 (k : Int), .int .i64 (r : Int), .slice A n c], .nilIface]) (by simp [results, Tryz.results43, go_sem, d0, d1, d2]) rfl ⟨A, n, c, rfl, HT3.out, HBX.out⟩
end Go.Proofs.YtedmmmlahpmmoaaGreatDoor

namespace Go.Proofs.YtedmmmlahpmmoaaGreatDoor
open RuleP PairP
namespace PairP

def arrM (k N : Nat) (t : List Nat) (u m : Nat) : List (Nat × Nat) := (List.range m).map fun s => ((u * k + s) % N, t.getD (u * k + s) 0)
theorem arrM_len (k N : Nat) (t : List Nat) (u m : Nat) : (arrM k N t u m).length = m := by simp [arrM]
theorem arrM_snoc (k N : Nat) (t : List Nat) (u m : Nat) : arrM k N t u (m + 1) = arrM k N t u m ++ [((u * k + m) % N, t.getD (u * k + m) 0)] := by
  unfold arrM
  rw [List.range_succ, List.map_append]
  rfl
theorem mem_arrM {k N : Nat} {t : List Nat} {u m : Nat} {x : Nat × Nat} : x ∈ arrM k N t u m ↔ ∃ s, s < m ∧ x = ((u * k + s) % N, t.getD (u * k + s) 0) := by
  unfold arrM
  rw [List.mem_map]
  constructor
  · rintro ⟨s, hs, rfl⟩; exact ⟨s, List.mem_range.1 hs, rfl⟩
  · rintro ⟨s, hs, rfl⟩; exact ⟨s, List.mem_range.2 hs, rfl⟩
def toB (N : Nat) (a : Nat × Nat) (l : List (Nat × Nat)) : List Nat := (l.filter fun b => decide (a.2 = b.2)).map fun b => a.1 * N + b.1
theorem toB_snoc (N : Nat) (a : Nat × Nat) (l : List (Nat × Nat)) (b : Nat × Nat) : toB N a (l ++ [b]) = if a.2 = b.2 then toB N a l ++ [a.1 * N + b.1] else toB N a l := by
  unfold toB
  rw [List.filter_append, List.map_append]
  by_cases h : a.2 = b.2
  · rw [if_pos h]; simp [h]
  · rw [if_neg h]; simp [h]
theorem toB_len (N : Nat) (a : Nat × Nat) (l : List (Nat × Nat)) : (toB N a l).length ≤ l.length := by
  unfold toB
  rw [List.length_map]
  exact List.length_filter_le _ _
theorem mem_toB {N : Nat} {a : Nat × Nat} {l : List (Nat × Nat)} {q : Nat} : q ∈ toB N a l ↔ ∃ b ∈ l, a.2 = b.2 ∧ q = a.1 * N + b.1 := by
  unfold toB
  rw [List.mem_map]
  constructor
  · rintro ⟨b, hb, rfl⟩
    rw [List.mem_filter] at hb
    exact ⟨b, hb.1, of_decide_eq_true hb.2, rfl⟩
  · rintro ⟨b, hb, h, rfl⟩
    exact ⟨b, List.mem_filter.2 ⟨hb, decide_eq_true h⟩, rfl⟩
def toA (N : Nat) (la lb : List (Nat × Nat)) : List Nat := la.flatMap fun a => toB N a lb
theorem toA_snoc (N : Nat) (la lb : List (Nat × Nat)) (a : Nat × Nat) : toA N (la ++ [a]) lb = toA N la lb ++ toB N a lb := by
  unfold toA
  rw [List.flatMap_append]
  simp
theorem toA_len (N : Nat) (lb : List (Nat × Nat)) : ∀ la : List (Nat × Nat), (toA N la lb).length ≤ la.length * lb.length
  | [] => by simp [toA]
  | a :: la => by
    have h1 := toA_len N lb la
    have h2 := toB_len N a lb
    have e : toA N (a :: la) lb = toB N a lb ++ toA N la lb := by simp [toA]
    rw [e, List.length_append, List.length_cons, Nat.succ_mul]
    omega
theorem mem_toA {k N : Nat} {t : List Nat} {u v q : Nat} : q ∈ toA N (arrM k N t u k) (arrM k N t v k) ↔ ∃ s s', s < k ∧ s' < k ∧ t.getD (u * k + s) 0 = t.getD (v * k + s') 0 ∧ q = (u * k + s) % N * N + (v * k + s') % N := by
  unfold toA
  rw [List.mem_flatMap]
  constructor
  · rintro ⟨a, ha, hq⟩
    obtain ⟨b, hb, h1, h2⟩ := mem_toB.1 hq
    obtain ⟨s, hs, rfl⟩ := mem_arrM.1 ha
    obtain ⟨s', hs', rfl⟩ := mem_arrM.1 hb
    exact ⟨s, s', hs, hs', h1, h2⟩
  · rintro ⟨s, s', hs, hs', h1, h2⟩
    exact ⟨_, mem_arrM.2 ⟨s, hs, rfl⟩, mem_toB.2 ⟨_, mem_arrM.2 ⟨s', hs', rfl⟩, h1, h2⟩⟩
theorem sort_up (xs : List Int) : (xs.mergeSort fun x y => decide (x ≤ y)).Pairwise (· ≤ ·) := by
  have h := List.pairwise_mergeSort (le := fun x y : Int => decide (x ≤ y)) (fun a b c hab hbc => by
    have h1 := of_decide_eq_true hab
    have h2 := of_decide_eq_true hbc
    exact decide_eq_true (by omega)) (fun a b => by
    rcases Int.le_total a b with h | h
    · simp [h]
    · simp [h]) xs
  exact h.imp fun h => of_decide_eq_true h
theorem row_rise (k N : Nat) (t : List Nat) (p : Nat) : (ints (pairRow k N t p)).Pairwise (· < ·) := by
  unfold ints pairRow
  rw [List.pairwise_map]
  refine (List.Pairwise.sublist List.filter_sublist List.pairwise_lt_range).imp fun h => by omega
/-- The row of a pair. -/
theorem pair_row {k N : Nat} {t : List Nat} (hN : 0 < N) (p : Nat) : BagR.dedTo ((ints (toA N (arrM k N t (p / N) k) (arrM k N t (p % N) k))).mergeSort fun x y => decide (x ≤ y)) (toA N (arrM k N t (p / N) k) (arrM k N t (p % N) k)).length = ints (pairRow k N t p) := by
  obtain ⟨L, hL⟩ : ∃ L, toA N (arrM k N t (p / N) k) (arrM k N t (p % N) k) = L := ⟨_, rfl⟩
  rw [hL]
  have hl : L.length = ((ints L).mergeSort fun x y => decide (x ≤ y)).length := by rw [List.length_mergeSort, ints_len]
  refine BagR.rise_ext (BagR.dedTo_rise (sort_up _) (by rw [← hl]; exact Nat.le_refl _)).1 (row_rise k N t p) fun x => ?_
  rw [BagR.dedTo_mem (by rw [← hl]; exact Nat.le_refl _), hl, List.take_length, List.mem_mergeSort]
  unfold ints
  rw [List.mem_map, List.mem_map]
  have key : ∀ q, q ∈ L ↔ q ∈ pairRow k N t p := fun q => by
    rw [mem_row hN, edgeB_iff, ← hL, mem_toA]
  constructor
  · rintro ⟨q, hq, rfl⟩; exact ⟨q, (key q).1 hq, rfl⟩
  · rintro ⟨q, hq, rfl⟩; exact ⟨q, (key q).2 hq, rfl⟩
end PairP
end Go.Proofs.YtedmmmlahpmmoaaGreatDoor
