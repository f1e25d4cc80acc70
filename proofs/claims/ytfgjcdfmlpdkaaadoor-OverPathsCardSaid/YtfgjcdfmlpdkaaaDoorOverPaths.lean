/- The call of OverPaths: it returns true. Condition: the lists read from memory; the error variables hold what E says. -/
import Derived.Test.YtfgjcdfmlpdkaaaDoorLentR
import Derived.Test.YtfgjcdfmlpdkaaaDoorLaw8A
import Derived.Test.YtfgjcdfmlpdkaaaDoorR8P
import Derived.Test.YtfgjcdfmlpdkaaaDoorRuleC
namespace Go.Proofs.YtfgjcdfmlpdkaaaDoor
open Go.RowKit RuleP

namespace RuleP
theorem has_image {k r : Nat} {t v : List Nat} (hr : IsRule k r t) (hv : ∀ x ∈ v, x < k) : hasB k r t (image k r t v) = true := by
  by_cases h : 2 * r ≤ v.length
  · have hb : v ∈ before k r t (image k r t v) := (before_iff hr.k1).2 ⟨by rw [image_len]; omega, hv, rfl⟩
    exact decide_eq_true (fun e => by rw [e] at hb; cases hb)
  · rw [image_few (by omega)]
    have hb : digB k (2 * r) 0 ∈ before k r t [] := (before_iff hr.k1).2 ⟨by rw [digB_len]; rfl, digB_sym hr.k1 _ _, image_few (by rw [digB_len]; exact Nat.le_refl _)⟩
    exact decide_eq_true (fun e => by rw [e] at hb; cases hb)
/-- One step along a word. -/
theorem path_step {k r i : Nat} {t v : List Nat} (hv : ∀ x ∈ v, x < k) (h : i + 2 * r < v.length) :
    (wval k (win v i (2 * r)) * k + v.getD (i + 2 * r) 0) % k ^ (2 * r) = wval k (win v (i + 1) (2 * r)) ∧ (image k r t v).getD i 0 = t.getD (wval k (win v i (2 * r)) * k + v.getD (i + 2 * r) 0) 0 := by
  have hg : v[i + 2 * r]? = some (v.getD (i + 2 * r) 0) := by rw [List.getD_eq_getElem?_getD, List.getElem?_eq_getElem h]; rfl
  have e1 : win v i (2 * r + 1) = win v i (2 * r) ++ [v.getD (i + 2 * r) 0] := by
    unfold win
    rw [List.take_add_one, List.getElem?_drop, hg]
    rfl
  have e2 : wval k (win v i (2 * r + 1)) = wval k (win v i (2 * r)) * k + v.getD (i + 2 * r) 0 := by rw [e1, wval_snoc]
  rw [← e2]
  refine ⟨?_, ?_⟩
  · have h1 := wval_mod (k := k) ((win v i (2 * r + 1)).take 1) (b := (win v i (2 * r + 1)).drop 1) (fun x hx => win_sym hv i (2 * r + 1) x (List.mem_of_mem_drop hx))
    rw [List.take_append_drop, List.length_drop, win_len (by omega), show 2 * r + 1 - 1 = 2 * r from rfl] at h1
    rw [h1]
    unfold win
    rw [List.drop_take, List.drop_drop, show 2 * r + 1 - 1 = 2 * r from rfl]
  · rw [List.getD_eq_getElem?_getD, image_at h]
    rfl
theorem nodes_at {k r i : Nat} {v : List Nat} (h : i + 2 * r ≤ v.length) : (nodesW k r v).getD i 0 = wval k (win v i (2 * r)) := by
  unfold nodesW nodesTo
  rw [List.getD_eq_getElem?_getD, List.getElem?_map, List.getElem?_range (by omega)]
  rfl
end RuleP

/-- What Path answers of any rule and word. -/
def pathL (K R : Int) (T W : List Int) : List Int × List Int := match checkO K R T W 4096 with
  | some _ => ([], [])
  | none => (ints (nodesW K.toNat R.toNat (nats W)), ints (image K.toNat R.toNat (nats T) (nats W)))
/-- What Has answers. -/
def hasU (K R : Int) (T W : List Int) : Bool := match checkO K R T W 256 with
  | some _ => false
  | none => hasB K.toNat R.toNat (nats T) (nats W)
theorem pathL_bad {K R : Int} {T W : List Int} {t : Tale} (h : checkO K R T W 4096 = some t) : pathL K R T W = ([], []) := by unfold pathL; rw [h]
theorem pathL_good {k r : Nat} {t v : List Nat} (h : checkO k r (ints t) (ints v) 4096 = none) : pathL k r (ints t) (ints v) = (ints (nodesW k r v), ints (image k r t v)) := by unfold pathL; rw [h]; simp [nats_ints]
theorem hasU_bad {K R : Int} {T W : List Int} {t : Tale} (h : checkO K R T W 256 = some t) : hasU K R T W = false := by unfold hasU; rw [h]
theorem hasU_good {k r : Nat} {t v : List Nat} (h : checkO k r (ints t) (ints v) 256 = none) : hasU k r (ints t) (ints v) = hasB k r t v := by unfold hasU; rw [h]; simp [nats_ints]

theorem path_u (w : World) (E : Nat → Addr) (hE : Errs w E) (K R : Int) (A B : Option Addr) (n c m d : Nat) (T W : List Int) (hT : Sl w A n (T.map (Value.int .i64))) (hm : n ≤ 9223372036854775807) (hW : Sl w B m (W.map (Value.int .i64))) (hm2 : m ≤ 9223372036854775807) :
    Calls Tryd.prog 18 #[ruleV K R A n c, .slice B m d] w fun e w' => ∃ (C : Option Addr) (cc : Nat) (D : Option Addr) (dd : Nat) (v : Value), e = .returned (.tuple #[.slice C (pathL K R T W).1.length cc, .slice D (pathL K R T W).2.length dd, v]) ∧
      Sl w' C (pathL K R T W).1.length ((pathL K R T W).1.map (Value.int .i64)) ∧ Sl w' D (pathL K R T W).2.length ((pathL K R T W).2.map (Value.int .i64)) ∧ ErrV w' E (checkO K R T W 4096) v ∧ Below w.heap.size w w' := by
  cases h : checkO K R T W 4096 with
  | some tl =>
    refine (path_bad w E hE K R A B n c m d T W hT hm hW hm2 tl h).mono ?_
    rintro e w' ⟨v, rfl, he, hb⟩
    rw [pathL_bad h]
    exact ⟨none, 0, none, 0, v, rfl, Sl.nil _ _, Sl.nil _ _, he, hb⟩
  | none =>
    obtain ⟨k, r, t, v, rfl, rfl, rfl, rfl, hr, hl, hv, hs⟩ := checkO_none h
    have hvl : v.length = m := by simpa [ints] using hW.1
    refine (path_good w E hE k r A B n c m d t v hr hl hs hT hW (by omega)).mono ?_
    rintro e w' ⟨C, cc, D, dd, rfl, h1, h2, _, hb⟩
    rw [pathL_good h]
    have e1 : (ints (nodesW k r v)).length = m + 1 - 2 * r := by rw [ints_len]; unfold nodesW; rw [nodesTo_len, hvl]
    have e2 : (ints (image k r t v)).length = m - 2 * r := by rw [ints_len, image_len, hvl]
    simp only [e1, e2]
    exact ⟨C, cc, D, dd, .nilIface, rfl, Sl.of_own h1, Sl.of_own h2, rfl, hb⟩
theorem refPath_u (w : World) (K R : Int) (A B : Option Addr) (n c m d : Nat) (T W : List Int) (hT : Sl w A n (T.map (Value.int .i64))) (hm : n ≤ 9223372036854775807) (hW : Sl w B m (W.map (Value.int .i64))) (hm2 : m ≤ 9223372036854775807) (hmd : m ≤ d) (hd : d ≤ 9223372036854775807) :
    Calls Tryd.prog 41 #[ruleV K R A n c, .slice B m d] w fun e w' => ∃ (C : Option Addr) (cc : Nat) (D : Option Addr) (dd N : Nat) (A1 : Option Addr) (n1 c1 : Nat) (A2 : Option Addr) (n2 c2 : Nat), e = .returned (.tuple #[.slice C (pathL K R T W).1.length cc, .slice D (pathL K R T W).2.length dd, .agg #[.int .i64 (N : Int), .slice A1 n1 c1, .slice A2 n2 c2]]) ∧
      Sl w' C (pathL K R T W).1.length ((pathL K R T W).1.map (Value.int .i64)) ∧ Sl w' D (pathL K R T W).2.length ((pathL K R T W).2.map (Value.int .i64)) ∧ WantB w' w.heap.size (checkO K R T W 4096) (.agg #[.int .i64 (N : Int), .slice A1 n1 c1, .slice A2 n2 c2]) ∧ Below w.heap.size w w' := by
  cases h : checkO K R T W 4096 with
  | some tl =>
    refine (refPath_bad w K R A B n c m d T W hT hm hW hm2 tl h).mono ?_
    rintro e w' ⟨N, A1, n1, c1, A2, n2, c2, rfl, hu, hb⟩
    rw [pathL_bad h]
    exact ⟨none, 0, none, 0, N, A1, n1, c1, A2, n2, c2, rfl, Sl.nil _ _, Sl.nil _ _, hu, hb⟩
  | none =>
    obtain ⟨k, r, t, v, rfl, rfl, rfl, rfl, hr, hl, hv, hs⟩ := checkO_none h
    have hvl : v.length = m := by simpa [ints] using hW.1
    refine (refPath_good w k r A B n c m d t v hmd hd hr hl hs hT hW (by omega)).mono ?_
    rintro e w' ⟨C, cc, D, dd, rfl, h1, h2, hb⟩
    rw [pathL_good h]
    have e1 : (ints (nodesW k r v)).length = m + 1 - 2 * r := by rw [ints_len]; unfold nodesW; rw [nodesTo_len, hvl]
    have e2 : (ints (image k r t v)).length = m - 2 * r := by rw [ints_len, image_len, hvl]
    simp only [e1, e2]
    exact ⟨C, cc, D, dd, 0, none, 0, 0, none, 0, 0, rfl, h1, h2, WantB.zero _ _, hb⟩
theorem has_u (w : World) (E : Nat → Addr) (hE : Errs w E) (K R : Int) (A B : Option Addr) (n c m d : Nat) (T W : List Int) (hT : Sl w A n (T.map (Value.int .i64))) (hm : n ≤ 9223372036854775807) (hW : Sl w B m (W.map (Value.int .i64))) (hm2 : m ≤ 9223372036854775807) :
    Calls Tryd.prog 27 #[ruleV K R A n c, .slice B m d] w fun e w' => ∃ v, e = .returned (.tuple #[.bool (hasU K R T W), v]) ∧ ErrV w' E (checkO K R T W 256) v ∧ Below w.heap.size w w' := by
  cases h : checkO K R T W 256 with
  | some tl =>
    refine (has_bad w E hE K R A B n c m d T W hT hm hW hm2 tl h).mono ?_
    rintro e w' ⟨v, rfl, he, hb⟩
    exact ⟨v, by rw [hasU_bad h], he, hb⟩
  | none =>
    obtain ⟨k, r, t, v, rfl, rfl, rfl, rfl, hr, hl, hv, hs⟩ := checkO_none h
    have hvl : v.length = m := by simpa [ints] using hW.1
    refine (has_good w E hE k r A B n c m d t v hr hl hs hT hW (by omega)).mono ?_
    rintro e w' ⟨rfl, hb⟩
    exact ⟨.nilIface, by rw [hasU_good h], rfl, hb⟩
theorem refHas_u (w : World) (K R : Int) (A B : Option Addr) (n c m d : Nat) (T W : List Int) (hT : Sl w A n (T.map (Value.int .i64))) (hm : n ≤ 9223372036854775807) (hW : Sl w B m (W.map (Value.int .i64))) (hm2 : m ≤ 9223372036854775807) :
    Calls Tryd.prog 42 #[ruleV K R A n c, .slice B m d] w fun e w' => ∃ (N : Nat) (A1 : Option Addr) (n1 c1 : Nat) (A2 : Option Addr) (n2 c2 : Nat), e = .returned (.tuple #[.bool (hasU K R T W), .agg #[.int .i64 (N : Int), .slice A1 n1 c1, .slice A2 n2 c2]]) ∧
      WantB w' w.heap.size (checkO K R T W 256) (.agg #[.int .i64 (N : Int), .slice A1 n1 c1, .slice A2 n2 c2]) ∧ Below w.heap.size w w' := by
  cases h : checkO K R T W 256 with
  | some tl =>
    refine (refHas_bad w K R A B n c m d T W hT hm hW hm2 tl h).mono ?_
    rintro e w' ⟨N, A1, n1, c1, A2, n2, c2, rfl, hu, hb⟩
    rw [hasU_bad h]
    exact ⟨N, A1, n1, c1, A2, n2, c2, rfl, hu, hb⟩
  | none =>
    obtain ⟨k, r, t, v, rfl, rfl, rfl, rfl, hr, hl, hv, hs⟩ := checkO_none h
    have hvl : v.length = m := by simpa [ints] using hW.1
    refine (refHas_good w k r A B n c m d t v hr hl hs hT hW (by omega)).mono ?_
    rintro e w' ⟨rfl, hb⟩
    rw [hasU_good h]
    exact ⟨0, none, 0, 0, none, 0, 0, rfl, WantB.zero _ _, hb⟩

set_option maxRecDepth 100000 in
set_option maxHeartbeats 8000000 in
theorem overPaths_bad (w : World) (E : Nat → Addr) (hE : Errs w E) (hT : ErrT w) (K R : Int) (A B : Option Addr) (n c m d : Nat) (T W : List Int) (hS : Sl w A n (T.map (Value.int .i64))) (hn : n ≤ c) (hz : c * 8 ≤ 140737488351232)
    (hS1 : Sl w B m (W.map (Value.int .i64))) (hn1 : m ≤ d) (hz1 : d * 8 ≤ 140737488351232) (tl : Tale) (hbad : checkO K R T W 4096 = some tl) :
    Calls Tryd.prog 10 #[ruleV K R A n c, .slice B m d] w fun e w' => e = .returned (.bool true) ∧ Below w.heap.size w w' := by
  have HBD := Lib.hid hbad
  clear hbad
  have hb0 := (Below.refl w.heap.size w).alloc (Nat.le_refl _) (.cells #[.int .i64 K, .int .i64 R, .slice A n c] 24)
  have HE := Lib.hid (hE.below hb0)
  have hr0 := RuleAt.new w (.int .i64 K) (.int .i64 R) (.slice A n c)
  have HLR := Lib.hid (fun (wz : World) (hz' : Below w.heap.size w wz) => lentRule_c wz K R A n c _ (hS.below hz') (ints_one T) (by omega))
  unfold ruleV at *
  go_enter Tryd.func10, Tryd.ntmps10
  go_wp2_with fail
  refine (awake8_c _ E HE.out).mono ?_
  rintro e w1 ⟨rfl, b1⟩
  have hr1 := hr0.below b1 (by simp)
  have hb1 := below_box b1
  obtain ⟨r0, r1, r2, _⟩ := hr1.facts
  clear b1
  go_wp2_with fail
  refine (HLR.out w1 hb1).mono ?_
  rintro e w2 ⟨g, rfl, hg, hown, b2⟩
  have hb2 := hb1.trans (b2.mono hb1.size)
  have hr2 := hr1.below b2 hr1.lt
  have hm3 := RuleAt.new w2 (.int .i64 K) (.int .i64 R) (.slice (some ⟨g, 0, none⟩) n (n + 2))
  have hr3 := hr2.alloc (.cells #[.int .i64 K, .int .i64 R, .slice (some ⟨g, 0, none⟩) n (n + 2)] 24)
  have hb3 := hb2.alloc hb2.size (.cells #[.int .i64 K, .int .i64 R, .slice (some ⟨g, 0, none⟩) n (n + 2)] 24)
  have ho3 := hown.alloc (.cells #[.int .i64 K, .int .i64 R, .slice (some ⟨g, 0, none⟩) n (n + 2)] 24)
  obtain ⟨w3, hw3⟩ : ∃ w3, w2.alloc (.cells #[.int .i64 K, .int .i64 R, .slice (some ⟨g, 0, none⟩) n (n + 2)] 24) = w3 := ⟨_, rfl⟩
  have HW3 := Lib.hid hw3
  rw [hw3] at hm3 hr3 hb3 ho3
  have HLE := Lib.hid (lent_c w3 B m d _ (hS1.below hb3) (ints_one W) (by omega))
  have hlr0 := hr3.lt
  have hlm0 := hm3.lt
  obtain ⟨x0, x1, x2, _⟩ := hr3.facts
  obtain ⟨y0, y1, y2, _⟩ := hm3.facts
  have HR3 := Lib.hid hr3
  have HM3 := Lib.hid hm3
  clear r0 r1 r2 hb2 b2 hr2 hr3 hm3 hw3
  go_wp2_with fail
  rw [HW3.out]
  refine (HLE.out).mono ?_
  rintro e w4 ⟨rfl, hown4, b4⟩
  have hb4 := hb3.trans (b4.mono hb3.size)
  have hr4 := HR3.out.below b4 HR3.out.lt
  have hm4 := HM3.out.below b4 HM3.out.lt
  have hS3 := (Sl.of_own ho3).below b4
  have hA3 : Sl w4 (some ⟨g, 0, none⟩) n (T.map (Value.int .i64)) := sl_take' hS3 (by simpa using hS.1)
  have hS4 := Sl.of_own hown4
  have hA4 : Sl w4 (some ⟨w3.heap.size, 0, none⟩) m (W.map (Value.int .i64)) := sl_take' hS4 (by simpa using hS1.1)
  have hSB := hS.below hb4
  have hSC := hS1.below hb4
  have HTB := Lib.hid (fun (wz : World) (hz : Below w4.heap.size w4 wz) => hSB.below hz)
  have HTW := Lib.hid (fun (wz : World) (hz : Below w4.heap.size w4 wz) => hSC.below hz)
  have HEE := Lib.hid (fun (wz : World) (hz : Below w4.heap.size w4 wz) => hE.below (hb4.trans (hz.mono hb4.size)))
  have HPA := Lib.hid (fun (wz : World) (hz : Below w4.heap.size w4 wz) => path_u wz E (HEE.out wz hz) K R (some ⟨g, 0, none⟩) (some ⟨w3.heap.size, 0, none⟩) n (n + 2) m (m + 2) T W (hA3.below hz) (by omega) (hA4.below hz) (by omega))
  have HRP := Lib.hid (fun (wz : World) (hz : Below w4.heap.size w4 wz) => refPath_u wz K R A B n c m d T W (hSB.below hz) (by omega) (hSC.below hz) (by omega) hn1 (by omega))
  have HHA := Lib.hid (fun (wz : World) (hz : Below w4.heap.size w4 wz) => has_u wz E (HEE.out wz hz) K R (some ⟨g, 0, none⟩) (some ⟨w3.heap.size, 0, none⟩) n (n + 2) m (m + 2) T W (hA3.below hz) (by omega) (hA4.below hz) (by omega))
  have HRH := Lib.hid (fun (wz : World) (hz : Below w4.heap.size w4 wz) => refHas_u wz K R A B n c m d T W (hSB.below hz) (by omega) (hSC.below hz) (by omega))
  have HKP := Lib.hid (fun (wz : World) (hz : Below w4.heap.size w4 wz) => keptRule_c wz K R (some ⟨g, 0, none⟩) A n (n + 2) c T (hSB.below hz) (hS3.below hz) (Nat.le_refl _) (by simp only [maxLen]; omega))
  have HKW := Lib.hid (fun (wz : World) (hz : Below w4.heap.size w4 wz) => kept_c wz (some ⟨w3.heap.size, 0, none⟩) B m (m + 2) d W (hSC.below hz) (hS4.below hz) (Nat.le_refl _) (by simp only [maxLen]; omega))
  have HIS := Lib.hid (fun (wz : World) (hz : Below w4.heap.size w4 wz) (t : Option Tale) (ht : TaleOk t) (v u : Value) (hv : ErrV wz E t v) (hu : WantV wz t u) => rawIs_c wz E (HEE.out wz hz) (hT.below (hb4.trans (hz.mono hb4.size))) t ht v u hv hu)
  have HF := Lib.hid (fun (wz : World) (hz : Below w4.heap.size w4 wz) => (⟨cell_later hz hr4.facts.1, cell_later hz hr4.facts.2.1, cell_later hz hr4.facts.2.2.1, cell_later hz hm4.facts.1, cell_later hz hm4.facts.2.1, cell_later hz hm4.facts.2.2.1⟩ :
    wz.cell? ⟨w.heap.size, 0, none⟩ = some (.int .i64 K) ∧ wz.cell? ⟨w.heap.size, 1, none⟩ = some (.int .i64 R) ∧ wz.cell? ⟨w.heap.size, 2, none⟩ = some (.slice A n c) ∧
    wz.cell? ⟨w2.heap.size, 0, none⟩ = some (.int .i64 K) ∧ wz.cell? ⟨w2.heap.size, 1, none⟩ = some (.int .i64 R) ∧ wz.cell? ⟨w2.heap.size, 2, none⟩ = some (.slice (some ⟨g, 0, none⟩) n (n + 2))))
  have HB4 := Lib.hid hb4
  have hlr := hr4.lt
  have hlm := hm4.lt
  clear hE hT hS hS1 hb3 ho3 hS3 hA3 hSB hSC hown hr1 hb1 HLR hr0 hb0 hr4 hm4 hb4 hown4 b4 hS4 hA4 x0 x1 x2 y0 y1 y2
  obtain ⟨P1, hP1⟩ : ∃ P1, (pathL K R T W).1 = P1 := ⟨_, rfl⟩
  obtain ⟨P2, hP2⟩ : ∃ P2, (pathL K R T W).2 = P2 := ⟨_, rfl⟩
  obtain ⟨hv0, hhv0⟩ : ∃ hv0, hasU K R T W = hv0 := ⟨_, rfl⟩
  rw [hP1, hP2] at HPA HRP
  rw [hhv0] at HHA HRH
  have HP1 := Lib.hid hP1
  have HP2 := Lib.hid hP2
  clear hP1 hP2 hhv0
  unfold ruleV at *
  obtain ⟨l1, hl1⟩ : ∃ l1, P1.length = l1 := ⟨_, rfl⟩
  obtain ⟨l2, hl2⟩ : ∃ l2, P2.length = l2 := ⟨_, rfl⟩
  rw [hl1, hl2] at HPA HRP
  have HL1 := Lib.hid hl1
  have HL2 := Lib.hid hl2
  have hlb1 : l1 ≤ 9223372036854775807 ∧ l2 ≤ 9223372036854775807 := by
    rw [← hl1, ← hl2, ← HP1.out, ← HP2.out]
    cases hck : checkO K R T W 4096 with
    | some t => rw [pathL_bad hck]; simp
    | none =>
      obtain ⟨k, r, t, v, rfl, rfl, rfl, rfl, _, _, hv4, _⟩ := checkO_none hck
      rw [pathL_good hck]
      simp only [ints_len, nodesW, nodesTo_len, image_len]
      omega
  obtain ⟨hq1, hq2⟩ := hlb1
  clear hl1 hl2
  obtain ⟨x0, x1, x2, y0, y1, y2⟩ := HF.out w4 (Below.refl _ _)
  go_wp2_with fail
  refine (HPA.out w4 (Below.refl _ _)).mono ?_
  rintro e w5 ⟨C, cc, D, dd, v5, rfl, hC5, hD5, he5, b5⟩
  obtain ⟨x0, x1, x2, y0, y1, y2⟩ := HF.out w5 b5
  go_wp2_with fail
  refine (HRP.out w5 b5).mono ?_
  rintro e w6 ⟨C2, cc2, D2, dd2, N6, A6, n6, c6, F6, m6, d6, rfl, hC6, hD6, hu6, b6⟩
  have c6' := b5.trans (b6.mono b5.size)
  have b67 : Below w6.heap.size w6 (w6.alloc (.cells #[.int .i64 (N6 : Int), .slice A6 n6 c6, .slice F6 m6 d6] 60)) := (Below.refl _ _).alloc (Nat.le_refl _) _
  have he7 := (he5.below b6).below b67
  have hu7 := hu6.below b67
  have hC7 := (hC5.below b6).below b67
  have hD7 := (hD5.below b6).below b67
  have hC27 := hC6.below b67
  have hD27 := hD6.below b67
  have hx7 := WantAt.new w6 (.int .i64 (N6 : Int)) (.slice A6 n6 c6) (.slice F6 m6 d6)
  have c7 := c6'.trans (b67.mono c6'.size)
  obtain ⟨w7, hw7⟩ : ∃ w7, w6.alloc (.cells #[.int .i64 (N6 : Int), .slice A6 n6 c6, .slice F6 m6 d6] 60) = w7 := ⟨_, rfl⟩
  have HW7 := Lib.hid hw7
  rw [hw7] at c7 he7 hu7 hx7 hC7 hD7 hC27 hD27
  have hlt1 : w2.heap.size < w6.heap.size := by have := c6'.size; omega
  have hlt2 : w.heap.size < w6.heap.size := by have := c6'.size; omega
  obtain ⟨j0, j1, j2, j3, j4, j5⟩ := HF.out w6 c6'
  obtain ⟨x0, x1, x2, y0, y1, y2⟩ := HF.out w7 c7
  clear hw7 b67 he5 hu6 hC5 hD5 hC6 hD6 b6 c6' b5
  go_wp2_with fail
  rw [HW7.out]
  refine (HHA.out w7 c7).mono ?_
  rintro e w8 ⟨v8, rfl, he8, b8⟩
  have c8 := c7.trans (b8.mono c7.size)
  obtain ⟨x0, x1, x2, y0, y1, y2⟩ := HF.out w8 c8
  go_wp2_with fail
  refine (HRH.out w8 c8).mono ?_
  rintro e w9 ⟨N9, A9, n9, c9, F9, m9, d9, rfl, hu9, b9⟩
  have c9' := c8.trans (b9.mono c8.size)
  have b79 := b8.trans (b9.mono b8.size)
  have b910 : Below w9.heap.size w9 (w9.alloc (.cells #[.int .i64 (N9 : Int), .slice A9 n9 c9, .slice F9 m9 d9] 60)) := (Below.refl _ _).alloc (Nat.le_refl _) _
  have b710 := b79.trans (b910.mono b79.size)
  have c10 := c7.trans (b710.mono c7.size)
  have he10 := he7.below b710
  have hu10 := hu7.below b710
  have hC10 := hC7.below b710
  have hD10 := hD7.below b710
  have hC210 := hC27.below b710
  have hD210 := hD27.below b710
  have hx10 := hx7.below b710 hx7.lt
  have he810 := (he8.below b9).below b910
  have hu910 := hu9.below b910
  have hy10 := WantAt.new w9 (.int .i64 (N9 : Int)) (.slice A9 n9 c9) (.slice F9 m9 d9)
  obtain ⟨w10, hw10⟩ : ∃ w10, w9.alloc (.cells #[.int .i64 (N9 : Int), .slice A9 n9 c9, .slice F9 m9 d9] 60) = w10 := ⟨_, rfl⟩
  have HW10 := Lib.hid hw10
  rw [hw10] at c10 he10 hu10 hC10 hD10 hC210 hD210 hx10 he810 hu910 hy10
  have hlt3 : w2.heap.size < w9.heap.size := by have := c9'.size; omega
  have hlt4 : w.heap.size < w9.heap.size := by have := c9'.size; omega
  have hlt5 : w6.heap.size < w9.heap.size := by have := b79.size; have := hx7.lt; omega
  obtain ⟨q0, q1, q2, q3, q4, q5⟩ := HF.out w9 c9'
  obtain ⟨z0, z1, z2, _⟩ := (hx7.below b79 hx7.lt).facts
  have HX := Lib.hid (fun (wz : World) (hz : Below w10.heap.size w10 wz) => (⟨(hx10.below hz hx10.lt).facts, (hy10.below hz hy10.lt).facts⟩ : _ ∧ _))
  have HI1 := Lib.hid (fun (wz : World) (hz : Below w10.heap.size w10 wz) => (by
    have h1 := ints_b wz C C2 l1 l1 cc cc2 P1 P1 (hC10.below hz) (hC210.below hz) hq1 hq1
    rw [decide_eq_true rfl] at h1
    exact h1 : Calls Tryd.prog 26 #[.slice C l1 cc, .slice C2 l1 cc2] wz fun e w' => e = .returned (.bool true) ∧ Below wz.heap.size wz w'))
  have HI2 := Lib.hid (fun (wz : World) (hz : Below w10.heap.size w10 wz) => (by
    have h1 := ints_b wz D D2 l2 l2 dd dd2 P2 P2 (hD10.below hz) (hD210.below hz) hq2 hq2
    rw [decide_eq_true rfl] at h1
    exact h1 : Calls Tryd.prog 26 #[.slice D l2 dd, .slice D2 l2 dd2] wz fun e w' => e = .returned (.bool true) ∧ Below wz.heap.size wz w'))
  have HIS1 := Lib.hid (fun (wz : World) (hz : Below w10.heap.size w10 wz) => HIS.out wz (c10.trans (hz.mono c10.size)) _ (checkO_ok K R T W 4096) _ _ (he10.below hz) (hu10.below hz).want)
  have HIS2 := Lib.hid (fun (wz : World) (hz : Below w10.heap.size w10 wz) => HIS.out wz (c10.trans (hz.mono c10.size)) _ (checkO_ok K R T W 256) _ _ (he810.below hz) (hu910.below hz).want)
  have k1 : (hv0 != hv0) = false := by simp
  have HCA := Lib.hid (fun (wz : World) (hz : Below w10.heap.size w10 wz) => (⟨hC10.below hz, hD10.below hz⟩ : _ ∧ _))
  have HEV := Lib.hid (fun (wz : World) (hz : Below w10.heap.size w10 wz) => he10.below hz)
  have HC10 := Lib.hid c10
  clear hw10 b910 b79 b710 he7 hu7 hC7 hD7 hC27 hD27 hx7 he8 hu9 b9 b8 c7 c8 c9' c10 he10 hu10 hC10 hD10 hC210 hD210 hx10 he810 hu910 hy10
  go_wp2_with fail
  rw [HW10.out]
  refine (HI1.out w10 (Below.refl _ _)).mono ?_
  rintro e w11 ⟨rfl, b11⟩
  go_wp2_with fail
  refine (HI2.out w11 b11).mono ?_
  rintro e w12 ⟨rfl, b12⟩
  have c12 := b11.trans (b12.mono b11.size)
  obtain ⟨⟨s0, s1, s2, _⟩, _⟩ := HX.out w12 c12
  go_wp2_with fail
  refine (HIS1.out w12 c12).mono ?_
  rintro e w13 ⟨rfl, b13⟩
  have c13 := c12.trans (b13.mono c12.size)
  obtain ⟨_, ⟨s0, s1, s2, _⟩⟩ := HX.out w13 c13
  go_wp2_with fail
  refine (HIS2.out w13 c13).mono ?_
  rintro e w14 ⟨rfl, b14⟩
  have c14 := c13.trans (b14.mono c13.size)
  have c414 := HC10.out.trans (c14.mono HC10.out.size)
  obtain ⟨x0, x1, x2, y0, y1, y2⟩ := HF.out w14 c414
  go_wp2_with fail
  refine (HKP.out w14 c414).mono ?_
  rintro e w15 ⟨rfl, b15⟩
  have c415 := c414.trans (b15.mono c414.size)
  have c15 := c14.trans (b15.mono c14.size)
  go_wp2_with fail
  refine (HKW.out w15 c415).mono ?_
  rintro e w16 ⟨rfl, b16⟩
  have c416 := c415.trans (b16.mono c415.size)
  have c16 := c15.trans (b16.mono c15.size)
  have HBW := Lib.hid (HB4.out.trans (c416.mono HB4.out.size))
  have HC416 := Lib.hid c416
  have HC16 := Lib.hid c16
  obtain ⟨x0, x1, x2, _⟩ := HF.out w16 c416
  have hev := HEV.out w16 c16
  obtain ⟨hca1, hca2⟩ := HCA.out w16 c16
  clear b11 b12 b13 b14 b15 b16 c12 c13 c14 c15 c16 c414 c415 c416 s0 s1 s2 y0 y1 y2 z0 z1 z2 q0 q1 q2 q3 q4 q5 j0 j1 j2 j3 j4 j5 HI1 HI2 HIS1 HIS2 HX HEV HCA
  obtain ⟨u, p, rfl⟩ := ErrIs.iface (show ErrIs w16 E tl.1 tl.2 v5 from by rw [HBD.out] at hev; exact hev)
  clear hev hca1 hca2
  go_wp2_with fail
  go_ret
  exact ⟨rfl, HBW.out⟩

set_option maxRecDepth 100000 in
set_option maxHeartbeats 8000000 in
theorem overPaths_good (w : World) (E : Nat → Addr) (hE : Errs w E) (hT : ErrT w) (k r : Nat) (A B : Option Addr) (n c m d : Nat) (t v : List Nat) (hS : Sl w A n ((ints t).map (Value.int .i64))) (hn : n ≤ c) (hz : c * 8 ≤ 140737488351232)
    (hS1 : Sl w B m ((ints v).map (Value.int .i64))) (hn1 : m ≤ d) (hz1 : d * 8 ≤ 140737488351232) (hr : IsRule k r t) (hsm : t.length ≤ 256) (hv : ∀ x ∈ v, x < k) (hm4 : m ≤ 4096) :
    Calls Tryd.prog 10 #[ruleV k r A n c, .slice B m d] w fun e w' => e = .returned (.bool true) ∧ Below w.heap.size w w' := by
  have hvl : v.length = m := by simpa [ints] using hS1.1
  have HCN := Lib.hid (checkO_good (most := 4096) hr hsm hv (by omega))
  have HR := Lib.hid hr
  have HV := Lib.hid hv
  have HVL := Lib.hid hvl
  have HM4 := Lib.hid hm4
  have HSM := Lib.hid hsm
  clear hr hv hvl hm4 hsm
  have hb0 := (Below.refl w.heap.size w).alloc (Nat.le_refl _) (.cells #[.int .i64 (k : Int), .int .i64 (r : Int), .slice A n c] 24)
  have HE := Lib.hid (hE.below hb0)
  have hr0 := RuleAt.new w (.int .i64 (k : Int)) (.int .i64 (r : Int)) (.slice A n c)
  have HLR := Lib.hid (fun (wz : World) (hz' : Below w.heap.size w wz) => lentRule_c wz (k : Int) (r : Int) A n c _ (hS.below hz') (ints_one (ints t)) (by omega))
  unfold ruleV at *
  go_enter Tryd.func10, Tryd.ntmps10
  go_wp2_with fail
  refine (awake8_c _ E HE.out).mono ?_
  rintro e w1 ⟨rfl, b1⟩
  have hr1 := hr0.below b1 (by simp)
  have hb1 := below_box b1
  obtain ⟨r0, r1, r2, _⟩ := hr1.facts
  clear b1
  go_wp2_with fail
  refine (HLR.out w1 hb1).mono ?_
  rintro e w2 ⟨g, rfl, hg, hown, b2⟩
  have hb2 := hb1.trans (b2.mono hb1.size)
  have hr2 := hr1.below b2 hr1.lt
  have hm3 := RuleAt.new w2 (.int .i64 (k : Int)) (.int .i64 (r : Int)) (.slice (some ⟨g, 0, none⟩) n (n + 2))
  have hr3 := hr2.alloc (.cells #[.int .i64 (k : Int), .int .i64 (r : Int), .slice (some ⟨g, 0, none⟩) n (n + 2)] 24)
  have hb3 := hb2.alloc hb2.size (.cells #[.int .i64 (k : Int), .int .i64 (r : Int), .slice (some ⟨g, 0, none⟩) n (n + 2)] 24)
  have ho3 := hown.alloc (.cells #[.int .i64 (k : Int), .int .i64 (r : Int), .slice (some ⟨g, 0, none⟩) n (n + 2)] 24)
  obtain ⟨w3, hw3⟩ : ∃ w3, w2.alloc (.cells #[.int .i64 (k : Int), .int .i64 (r : Int), .slice (some ⟨g, 0, none⟩) n (n + 2)] 24) = w3 := ⟨_, rfl⟩
  have HW3 := Lib.hid hw3
  rw [hw3] at hm3 hr3 hb3 ho3
  have HLE := Lib.hid (lent_c w3 B m d _ (hS1.below hb3) (ints_one (ints v)) (by omega))
  have hlr0 := hr3.lt
  have hlm0 := hm3.lt
  obtain ⟨x0, x1, x2, _⟩ := hr3.facts
  obtain ⟨y0, y1, y2, _⟩ := hm3.facts
  have HR3 := Lib.hid hr3
  have HM3 := Lib.hid hm3
  clear r0 r1 r2 hb2 b2 hr2 hr3 hm3 hw3
  go_wp2_with fail
  rw [HW3.out]
  refine (HLE.out).mono ?_
  rintro e w4 ⟨rfl, hown4, b4⟩
  have hb4 := hb3.trans (b4.mono hb3.size)
  have hr4 := HR3.out.below b4 HR3.out.lt
  have hm4 := HM3.out.below b4 HM3.out.lt
  have hS3 := (Sl.of_own ho3).below b4
  have hA3 : Sl w4 (some ⟨g, 0, none⟩) n ((ints t).map (Value.int .i64)) := sl_take' hS3 (by simpa using hS.1)
  have hS4 := Sl.of_own hown4
  have hA4 : Sl w4 (some ⟨w3.heap.size, 0, none⟩) m ((ints v).map (Value.int .i64)) := sl_take' hS4 (by simpa using hS1.1)
  have hSB := hS.below hb4
  have hSC := hS1.below hb4
  have HTB := Lib.hid (fun (wz : World) (hz : Below w4.heap.size w4 wz) => hSB.below hz)
  have HTW := Lib.hid (fun (wz : World) (hz : Below w4.heap.size w4 wz) => hSC.below hz)
  have HEE := Lib.hid (fun (wz : World) (hz : Below w4.heap.size w4 wz) => hE.below (hb4.trans (hz.mono hb4.size)))
  have HPA := Lib.hid (fun (wz : World) (hz : Below w4.heap.size w4 wz) => path_u wz E (HEE.out wz hz) (k : Int) (r : Int) (some ⟨g, 0, none⟩) (some ⟨w3.heap.size, 0, none⟩) n (n + 2) m (m + 2) (ints t) (ints v) (hA3.below hz) (by omega) (hA4.below hz) (by omega))
  have HRP := Lib.hid (fun (wz : World) (hz : Below w4.heap.size w4 wz) => refPath_u wz (k : Int) (r : Int) A B n c m d (ints t) (ints v) (hSB.below hz) (by omega) (hSC.below hz) (by omega) hn1 (by omega))
  have HHA := Lib.hid (fun (wz : World) (hz : Below w4.heap.size w4 wz) => has_u wz E (HEE.out wz hz) (k : Int) (r : Int) (some ⟨g, 0, none⟩) (some ⟨w3.heap.size, 0, none⟩) n (n + 2) m (m + 2) (ints t) (ints v) (hA3.below hz) (by omega) (hA4.below hz) (by omega))
  have HRH := Lib.hid (fun (wz : World) (hz : Below w4.heap.size w4 wz) => refHas_u wz (k : Int) (r : Int) A B n c m d (ints t) (ints v) (hSB.below hz) (by omega) (hSC.below hz) (by omega))
  have HKP := Lib.hid (fun (wz : World) (hz : Below w4.heap.size w4 wz) => keptRule_c wz (k : Int) (r : Int) (some ⟨g, 0, none⟩) A n (n + 2) c (ints t) (hSB.below hz) (hS3.below hz) (Nat.le_refl _) (by simp only [maxLen]; omega))
  have HKW := Lib.hid (fun (wz : World) (hz : Below w4.heap.size w4 wz) => kept_c wz (some ⟨w3.heap.size, 0, none⟩) B m (m + 2) d (ints v) (hSC.below hz) (hS4.below hz) (Nat.le_refl _) (by simp only [maxLen]; omega))
  have HIS := Lib.hid (fun (wz : World) (hz : Below w4.heap.size w4 wz) (t : Option Tale) (ht : TaleOk t) (v u : Value) (hv : ErrV wz E t v) (hu : WantV wz t u) => rawIs_c wz E (HEE.out wz hz) (hT.below (hb4.trans (hz.mono hb4.size))) t ht v u hv hu)
  have HF := Lib.hid (fun (wz : World) (hz : Below w4.heap.size w4 wz) => (⟨cell_later hz hr4.facts.1, cell_later hz hr4.facts.2.1, cell_later hz hr4.facts.2.2.1, cell_later hz hm4.facts.1, cell_later hz hm4.facts.2.1, cell_later hz hm4.facts.2.2.1⟩ :
    wz.cell? ⟨w.heap.size, 0, none⟩ = some (.int .i64 (k : Int)) ∧ wz.cell? ⟨w.heap.size, 1, none⟩ = some (.int .i64 (r : Int)) ∧ wz.cell? ⟨w.heap.size, 2, none⟩ = some (.slice A n c) ∧
    wz.cell? ⟨w2.heap.size, 0, none⟩ = some (.int .i64 (k : Int)) ∧ wz.cell? ⟨w2.heap.size, 1, none⟩ = some (.int .i64 (r : Int)) ∧ wz.cell? ⟨w2.heap.size, 2, none⟩ = some (.slice (some ⟨g, 0, none⟩) n (n + 2))))
  have HB4 := Lib.hid hb4
  have hlr := hr4.lt
  have hlm := hm4.lt
  clear hE hT hS hS1 hb3 ho3 hS3 hA3 hSB hSC hown hr1 hb1 HLR hr0 hb0 hr4 hm4 hb4 hown4 b4 hS4 hA4 x0 x1 x2 y0 y1 y2
  obtain ⟨P1, hP1⟩ : ∃ P1, (pathL (k : Int) (r : Int) (ints t) (ints v)).1 = P1 := ⟨_, rfl⟩
  obtain ⟨P2, hP2⟩ : ∃ P2, (pathL (k : Int) (r : Int) (ints t) (ints v)).2 = P2 := ⟨_, rfl⟩
  obtain ⟨hv0, hhv0⟩ : ∃ hv0, hasU (k : Int) (r : Int) (ints t) (ints v) = hv0 := ⟨_, rfl⟩
  rw [hP1, hP2] at HPA HRP
  rw [hhv0] at HHA HRH
  have HP1 := Lib.hid hP1
  have HP2 := Lib.hid hP2
  clear hP1 hP2 hhv0
  unfold ruleV at *
  obtain ⟨l1, hl1⟩ : ∃ l1, P1.length = l1 := ⟨_, rfl⟩
  obtain ⟨l2, hl2⟩ : ∃ l2, P2.length = l2 := ⟨_, rfl⟩
  rw [hl1, hl2] at HPA HRP
  have HL1 := Lib.hid hl1
  have HL2 := Lib.hid hl2
  have hlb1 : l1 ≤ 9223372036854775807 ∧ l2 ≤ 9223372036854775807 := by
    rw [← hl1, ← hl2, ← HP1.out, ← HP2.out]
    cases hck : checkO (k : Int) (r : Int) (ints t) (ints v) 4096 with
    | some t => rw [pathL_bad hck]; simp
    | none =>
      rw [pathL_good hck]
      have h1 := HVL.out
      have h2 := HM4.out
      simp only [ints_len, nodesW, nodesTo_len, image_len]
      omega
  obtain ⟨hq1, hq2⟩ := hlb1
  clear hl1 hl2
  obtain ⟨x0, x1, x2, y0, y1, y2⟩ := HF.out w4 (Below.refl _ _)
  go_wp2_with fail
  refine (HPA.out w4 (Below.refl _ _)).mono ?_
  rintro e w5 ⟨C, cc, D, dd, v5, rfl, hC5, hD5, he5, b5⟩
  obtain ⟨x0, x1, x2, y0, y1, y2⟩ := HF.out w5 b5
  go_wp2_with fail
  refine (HRP.out w5 b5).mono ?_
  rintro e w6 ⟨C2, cc2, D2, dd2, N6, A6, n6, c6, F6, m6, d6, rfl, hC6, hD6, hu6, b6⟩
  have c6' := b5.trans (b6.mono b5.size)
  have b67 : Below w6.heap.size w6 (w6.alloc (.cells #[.int .i64 (N6 : Int), .slice A6 n6 c6, .slice F6 m6 d6] 60)) := (Below.refl _ _).alloc (Nat.le_refl _) _
  have he7 := (he5.below b6).below b67
  have hu7 := hu6.below b67
  have hC7 := (hC5.below b6).below b67
  have hD7 := (hD5.below b6).below b67
  have hC27 := hC6.below b67
  have hD27 := hD6.below b67
  have hx7 := WantAt.new w6 (.int .i64 (N6 : Int)) (.slice A6 n6 c6) (.slice F6 m6 d6)
  have c7 := c6'.trans (b67.mono c6'.size)
  obtain ⟨w7, hw7⟩ : ∃ w7, w6.alloc (.cells #[.int .i64 (N6 : Int), .slice A6 n6 c6, .slice F6 m6 d6] 60) = w7 := ⟨_, rfl⟩
  have HW7 := Lib.hid hw7
  rw [hw7] at c7 he7 hu7 hx7 hC7 hD7 hC27 hD27
  have hlt1 : w2.heap.size < w6.heap.size := by have := c6'.size; omega
  have hlt2 : w.heap.size < w6.heap.size := by have := c6'.size; omega
  obtain ⟨j0, j1, j2, j3, j4, j5⟩ := HF.out w6 c6'
  obtain ⟨x0, x1, x2, y0, y1, y2⟩ := HF.out w7 c7
  clear hw7 b67 he5 hu6 hC5 hD5 hC6 hD6 b6 c6' b5
  go_wp2_with fail
  rw [HW7.out]
  refine (HHA.out w7 c7).mono ?_
  rintro e w8 ⟨v8, rfl, he8, b8⟩
  have c8 := c7.trans (b8.mono c7.size)
  obtain ⟨x0, x1, x2, y0, y1, y2⟩ := HF.out w8 c8
  go_wp2_with fail
  refine (HRH.out w8 c8).mono ?_
  rintro e w9 ⟨N9, A9, n9, c9, F9, m9, d9, rfl, hu9, b9⟩
  have c9' := c8.trans (b9.mono c8.size)
  have b79 := b8.trans (b9.mono b8.size)
  have b910 : Below w9.heap.size w9 (w9.alloc (.cells #[.int .i64 (N9 : Int), .slice A9 n9 c9, .slice F9 m9 d9] 60)) := (Below.refl _ _).alloc (Nat.le_refl _) _
  have b710 := b79.trans (b910.mono b79.size)
  have c10 := c7.trans (b710.mono c7.size)
  have he10 := he7.below b710
  have hu10 := hu7.below b710
  have hC10 := hC7.below b710
  have hD10 := hD7.below b710
  have hC210 := hC27.below b710
  have hD210 := hD27.below b710
  have hx10 := hx7.below b710 hx7.lt
  have he810 := (he8.below b9).below b910
  have hu910 := hu9.below b910
  have hy10 := WantAt.new w9 (.int .i64 (N9 : Int)) (.slice A9 n9 c9) (.slice F9 m9 d9)
  obtain ⟨w10, hw10⟩ : ∃ w10, w9.alloc (.cells #[.int .i64 (N9 : Int), .slice A9 n9 c9, .slice F9 m9 d9] 60) = w10 := ⟨_, rfl⟩
  have HW10 := Lib.hid hw10
  rw [hw10] at c10 he10 hu10 hC10 hD10 hC210 hD210 hx10 he810 hu910 hy10
  have hlt3 : w2.heap.size < w9.heap.size := by have := c9'.size; omega
  have hlt4 : w.heap.size < w9.heap.size := by have := c9'.size; omega
  have hlt5 : w6.heap.size < w9.heap.size := by have := b79.size; have := hx7.lt; omega
  obtain ⟨q0, q1, q2, q3, q4, q5⟩ := HF.out w9 c9'
  obtain ⟨z0, z1, z2, _⟩ := (hx7.below b79 hx7.lt).facts
  have HX := Lib.hid (fun (wz : World) (hz : Below w10.heap.size w10 wz) => (⟨(hx10.below hz hx10.lt).facts, (hy10.below hz hy10.lt).facts⟩ : _ ∧ _))
  have HI1 := Lib.hid (fun (wz : World) (hz : Below w10.heap.size w10 wz) => (by
    have h1 := ints_b wz C C2 l1 l1 cc cc2 P1 P1 (hC10.below hz) (hC210.below hz) hq1 hq1
    rw [decide_eq_true rfl] at h1
    exact h1 : Calls Tryd.prog 26 #[.slice C l1 cc, .slice C2 l1 cc2] wz fun e w' => e = .returned (.bool true) ∧ Below wz.heap.size wz w'))
  have HI2 := Lib.hid (fun (wz : World) (hz : Below w10.heap.size w10 wz) => (by
    have h1 := ints_b wz D D2 l2 l2 dd dd2 P2 P2 (hD10.below hz) (hD210.below hz) hq2 hq2
    rw [decide_eq_true rfl] at h1
    exact h1 : Calls Tryd.prog 26 #[.slice D l2 dd, .slice D2 l2 dd2] wz fun e w' => e = .returned (.bool true) ∧ Below wz.heap.size wz w'))
  have HIS1 := Lib.hid (fun (wz : World) (hz : Below w10.heap.size w10 wz) => HIS.out wz (c10.trans (hz.mono c10.size)) _ (checkO_ok (k : Int) (r : Int) (ints t) (ints v) 4096) _ _ (he10.below hz) (hu10.below hz).want)
  have HIS2 := Lib.hid (fun (wz : World) (hz : Below w10.heap.size w10 wz) => HIS.out wz (c10.trans (hz.mono c10.size)) _ (checkO_ok (k : Int) (r : Int) (ints t) (ints v) 256) _ _ (he810.below hz) (hu910.below hz).want)
  have k1 : (hv0 != hv0) = false := by simp
  have HCA := Lib.hid (fun (wz : World) (hz : Below w10.heap.size w10 wz) => (⟨hC10.below hz, hD10.below hz⟩ : _ ∧ _))
  have HEV := Lib.hid (fun (wz : World) (hz : Below w10.heap.size w10 wz) => he10.below hz)
  have HC10 := Lib.hid c10
  clear hw10 b910 b79 b710 he7 hu7 hC7 hD7 hC27 hD27 hx7 he8 hu9 b9 b8 c7 c8 c9' c10 he10 hu10 hC10 hD10 hC210 hD210 hx10 he810 hu910 hy10
  go_wp2_with fail
  rw [HW10.out]
  refine (HI1.out w10 (Below.refl _ _)).mono ?_
  rintro e w11 ⟨rfl, b11⟩
  go_wp2_with fail
  refine (HI2.out w11 b11).mono ?_
  rintro e w12 ⟨rfl, b12⟩
  have c12 := b11.trans (b12.mono b11.size)
  obtain ⟨⟨s0, s1, s2, _⟩, _⟩ := HX.out w12 c12
  go_wp2_with fail
  refine (HIS1.out w12 c12).mono ?_
  rintro e w13 ⟨rfl, b13⟩
  have c13 := c12.trans (b13.mono c12.size)
  obtain ⟨_, ⟨s0, s1, s2, _⟩⟩ := HX.out w13 c13
  go_wp2_with fail
  refine (HIS2.out w13 c13).mono ?_
  rintro e w14 ⟨rfl, b14⟩
  have c14 := c13.trans (b14.mono c13.size)
  have c414 := HC10.out.trans (c14.mono HC10.out.size)
  obtain ⟨x0, x1, x2, y0, y1, y2⟩ := HF.out w14 c414
  go_wp2_with fail
  refine (HKP.out w14 c414).mono ?_
  rintro e w15 ⟨rfl, b15⟩
  have c415 := c414.trans (b15.mono c414.size)
  have c15 := c14.trans (b15.mono c14.size)
  go_wp2_with fail
  refine (HKW.out w15 c415).mono ?_
  rintro e w16 ⟨rfl, b16⟩
  have c416 := c415.trans (b16.mono c415.size)
  have c16 := c15.trans (b16.mono c15.size)
  have HBW := Lib.hid (HB4.out.trans (c416.mono HB4.out.size))
  have HC416 := Lib.hid c416
  have HC16 := Lib.hid c16
  obtain ⟨x0, x1, x2, _⟩ := HF.out w16 c416
  have hev := HEV.out w16 c16
  obtain ⟨hca1, hca2⟩ := HCA.out w16 c16
  clear b11 b12 b13 b14 b15 b16 c12 c13 c14 c15 c16 c414 c415 c416 s0 s1 s2 y0 y1 y2 z0 z1 z2 q0 q1 q2 q3 q4 q5 j0 j1 j2 j3 j4 j5 HI1 HI2 HIS1 HIS2 HX HEV HCA
  rw [HCN.out] at hev
  obtain rfl : v5 = .nilIface := hev
  have hpl := pathL_good HCN.out
  have hP1 : P1 = ints (nodesW k r v) := by rw [← HP1.out, hpl]
  have hP2 : P2 = ints (image k r t v) := by rw [← HP2.out, hpl]
  have hl1 : l1 = m + 1 - 2 * r := by rw [← HL1.out, hP1, ints_len]; unfold nodesW; rw [nodesTo_len, HVL.out]
  have hl2 : l2 = m - 2 * r := by rw [← HL2.out, hP2, ints_len, image_len, HVL.out]
  rw [hP1] at hca1
  rw [hP2] at hca2
  have hr3 := HR.out.r3
  have hk1 := HR.out.k1
  have hk4 := HR.out.k4
  have HCC := Lib.hid (fun (wz : World) (hz : Below w16.heap.size w16 wz) => hca1.below hz)
  have HDD := Lib.hid (fun (wz : World) (hz : Below w16.heap.size w16 wz) => hca2.below hz)
  have HT16 := Lib.hid (fun (wz : World) (hz : Below w16.heap.size w16 wz) => HTB.out wz (HC416.out.trans (hz.mono HC416.out.size)))
  have HW16 := Lib.hid (fun (wz : World) (hz : Below w16.heap.size w16 wz) => HTW.out wz (HC416.out.trans (hz.mono HC416.out.size)))
  have HE16 := Lib.hid (fun (wz : World) (hz : Below w16.heap.size w16 wz) => HEE.out wz (HC416.out.trans (hz.mono HC416.out.size)))
  have HF16 := Lib.hid (fun (wz : World) (hz : Below w16.heap.size w16 wz) => (by
    obtain ⟨a1, a2, a3, _⟩ := HF.out wz (HC416.out.trans (hz.mono HC416.out.size))
    exact ⟨a1, a2, a3⟩ : wz.cell? ⟨w.heap.size, 0, none⟩ = some (.int .i64 (k : Int)) ∧ wz.cell? ⟨w.heap.size, 1, none⟩ = some (.int .i64 (r : Int)) ∧ wz.cell? ⟨w.heap.size, 2, none⟩ = some (.slice A n c)))
  have hst := step_m w16 E (HE16.out w16 (Below.refl _ _)) k r A B n c m d l2 t v HR.out HV.out (HT16.out w16 (Below.refl _ _)) (HW16.out w16 (Below.refl _ _)) HM4.out (by rw [HVL.out, hl2])
  unfold ruleV at hst
  have HST := Lib.hid hst
  have HL1' := Lib.hid hl1
  have HL2' := Lib.hid hl2
  have hm4096 := HM4.out
  clear hst hpl hP1 hP2 hl1 hl2 hca1 hca2 HPA HRP HHA HRH HKP HKW HIS HF HTB HTW HEE
  go_wp2_with fail
  refine (HST.out).mono ?_
  rintro e w17 ⟨Y, yc, rfl, hown17, b17⟩
  have hY17 := Sl.of_own hown17
  have hi17 := ints_b w17 Y D l2 l2 yc dd _ _ hY17 (HDD.out w17 b17) hq2 hq2
  rw [decide_eq_true rfl] at hi17
  have HI17 := Lib.hid hi17
  have HY := Lib.hid (fun (wz : World) (hz : Below w17.heap.size w17 wz) => hY17.below hz)
  have HB17 := Lib.hid b17
  clear hown17 hY17 hi17 b17
  go_wp2_with fail
  refine (HI17.out).mono ?_
  rintro e w18 ⟨rfl, b18⟩
  have c18 := HB17.out.trans (b18.mono HB17.out.size)
  obtain ⟨x0, x1, x2⟩ := HF16.out w18 c18
  have HB18 := Lib.hid c18
  have HBS := Lib.hid b18
  have s1 : IntKind.i64.wrap (2 * (r : Int)) = 2 * (r : Int) := IntWalk.i64_in _ (by omega)
  have s2 : IntKind.i64.wrap ((m : Int) - 2 * (r : Int)) = (m : Int) - 2 * (r : Int) := IntWalk.i64_in _ (by omega)
  clear b18 c18
  have HBSZ := Lib.hid HB18.out.size
  have HBWS := Lib.hid HBW.out.size
  rcases Nat.lt_or_ge m (2 * r) with hms | hms
  · have hl0 : l1 = 0 := by have := HL1'.out; omega
    have s3 : IntKind.i64.wrap ((m : Int) - 2 * (r : Int) + 1) = (m : Int) - 2 * (r : Int) + 1 := IntWalk.i64_in _ (by omega)
    have s4 : ¬ (0 < (m : Int) - 2 * (r : Int) + 1) := by omega
    have s6 : (m : Int) - 2 * (r : Int) + 1 ≤ 0 := by omega
    have s7 : ((l1 : Int) != 0) = false := by rw [hl0]; rfl
    clear hl0
    go_wp2_with fail
    clear s2 s3 s4 s6 s7
    go_loopw [19] (fun tv wr => ∃ i : Nat, i ≤ 300 ∧ (i + 1 ≤ l1 ∨ i = 0) ∧ tv = .int .i64 (i : Int) ∧ Hid (Below w18.heap.size w18 wr)) (fun tv _ => 300 - (intOf tv).toNat)
    case atStart => exact ⟨0, by omega, Or.inr rfl, rfl, Lib.hid (Below.refl _ _)⟩
    case round =>
      clear x0 x1 x2
      obtain ⟨i, hi, hil, rfl, hb⟩ := hrel
      have c16 := HB18.out.trans (hb.out.mono HBSZ.out)
      obtain ⟨x0, x1, x2⟩ := HF16.out wr c16
      have HC16' := Lib.hid c16
      by_cases hlt : i + 1 < l1 ∧ i < 300
      · obtain ⟨h1, h2⟩ := hlt
        have him : i + 2 * r < m := by have := HL1'.out; omega
        have hil2 : i < l2 := by have := HL2'.out; omega
        obtain ⟨hp1, hp2⟩ := path_step (t := t) HV.out (i := i) (by rw [HVL.out]; exact him)
        obtain ⟨ca, hca, cell1⟩ := int_eq_cell (HCC.out wr c16) (show i < l1 by omega)
        obtain ⟨ca', hca', cell2⟩ := int_eq_cell (HCC.out wr c16) h1
        obtain ⟨xa, hxa, cell3⟩ := int_eq_cell (HW16.out wr c16) him
        obtain ⟨da, hda, cell4⟩ := int_eq_cell (HDD.out wr c16) hil2
        rw [hca] at hca'
        obtain rfl : ca = ca' := Option.some.inj hca'
        rw [nodes_at (by rw [HVL.out]; omega)] at cell1 cell2
        have hu1 := wval_lt (win_sym HV.out i (2 * r))
        rw [win_len (by rw [HVL.out]; omega)] at hu1
        have hs1 := HV.out _ (List.mem_of_getElem? (show v[i + 2 * r]? = some (v.getD (i + 2 * r) 0) by rw [List.getD_eq_getElem?_getD, List.getElem?_eq_getElem (by rw [HVL.out]; exact him)]; rfl))
        have HED := Lib.hid (fun (wz : World) (hz : Below w16.heap.size w16 wz) => (by
          have q1 := edge_good wz E (HE16.out wz hz) k r _ _ A n c t (HT16.out wz hz) HR.out HSM.out hu1 hs1
          rw [hp1, ← hp2] at q1
          unfold ruleV at q1
          exact q1 : Calls Tryd.prog 39 #[.agg #[.int .i64 (k : Int), .int .i64 (r : Int), .slice A n c], .int .i64 ((wval k (win v i (2 * r)) : Nat) : Int), .int .i64 ((v.getD (i + 2 * r) 0 : Nat) : Int)] wz fun e w' => e = .returned (.tuple #[.int .i64 ((wval k (win v (i + 1) (2 * r)) : Nat) : Int), .int .i64 (((image k r t v).getD i 0 : Nat) : Int), .nilIface]) ∧ Below wz.heap.size wz w'))
        obtain ⟨u1, hu1e⟩ : ∃ u1, wval k (win v i (2 * r)) = u1 := ⟨_, rfl⟩
        obtain ⟨u2, hu2e⟩ : ∃ u2, wval k (win v (i + 1) (2 * r)) = u2 := ⟨_, rfl⟩
        obtain ⟨sv, hsv⟩ : ∃ sv, v.getD (i + 2 * r) 0 = sv := ⟨_, rfl⟩
        obtain ⟨lb, hlb⟩ : ∃ lb, (image k r t v).getD i 0 = lb := ⟨_, rfl⟩
        obtain ⟨ix, hix⟩ : ∃ ix, i + 2 * r = ix := ⟨_, rfl⟩
        rw [hu1e] at cell1 HED
        rw [hu2e] at cell2 HED
        rw [hsv] at cell3 HED
        rw [hlb] at cell4 HED
        have t1 : IntKind.i64.wrap ((i : Int) + 2 * (r : Int)) = (ix : Int) := by
          rw [show (i : Int) + 2 * (r : Int) = (ix : Int) by omega]
          exact IntWalk.i64_in _ (by omega)
        rw [hix] at cell3 him
        have t2 : (0 : Int) ≤ (ix : Int) := by omega
        have t3 : (ix : Int) < (m : Int) := by omega
        have t4 : (0 : Int) ≤ (i : Int) := by omega
        have t5 : (i : Int) < (l1 : Int) := by omega
        have t6 : (i : Int) + 1 < (l1 : Int) := by omega
        have t7 : (i : Int) < 300 := by omega
        have t8 : (i : Int) < (l2 : Int) := by omega
        have k2 : ((u2 : Int) != (u2 : Int)) = false := by simp
        have k3 : ((lb : Int) != (lb : Int)) = false := by simp
        subst hca
        subst hxa
        subst hda
        clear hp1 hp2 hca' hu1 hs1 hu1e hu2e hsv hlb hix c16
        go_wp2_with fail
        go_region_held3 (fun w' => w'.cell? ⟨w.heap.size, 0, none⟩ = some (.int .i64 (k : Int)) ∧ w'.cell? ⟨w.heap.size, 1, none⟩ = some (.int .i64 (r : Int)) ∧ w'.cell? ⟨w.heap.size, 2, none⟩ = some (.slice A n c) ∧ w'.cell? (ca.add i) = some (.int .i64 (u1 : Int)) ∧ w'.cell? (xa.add ix) = some (.int .i64 (sv : Int)))
          (first | (refine ⟨?_, ?_, ?_, ?_, ?_⟩ <;> assumption) | go_keep)
          (first
            | (go_at_call 39
               refine (HED.out _ (HC16'.out.drew)).mono ?_
               rintro e7 w19 ⟨rfl, b19⟩
               have z0 := cell_later b19 x0
               have z1 := cell_later b19 x1
               have z2 := cell_later b19 x2
               have z3 := cell_later b19 cell1
               have z4 := cell_later b19 cell3
               have z5 := cell_later b19 cell2
               have z6 := cell_later b19 cell4
               have z7 : w19.cell? ⟨ca.block, ca.off + (i + 1), none⟩ = some (.int .i64 (u2 : Int)) := z5)
            | fail)
        have HB19 := Lib.hid (hb.out.trans (((Below.refl wr.heap.size wr).drew.trans b19).mono hb.out.size))
        clear b19 cell1 cell2 cell3 cell4 x0 x1 x2 HED hb z0 z2 z3 z4
        go_wp2_with fail
        exact ⟨⟨i + 1, by omega, Or.inl (by omega), by go_num, HB19⟩, by simp [intOf]; omega⟩
      · have hex : (l1 ≤ i + 1) ∨ (i + 1 < l1 ∧ i = 300) := by omega
        clear hlt
        rcases hex with hex | ⟨hex, hi3⟩
        all_goals
          have e1 : ¬ ((i : Int) < 300) ∨ True := Or.inr trivial
          clear e1
          by_cases hbig : 256 < l2
          · have hb1 : decide ((256 : Int) < (l2 : Int)) = true := decide_eq_true (by omega)
            clear c16
            go_wp2_with fail
            go_ret
            exact ⟨rfl, HBW.out.trans (HC16'.out.mono (HBWS.out))⟩
          · have hb1 : decide ((256 : Int) < (l2 : Int)) = false := decide_eq_false (by omega)
            have hy := HY.out wr (HBS.out.trans (hb.out.mono HBS.out.size))
            have hh := has_good wr E (HE16.out wr c16) k r A Y n c l2 yc t (image k r t v) HR.out HSM.out (image_sym HR.out HV.out) (HT16.out wr c16) hy (by omega)
            rw [has_image HR.out HV.out] at hh
            unfold ruleV at hh
            have HH := Lib.hid hh
            clear hy hh c16
            go_wp2_with fail
            refine (HH.out).mono ?_
            rintro e9 w20 ⟨rfl, b20⟩
            have HB20 := Lib.hid (HC16'.out.trans (b20.mono HC16'.out.size))
            clear b20
            go_wp2_with fail
            go_ret
            exact ⟨rfl, HBW.out.trans (HB20.out.mono (HBWS.out))⟩
  · have s3 : IntKind.i64.wrap ((m : Int) - 2 * (r : Int) + 1) = (l1 : Int) := by
      rw [show (m : Int) - 2 * (r : Int) + 1 = (l1 : Int) by have := HL1'.out; omega]
      exact IntWalk.i64_in _ (by omega)
    have s4 : 0 < l1 := by have := HL1'.out; omega
    have s5 : ((l1 : Int) != (l1 : Int)) = false := by simp
    go_wp2_with fail
    clear s2 s3 s4 s5
    go_loopw [19] (fun tv wr => ∃ i : Nat, i ≤ 300 ∧ (i + 1 ≤ l1 ∨ i = 0) ∧ tv = .int .i64 (i : Int) ∧ Hid (Below w18.heap.size w18 wr)) (fun tv _ => 300 - (intOf tv).toNat)
    case atStart => exact ⟨0, by omega, Or.inr rfl, rfl, Lib.hid (Below.refl _ _)⟩
    case round =>
      clear x0 x1 x2
      obtain ⟨i, hi, hil, rfl, hb⟩ := hrel
      have c16 := HB18.out.trans (hb.out.mono HBSZ.out)
      obtain ⟨x0, x1, x2⟩ := HF16.out wr c16
      have HC16' := Lib.hid c16
      by_cases hlt : i + 1 < l1 ∧ i < 300
      · obtain ⟨h1, h2⟩ := hlt
        have him : i + 2 * r < m := by have := HL1'.out; omega
        have hil2 : i < l2 := by have := HL2'.out; omega
        obtain ⟨hp1, hp2⟩ := path_step (t := t) HV.out (i := i) (by rw [HVL.out]; exact him)
        obtain ⟨ca, hca, cell1⟩ := int_eq_cell (HCC.out wr c16) (show i < l1 by omega)
        obtain ⟨ca', hca', cell2⟩ := int_eq_cell (HCC.out wr c16) h1
        obtain ⟨xa, hxa, cell3⟩ := int_eq_cell (HW16.out wr c16) him
        obtain ⟨da, hda, cell4⟩ := int_eq_cell (HDD.out wr c16) hil2
        rw [hca] at hca'
        obtain rfl : ca = ca' := Option.some.inj hca'
        rw [nodes_at (by rw [HVL.out]; omega)] at cell1 cell2
        have hu1 := wval_lt (win_sym HV.out i (2 * r))
        rw [win_len (by rw [HVL.out]; omega)] at hu1
        have hs1 := HV.out _ (List.mem_of_getElem? (show v[i + 2 * r]? = some (v.getD (i + 2 * r) 0) by rw [List.getD_eq_getElem?_getD, List.getElem?_eq_getElem (by rw [HVL.out]; exact him)]; rfl))
        have HED := Lib.hid (fun (wz : World) (hz : Below w16.heap.size w16 wz) => (by
          have q1 := edge_good wz E (HE16.out wz hz) k r _ _ A n c t (HT16.out wz hz) HR.out HSM.out hu1 hs1
          rw [hp1, ← hp2] at q1
          unfold ruleV at q1
          exact q1 : Calls Tryd.prog 39 #[.agg #[.int .i64 (k : Int), .int .i64 (r : Int), .slice A n c], .int .i64 ((wval k (win v i (2 * r)) : Nat) : Int), .int .i64 ((v.getD (i + 2 * r) 0 : Nat) : Int)] wz fun e w' => e = .returned (.tuple #[.int .i64 ((wval k (win v (i + 1) (2 * r)) : Nat) : Int), .int .i64 (((image k r t v).getD i 0 : Nat) : Int), .nilIface]) ∧ Below wz.heap.size wz w'))
        obtain ⟨u1, hu1e⟩ : ∃ u1, wval k (win v i (2 * r)) = u1 := ⟨_, rfl⟩
        obtain ⟨u2, hu2e⟩ : ∃ u2, wval k (win v (i + 1) (2 * r)) = u2 := ⟨_, rfl⟩
        obtain ⟨sv, hsv⟩ : ∃ sv, v.getD (i + 2 * r) 0 = sv := ⟨_, rfl⟩
        obtain ⟨lb, hlb⟩ : ∃ lb, (image k r t v).getD i 0 = lb := ⟨_, rfl⟩
        obtain ⟨ix, hix⟩ : ∃ ix, i + 2 * r = ix := ⟨_, rfl⟩
        rw [hu1e] at cell1 HED
        rw [hu2e] at cell2 HED
        rw [hsv] at cell3 HED
        rw [hlb] at cell4 HED
        have t1 : IntKind.i64.wrap ((i : Int) + 2 * (r : Int)) = (ix : Int) := by
          rw [show (i : Int) + 2 * (r : Int) = (ix : Int) by omega]
          exact IntWalk.i64_in _ (by omega)
        rw [hix] at cell3 him
        have t2 : (0 : Int) ≤ (ix : Int) := by omega
        have t3 : (ix : Int) < (m : Int) := by omega
        have t4 : (0 : Int) ≤ (i : Int) := by omega
        have t5 : (i : Int) < (l1 : Int) := by omega
        have t6 : (i : Int) + 1 < (l1 : Int) := by omega
        have t7 : (i : Int) < 300 := by omega
        have t8 : (i : Int) < (l2 : Int) := by omega
        have k2 : ((u2 : Int) != (u2 : Int)) = false := by simp
        have k3 : ((lb : Int) != (lb : Int)) = false := by simp
        subst hca
        subst hxa
        subst hda
        clear hp1 hp2 hca' hu1 hs1 hu1e hu2e hsv hlb hix c16
        go_wp2_with fail
        go_region_held3 (fun w' => w'.cell? ⟨w.heap.size, 0, none⟩ = some (.int .i64 (k : Int)) ∧ w'.cell? ⟨w.heap.size, 1, none⟩ = some (.int .i64 (r : Int)) ∧ w'.cell? ⟨w.heap.size, 2, none⟩ = some (.slice A n c) ∧ w'.cell? (ca.add i) = some (.int .i64 (u1 : Int)) ∧ w'.cell? (xa.add ix) = some (.int .i64 (sv : Int)))
          (first | (refine ⟨?_, ?_, ?_, ?_, ?_⟩ <;> assumption) | go_keep)
          (first
            | (go_at_call 39
               refine (HED.out _ (HC16'.out.drew)).mono ?_
               rintro e7 w19 ⟨rfl, b19⟩
               have z0 := cell_later b19 x0
               have z1 := cell_later b19 x1
               have z2 := cell_later b19 x2
               have z3 := cell_later b19 cell1
               have z4 := cell_later b19 cell3
               have z5 := cell_later b19 cell2
               have z6 := cell_later b19 cell4
               have z7 : w19.cell? ⟨ca.block, ca.off + (i + 1), none⟩ = some (.int .i64 (u2 : Int)) := z5)
            | fail)
        have HB19 := Lib.hid (hb.out.trans (((Below.refl wr.heap.size wr).drew.trans b19).mono hb.out.size))
        clear b19 cell1 cell2 cell3 cell4 x0 x1 x2 HED hb z0 z2 z3 z4
        go_wp2_with fail
        exact ⟨⟨i + 1, by omega, Or.inl (by omega), by go_num, HB19⟩, by simp [intOf]; omega⟩
      · have hex : (l1 ≤ i + 1) ∨ (i + 1 < l1 ∧ i = 300) := by omega
        clear hlt
        rcases hex with hex | ⟨hex, hi3⟩
        all_goals
          have e1 : ¬ ((i : Int) < 300) ∨ True := Or.inr trivial
          clear e1
          by_cases hbig : 256 < l2
          · have hb1 : decide ((256 : Int) < (l2 : Int)) = true := decide_eq_true (by omega)
            clear c16
            go_wp2_with fail
            go_ret
            exact ⟨rfl, HBW.out.trans (HC16'.out.mono (HBWS.out))⟩
          · have hb1 : decide ((256 : Int) < (l2 : Int)) = false := decide_eq_false (by omega)
            have hy := HY.out wr (HBS.out.trans (hb.out.mono HBS.out.size))
            have hh := has_good wr E (HE16.out wr c16) k r A Y n c l2 yc t (image k r t v) HR.out HSM.out (image_sym HR.out HV.out) (HT16.out wr c16) hy (by omega)
            rw [has_image HR.out HV.out] at hh
            unfold ruleV at hh
            have HH := Lib.hid hh
            clear hy hh c16
            go_wp2_with fail
            refine (HH.out).mono ?_
            rintro e9 w20 ⟨rfl, b20⟩
            have HB20 := Lib.hid (HC16'.out.trans (b20.mono HC16'.out.size))
            clear b20
            go_wp2_with fail
            go_ret
            exact ⟨rfl, HBW.out.trans (HB20.out.mono (HBWS.out))⟩

theorem overPaths_c (w : World) (E : Nat → Addr) (hE : Errs w E) (hT : ErrT w) (K R : Int) (A B : Option Addr) (n c m d : Nat) (T W : List Int) (hS : Sl w A n (T.map (Value.int .i64))) (hn : n ≤ c) (hz : c * 8 ≤ 140737488351232)
    (hS1 : Sl w B m (W.map (Value.int .i64))) (hn1 : m ≤ d) (hz1 : d * 8 ≤ 140737488351232) :
    Calls Tryd.prog 10 #[ruleV K R A n c, .slice B m d] w fun e w' => e = .returned (.bool true) ∧ Below w.heap.size w w' := by
  cases h : checkO K R T W 4096 with
  | some tl => exact overPaths_bad w E hE hT K R A B n c m d T W hS hn hz hS1 hn1 hz1 tl h
  | none =>
    obtain ⟨k, r, t, v, rfl, rfl, rfl, rfl, hr, hl, hv, hs⟩ := checkO_none h
    have hvl : v.length = m := by simpa [ints] using hS1.1
    exact overPaths_good w E hE hT k r A B n c m d t v hS hn hz hS1 hn1 hz1 hr hl hs (by omega)
end Go.Proofs.YtfgjcdfmlpdkaaaDoor
