/- The call of FormsMirrors: it returns true. Condition: the table and the lists read from memory; the error variables hold what E says. -/
import Derived.Test.YtfgnghgmffaepaaDoorFormXY
import Derived.Test.YtfgnghgmffaepaaDoorFormI
import Derived.Test.YtfgnghgmffaepaaDoorLaw5A
import Derived.Test.YtfgnghgmffaepaaDoorCopyM
import Derived.Test.YtfgnghgmffaepaaDoorRanged
namespace Go.Proofs.YtfgnghgmffaepaaDoor
open Go.RowKit RuleP

set_option maxRecDepth 100000 in
theorem revNil_c (w : World) (cp : Nat) :
    Calls Tryd.prog 39 #[.slice none 0 cp] w fun e w' => e = .returned (.tuple #[]) ∧ w' = w := by
  go_enter Tryd.func39, Tryd.ntmps39
  go_wp2_with fail
  go_loop [2, 3] (fun iv jv => iv = .int .i64 0 ∧ jv = .int .i64 (-1)) (fun _ _ => 0)
  case atStart => exact ⟨rfl, rfl⟩
  case round =>
    obtain ⟨rfl, rfl⟩ := hrel
    go_wp2_with fail
    first | go_end0 | refine bodyPost_ret (results_none rfl _ _ _) rfl ?_
    exact ⟨rfl, rfl⟩
set_option maxRecDepth 100000 in
set_option maxHeartbeats 1000000 in
theorem wordBack_c (w : World) (B : Option Addr) (m d : Nat) (xs : List Int) (hB : Sl w B m (xs.map (Value.int .i64))) (hm : m ≤ 1000000) :
    Calls Tryd.prog 19 #[.slice B m d] w fun e w' => ∃ C c, e = .returned (.slice C m c) ∧ w'.ownsRow w.heap.size 3 1 (.slice C m c) m (xs.reverse.map (Value.int .i64)) ∧ Below w.heap.size w w' := by
  have HCL := Lib.hid (clone_c w B m d _ (ints_one (q := .i64) xs) (by omega) hB)
  clear hB
  go_enter Tryd.func19, Tryd.ntmps19
  go_wp2_with fail
  refine (HCL.out).mono ?_
  rintro e w1 ⟨C, cc, rfl, hC, hb1⟩
  rcases hC.2 with ⟨h, h0⟩ | ⟨g1, cap, cur, h, _⟩
  · injection h with h1 h2 h3
    subst h1 h2 h3
    have hx : xs = [] := by
      have h4 := hC.1
      rw [List.length_map] at h4
      exact List.eq_nil_of_length_eq_zero h4
    subst hx
    have HO := Lib.hid hC
    have HB1 := Lib.hid hb1
    clear hC hb1 h0
    have HRV := Lib.hid (revNil_c w1 0)
    go_wp2_with fail
    refine (HRV.out).mono ?_
    rintro e w2 ⟨rfl, rfl⟩
    go_wp2_with fail
    go_ret
    exact ⟨_, _, rfl, HO.out, HB1.out⟩
  · injection h with h1 h2 h3
    subst h1 h3
    have HRV := Lib.hid (reverse_c w1 w.heap.size g1 m cc xs hC hm)
    have HB1 := Lib.hid hb1
    have HGE := Lib.hid (hC.lt g1 rfl).1
    clear hb1 hC h2
    go_wp2_with fail
    refine (HRV.out).mono ?_
    rintro e w2 ⟨rfl, hC2, hk2⟩
    have HB2 := Lib.hid (HB1.out.trans (hk2.below HB1.out.size (fun b hb => by rw [show b = g1 from hb]; exact HGE.out)))
    have HC2 := Lib.hid hC2
    clear hC2 hk2
    go_wp2_with fail
    go_ret
    exact ⟨_, _, rfl, HC2.out, HB2.out⟩
set_option maxRecDepth 100000 in
set_option maxHeartbeats 1000000 in
theorem imageL_bad (w : World) (E : Nat → Addr) (hE : Errs w E) (K R : Int) (A B : Option Addr) (n c m d : Nat) (T V : List Int) (hT : Sl w A n (T.map (Value.int .i64))) (hm : n ≤ 9223372036854775807) (hV : Sl w B m (V.map (Value.int .i64))) (hm2 : m ≤ 9223372036854775807) (tl : Tale) (hbad : RuleP.step K R T V = .error tl) :
    Calls Tryd.prog 8 #[ruleV K R A n c, .slice B m d] w fun e w' => e = .returned (.tuple #[.slice none 0 0, .bool false]) ∧ Below w.heap.size w w' := by
  have hb0 := (Below.refl w.heap.size w).alloc (Nat.le_refl _) (.cells #[.int .i64 K, .int .i64 R, .slice A n c] 24)
  have hst := step_bad _ E (hE.below hb0) K R A B n c m d T V (hT.below hb0) hm (hV.below hb0) hm2 tl hbad
  unfold ruleV at *
  have HST := Lib.hid hst
  have HB0 := Lib.hid hb0
  clear hst hb0 hT hV hE hbad
  go_enter Tryd.func8, Tryd.ntmps8
  go_wp2_with fail
  refine (HST.out).mono ?_
  rintro e w1 ⟨v, rfl, he, hb⟩
  obtain ⟨u, p, rfl⟩ := he.iface
  have HB1 := Lib.hid (below_box hb)
  clear he hb
  go_wp2_with (go_quiet (fail))
  go_ret2
  exact ⟨rfl, below_drewN HB1.out _⟩

theorem bound_ints {k : Int} {V : List Int} (hk : 0 ≤ k) (h : ∀ x ∈ V, 0 ≤ x ∧ x < k) : ∃ v : List Nat, V = ints v ∧ ∀ y ∈ v, (y : Int) < k := by
  refine ⟨V.map Int.toNat, ?_, ?_⟩
  · unfold ints
    rw [List.map_map]
    refine ((List.map_congr_left fun x hx => ?_).trans (List.map_id _)).symm
    have := (h x hx).1
    show ((x.toNat : Nat) : Int) = x
    omega
  · intro y hy
    obtain ⟨x, hx, rfl⟩ := List.mem_map.1 hy
    have := h x hx
    omega
theorem step_cases (K R : Int) (T V : List Int) : (∃ tl, RuleP.step K R T V = .error tl) ∨
    ∃ (k r : Nat) (t v : List Nat), K = (k : Int) ∧ R = (r : Int) ∧ T = ints t ∧ V = ints v ∧ IsRule k r t ∧ (∀ x ∈ v, x < k) ∧ v.length ≤ 4096 := by
  unfold RuleP.step
  cases h1 : RuleP.check K R T with
  | some tl => exact .inl ⟨tl, rfl⟩
  | none =>
    obtain ⟨k, r, t, rfl, rfl, rfl, hr⟩ := check_none h1
    by_cases h2 : 4096 < V.length
    · exact .inl ⟨_, by simp only; rw [if_pos h2]⟩
    · cases h3 : odd (k : Int) V with
      | some i => exact .inl ⟨_, by simp only; rw [if_neg h2]⟩
      | none =>
        obtain ⟨v, rfl, hv⟩ := bound_ints (by omega) (odd_none h3)
        rw [ints_len] at h2
        exact .inr ⟨k, r, t, v, rfl, rfl, rfl, rfl, hr, fun x hx => by have := hv x hx; omega, by omega⟩
theorem own_mk (w : World) (g : Nat) (hg : w.heap.size = g) (n : Nat) (h : n ≤ maxLen) : (w.alloc (.cells (madeCells #[.int .i64 0] n) 3)).ownsRow g 3 1 (.slice (some ⟨g, 0, none⟩) n n) n ((ints (List.replicate n 0)).map (Value.int .i64)) := by
  subst hg
  exact make_ints w n h
theorem nam_set {p v : List Nat} {i x L : Nat} (hl : v.length = L) (hx : v[i]? = some x) (hi : i < L) : ((nam p v).take i ++ List.replicate (L - i) 0).set i (p.getD x 0) = (nam p v).take (i + 1) ++ List.replicate (L - (i + 1)) 0 := by
  have h1 : ((nam p v).take i).length = i := by rw [List.length_take, nam_len]; omega
  have h2 : (nam p v)[i]? = some (p.getD x 0) := by unfold nam; rw [List.getElem?_map, hx]; rfl
  rw [List.set_append, h1, if_neg (by omega), Nat.sub_self]
  rw [show L - i = (L - (i + 1)) + 1 by omega, List.replicate_succ, List.set_cons_zero, List.take_add_one, h2]
  simp
theorem part_at {a : List Nat} {i L : Nat} (hl : a.length = L) (hi : i < L) : (a.take i ++ List.replicate (L - i) 0)[i]? = some 0 := by
  rw [List.getElem?_append_right (by rw [List.length_take]; omega), List.length_take, hl, Nat.min_eq_left (by omega), Nat.sub_self, List.getElem?_replicate, if_pos (by omega)]
/-- The names back, as far as the first i symbols say them. -/
def invT (k : Nat) (p : List Nat) (i : Nat) : List Nat := (List.range k).map fun x => if pos p x < i then pos p x else 0
theorem invT_zero (k : Nat) (p : List Nat) : invT k p 0 = List.replicate k 0 := by
  unfold invT
  apply List.ext_getElem?
  intro j
  rw [List.getElem?_map, List.getElem?_replicate]
  by_cases h : j < k
  · rw [List.getElem?_range h, if_pos h]; simp
  · rw [List.getElem?_eq_none (by rw [List.length_range]; omega), if_neg h]; rfl
theorem invT_len (k : Nat) (p : List Nat) (i : Nat) : (invT k p i).length = k := by simp [invT]
theorem invT_all {k : Nat} {p : List Nat} (h : IsNames k p) : invT k p k = inv k p :=
  List.map_congr_left fun x hx => if_pos (pos_at h (List.mem_range.1 hx)).1
theorem invT_set {k : Nat} {p : List Nat} (h : IsNames k p) {i y : Nat} (hi : i < k) (hy : p[i]? = some y) : (invT k p i).set y i = invT k p (i + 1) := by
  have h1 := at_pos h hi
  rw [show p.getD i 0 = y by rw [List.getD_eq_getElem?_getD, hy]; rfl] at h1
  apply List.ext_getElem?
  intro j
  rw [List.getElem?_set]
  by_cases hj : y = j
  · subst hj
    rw [if_pos rfl, if_pos (by rw [invT_len]; exact h1.1)]
    unfold invT
    rw [List.getElem?_map, List.getElem?_range h1.1]
    simp only [Option.map_some]
    rw [h1.2, if_pos (by omega)]
  · rw [if_neg hj]
    unfold invT
    rw [List.getElem?_map, List.getElem?_map]
    by_cases hjk : j < k
    · rw [List.getElem?_range hjk]
      simp only [Option.map_some]
      have h2 := pos_at h hjk
      have h3 : pos p j ≠ i := fun e => hj (by
        have h4 := h2.2
        rw [e, List.getD_eq_getElem?_getD, hy] at h4
        exact h4)
      by_cases h5 : pos p j < i
      · rw [if_pos h5, if_pos (by omega)]
      · rw [if_neg h5, if_neg (by omega)]
    · rw [List.getElem?_eq_none (by rw [List.length_range]; omega)]
      rfl
theorem invT_at {k : Nat} {p : List Nat} {i y : Nat} (hy : y < k) : ∃ z, (invT k p i)[y]? = some z := ⟨_, List.getElem?_eq_getElem (by rw [invT_len]; exact hy)⟩

set_option maxRecDepth 100000 in
set_option maxHeartbeats 4000000 in
theorem formsMirrors_bad (w : World) (E : Nat → Addr) (hE : Errs w E) (K R : Int) (A B B2 : Option Addr) (n c m d m2 d2 : Nat) (T V Q : List Int) (hS : Sl w A n (T.map (Value.int .i64))) (hSw : Sl w B m (V.map (Value.int .i64))) (hSp : Sl w B2 m2 (Q.map (Value.int .i64))) (hm : n ≤ 9223372036854775807) (hm2 : m ≤ 9223372036854775807) (hm3 : m2 * 8 ≤ 140737488351232) (tl : Tale) (h : RuleP.step K R T V = .error tl) :
    Calls Tryd.prog 5 #[ruleV K R A n c, .slice B m d, .slice B2 m2 d2] w fun e w' => e = .returned (.bool true) ∧ Below w.heap.size w w' := by
  have HH := Lib.hid h
  clear h
  have hb1 := (Below.refl w.heap.size w).alloc (Nat.le_refl _) (.cells #[.int .i64 K, .int .i64 R, .slice A n c] 24)
  have hr0 := RuleAt.new w (.int .i64 K) (.int .i64 R) (.slice A n c)
  obtain ⟨W, hW⟩ : ∃ W, w.alloc (.cells #[.int .i64 K, .int .i64 R, .slice A n c] 24) = W := ⟨_, rfl⟩
  rw [hW] at hb1 hr0
  have HE := Lib.hid (fun (wz : World) (hz : Below W.heap.size W wz) => hE.below (hb1.trans (hz.mono hb1.size)))
  have HR_a := Lib.hid (fun (wz : World) (hz : Below W.heap.size W wz) => (⟨hS.below (hb1.trans (hz.mono hb1.size)), (hr0.below hz hr0.lt).facts.1, (hr0.below hz hr0.lt).facts.2.1, (hr0.below hz hr0.lt).facts.2.2.1⟩ : _ ∧ _ ∧ _ ∧ _))
  have HSW := Lib.hid (fun (wz : World) (hz : Below W.heap.size W wz) => hSw.below (hb1.trans (hz.mono hb1.size)))
  have HSP := Lib.hid (fun (wz : World) (hz : Below W.heap.size W wz) => hSp.below (hb1.trans (hz.mono hb1.size)))
  have HV_a := Lib.hid (show w.heap.size < W.heap.size from hr0.lt)
  have HZZ := Lib.hid hb1
  have HUW := Lib.hid hW
  have B_base := Lib.hid (Below.refl W.heap.size W)
  have B_a := B_base
  clear hb1 hr0 hW hE hS hSw hSp
  unfold ruleV at *
  go_enter Tryd.func5, Tryd.ntmps5
  have hc := awake5_c W E (HE.out W B_base.out)
  try unfold ruleV at hc
  have HC0 := Lib.hid hc
  clear hc
  go_wp2_with fail
  rw [HUW.out]
  refine (HC0.out).mono ?_
  rintro e v0 ⟨rfl, hb⟩
  have qB := B_a.out.trans (hb.mono B_a.out.size)
  obtain ⟨_, a_0, a_1, a_2⟩ := HR_a.out v0 qB
  have hl_a : w.heap.size < v0.heap.size := Nat.lt_of_lt_of_le HV_a.out qB.size
  clear qB
  have B_base := Lib.hid (B_base.out.trans (hb.mono B_base.out.size))
  have B_a := Lib.hid (B_a.out.trans (hb.mono B_a.out.size))
  clear hb
  have hc := imageL_bad v0 E (HE.out v0 B_base.out) K R A B n c m d T V (HR_a.out v0 B_a.out).1 hm (HSW.out v0 B_base.out) hm2 tl HH.out
  try unfold ruleV at hc
  have HC1 := Lib.hid hc
  clear hc
  go_wp2_with fail
  clear a_0 a_1 a_2 hl_a
  refine (HC1.out).mono ?_
  rintro e v1 ⟨rfl, hb⟩
  have qB := B_a.out.trans (hb.mono B_a.out.size)
  obtain ⟨_, a_0, a_1, a_2⟩ := HR_a.out v1 qB
  have hl_a : w.heap.size < v1.heap.size := Nat.lt_of_lt_of_le HV_a.out qB.size
  clear qB
  have B_base := Lib.hid (B_base.out.trans (hb.mono B_base.out.size))
  have B_a := Lib.hid (B_a.out.trans (hb.mono B_a.out.size))
  clear hb
  have HZZ2 := Lib.hid (HZZ.out.trans (B_base.out.mono HZZ.out.size))
  go_wp2_with fail
  go_ret
  exact ⟨rfl, HZZ2.out⟩

set_option maxRecDepth 100000 in
set_option maxHeartbeats 4000000 in
theorem formsMirrors_long (w : World) (E : Nat → Addr) (hE : Errs w E) (k r : Nat) (A B B2 : Option Addr) (n c m d m2 d2 : Nat) (t v : List Nat) (Q : List Int) (hS : Sl w A n ((ints t).map (Value.int .i64))) (hSw : Sl w B m ((ints v).map (Value.int .i64))) (hSp : Sl w B2 m2 (Q.map (Value.int .i64))) (hm : n ≤ 9223372036854775807) (hm2 : m ≤ 9223372036854775807) (hm3 : m2 * 8 ≤ 140737488351232) (hr : IsRule k r t) (hv : ∀ x ∈ v, x < k) (hl : v.length ≤ 4096) (hl2 : 200 < v.length) :
    Calls Tryd.prog 5 #[ruleV k r A n c, .slice B m d, .slice B2 m2 d2] w fun e w' => e = .returned (.bool true) ∧ Below w.heap.size w w' := by
  have hlm : v.length = m := by simpa [ints] using hSw.1
  rw [hlm] at hl hl2
  have HRU := Lib.hid hr
  have HVS := Lib.hid hv
  have hl2' : (200 : Int) < (m : Int) := by omega
  obtain ⟨M, hM⟩ : ∃ M, v.length - 2 * r = M := ⟨_, rfl⟩
  have HM := Lib.hid hM
  clear hr hv hlm hM
  have hb1 := (Below.refl w.heap.size w).alloc (Nat.le_refl _) (.cells #[.int .i64 (k : Int), .int .i64 (r : Int), .slice A n c] 24)
  have hr0 := RuleAt.new w (.int .i64 (k : Int)) (.int .i64 (r : Int)) (.slice A n c)
  obtain ⟨W, hW⟩ : ∃ W, w.alloc (.cells #[.int .i64 (k : Int), .int .i64 (r : Int), .slice A n c] 24) = W := ⟨_, rfl⟩
  rw [hW] at hb1 hr0
  have HE := Lib.hid (fun (wz : World) (hz : Below W.heap.size W wz) => hE.below (hb1.trans (hz.mono hb1.size)))
  have HR_a := Lib.hid (fun (wz : World) (hz : Below W.heap.size W wz) => (⟨hS.below (hb1.trans (hz.mono hb1.size)), (hr0.below hz hr0.lt).facts.1, (hr0.below hz hr0.lt).facts.2.1, (hr0.below hz hr0.lt).facts.2.2.1⟩ : _ ∧ _ ∧ _ ∧ _))
  have HSW := Lib.hid (fun (wz : World) (hz : Below W.heap.size W wz) => hSw.below (hb1.trans (hz.mono hb1.size)))
  have HSP := Lib.hid (fun (wz : World) (hz : Below W.heap.size W wz) => hSp.below (hb1.trans (hz.mono hb1.size)))
  have HV_a := Lib.hid (show w.heap.size < W.heap.size from hr0.lt)
  have HZZ := Lib.hid hb1
  have HUW := Lib.hid hW
  have B_base := Lib.hid (Below.refl W.heap.size W)
  have B_a := B_base
  clear hb1 hr0 hW hE hS hSw hSp
  unfold ruleV at *
  go_enter Tryd.func5, Tryd.ntmps5
  have hc := awake5_c W E (HE.out W B_base.out)
  try unfold ruleV at hc
  have HC0 := Lib.hid hc
  clear hc
  go_wp2_with fail
  rw [HUW.out]
  refine (HC0.out).mono ?_
  rintro e v0 ⟨rfl, hb⟩
  have qB := B_a.out.trans (hb.mono B_a.out.size)
  obtain ⟨_, a_0, a_1, a_2⟩ := HR_a.out v0 qB
  have hl_a : w.heap.size < v0.heap.size := Nat.lt_of_lt_of_le HV_a.out qB.size
  clear qB
  have B_base := Lib.hid (B_base.out.trans (hb.mono B_base.out.size))
  have B_a := Lib.hid (B_a.out.trans (hb.mono B_a.out.size))
  clear hb
  have hc := imageL_good v0 E (HE.out v0 B_base.out) k r A B n c m d M t v HRU.out HVS.out (HR_a.out v0 B_a.out).1 (HSW.out v0 B_base.out) hl HM.out
  try unfold ruleV at hc
  have HC1 := Lib.hid hc
  clear hc
  go_wp2_with fail
  clear a_0 a_1 a_2 hl_a
  refine (HC1.out).mono ?_
  rintro e v1 ⟨C_x, d_x, rfl, ho, hb⟩
  clear ho
  have qB := B_a.out.trans (hb.mono B_a.out.size)
  obtain ⟨_, a_0, a_1, a_2⟩ := HR_a.out v1 qB
  have hl_a : w.heap.size < v1.heap.size := Nat.lt_of_lt_of_le HV_a.out qB.size
  clear qB
  have B_base := Lib.hid (B_base.out.trans (hb.mono B_base.out.size))
  have B_a := Lib.hid (B_a.out.trans (hb.mono B_a.out.size))
  clear hb
  have HZZ2 := Lib.hid (HZZ.out.trans (B_base.out.mono HZZ.out.size))
  go_wp2_with fail
  go_ret
  exact ⟨rfl, HZZ2.out⟩

set_option maxRecDepth 100000 in
set_option maxHeartbeats 1500000 in
theorem formsMirrors_good (w : World) (E : Nat → Addr) (hE : Errs w E) (k r : Nat) (A B B2 : Option Addr) (n c m d m2 d2 : Nat) (t v : List Nat) (Q : List Int) (hS : Sl w A n ((ints t).map (Value.int .i64))) (hSw : Sl w B m ((ints v).map (Value.int .i64))) (hSp : Sl w B2 m2 (Q.map (Value.int .i64))) (hm : n ≤ 9223372036854775807) (hm2 : m ≤ 9223372036854775807) (hm3 : m2 * 8 ≤ 140737488351232) (hr : IsRule k r t) (hv : ∀ x ∈ v, x < k) (hl2 : v.length ≤ 200) :
    Calls Tryd.prog 5 #[ruleV k r A n c, .slice B m d, .slice B2 m2 d2] w fun e w' => e = .returned (.bool true) ∧ Below w.heap.size w w' := by
  have hlm : v.length = m := by simpa [ints] using hSw.1
  have hlq : Q.length = m2 := by simpa using hSp.1
  rw [hlm] at hl2
  have HRU := Lib.hid hr
  have HVS := Lib.hid hv
  have HLM := Lib.hid hlm
  have HLQ := Lib.hid hlq
  have HMR := Lib.hid (mir_rule hr)
  have HMM := Lib.hid (mir_mir hr)
  have HIM := Lib.hid (image_mir hr hv)
  have HXS := Lib.hid (image_sym hr hv)
  have hk1 := hr.k1
  have hk4 := hr.k4
  have hr3 := hr.r3
  have hl2' : ¬ (200 : Int) < (m : Int) := by omega
  obtain ⟨M, hM⟩ : ∃ M, v.length - 2 * r = M := ⟨_, rfl⟩
  have hM2 : M ≤ 200 := by omega
  have HM := Lib.hid hM
  obtain ⟨T2, hT2⟩ : ∃ T2, mir k r t = T2 := ⟨_, rfl⟩
  rw [hT2] at HMR HMM HIM
  have HT2 := Lib.hid hT2
  obtain ⟨X, hX⟩ : ∃ X, image k r t v = X := ⟨_, rfl⟩
  rw [hX] at HIM HXS
  have HX := Lib.hid hX
  have HXL := Lib.hid (show X.length = M by rw [← hX, image_len, hM])
  clear hr hv hlm hM hT2 hX hlq
  have hb1 := (Below.refl w.heap.size w).alloc (Nat.le_refl _) (.cells #[.int .i64 (k : Int), .int .i64 (r : Int), .slice A n c] 24)
  have hr0 := RuleAt.new w (.int .i64 (k : Int)) (.int .i64 (r : Int)) (.slice A n c)
  obtain ⟨W, hW⟩ : ∃ W, w.alloc (.cells #[.int .i64 (k : Int), .int .i64 (r : Int), .slice A n c] 24) = W := ⟨_, rfl⟩
  rw [hW] at hb1 hr0
  have HE := Lib.hid (fun (wz : World) (hz : Below W.heap.size W wz) => hE.below (hb1.trans (hz.mono hb1.size)))
  have HR_a := Lib.hid (fun (wz : World) (hz : Below W.heap.size W wz) => (⟨hS.below (hb1.trans (hz.mono hb1.size)), (hr0.below hz hr0.lt).facts.1, (hr0.below hz hr0.lt).facts.2.1, (hr0.below hz hr0.lt).facts.2.2.1⟩ : _ ∧ _ ∧ _ ∧ _))
  have HSW := Lib.hid (fun (wz : World) (hz : Below W.heap.size W wz) => hSw.below (hb1.trans (hz.mono hb1.size)))
  have HSP := Lib.hid (fun (wz : World) (hz : Below W.heap.size W wz) => hSp.below (hb1.trans (hz.mono hb1.size)))
  have HV_a := Lib.hid (show w.heap.size < W.heap.size from hr0.lt)
  have HZZ := Lib.hid hb1
  have HUW := Lib.hid hW
  have B_base := Lib.hid (Below.refl W.heap.size W)
  have B_a := B_base
  clear hb1 hr0 hW hE hS hSw hSp
  unfold ruleV at *
  go_enter Tryd.func5, Tryd.ntmps5
  have hc := awake5_c W E (HE.out W B_base.out)
  try unfold ruleV at hc
  have HC0 := Lib.hid hc
  clear hc
  go_wp2_with fail
  rw [HUW.out]
  refine (HC0.out).mono ?_
  rintro e v0 ⟨rfl, hb⟩
  have qB := B_a.out.trans (hb.mono B_a.out.size)
  obtain ⟨_, a_0, a_1, a_2⟩ := HR_a.out v0 qB
  have hl_a : w.heap.size < v0.heap.size := Nat.lt_of_lt_of_le HV_a.out qB.size
  clear qB
  have B_base := Lib.hid (B_base.out.trans (hb.mono B_base.out.size))
  have B_a := Lib.hid (B_a.out.trans (hb.mono B_a.out.size))
  clear hb
  have hc := imageL_good v0 E (HE.out v0 B_base.out) k r A B n c m d M t v HRU.out HVS.out (HR_a.out v0 B_a.out).1 (HSW.out v0 B_base.out) (by omega) HM.out
  rw [HX.out] at hc
  try unfold ruleV at hc
  have HC1 := Lib.hid hc
  clear hc
  go_wp2_with fail
  clear a_0 a_1 a_2 hl_a
  refine (HC1.out).mono ?_
  rintro e v1 ⟨C_x, d_x, rfl, ho, hb⟩
  have qB := B_a.out.trans (hb.mono B_a.out.size)
  obtain ⟨_, a_0, a_1, a_2⟩ := HR_a.out v1 qB
  have hl_a : w.heap.size < v1.heap.size := Nat.lt_of_lt_of_le HV_a.out qB.size
  clear qB
  have B_base := Lib.hid (B_base.out.trans (hb.mono B_base.out.size))
  have B_a := Lib.hid (B_a.out.trans (hb.mono B_a.out.size))
  clear hb
  have ho' := ho
  clear ho
  have HR_x := Lib.hid (fun (wz : World) (hz : Below v1.heap.size v1 wz) => Sl.of_own (own_below ho' hz))
  have HO_x := Lib.hid ho'
  clear ho'
  have B_x := Lib.hid (Below.refl v1.heap.size v1)
  have hc := mirror_good v1 E (HE.out v1 B_base.out) k r A n c t HRU.out (HR_a.out v1 B_a.out).1
  rw [HT2.out] at hc
  try unfold ruleV at hc
  have HC2 := Lib.hid hc
  clear hc
  go_wp2_with fail
  clear a_0 a_1 a_2 hl_a
  refine (HC2.out).mono ?_
  rintro e v2 ⟨C_m, N_m, d_m, xe, rfl, ho, he, hb⟩
  have he' : xe = .nilIface := he
  clear he
  subst he'
  have qB := B_a.out.trans (hb.mono B_a.out.size)
  obtain ⟨_, a_0, a_1, a_2⟩ := HR_a.out v2 qB
  have hl_a : w.heap.size < v2.heap.size := Nat.lt_of_lt_of_le HV_a.out qB.size
  clear qB
  have ba := (Below.refl v2.heap.size v2).alloc (Nat.le_refl _) (.cells #[.int .i64 (k : Int), .int .i64 (r : Int), .slice C_m N_m d_m] 24)
  have hx := RuleAt.new v2 (.int .i64 (k : Int)) (.int .i64 (r : Int)) (.slice C_m N_m d_m)
  obtain ⟨u3, hu⟩ : ∃ u, v2.alloc (.cells #[.int .i64 (k : Int), .int .i64 (r : Int), .slice C_m N_m d_m] 24) = u := ⟨_, rfl⟩
  rw [hu] at ba hx
  have HU3 := Lib.hid hu
  have HV_m := Lib.hid (show v2.heap.size < u3.heap.size from hx.lt)
  have hw := (Row.of ho).below ba
  have HR_m := Lib.hid (fun (wz : World) (hz : Below u3.heap.size u3 wz) => (⟨hw.below hz, (hx.below hz hx.lt).facts.1, (hx.below hz hx.lt).facts.2.1, (hx.below hz hx.lt).facts.2.2.1⟩ : _ ∧ _ ∧ _ ∧ _))
  have HS_m := Lib.hid hb.size
  have hst := hb.trans (ba.mono hb.size)
  have B_base := Lib.hid (B_base.out.trans (hst.mono B_base.out.size))
  have B_a := Lib.hid (B_a.out.trans (hst.mono B_a.out.size))
  have B_x := Lib.hid (B_x.out.trans (hst.mono B_x.out.size))
  have B_m := Lib.hid (Below.refl u3.heap.size u3)
  clear hw hst ba hx hu ho hb
  obtain ⟨hmS, m_0, m_1, m_2⟩ := HR_m.out u3 B_m.out
  have HBK := Lib.hid (wordBack_c u3.drew B m d (ints v) ((HSW.out u3 B_base.out).below ((Below.refl _ _).drew)) (by omega))
  have HIMG := Lib.hid (fun (wz : World) (hz : Below u3.heap.size u3 wz) (D : Option Addr) (dd : Nat) (hD : Sl wz D m ((ints v).reverse.map (Value.int .i64))) => imageL_good wz E (HE.out wz (B_base.out.trans (hz.mono B_base.out.size))) k r C_m D N_m d_m m dd M T2 v.reverse HMR.out (rev_sym HVS.out) (HR_m.out wz (B_m.out.trans (hz.mono B_m.out.size))).1.sl (by rw [show ints v.reverse = (ints v).reverse by simp [ints]]; exact hD) (by omega) (by rw [List.length_reverse]; exact HM.out))
  unfold ruleV at HIMG
  clear hmS
  unfold ruleV
  go_wp2_with fail
  rw [HU3.out]
  clear a_0 a_1 a_2 hl_a
  go_region_held3 (fun w' => w'.cell? ⟨v2.heap.size, 0, none⟩ = some (.int .i64 (k : Int)) ∧ w'.cell? ⟨v2.heap.size, 1, none⟩ = some (.int .i64 (r : Int)) ∧ w'.cell? ⟨v2.heap.size, 2, none⟩ = some (.slice C_m N_m d_m))
    (first | go_keep)
    (first
      | (go_at_call 8
         refine (HIMG.out w8 hb8 _ _ hS8).mono ?_
         rintro e9 w9 ⟨C_y, d_y, rfl, hy9, hb9⟩
         have x0 := cell_later hb9 z0
         have x1 := cell_later hb9 z1
         have x2 := cell_later hb9 z2)
      | (go_at_call 19
         refine (HBK.out).mono ?_
         rintro e8 w8 ⟨C_b, d_b, rfl, ho8, hb8'⟩
         have hS8 := Sl.of_own ho8
         have hb8 := (Below.refl u3.heap.size u3).drew.trans hb8'
         have z0 := cell_later hb8 m_0
         have z1 := cell_later hb8 m_1
         have z2 := cell_later hb8 m_2))
  have hb := hb8.trans (hb9.mono hb8.size)
  rw [HIM.out] at hy9
  clear m_0 m_1 m_2 z0 z1 z2 x0 x1 x2
  have qB := B_m.out.trans (hb.mono B_m.out.size)
  obtain ⟨_, m_0, m_1, m_2⟩ := HR_m.out w9 qB
  have hl_m : v2.heap.size < w9.heap.size := Nat.lt_of_lt_of_le HV_m.out qB.size
  clear qB
  have B_base := Lib.hid (B_base.out.trans (hb.mono B_base.out.size))
  have B_a := Lib.hid (B_a.out.trans (hb.mono B_a.out.size))
  have B_x := Lib.hid (B_x.out.trans (hb.mono B_x.out.size))
  have B_m := Lib.hid (B_m.out.trans (hb.mono B_m.out.size))
  have HR_y := Lib.hid (fun (wz : World) (hz : Below w9.heap.size w9 wz) => Sl.of_own (own_below hy9 hz))
  have B_y := Lib.hid (Below.refl w9.heap.size w9)
  clear hb hb8 hb8' hb9 hy9 hS8 ho8
  have hc := mirror_good w9 E (HE.out w9 B_base.out) k r C_m N_m d_m T2 HMR.out (HR_m.out w9 B_m.out).1.sl
  rw [HMM.out] at hc
  try unfold ruleV at hc
  have HC4 := Lib.hid hc
  clear hc
  go_wp2_with fail
  clear m_0 m_1 m_2 hl_m
  refine (HC4.out).mono ?_
  rintro e v4 ⟨C_n, N_n, d_n, xe, rfl, ho, he, hb⟩
  have he' : xe = .nilIface := he
  clear he
  subst he'
  have qB := B_a.out.trans (hb.mono B_a.out.size)
  obtain ⟨_, a_0, a_1, a_2⟩ := HR_a.out v4 qB
  have hl_a : w.heap.size < v4.heap.size := Nat.lt_of_lt_of_le HV_a.out qB.size
  clear qB
  have ba := (Below.refl v4.heap.size v4).alloc (Nat.le_refl _) (.cells #[.int .i64 (k : Int), .int .i64 (r : Int), .slice C_n N_n d_n] 24)
  have hx := RuleAt.new v4 (.int .i64 (k : Int)) (.int .i64 (r : Int)) (.slice C_n N_n d_n)
  obtain ⟨u5, hu⟩ : ∃ u, v4.alloc (.cells #[.int .i64 (k : Int), .int .i64 (r : Int), .slice C_n N_n d_n] 24) = u := ⟨_, rfl⟩
  rw [hu] at ba hx
  have HU5 := Lib.hid hu
  have HV_n := Lib.hid (show v4.heap.size < u5.heap.size from hx.lt)
  have hw := (Row.of ho).below ba
  have HR_n := Lib.hid (fun (wz : World) (hz : Below u5.heap.size u5 wz) => (⟨hw.below hz, (hx.below hz hx.lt).facts.1, (hx.below hz hx.lt).facts.2.1, (hx.below hz hx.lt).facts.2.2.1⟩ : _ ∧ _ ∧ _ ∧ _))
  have HS_n := Lib.hid hb.size
  have hst := hb.trans (ba.mono hb.size)
  have B_base := Lib.hid (B_base.out.trans (hst.mono B_base.out.size))
  have B_a := Lib.hid (B_a.out.trans (hst.mono B_a.out.size))
  have B_x := Lib.hid (B_x.out.trans (hst.mono B_x.out.size))
  have B_m := Lib.hid (B_m.out.trans (hst.mono B_m.out.size))
  have B_y := Lib.hid (B_y.out.trans (hst.mono B_y.out.size))
  have B_n := Lib.hid (Below.refl u5.heap.size u5)
  clear hw hst ba hx hu ho hb
  have hc := wordBack_c u5 C_x M d_x (ints X) (HR_x.out u5 B_x.out) (by omega)
  try unfold ruleV at hc
  have HC5 := Lib.hid hc
  clear hc
  unfold ruleV
  go_wp2_with fail
  rw [HU5.out]
  clear a_0 a_1 a_2 hl_a
  refine (HC5.out).mono ?_
  rintro e v5 ⟨C_k, d_k, rfl, ho, hb⟩
  have qB := B_a.out.trans (hb.mono B_a.out.size)
  obtain ⟨_, a_0, a_1, a_2⟩ := HR_a.out v5 qB
  have hl_a : w.heap.size < v5.heap.size := Nat.lt_of_lt_of_le HV_a.out qB.size
  clear qB
  have qB := B_n.out.trans (hb.mono B_n.out.size)
  obtain ⟨_, n_0, n_1, n_2⟩ := HR_n.out v5 qB
  have hl_n : v4.heap.size < v5.heap.size := Nat.lt_of_lt_of_le HV_n.out qB.size
  clear qB
  have B_base := Lib.hid (B_base.out.trans (hb.mono B_base.out.size))
  have B_a := Lib.hid (B_a.out.trans (hb.mono B_a.out.size))
  have B_x := Lib.hid (B_x.out.trans (hb.mono B_x.out.size))
  have B_m := Lib.hid (B_m.out.trans (hb.mono B_m.out.size))
  have B_y := Lib.hid (B_y.out.trans (hb.mono B_y.out.size))
  have B_n := Lib.hid (B_n.out.trans (hb.mono B_n.out.size))
  clear hb
  have ho' := ho
  clear ho
  have HR_k := Lib.hid (fun (wz : World) (hz : Below v5.heap.size v5 wz) => Sl.of_own (own_below ho' hz))
  have HO_k := Lib.hid ho'
  clear ho'
  have B_k := Lib.hid (Below.refl v5.heap.size v5)
  have hc := ints_b v5 C_y C_k M M d_y d_k (ints X.reverse) (ints X).reverse (HR_y.out v5 B_y.out) (HR_k.out v5 B_k.out) (by omega) (by omega)
  rw [decide_eq_true (by simp [ints])] at hc
  try unfold ruleV at hc
  have HC6 := Lib.hid hc
  clear hc
  go_wp2_with fail
  clear a_0 a_1 a_2 n_0 n_1 n_2 hl_a hl_n
  refine (HC6.out).mono ?_
  rintro e v6 ⟨rfl, hb⟩
  have qB := B_a.out.trans (hb.mono B_a.out.size)
  obtain ⟨_, a_0, a_1, a_2⟩ := HR_a.out v6 qB
  have hl_a : w.heap.size < v6.heap.size := Nat.lt_of_lt_of_le HV_a.out qB.size
  clear qB
  have qB := B_n.out.trans (hb.mono B_n.out.size)
  obtain ⟨_, n_0, n_1, n_2⟩ := HR_n.out v6 qB
  have hl_n : v4.heap.size < v6.heap.size := Nat.lt_of_lt_of_le HV_n.out qB.size
  clear qB
  have B_base := Lib.hid (B_base.out.trans (hb.mono B_base.out.size))
  have B_a := Lib.hid (B_a.out.trans (hb.mono B_a.out.size))
  have B_x := Lib.hid (B_x.out.trans (hb.mono B_x.out.size))
  have B_m := Lib.hid (B_m.out.trans (hb.mono B_m.out.size))
  have B_y := Lib.hid (B_y.out.trans (hb.mono B_y.out.size))
  have B_n := Lib.hid (B_n.out.trans (hb.mono B_n.out.size))
  have B_k := Lib.hid (B_k.out.trans (hb.mono B_k.out.size))
  clear hb
  have hc := rules_b v6 k r k r C_n A N_n n d_n c _ _ (HR_n.out v6 B_n.out).1.sl (HR_a.out v6 B_a.out).1 (by have := own_le (HR_n.out v6 B_n.out).1.own; simp only [maxLen] at this; omega) hm
  rw [decide_eq_true ⟨rfl, rfl, rfl⟩] at hc
  try unfold ruleV at hc
  have HC7 := Lib.hid hc
  clear hc
  go_wp2_with fail
  clear a_0 a_1 a_2 n_0 n_1 n_2 hl_a hl_n
  refine (HC7.out).mono ?_
  rintro e v7 ⟨rfl, hb⟩
  have qB := B_a.out.trans (hb.mono B_a.out.size)
  obtain ⟨_, a_0, a_1, a_2⟩ := HR_a.out v7 qB
  have hl_a : w.heap.size < v7.heap.size := Nat.lt_of_lt_of_le HV_a.out qB.size
  clear qB
  have B_base := Lib.hid (B_base.out.trans (hb.mono B_base.out.size))
  have B_a := Lib.hid (B_a.out.trans (hb.mono B_a.out.size))
  have B_x := Lib.hid (B_x.out.trans (hb.mono B_x.out.size))
  have B_m := Lib.hid (B_m.out.trans (hb.mono B_m.out.size))
  have B_y := Lib.hid (B_y.out.trans (hb.mono B_y.out.size))
  have B_n := Lib.hid (B_n.out.trans (hb.mono B_n.out.size))
  have B_k := Lib.hid (B_k.out.trans (hb.mono B_k.out.size))
  clear hb
  rcases rename_any k r t HRU.out Q with ⟨p, hQp, hp⟩ | hbad
  · subst hQp
    have hpl := hp.len
    have HNP := Lib.hid hp
    have HQR := Lib.hid (renT_rule HRU.out hp)
    have HQI := Lib.hid (image_ren HRU.out hp HVS.out)
    have HQB := Lib.hid (ren_back HRU.out hp)
    obtain ⟨T3, hT3⟩ : ∃ T3, renT k r t p = T3 := ⟨_, rfl⟩
    rw [hT3] at HQR HQI HQB
    have HT3 := Lib.hid hT3
    have HM2K := Lib.hid (show m2 = k by rw [← HLQ.out, ints_len]; exact hpl)
    have hm2' : m2 ≤ 4 := by have := HM2K.out; omega
    rw [HX.out] at HQI
    clear hp hT3 hpl
    have hc := rename_good v7 E (HE.out v7 B_base.out) k r A B2 n c m2 d2 t p HRU.out (HR_a.out v7 B_a.out).1 HNP.out (HSP.out v7 B_base.out)
    rw [HT3.out] at hc
    try unfold ruleV at hc
    have HC8 := Lib.hid hc
    clear hc
    go_wp2_with fail
    clear a_0 a_1 a_2 hl_a
    refine (HC8.out).mono ?_
    rintro e v8 ⟨C_q, N_q, d_q, xe, rfl, ho, he, hb⟩
    have he' : xe = .nilIface := he
    clear he
    subst he'
    have ba := (Below.refl v8.heap.size v8).alloc (Nat.le_refl _) (.cells #[.int .i64 (k : Int), .int .i64 (r : Int), .slice C_q N_q d_q] 24)
    have hx := RuleAt.new v8 (.int .i64 (k : Int)) (.int .i64 (r : Int)) (.slice C_q N_q d_q)
    obtain ⟨u9, hu⟩ : ∃ u, v8.alloc (.cells #[.int .i64 (k : Int), .int .i64 (r : Int), .slice C_q N_q d_q] 24) = u := ⟨_, rfl⟩
    rw [hu] at ba hx
    have HU9 := Lib.hid hu
    have HV_q := Lib.hid (show v8.heap.size < u9.heap.size from hx.lt)
    have hw := (Row.of ho).below ba
    have HR_q := Lib.hid (fun (wz : World) (hz : Below u9.heap.size u9 wz) => (⟨hw.below hz, (hx.below hz hx.lt).facts.1, (hx.below hz hx.lt).facts.2.1, (hx.below hz hx.lt).facts.2.2.1⟩ : _ ∧ _ ∧ _ ∧ _))
    have HS_q := Lib.hid hb.size
    have hst := hb.trans (ba.mono hb.size)
    have B_base := Lib.hid (B_base.out.trans (hst.mono B_base.out.size))
    have B_a := Lib.hid (B_a.out.trans (hst.mono B_a.out.size))
    have B_x := Lib.hid (B_x.out.trans (hst.mono B_x.out.size))
    have B_m := Lib.hid (B_m.out.trans (hst.mono B_m.out.size))
    have B_y := Lib.hid (B_y.out.trans (hst.mono B_y.out.size))
    have B_n := Lib.hid (B_n.out.trans (hst.mono B_n.out.size))
    have B_k := Lib.hid (B_k.out.trans (hst.mono B_k.out.size))
    have B_q := Lib.hid (Below.refl u9.heap.size u9)
    clear hw hst ba hx hu ho hb
    obtain ⟨g5, hg5⟩ : ∃ g5, u9.heap.size = g5 := ⟨_, rfl⟩
    have hmk := run_make_row' (P := Tryd.prog) 22 3 (.int .i64 0) 8 tInts.und tInts.info rfl .i64 .i64 m (by omega) (by omega) u9
    rw [← HU9.out] at hmk
    have ho5 := own_mk u9 g5 hg5 m (by simp only [maxLen]; omega)
    have ba := (Below.refl u9.heap.size u9).alloc (Nat.le_refl _) (.cells (madeCells #[.int .i64 0] m) 3)
    obtain ⟨w5, hw5⟩ : ∃ w5, u9.alloc (.cells (madeCells #[.int .i64 0] m) 3) = w5 := ⟨_, rfl⟩
    rw [hw5] at ho5 ba
    have B_base_u := B_base
    have B_a_u := B_a
    have B_x_u := B_x
    have B_m_u := B_m
    have B_y_u := B_y
    have B_n_u := B_n
    have B_k_u := B_k
    have B_q_u := B_q
    have HW5 := Lib.hid hw5
    have HG5 := Lib.hid hg5
    have HG5S := Lib.hid (show v8.heap.size + 1 = g5 by rw [← hg5, ← HU9.out, World.size_alloc])
    have B_base := Lib.hid (B_base.out.trans (ba.mono B_base.out.size))
    have B_a := Lib.hid (B_a.out.trans (ba.mono B_a.out.size))
    have B_x := Lib.hid (B_x.out.trans (ba.mono B_x.out.size))
    have B_m := Lib.hid (B_m.out.trans (ba.mono B_m.out.size))
    have B_y := Lib.hid (B_y.out.trans (ba.mono B_y.out.size))
    have B_n := Lib.hid (B_n.out.trans (ba.mono B_n.out.size))
    have B_k := Lib.hid (B_k.out.trans (ba.mono B_k.out.size))
    have B_q := Lib.hid (B_q.out.trans (ba.mono B_q.out.size))
    have HO5 := Lib.hid ho5
    have hg5w : g5 ≤ w5.heap.size := by rw [← hg5]; exact ba.size
    have HG5W := Lib.hid hg5w
    clear ho5 ba hw5 hg5 hg5w
    unfold ruleV
    go_wp2_with fail
    rw [HU9.out]
    rw [HG5S.out, HW5.out]
    go_loopw [17] (fun iv wl => ∃ i : Nat, i ≤ m ∧ iv = .int .i64 (i : Int) ∧ wl.ownsRow g5 3 1 (.slice (some ⟨g5, 0, none⟩) m m) m ((ints ((nam p v).take i ++ List.replicate (m - i) 0)).map (Value.int .i64)) ∧ Hid (Keeps (fun b => b = g5) w5 wl)) (fun iv _ => m - (intOf iv).toNat)
    case atStart => exact ⟨0, Nat.zero_le _, rfl, by have h := HO5.out; simpa using h, Lib.hid (Keeps.refl _ _)⟩
    case round =>
      obtain ⟨i, hi, rfl, hown, hK⟩ := hrel
      have hb5 : Below g5 u9 wr := by
        have h1 := (Below.refl g5 u9).alloc (Nat.le_of_eq HG5.out.symm) (.cells (madeCells #[.int .i64 0] m) 3)
        rw [HW5.out] at h1
        exact h1.trans (hK.out.below HG5W.out (fun b hb => by rw [show b = g5 from hb]; exact Nat.le_refl _))
      rw [← HG5.out] at hb5
      by_cases hlt : i < m
      · have hlt' : (i : Int) < (m : Int) := by omega
        have hbb := B_base_u.out.trans (hb5.mono B_base_u.out.size)
        obtain ⟨ad, xx, hB, hx, hc⟩ := (by have h := HSW.out wr hbb; rw [ints_map] at h; exact h.word_ hlt : ∃ ad x, B = some ad ∧ v[i]? = some x ∧ wr.cell? (ad.add i) = some (.int .i64 (x : Int)))
        have hxk := HVS.out xx (List.mem_of_getElem? hx)
        obtain ⟨ad2, yy, hB2, hy, hc2⟩ := (by have h := HSP.out wr hbb; rw [ints_map] at h; exact h.word_ (show xx < m2 by have := HM2K.out; omega) : ∃ ad x, B2 = some ad ∧ p[xx]? = some x ∧ wr.cell? (ad.add xx) = some (.int .i64 (x : Int)))
        subst hB hB2
        have hst := nam_set (p := p) HLM.out hx hlt
        rw [show p.getD xx 0 = yy by rw [List.getD_eq_getElem?_getD, hy]; rfl] at hst
        have fa := hown.frozenAt i
        have ca : wr.cell? ⟨g5, i, none⟩ = some (.int .i64 0) := by
          rw [hown.cellAt i (by omega), ints_map, List.getElem?_map, part_at (by rw [nam_len]; exact HLM.out) hlt]
          rfl
        have o1 := (hown.stored i (.int .i64 (yy : Int))).1
        have e1 : ((ints ((nam p v).take i ++ List.replicate (m - i) 0)).map (Value.int .i64)).set i (.int .i64 (yy : Int)) = (ints ((nam p v).take (i + 1) ++ List.replicate (m - (i + 1)) 0)).map (Value.int .i64) := by
          rw [← hst, ints_map, ints_map, List.map_set]
        rw [e1] at o1
        have HOO := Lib.hid o1
        have HKK := Lib.hid (hK.out.trans (Keeps.of_setCell wr ⟨g5, i, none⟩ (.int .i64 (yy : Int))) (fun _ _ h => h))
        have hi0 : (0 : Int) ≤ (i : Int) := by omega
        have hx0 : (0 : Int) ≤ (xx : Int) := by omega
        have hx1 : (xx : Int) < (m2 : Int) := by have := HM2K.out; omega
        clear hst e1 o1 hx hy hown hK hbb hb5
        go_wp2_with fail
        exact ⟨⟨i + 1, by omega, by go_num, HOO.out, HKK⟩, by simp [intOf]; omega⟩
      · have hlt' : ¬ (i : Int) < (m : Int) := by omega
        obtain rfl : i = m := by omega
        have hle : ((nam p v).take i ++ List.replicate (i - i) 0) = nam p v := by
          rw [Nat.sub_self, List.replicate_zero, List.append_nil, List.take_of_length_le (by rw [nam_len, HLM.out]; exact Nat.le_refl _)]
        rw [hle] at hown
        obtain ⟨v50, rfl⟩ : ∃ v50, v50 = wr := ⟨_, rfl⟩
        have B_base := Lib.hid (B_base_u.out.trans (hb5.mono B_base_u.out.size))
        have B_a := Lib.hid (B_a_u.out.trans (hb5.mono B_a_u.out.size))
        have B_x := Lib.hid (B_x_u.out.trans (hb5.mono B_x_u.out.size))
        have B_m := Lib.hid (B_m_u.out.trans (hb5.mono B_m_u.out.size))
        have B_y := Lib.hid (B_y_u.out.trans (hb5.mono B_y_u.out.size))
        have B_n := Lib.hid (B_n_u.out.trans (hb5.mono B_n_u.out.size))
        have B_k := Lib.hid (B_k_u.out.trans (hb5.mono B_k_u.out.size))
        have B_q := Lib.hid (B_q_u.out.trans (hb5.mono B_q_u.out.size))
        have HR_v := Lib.hid (fun (wz : World) (hz : Below v50.heap.size v50 wz) => Sl.of_own (own_below hown hz))
        have B_v := Lib.hid (Below.refl v50.heap.size v50)
        clear hle hown hK hb5
        obtain ⟨_, q_0, q_1, q_2⟩ := HR_q.out v50 B_q.out
        have hl_q : v8.heap.size < v50.heap.size := Nat.lt_of_lt_of_le HV_q.out B_q.out.size
        have hc := imageL_good v50 E (HE.out v50 B_base.out) k r C_q (some ⟨g5, 0, none⟩) N_q d_q i i M T3 (nam p v) HQR.out (nam_sym HNP.out HVS.out) (HR_q.out v50 B_q.out).1.sl (HR_v.out v50 B_v.out) (by omega) (by rw [nam_len]; exact HM.out)
        rw [HQI.out] at hc
        try unfold ruleV at hc
        have HC50 := Lib.hid hc
        clear hc
        go_wp2_with fail
        clear q_0 q_1 q_2 hl_q
        refine (HC50.out).mono ?_
        rintro e v50 ⟨C_z, d_z, rfl, ho, hb⟩
        have qB := B_q.out.trans (hb.mono B_q.out.size)
        obtain ⟨_, q_0, q_1, q_2⟩ := HR_q.out v50 qB
        have hl_q : v8.heap.size < v50.heap.size := Nat.lt_of_lt_of_le HV_q.out qB.size
        clear qB
        have B_base := Lib.hid (B_base.out.trans (hb.mono B_base.out.size))
        have B_a := Lib.hid (B_a.out.trans (hb.mono B_a.out.size))
        have B_x := Lib.hid (B_x.out.trans (hb.mono B_x.out.size))
        have B_m := Lib.hid (B_m.out.trans (hb.mono B_m.out.size))
        have B_y := Lib.hid (B_y.out.trans (hb.mono B_y.out.size))
        have B_n := Lib.hid (B_n.out.trans (hb.mono B_n.out.size))
        have B_k := Lib.hid (B_k.out.trans (hb.mono B_k.out.size))
        have B_q := Lib.hid (B_q.out.trans (hb.mono B_q.out.size))
        have B_v := Lib.hid (B_v.out.trans (hb.mono B_v.out.size))
        clear hb
        have ho' := ho
        clear ho
        have HR_z := Lib.hid (fun (wz : World) (hz : Below v50.heap.size v50 wz) => Sl.of_own (own_below ho' hz))
        have HO_z := Lib.hid ho'
        clear ho'
        have B_z := Lib.hid (Below.refl v50.heap.size v50)
        go_wp2_with fail
        go_loopw [19] (fun iv wl => ∃ j : Nat, j ≤ M ∧ iv = .int .i64 (j : Int) ∧ Hid (Below v50.heap.size v50 wl)) (fun iv _ => M - (intOf iv).toNat)
        case atStart => exact ⟨0, Nat.zero_le _, rfl, Lib.hid (Below.refl _ _)⟩
        case round =>
          obtain ⟨j, hj, rfl, hbl⟩ := hrel
          by_cases hlt2 : j < M
          · have hlt2' : (j : Int) < (M : Int) := by omega
            obtain ⟨ad, xx, hB, hx, hc⟩ := (by have h := (HR_x.out wr (B_x.out.trans (hbl.out.mono B_x.out.size))); rw [ints_map] at h; exact h.word_ hlt2 : ∃ ad x, C_x = some ad ∧ X[j]? = some x ∧ wr.cell? (ad.add j) = some (.int .i64 (x : Int)))
            have hxk := HXS.out xx (List.mem_of_getElem? hx)
            obtain ⟨ad2, yy, hB2, hy, hc2⟩ := (by have h := (HSP.out wr (B_base.out.trans (hbl.out.mono B_base.out.size))); rw [ints_map] at h; exact h.word_ (show xx < m2 by have := HM2K.out; omega) : ∃ ad x, B2 = some ad ∧ p[xx]? = some x ∧ wr.cell? (ad.add xx) = some (.int .i64 (x : Int)))
            obtain ⟨ad3, zz, hB3, hz3, hc3⟩ := (by have h := (HR_z.out wr (B_z.out.trans (hbl.out.mono B_z.out.size))); rw [ints_map] at h; exact h.word_ hlt2 : ∃ ad x, C_z = some ad ∧ (nam p X)[j]? = some x ∧ wr.cell? (ad.add j) = some (.int .i64 (x : Int)))
            have hzy : zz = yy := by
              unfold nam at hz3
              rw [List.getElem?_map, hx] at hz3
              have h := Option.some.inj hz3
              rw [← h]
              show p.getD xx 0 = yy
              rw [List.getD_eq_getElem?_getD, hy]
              rfl
            subst hzy hB hB2 hB3
            have hi0 : (0 : Int) ≤ (j : Int) := by omega
            have hx0 : (0 : Int) ≤ (xx : Int) := by omega
            have hx1 : (xx : Int) < (m2 : Int) := by have := HM2K.out; omega
            clear hx hy hz3
            go_wp2_with (go_quiet (fail))
            exact ⟨⟨j + 1, by omega, by go_num, Lib.hid (below_drewN hbl.out _)⟩, by simp [intOf]; omega⟩
          · have hlt2' : ¬ (j : Int) < (M : Int) := by omega
            obtain rfl : j = M := by omega
            obtain ⟨v55, rfl⟩ : ∃ v55, v55 = wr := ⟨_, rfl⟩
            have B_base := Lib.hid (B_base.out.trans (hbl.out.mono B_base.out.size))
            have B_a := Lib.hid (B_a.out.trans (hbl.out.mono B_a.out.size))
            have B_x := Lib.hid (B_x.out.trans (hbl.out.mono B_x.out.size))
            have B_m := Lib.hid (B_m.out.trans (hbl.out.mono B_m.out.size))
            have B_y := Lib.hid (B_y.out.trans (hbl.out.mono B_y.out.size))
            have B_n := Lib.hid (B_n.out.trans (hbl.out.mono B_n.out.size))
            have B_k := Lib.hid (B_k.out.trans (hbl.out.mono B_k.out.size))
            have B_q := Lib.hid (B_q.out.trans (hbl.out.mono B_q.out.size))
            have B_v := Lib.hid (B_v.out.trans (hbl.out.mono B_v.out.size))
            have B_z := Lib.hid (B_z.out.trans (hbl.out.mono B_z.out.size))
            clear hbl
            obtain ⟨g6, hg6⟩ : ∃ g6, v55.heap.size = g6 := ⟨_, rfl⟩
            have hmk := run_make_row' (P := Tryd.prog) 22 3 (.int .i64 0) 8 tInts.und tInts.info rfl .i64 .i64 m2 (by omega) (by omega) v55
            have ho6 := own_mk v55 g6 hg6 m2 (by simp only [maxLen]; omega)
            have ba := (Below.refl v55.heap.size v55).alloc (Nat.le_refl _) (.cells (madeCells #[.int .i64 0] m2) 3)
            obtain ⟨w6, hw6⟩ : ∃ w6, v55.alloc (.cells (madeCells #[.int .i64 0] m2) 3) = w6 := ⟨_, rfl⟩
            rw [hw6] at ho6 ba
            have HW6 := Lib.hid hw6
            have HG6 := Lib.hid hg6
            have HO6 := Lib.hid ho6
            have HG6W := Lib.hid (show g6 ≤ w6.heap.size by rw [← hg6]; exact ba.size)
            clear ho6 ba hw6 hg6
            go_wp2_with fail
            rw [HG6.out, HW6.out]
            go_loopw [21] (fun iv wl => ∃ i2 : Nat, i2 ≤ m2 ∧ iv = .int .i64 (i2 : Int) ∧ wl.ownsRow g6 3 1 (.slice (some ⟨g6, 0, none⟩) m2 m2) m2 ((ints (invT k p i2)).map (Value.int .i64)) ∧ Hid (Keeps (fun b => b = g6) w6 wl)) (fun iv _ => m2 - (intOf iv).toNat)
            case atStart => exact ⟨0, Nat.zero_le _, rfl, by rw [invT_zero, ← HM2K.out]; exact HO6.out, Lib.hid (Keeps.refl _ _)⟩
            case round =>
              obtain ⟨i2, hi2, rfl, hown, hK⟩ := hrel
              have hb6 : Below g6 v55 wr := by
                have h1 := (Below.refl g6 v55).alloc (Nat.le_of_eq HG6.out.symm) (.cells (madeCells #[.int .i64 0] m2) 3)
                rw [HW6.out] at h1
                exact h1.trans (hK.out.below HG6W.out (fun b hb => by rw [show b = g6 from hb]; exact Nat.le_refl _))
              rw [← HG6.out] at hb6
              by_cases hlt3 : i2 < m2
              · have hlt3' : (i2 : Int) < (m2 : Int) := by omega
                have hbb := B_base.out.trans (hb6.mono B_base.out.size)
                obtain ⟨ad2, yy, hB2, hy, hc2⟩ := (by have h := HSP.out wr hbb; rw [ints_map] at h; exact h.word_ hlt3 : ∃ ad x, B2 = some ad ∧ p[i2]? = some x ∧ wr.cell? (ad.add i2) = some (.int .i64 (x : Int)))
                subst hB2
                have hyk := HNP.out.sym yy (List.mem_of_getElem? hy)
                have hst := invT_set HNP.out (show i2 < k by have := HM2K.out; omega) hy
                have fa := hown.frozenAt yy
                obtain ⟨zz, hzz⟩ := invT_at (k := k) (p := p) (i := i2) hyk
                have ca : wr.cell? ⟨g6, yy, none⟩ = some (.int .i64 (zz : Int)) := by
                  rw [hown.cellAt yy (by have := HM2K.out; omega), ints_map, List.getElem?_map, hzz]
                  rfl
                have o1 := (hown.stored yy (.int .i64 (i2 : Int))).1
                have e1 : ((ints (invT k p i2)).map (Value.int .i64)).set yy (.int .i64 (i2 : Int)) = (ints (invT k p (i2 + 1))).map (Value.int .i64) := by
                  rw [← hst, ints_map, ints_map, List.map_set]
                rw [e1] at o1
                have HOO := Lib.hid o1
                have HKK := Lib.hid (hK.out.trans (Keeps.of_setCell wr ⟨g6, yy, none⟩ (.int .i64 (i2 : Int))) (fun _ _ h => h))
                have hi0 : (0 : Int) ≤ (i2 : Int) := by omega
                have hx0 : (0 : Int) ≤ (yy : Int) := by omega
                have hx1 : (yy : Int) < (m2 : Int) := by have := HM2K.out; omega
                clear hst e1 o1 hy hown hK hbb hb6 hzz
                go_wp2_with fail
                exact ⟨⟨i2 + 1, by omega, by go_num, HOO.out, HKK⟩, by simp [intOf]; omega⟩
              · have hlt3' : ¬ (i2 : Int) < (m2 : Int) := by omega
                obtain rfl : i2 = m2 := by omega
                have hia : invT k p i2 = inv k p := by rw [HM2K.out]; exact invT_all HNP.out
                rw [hia] at hown
                obtain ⟨v60, rfl⟩ : ∃ v60, v60 = wr := ⟨_, rfl⟩
                have B_base := Lib.hid (B_base.out.trans (hb6.mono B_base.out.size))
                have B_a := Lib.hid (B_a.out.trans (hb6.mono B_a.out.size))
                have B_x := Lib.hid (B_x.out.trans (hb6.mono B_x.out.size))
                have B_m := Lib.hid (B_m.out.trans (hb6.mono B_m.out.size))
                have B_y := Lib.hid (B_y.out.trans (hb6.mono B_y.out.size))
                have B_n := Lib.hid (B_n.out.trans (hb6.mono B_n.out.size))
                have B_k := Lib.hid (B_k.out.trans (hb6.mono B_k.out.size))
                have B_q := Lib.hid (B_q.out.trans (hb6.mono B_q.out.size))
                have B_v := Lib.hid (B_v.out.trans (hb6.mono B_v.out.size))
                have B_z := Lib.hid (B_z.out.trans (hb6.mono B_z.out.size))
                have HR_i := Lib.hid (fun (wz : World) (hz : Below v60.heap.size v60 wz) => Sl.of_own (own_below hown hz))
                have B_i := Lib.hid (Below.refl v60.heap.size v60)
                clear hia hown hK hb6 q_0 q_1 q_2 hl_q
                obtain ⟨_, q_0, q_1, q_2⟩ := HR_q.out v60 B_q.out
                have hl_q : v8.heap.size < v60.heap.size := Nat.lt_of_lt_of_le HV_q.out B_q.out.size
                have hc := rename_good v60 E (HE.out v60 B_base.out) k r C_q (some ⟨g6, 0, none⟩) N_q d_q i2 i2 T3 (inv k p) HQR.out (HR_q.out v60 B_q.out).1.sl (inv_names HNP.out) (HR_i.out v60 B_i.out)
                rw [HQB.out] at hc
                try unfold ruleV at hc
                have HC60 := Lib.hid hc
                clear hc
                go_wp2_with fail
                clear q_0 q_1 q_2 hl_q
                refine (HC60.out).mono ?_
                rintro e v60 ⟨C_s, N_s, d_s, xe, rfl, ho, he, hb⟩
                have he' : xe = .nilIface := he
                clear he
                subst he'
                have qB := B_a.out.trans (hb.mono B_a.out.size)
                obtain ⟨_, a_0, a_1, a_2⟩ := HR_a.out v60 qB
                have hl_a : w.heap.size < v60.heap.size := Nat.lt_of_lt_of_le HV_a.out qB.size
                clear qB
                have ba := (Below.refl v60.heap.size v60).alloc (Nat.le_refl _) (.cells #[.int .i64 (k : Int), .int .i64 (r : Int), .slice C_s N_s d_s] 24)
                have hx := RuleAt.new v60 (.int .i64 (k : Int)) (.int .i64 (r : Int)) (.slice C_s N_s d_s)
                obtain ⟨u61, hu⟩ : ∃ u, v60.alloc (.cells #[.int .i64 (k : Int), .int .i64 (r : Int), .slice C_s N_s d_s] 24) = u := ⟨_, rfl⟩
                rw [hu] at ba hx
                have HU61 := Lib.hid hu
                have HV_s := Lib.hid (show v60.heap.size < u61.heap.size from hx.lt)
                have hw := (Row.of ho).below ba
                have HR_s := Lib.hid (fun (wz : World) (hz : Below u61.heap.size u61 wz) => (⟨hw.below hz, (hx.below hz hx.lt).facts.1, (hx.below hz hx.lt).facts.2.1, (hx.below hz hx.lt).facts.2.2.1⟩ : _ ∧ _ ∧ _ ∧ _))
                have HS_s := Lib.hid hb.size
                have hst := hb.trans (ba.mono hb.size)
                have B_base := Lib.hid (B_base.out.trans (hst.mono B_base.out.size))
                have B_a := Lib.hid (B_a.out.trans (hst.mono B_a.out.size))
                have B_x := Lib.hid (B_x.out.trans (hst.mono B_x.out.size))
                have B_m := Lib.hid (B_m.out.trans (hst.mono B_m.out.size))
                have B_y := Lib.hid (B_y.out.trans (hst.mono B_y.out.size))
                have B_n := Lib.hid (B_n.out.trans (hst.mono B_n.out.size))
                have B_k := Lib.hid (B_k.out.trans (hst.mono B_k.out.size))
                have B_q := Lib.hid (B_q.out.trans (hst.mono B_q.out.size))
                have B_v := Lib.hid (B_v.out.trans (hst.mono B_v.out.size))
                have B_z := Lib.hid (B_z.out.trans (hst.mono B_z.out.size))
                have B_i := Lib.hid (B_i.out.trans (hst.mono B_i.out.size))
                have B_s := Lib.hid (Below.refl u61.heap.size u61)
                clear hw hst ba hx hu ho hb
                have hc := rules_b u61 k r k r C_s A N_s n d_s c _ _ (HR_s.out u61 B_s.out).1.sl (HR_a.out u61 B_a.out).1 (by have := own_le (HR_s.out u61 B_s.out).1.own; simp only [maxLen] at this; omega) hm
                rw [decide_eq_true ⟨rfl, rfl, rfl⟩] at hc
                try unfold ruleV at hc
                have HC61 := Lib.hid hc
                clear hc
                unfold ruleV
                go_wp2_with fail
                rw [HU61.out]
                clear a_0 a_1 a_2 hl_a
                refine (HC61.out).mono ?_
                rintro e v61 ⟨rfl, hb⟩
                have B_base := Lib.hid (B_base.out.trans (hb.mono B_base.out.size))
                have B_a := Lib.hid (B_a.out.trans (hb.mono B_a.out.size))
                have B_x := Lib.hid (B_x.out.trans (hb.mono B_x.out.size))
                have B_m := Lib.hid (B_m.out.trans (hb.mono B_m.out.size))
                have B_y := Lib.hid (B_y.out.trans (hb.mono B_y.out.size))
                have B_n := Lib.hid (B_n.out.trans (hb.mono B_n.out.size))
                have B_k := Lib.hid (B_k.out.trans (hb.mono B_k.out.size))
                have B_q := Lib.hid (B_q.out.trans (hb.mono B_q.out.size))
                have B_v := Lib.hid (B_v.out.trans (hb.mono B_v.out.size))
                have B_z := Lib.hid (B_z.out.trans (hb.mono B_z.out.size))
                have B_i := Lib.hid (B_i.out.trans (hb.mono B_i.out.size))
                have B_s := Lib.hid (B_s.out.trans (hb.mono B_s.out.size))
                clear hb
                have HZZ2 := Lib.hid (HZZ.out.trans (B_base.out.mono HZZ.out.size))
                go_wp2_with fail
                go_ret
                exact ⟨rfl, HZZ2.out⟩

  · have HBD := Lib.hid hbad
    clear hbad
    have hc := rename_arg v7 E (HE.out v7 B_base.out) k r A B2 n c m2 d2 t Q HRU.out (HR_a.out v7 B_a.out).1 (HSP.out v7 B_base.out) hm3 HBD.out
    try unfold ruleV at hc
    have HC8 := Lib.hid hc
    clear hc
    go_wp2_with fail
    clear a_0 a_1 a_2 hl_a
    refine (HC8.out).mono ?_
    rintro e v8 ⟨C_q, N_q, d_q, x_q, rfl, ho, he, hb⟩
    have he' : ErrIs v8 E ((3, [(sForms, 0)])).1 ((3, [(sForms, 0)])).2 x_q := he
    obtain ⟨U_q, Q_q, rfl⟩ := he'.iface
    clear he
    have hN : N_q = 0 := (Sl.of_own ho).1.symm
    subst hN
    have ba := (Below.refl v8.heap.size v8).alloc (Nat.le_refl _) (.cells #[.int .i64 0, .int .i64 0, .slice C_q 0 d_q] 24)
    obtain ⟨u9, hu⟩ : ∃ u, v8.alloc (.cells #[.int .i64 0, .int .i64 0, .slice C_q 0 d_q] 24) = u := ⟨_, rfl⟩
    rw [hu] at ba
    have HU9 := Lib.hid hu
    have hst := hb.trans (ba.mono hb.size)
    have HEV_q := Lib.hid (he'.below ba)
    clear he'
    have B_base := Lib.hid (B_base.out.trans (hst.mono B_base.out.size))
    have B_a := Lib.hid (B_a.out.trans (hst.mono B_a.out.size))
    have B_x := Lib.hid (B_x.out.trans (hst.mono B_x.out.size))
    have B_m := Lib.hid (B_m.out.trans (hst.mono B_m.out.size))
    have B_y := Lib.hid (B_y.out.trans (hst.mono B_y.out.size))
    have B_n := Lib.hid (B_n.out.trans (hst.mono B_n.out.size))
    have B_k := Lib.hid (B_k.out.trans (hst.mono B_k.out.size))
    clear hst ba hu ho hb
    unfold ruleV
    go_wp2_with fail
    rw [HU9.out]
    have HZZ2 := Lib.hid (HZZ.out.trans (B_base.out.mono HZZ.out.size))
    go_wp2_with fail
    go_ret
    exact ⟨rfl, HZZ2.out⟩

theorem formsMirrors_c (w : World) (E : Nat → Addr) (hE : Errs w E) (K R : Int) (A B B2 : Option Addr) (n c m d m2 d2 : Nat) (T V Q : List Int) (hS : Sl w A n (T.map (Value.int .i64))) (hSw : Sl w B m (V.map (Value.int .i64))) (hSp : Sl w B2 m2 (Q.map (Value.int .i64))) (hm : n ≤ 9223372036854775807) (hm2 : m ≤ 9223372036854775807) (hm3 : m2 * 8 ≤ 140737488351232) :
    Calls Tryd.prog 5 #[ruleV K R A n c, .slice B m d, .slice B2 m2 d2] w fun e w' => e = .returned (.bool true) ∧ Below w.heap.size w w' := by
  rcases step_cases K R T V with ⟨tl, h⟩ | ⟨k, r, t, v, rfl, rfl, rfl, rfl, hr, hv, hl⟩
  · exact formsMirrors_bad w E hE K R A B B2 n c m d m2 d2 T V Q hS hSw hSp hm hm2 hm3 tl h
  · by_cases h2 : v.length ≤ 200
    · exact formsMirrors_good w E hE k r A B B2 n c m d m2 d2 t v Q hS hSw hSp hm hm2 hm3 hr hv h2
    · exact formsMirrors_long w E hE k r A B B2 n c m d m2 d2 t v Q hS hSw hSp hm hm2 hm3 hr hv hl (by omega)
end Go.Proofs.YtfgnghgmffaepaaDoor
