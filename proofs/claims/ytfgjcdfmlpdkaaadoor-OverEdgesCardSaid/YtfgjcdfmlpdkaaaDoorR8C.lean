/- The document's overlap: edenref08.Edge. Condition: the list reads from memory. -/
import Derived.Test.YtfgjcdfmlpdkaaaDoorR8A
import Derived.Test.YtfgjcdfmlpdkaaaDoorRefS
import Derived.Test.YtfgjcdfmlpdkaaaDoorRef4A
namespace Go.Proofs.YtfgjcdfmlpdkaaaDoor
open Go.RowKit RuleP

/-- What Edge answers where it does not refuse. -/
def edgeV (K R : Int) (T : List Int) (node s : Int) : Int × Int :=
  if edgeT K R T node s = none then ((((node.toNat * K.toNat + s.toNat) % nodesN K R : Nat) : Int), T.getD (node.toNat * K.toNat + s.toNat) 0) else (0, 0)
theorem edgeV_bad {K R : Int} {T : List Int} {node s : Int} {t : Tale} (h : edgeT K R T node s = some t) : edgeV K R T node s = (0, 0) := by
  unfold edgeV
  rw [h, if_neg (by simp)]
theorem edgeV_good {k r u s : Nat} {t : List Nat} (h : edgeT k r (ints t) u s = none) : edgeV k r (ints t) u s = ((((u * k + s) % k ^ (2 * r) : Nat) : Int), ((t.getD (u * k + s) 0 : Nat) : Int)) := by
  unfold edgeV
  rw [h, if_pos rfl]
  simp [nodesN, ints, List.getD_eq_getElem?_getD]
  cases t[u * k + s]? <;> rfl
theorem edgeT_good {k r u s : Nat} {t : List Nat} (hr : IsRule k r t) (h256 : t.length ≤ 256) (hu : u < k ^ (2 * r)) (hs : s < k) : edgeT k r (ints t) u s = none := by
  unfold edgeT
  rw [smallO_rule hr h256]
  simp only
  rw [if_neg (by simp only [nodesN, Int.toNat_natCast]; omega), if_neg (by omega)]
theorem edge_word {k r u s : Nat} (hk : 0 < k) (hu : u < k ^ (2 * r)) (hs : s < k) :
    wval k (digB k (2 * r) u ++ [s]) = u * k + s ∧ wval k ((digB k (2 * r) u ++ [s]).drop 1) = (u * k + s) % k ^ (2 * r) ∧ (∀ x ∈ digB k (2 * r) u ++ [s], x < k) := by
  have hsy : ∀ x ∈ digB k (2 * r) u ++ [s], x < k := by
    intro x hx
    rcases List.mem_append.1 hx with h | h
    · exact digB_sym hk _ _ x h
    · simp at h; subst h; exact hs
  have h1 : wval k (digB k (2 * r) u ++ [s]) = u * k + s := by rw [wval_snoc, wval_digB hk hu]
  refine ⟨h1, ?_, hsy⟩
  have h2 := wval_mod (k := k) ((digB k (2 * r) u ++ [s]).take 1) (b := (digB k (2 * r) u ++ [s]).drop 1) (fun x hx => hsy x (List.mem_of_mem_drop hx))
  rw [List.take_append_drop, h1] at h2
  rw [← h2]
  simp [digB_len]

set_option maxRecDepth 100000 in
set_option maxHeartbeats 4000000 in
theorem refEdge_c (w : World) (K R node s : Int) (A : Option Addr) (n c : Nat) (T : List Int) (hT : Sl w A n (T.map (Value.int .i64))) (hm : n ≤ 9223372036854775807) :
    Calls Tryd.prog 40 #[ruleV K R A n c, .int .i64 node, .int .i64 s] w fun e w' => ∃ (N : Nat) (A1 : Option Addr) (n1 c1 : Nat) (A2 : Option Addr) (n2 c2 : Nat), e = .returned (.tuple #[.int .i64 (edgeV K R T node s).1, .int .i64 (edgeV K R T node s).2, .agg #[.int .i64 (N : Int), .slice A1 n1 c1, .slice A2 n2 c2]]) ∧
      WantB w' w.heap.size (edgeT K R T node s) (.agg #[.int .i64 (N : Int), .slice A1 n1 c1, .slice A2 n2 c2]) ∧ Below w.heap.size w w' := by
  have hl : T.length = n := by simpa using hT.1
  have HL := Lib.hid hl
  have HT := Lib.hid hT
  clear hl
  obtain ⟨EV, hEV⟩ : ∃ EV, edgeV K R T node s = EV := ⟨_, rfl⟩
  rw [hEV]
  have HEV := Lib.hid hEV
  clear hEV
  have hr0 := (RuleAt.new w (.int .i64 K) (.int .i64 R) (.slice A n c)).alloc (.cells #[.int .i64 0, .slice none 0 0, .slice none 0 0] 60)
  have hw0 := WantAt.new (w.alloc (.cells #[.int .i64 K, .int .i64 R, .slice A n c] 24)) (.int .i64 0) (.slice none 0 0) (.slice none 0 0)
  rw [World.size_alloc] at hw0
  have hb0 := ((Below.refl w.heap.size w).alloc (Nat.le_refl _) (.cells #[.int .i64 K, .int .i64 R, .slice A n c] 24)).alloc (by simp) (.cells #[.int .i64 0, .slice none 0 0, .slice none 0 0] 60)
  have hT0 := (hT.alloc (.cells #[.int .i64 K, .int .i64 R, .slice A n c] 24)).alloc (.cells #[.int .i64 0, .slice none 0 0, .slice none 0 0] 60)
  obtain ⟨wx, hwx⟩ : ∃ wx, (w.alloc (.cells #[.int .i64 K, .int .i64 R, .slice A n c] 24)).alloc (.cells #[.int .i64 0, .slice none 0 0, .slice none 0 0] 60) = wx := ⟨_, rfl⟩
  have hsx : wx.heap.size = w.heap.size + 2 := by rw [← hwx]; simp
  have HWX := Lib.hid hwx
  rw [hwx] at hr0 hw0 hb0 hT0
  have HC := Lib.hid (refFault_c wx sOver K R A n c T hT0 hm)
  have HW0 := Lib.hid hw0
  have HB0 := Lib.hid hb0
  have HR0 := Lib.hid hr0
  have HTT := Lib.hid hT0
  obtain ⟨r0, r1, r2, _⟩ := hr0.facts
  clear hw0 hb0 hT hT0 hr0 hwx
  unfold ruleV at *
  go_enter Tryd.func40, Tryd.ntmps40
  go_wp2_with fail
  rw [HWX.out]
  refine (HC.out).mono ?_
  rintro e w1 ⟨N, A1, n1, c1, A2, n2, c2, rfl, hu, hb1⟩
  change WantB w1 wx.heap.size (smallO K R T) _ at hu
  have hw1 := HW0.out.below hb1 (by omega)
  have hr1 := HR0.out.below hb1 (by omega)
  have hw2 := hw1.alloc (.cells #[.int .i64 (N : Int), .slice A1 n1 c1, .slice A2 n2 c2] 60)
  have hr2 := hr1.alloc (.cells #[.int .i64 (N : Int), .slice A1 n1 c1, .slice A2 n2 c2] 60)
  have hv2 := WantAt.new w1 (.int .i64 (N : Int)) (.slice A1 n1 c1) (.slice A2 n2 c2)
  have hb2 := (HB0.out.trans (hb1.mono HB0.out.size)).alloc (by have := HB0.out.size; have := hb1.size; omega) (.cells #[.int .i64 (N : Int), .slice A1 n1 c1, .slice A2 n2 c2] 60)
  have hu2 := hu.below ((Below.refl w1.heap.size w1).alloc (Nat.le_refl _) (.cells #[.int .i64 (N : Int), .slice A1 n1 c1, .slice A2 n2 c2] 60))
  obtain ⟨wy, hwy⟩ : ∃ wy, w1.alloc (.cells #[.int .i64 (N : Int), .slice A1 n1 c1, .slice A2 n2 c2] 60) = wy := ⟨_, rfl⟩
  have HWY := Lib.hid hwy
  have hsy : w1.heap.size < wy.heap.size := by rw [← hwy]; simp
  have hs1 := hb1.size
  rw [hwy] at hw2 hr2 hv2 hb2 hu2
  have HBAD := Lib.hid (errBad_c wy N A1 n1 c1 A2 n2 c2)
  have HW2 := Lib.hid hw2
  have HR2 := Lib.hid hr2
  have HV2 := Lib.hid hv2
  have HB2 := Lib.hid hb2
  have HU2 := Lib.hid hu2
  obtain ⟨v0, v1, v2, _⟩ := hv2.facts
  clear hw1 hr1 hw2 hr2 hv2 hb2 hu2 hu hb1 hwy r0 r1 r2
  have hN := HU2.out.num
  cases ho : smallO K R T with
  | some t =>
    rw [ho] at hN HU2
    have ht := (smallO_ok K R T t ho).1
    have hNz : decide (N ≠ 0) = true := decide_eq_true (by simp only [tnum] at hN; omega)
    rw [hNz] at HBAD
    have HTL := Lib.hid (show edgeT K R T node s = some t by unfold edgeT; rw [ho])
    have HO := Lib.hid ho
    clear ho hN ht hNz
    go_wp2_with fail
    rw [HWY.out]
    refine (HBAD.out).mono ?_
    rintro e w3 ⟨rfl, hb3⟩
    have g0 := cell_later hb3 v0
    have g1 := cell_later hb3 v1
    have g2 := cell_later hb3 v2
    obtain ⟨d0, d1, d2, f0, f1, f2⟩ := (HW2.out.below hb3 (by omega)).facts
    have HU := Lib.hid (((HU2.out.below hb3.drew).set3 (g := w.heap.size + 1) (by omega) (.int .i64 (N : Int)) (.slice A1 n1 c1) (.slice A2 n2 c2)).base (base' := w.heap.size) (by omega))
    have HB := Lib.hid (below_set3 (HB2.out.trans (hb3.drew.mono HB2.out.size)) (Nat.le_succ _) (.int .i64 (N : Int)) (.slice A1 n1 c1) (.slice A2 n2 c2))
    clear v0 v1 v2 hb3
    go_wp2_with fail
    go_still_tail 3, (by kernel_rfl)
    change wpList _ _ _ _ _ (World.drew w3)
    go_wp2_with fail
    exact bodyPost_ret (v := .tuple #[.int .i64 0, .int .i64 0, .agg #[.int .i64 (N : Int), .slice A1 n1 c1, .slice A2 n2 c2]]) (by simp [results, Tryd.results40, go_sem, d0, d1, d2]) rfl ⟨N, A1, n1, c1, A2, n2, c2, by rw [← HEV.out, edgeV_bad HTL.out], by rw [HTL.out]; exact HU.out, HB.out⟩
  | none =>
    rw [ho] at hN
    obtain rfl : N = 0 := hN
    obtain ⟨rfl, rfl, rfl, rfl, rfl, rfl⟩ : A1 = none ∧ n1 = 0 ∧ c1 = 0 ∧ A2 = none ∧ n2 = 0 ∧ c2 = 0 := by
      have := HU2.out
      rw [ho] at this
      have e := this.none_eq
      simp at e
      obtain ⟨⟨q1, q2, q3⟩, q4, q5, q6⟩ := e
      exact ⟨q1, q2, q3, q4, q5, q6⟩
    rw [show decide ((0 : Nat) ≠ 0) = false from rfl, show ((0 : Nat) : Int) = 0 from rfl] at HBAD
    rw [show ((0 : Nat) : Int) = 0 from rfl] at HWY v0
    obtain ⟨k, r, t, rfl, rfl, rfl, hr, h256⟩ := smallO_none ho
    have HCO := Lib.hid (fun wz => count_c wz k r A n c hr.k1 hr.k4 hr.r3)
    have hNN : nodesN (k : Int) (r : Int) = k ^ (2 * r) := by simp [nodesN]
    have hedT : edgeT (k : Int) (r : Int) (ints t) node s = if node < 0 ∨ ((k ^ (2 * r) : Nat) : Int) ≤ node then some (3, [(sOver, 1)]) else if s < 0 ∨ (k : Int) ≤ s then some (3, [(sOver, 2)]) else none := by
      unfold edgeT
      rw [ho, hNN]
    have HR := Lib.hid hr
    unfold ruleV at HCO
    obtain ⟨M, hM⟩ : ∃ M, k ^ (2 * r) = M := ⟨_, rfl⟩
    rw [hM] at HCO hedT
    have HM := Lib.hid hM
    clear ho hr hNN hM
    by_cases h1 : node < 0 ∨ (M : Int) ≤ node
    · rw [if_pos h1] at hedT
      have HTL := Lib.hid hedT
      have h1' : node < 0 ∨ (0 ≤ node ∧ (M : Int) ≤ node) := by omega
      clear hedT h1
      rcases h1' with h1 | ⟨h0, h1⟩
      · go_wp2_with fail
        rw [HWY.out]
        refine (HBAD.out).mono ?_
        rintro e w3 ⟨rfl, hb3⟩
        have HW3 := Lib.hid (HW2.out.below hb3 (by omega))
        have HB3 := Lib.hid (HB2.out.trans (hb3.mono HB2.out.size))
        have hs3 := hb3.size
        clear v0 v1 v2 hb3
        go_wp2_with fail
        refine (newB_c w3 sOver 1 3).mono ?_
        rintro e w5 ⟨A3, n3, c3, A4, n4, c4, rfl, hu, hb5⟩
        obtain ⟨d0, d1, d2, f0, f1, f2⟩ := (HW3.out.below hb5 (by omega)).facts
        obtain ⟨hwb, hbb⟩ := want_boxed (g := w.heap.size + 1) (base := w.heap.size) hu (by omega) (Nat.le_succ _) (HB3.out.trans (hb5.mono HB3.out.size))
        have HWB := Lib.hid hwb
        have HBB := Lib.hid hbb
        clear hu hb5 hwb hbb
        go_wp2_with fail
        exact bodyPost_ret (v := .tuple #[.int .i64 0, .int .i64 0, .agg #[.int .i64 3, .slice A3 n3 c3, .slice A4 n4 c4]]) (by simp [results, Tryd.results40, go_sem, d0, d1, d2]) rfl ⟨3, A3, n3, c3, A4, n4, c4, by rw [← HEV.out, edgeV_bad HTL.out]; rfl, by rw [HTL.out]; exact HWB.out, HBB.out⟩
      · go_wp2_with fail
        rw [HWY.out]
        refine (HBAD.out).mono ?_
        rintro e w3 ⟨rfl, hb3⟩
        obtain ⟨r0, r1, r2, _⟩ := (HR2.out.below hb3 (by omega)).facts
        have HW3 := Lib.hid (HW2.out.below hb3 (by omega))
        have HB3 := Lib.hid (HB2.out.trans (hb3.mono HB2.out.size))
        have hs3 := hb3.size
        clear v0 v1 v2 hb3
        go_wp2_with fail
        refine (HCO.out _).mono ?_
        rintro e w4 ⟨rfl, hb4⟩
        have HW4 := Lib.hid (HW3.out.below hb4 (by omega))
        have HB4 := Lib.hid (HB3.out.trans (hb4.mono HB3.out.size))
        have hs4 := hb4.size
        clear hb4
        go_wp2_with fail
        refine (newB_c w4 sOver 1 3).mono ?_
        rintro e w5 ⟨A3, n3, c3, A4, n4, c4, rfl, hu, hb5⟩
        obtain ⟨d0, d1, d2, f0, f1, f2⟩ := (HW4.out.below hb5 (by omega)).facts
        obtain ⟨hwb, hbb⟩ := want_boxed (g := w.heap.size + 1) (base := w.heap.size) hu (by omega) (Nat.le_succ _) (HB4.out.trans (hb5.mono HB4.out.size))
        have HWB := Lib.hid hwb
        have HBB := Lib.hid hbb
        clear hu hb5 hwb hbb
        go_wp2_with fail
        exact bodyPost_ret (v := .tuple #[.int .i64 0, .int .i64 0, .agg #[.int .i64 3, .slice A3 n3 c3, .slice A4 n4 c4]]) (by simp [results, Tryd.results40, go_sem, d0, d1, d2]) rfl ⟨3, A3, n3, c3, A4, n4, c4, by rw [← HEV.out, edgeV_bad HTL.out]; rfl, by rw [HTL.out]; exact HWB.out, HBB.out⟩
    · rw [if_neg h1] at hedT
      have g0 : 0 ≤ node := by omega
      have g1 : node < (M : Int) := by omega
      have d0 : decide (node < 0) = false := decide_eq_false (by omega)
      have d1 : decide ((M : Int) ≤ node) = false := decide_eq_false (by omega)
      clear h1
      go_wp2_with fail
      rw [HWY.out]
      refine (HBAD.out).mono ?_
      rintro e w3 ⟨rfl, hb3⟩
      have hr3 := HR2.out.below hb3 (by omega)
      obtain ⟨r0, r1, r2, _⟩ := hr3.facts
      have HR3 := Lib.hid hr3
      have HW3 := Lib.hid (HW2.out.below hb3 (by omega))
      have HB3 := Lib.hid (HB2.out.trans (hb3.mono HB2.out.size))
      have hs3 := hb3.size
      clear v0 v1 v2 hb3 hr3
      go_wp2_with fail
      refine (HCO.out _).mono ?_
      rintro e w4 ⟨rfl, hb4⟩
      have hr4 := HR3.out.below hb4 (by omega)
      obtain ⟨q0, q1, q2, _⟩ := hr4.facts
      have HR4 := Lib.hid hr4
      have HW4 := Lib.hid (HW3.out.below hb4 (by omega))
      have HB4 := Lib.hid (HB3.out.trans (hb4.mono HB3.out.size))
      have hs4 := hb4.size
      clear hb4 hr4 r0 r1 r2
      by_cases h2 : s < 0 ∨ (k : Int) ≤ s
      · rw [if_pos h2] at hedT
        have HTL := Lib.hid hedT
        have h2' : s < 0 ∨ (0 ≤ s ∧ (k : Int) ≤ s) := by omega
        clear hedT h2
        rcases h2' with h2 | ⟨h0, h2⟩
        all_goals
          go_wp2_with fail
          refine (newB_c w4 sOver 2 3).mono ?_
          rintro e w5 ⟨A3, n3, c3, A4, n4, c4, rfl, hu, hb5⟩
          obtain ⟨d0, d1, d2, f0, f1, f2⟩ := (HW4.out.below hb5 (by omega)).facts
          obtain ⟨hwb, hbb⟩ := want_boxed (g := w.heap.size + 1) (base := w.heap.size) hu (by omega) (Nat.le_succ _) (HB4.out.trans (hb5.mono HB4.out.size))
          have HWB := Lib.hid hwb
          have HBB := Lib.hid hbb
          clear hu hb5 hwb hbb
          go_wp2_with fail
          exact bodyPost_ret (v := .tuple #[.int .i64 0, .int .i64 0, .agg #[.int .i64 3, .slice A3 n3 c3, .slice A4 n4 c4]]) (by simp [results, Tryd.results40, go_sem, d0, d1, d2]) rfl ⟨3, A3, n3, c3, A4, n4, c4, by rw [← HEV.out, edgeV_bad HTL.out]; rfl, by rw [HTL.out]; exact HWB.out, HBB.out⟩
      · rw [if_neg h2] at hedT
        obtain ⟨u, rfl⟩ : ∃ u : Nat, node = (u : Int) := ⟨node.toNat, by omega⟩
        obtain ⟨q, rfl⟩ : ∃ q : Nat, s = (q : Int) := ⟨s.toNat, by omega⟩
        have hu : u < M := by omega
        have hq : q < k := by omega
        have hk1 := HR.out.k1
        have hk4 := HR.out.k4
        have hr3' := HR.out.r3
        have hN256 : M ≤ 256 := by
          have h3 := (nodes_div HR.out).2
          rw [HM.out] at h3
          have : M * 1 ≤ M * k := Nat.mul_le_mul_left _ hk1
          omega
        obtain ⟨hw1, hw2, hw3⟩ := edge_word (k := k) (r := r) (u := u) (s := q) (by omega) (by rw [HM.out]; exact hu) hq
        have hev := edgeV_good (k := k) (r := r) (u := u) (s := q) (t := t) hedT
        have hlt : u * k + q < t.length := by
          have h3 := (nodes_div HR.out).2
          rw [HM.out] at h3
          rw [h3]
          have : (u + 1) * k ≤ M * k := Nat.mul_le_mul_right _ hu
          rw [Nat.add_mul, Nat.one_mul] at this
          omega
        rw [HM.out] at hev hw2
        rw [HEV.out] at hev
        obtain ⟨e0, he0⟩ : ∃ e0, u * k + q = e0 := ⟨_, rfl⟩
        rw [he0] at hw1 hw2 hev hlt
        have HEV2 := Lib.hid hev
        have HTN := Lib.hid hedT
        have HW1 := Lib.hid hw1
        have HW2' := Lib.hid hw2
        have HW3' := Lib.hid hw3
        have a3 : decide ((q : Int) < 0) = false := decide_eq_false (by omega)
        have a4 : decide ((k : Int) ≤ (q : Int)) = false := decide_eq_false (by omega)
        have a6 : ¬ k ≤ q := by omega
        have HDG := Lib.hid (digits_c w4 k (2 * r) u hk1 (by omega) (by omega) (by omega))
        rw [show ((2 * r : Nat) : Int) = 2 * (r : Int) from by simp] at HDG
        have s1 : IntKind.i64.wrap (2 * (r : Int)) = 2 * (r : Int) := IntWalk.i64_in _ (by omega)
        clear hw1 hw2 hw3 hev he0 hedT h2
        go_wp2_with fail
        refine (HDG.out).mono ?_
        rintro e w5 ⟨rfl, hown5, hb5⟩
        have hr5 := HR4.out.below hb5 (by omega)
        obtain ⟨p0, p1, p2, _⟩ := hr5.facts
        have HR5 := Lib.hid hr5
        have HW5 := Lib.hid (HW4.out.below hb5 (by omega))
        have HB5 := Lib.hid (HB4.out.trans (hb5.mono HB4.out.size))
        have hs5 := hb5.size
        clear hr5 q0 q1 q2
        go_wp2_with (at_builtin; refine wpList_push2 rfl _ _ _ rfl tInts hown5 rfl _ 0 rfl rfl rfl (by simp only [maxLen]; omega) (by omega) (by omega) ?_; intro g cap w6 hown6 hor6 hlt6)
        have hb46 : Below w4.heap.size w4 w6 := hb5.trans ((push_keeps hor6).below hs5 (fun b hb => Nat.le_of_eq (show w4.heap.size = b from by simpa [Value.ownBlock] using hb)))
        rw [ints_snoc] at hown6
        have hr6 := HR4.out.below hb46 (by omega)
        obtain ⟨p0, p1, p2, _⟩ := hr6.facts
        have HW6 := Lib.hid (HW4.out.below hb46 (by omega))
        have HB6 := Lib.hid (HB4.out.trans (hb46.mono HB4.out.size))
        have hT6 := HT.out.below HB6.out
        rw [ints_map] at hT6
        obtain ⟨ta, y, rfl, hye, htc⟩ := hT6.word_ (show e0 < n by have := HL.out; rw [ints_len] at this; omega)
        have hs6 := hb46.size
        have hSl := Sl.of_own hown6
        have HV1 := Lib.hid (value_c w6.drew k (some ⟨g, 0, none⟩) (2 * r + 1) cap (digB k (2 * r) u ++ [q]) hk1 hk4 HW3'.out hSl (by omega))
        have hcap := (own_le hown6).1
        have hyv : t.getD e0 0 = y := by rw [List.getD_eq_getElem?_getD, hye]; rfl
        have HY := Lib.hid hyv
        have hsl1 : ¬ cap = 1 → Sl w6 (some ⟨g, 1, none⟩) (2 * r) ((ints ((digB k (2 * r) u ++ [q]).drop 1)).map (Value.int .i64)) := fun _ => by
          refine ⟨by simp [ints, digB_len], fun j v hv => ⟨_, rfl, ?_⟩⟩
          rw [← ints_drop, List.map_drop, List.getElem?_drop] at hv
          obtain ⟨ad, e, hc⟩ := hSl.2 _ _ hv
          cases e
          rw [show (⟨g, 0, none⟩ : Addr).add (1 + j) = (⟨g, 1, none⟩ : Addr).add j from by unfold Addr.add; split <;> (try split) <;> simp_all] at hc
          exact hc
        have hsl0 : cap = 1 → Sl w6 (some ⟨g, 0, none⟩) 0 ((ints ((digB k (2 * r) u ++ [q]).drop 1)).map (Value.int .i64)) := fun hc => by
          have hr0 : r = 0 := by omega
          subst hr0
          exact Sl.nil _ _
        have b1 : (1 : Int) ≤ 2 * (r : Int) + 1 := by omega
        have b2 : (2 : Int) * (r : Int) + 1 ≤ (cap : Int) := by omega
        clear hb46 hr6 hor6 hT6 hb5 hye hyv
        have hcc : cap = 1 ∨ ¬ cap = 1 := Decidable.em _
        have hen : e0 < n := by have := HL.out; rw [ints_len] at this; omega
        obtain ⟨d0, d1, d2, f0, f1, f2⟩ := HW6.out.facts
        have hen2 : (e0 : Int) < (n : Int) := by omega
        have hen3 : (0 : Int) ≤ (e0 : Int) := by omega
        have hfin : ((((w6.setCell ⟨w.heap.size + 1, 0, none⟩ (.int .i64 0)).setCell ⟨w.heap.size + 1, 1, none⟩ (.slice none 0 0)).setCell ⟨w.heap.size + 1, 2, none⟩ (.slice none 0 0)).drew).cell? (ta.add e0) = some (.int .i64 (y : Int)) :=
          (keeps_set3 w6 (w.heap.size + 1) (.int .i64 0) (.slice none 0 0) (.slice none 0 0)).cell htc (fun e => by
            obtain ⟨ad, v, e1, _, hc⟩ := HT.out.at_ hen
            cases e1
            have := World.block_lt_of_cell? _ _ hc
            omega)
        have hne1 : ¬ w.heap.size + 1 = w.heap.size := by omega
        rcases hcc with hc1 | hc1
        · have HV2 := Lib.hid (value_c w6.drew k (some ⟨g, 0, none⟩) 0 0 ((digB k (2 * r) u ++ [q]).drop 1) hk1 hk4 (fun x hx => HW3'.out x (List.mem_of_mem_drop hx)) (hsl0 hc1) (by omega))
          rw [HW2'.out] at HV2
          rw [HW1.out] at HV1
          clear hsl0 hsl1 hSl
          subst hc1
          go_wp2_with fail
          go_region_held3 (fun w' => w'.cell? ⟨w.heap.size, 0, none⟩ = some (.int .i64 (k : Int)) ∧ w'.cell? ⟨w.heap.size, 1, none⟩ = some (.int .i64 (r : Int)) ∧ w'.cell? ⟨w.heap.size, 2, none⟩ = some (.slice (some ta) n c) ∧ w'.cell? (ta.add e0) = some (.int .i64 (y : Int)))
            (first | (refine ⟨?_, ?_, ?_, ?_⟩ <;> assumption) | go_keep)
            (first
              | (go_at_call 84
                 refine (HV2.out).mono ?_
                 rintro e3 w3 ⟨rfl, rfl⟩
                 clear HV2)
              | (go_at_call 84
                 refine (HV1.out).mono ?_
                 rintro e3 w3 ⟨rfl, rfl⟩))
          have HB9 := Lib.hid ((below_set3 HB6.out (Nat.le_succ w.heap.size) (.int .i64 0) (.slice none 0 0) (.slice none 0 0)).drew)
          clear hfin
          go_wp2_with fail
          exact bodyPost_ret (v := .tuple #[.int .i64 ((e0 : Int) % (M : Int)), .int .i64 (y : Int), .agg #[.int .i64 0, .slice none 0 0, .slice none 0 0]]) (by simp [results, Tryd.results40, go_sem, d0, d1, d2]) rfl ⟨0, none, 0, 0, none, 0, 0, by rw [HEV2.out, HY.out]; rfl, by rw [HTN.out]; exact WantB.zero _ _, HB9.out⟩
        · have HV2 := Lib.hid (value_c w6.drew k (some ⟨g, 1, none⟩) (2 * r) (cap - 1) ((digB k (2 * r) u ++ [q]).drop 1) hk1 hk4 (fun x hx => HW3'.out x (List.mem_of_mem_drop hx)) (hsl1 hc1) (by omega))
          rw [HW2'.out] at HV2
          rw [HW1.out] at HV1
          clear hsl0 hsl1 hSl
          go_wp2_with fail
          go_region_held3 (fun w' => w'.cell? ⟨w.heap.size, 0, none⟩ = some (.int .i64 (k : Int)) ∧ w'.cell? ⟨w.heap.size, 1, none⟩ = some (.int .i64 (r : Int)) ∧ w'.cell? ⟨w.heap.size, 2, none⟩ = some (.slice (some ta) n c) ∧ w'.cell? (ta.add e0) = some (.int .i64 (y : Int)))
            (first | (refine ⟨?_, ?_, ?_, ?_⟩ <;> assumption) | go_keep)
            (first
              | (go_at_call 84
                 refine (HV2.out).mono ?_
                 rintro e3 w3 ⟨rfl, rfl⟩
                 clear HV2)
              | (go_at_call 84
                 refine (HV1.out).mono ?_
                 rintro e3 w3 ⟨rfl, rfl⟩))
          have HB9 := Lib.hid ((below_set3 HB6.out (Nat.le_succ w.heap.size) (.int .i64 0) (.slice none 0 0) (.slice none 0 0)).drew)
          clear hfin
          go_wp2_with fail
          exact bodyPost_ret (v := .tuple #[.int .i64 ((e0 : Int) % (M : Int)), .int .i64 (y : Int), .agg #[.int .i64 0, .slice none 0 0, .slice none 0 0]]) (by simp [results, Tryd.results40, go_sem, d0, d1, d2]) rfl ⟨0, none, 0, 0, none, 0, 0, by rw [HEV2.out, HY.out]; rfl, by rw [HTN.out]; exact WantB.zero _ _, HB9.out⟩
end Go.Proofs.YtfgjcdfmlpdkaaaDoor
