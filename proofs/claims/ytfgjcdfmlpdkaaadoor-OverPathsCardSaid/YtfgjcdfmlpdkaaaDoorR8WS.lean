/- From which nodes on a word's labels can be written: edenref08.Ways. Condition: the rule is small; table and word read from memory. What memory holds of the document's search among preimages: edenref08's search. Plain lemmas, no program. No condition. -/
import Derived.Test.YtfgjcdfmlpdkaaaDoorR8AF
import Derived.Test.YtfgjcdfmlpdkaaaDoorPreQ
namespace Go.Proofs.YtfgjcdfmlpdkaaaDoor
open Go.RowKit RuleP

/-- Rows behind place i are done; row i is under way. -/
structure WaysR (w0 w : World) (g0 k N : Nat) (t W : List Nat) (G : List Value) (i g : Nat) (fl : List Bool) : Prop where
  old : Below w0.heap.size w0 w
  out : w.ownsRow w0.heap.size 98 1 (.slice (some ⟨g0, 0, none⟩) (W.length + 1) (W.length + 1)) (W.length + 1) G
  cur : G[i]? = some (.slice (some ⟨g, 0, none⟩) N N)
  row : w.ownsRow w0.heap.size 4 1 (.slice (some ⟨g, 0, none⟩) N N) N (fl.map Value.bool)
  rows : ∀ j, i < j → j ≤ W.length → ∃ g', G[j]? = some (.slice (some ⟨g', 0, none⟩) N N) ∧ g' ≠ g ∧ w.ownsRow w0.heap.size 4 1 (.slice (some ⟨g', 0, none⟩) N N) N ((wayRow k N t (W.drop j)).map Value.bool)

variable {w0 w w' : World} {g0 k N : Nat} {t W : List Nat} {G : List Value} {i g : Nat} {fl : List Bool}
theorem WaysR.pure (h : WaysR w0 w g0 k N t W G i g fl) (hb : Below w.heap.size w w') : WaysR w0 w' g0 k N t W G i g fl :=
  ⟨h.old.trans (hb.mono h.old.size), own_below h.out hb, h.cur, own_below h.row hb, fun j h1 h2 => by
    obtain ⟨g', e1, e2, e3⟩ := h.rows j h1 h2
    exact ⟨g', e1, e2, own_below e3 hb⟩⟩
theorem WaysR.set (h : WaysR w0 w g0 k N t W G i g fl) (u : Nat) (b : Bool) : WaysR w0 (w.setCell ⟨g, u, none⟩ (.bool b)) g0 k N t W G i g (fl.set u b) := by
  have hk := Keeps.of_setCell w ⟨g, u, none⟩ (.bool b)
  refine ⟨h.old.setCell (h.row.lt g rfl).1 _, own_keeps h.out hk (fun g' hg' e => ?_), h.cur, ?_, fun j h1 h2 => ?_⟩
  · have e' : g' = g := e
    subst e'
    exact own_ne_own h.out h.row (by decide) hg' rfl
  · have := (h.row.stored u (.bool b)).1
    rw [← List.map_set] at this
    exact this
  · obtain ⟨g', e1, e2, e3⟩ := h.rows j h1 h2
    exact ⟨g', e1, e2, own_keeps e3 hk (fun g2 hg2 e => e2 (by
      have e' : g2 = g := e
      have e4 : g' = g2 := by simpa [Value.ownBlock] using hg2
      omega))⟩
/-- Every row from place i on. -/
def WaysP (w0 w : World) (g0 k N : Nat) (t W : List Nat) (G : List Value) (i : Nat) : Prop :=
  Below w0.heap.size w0 w ∧ w.ownsRow w0.heap.size 98 1 (.slice (some ⟨g0, 0, none⟩) (W.length + 1) (W.length + 1)) (W.length + 1) G ∧
  ∀ j, i ≤ j → j ≤ W.length → ∃ g', G[j]? = some (.slice (some ⟨g', 0, none⟩) N N) ∧ w.ownsRow w0.heap.size 4 1 (.slice (some ⟨g', 0, none⟩) N N) N ((wayRow k N t (W.drop j)).map Value.bool)
theorem WaysR.done (h : WaysR w0 w g0 k N t W G i g (wayRow k N t (W.drop i))) : WaysP w0 w g0 k N t W G i :=
  ⟨h.old, h.out, fun j h1 h2 => by
    rcases Nat.lt_or_ge i j with hij | hij
    · obtain ⟨g', e1, _, e3⟩ := h.rows j hij h2
      exact ⟨g', e1, e3⟩
    · obtain rfl : i = j := by omega
      exact ⟨g, h.cur, h.row⟩⟩
/-- A new row. -/
theorem WaysP.next (h : WaysP w0 w g0 k N t W G (i + 1)) (hi : i ≤ W.length) (hN : N ≤ maxLen) :
    WaysR w0 ((w.setCell ⟨g0, i, none⟩ (.slice (some ⟨w.heap.size, 0, none⟩) N N)).alloc (.cells (madeCells #[.bool false] N) 4)) g0 k N t W (G.set i (.slice (some ⟨w.heap.size, 0, none⟩) N N)) i w.heap.size (List.replicate N false) := by
  obtain ⟨h1, h2, h3⟩ := h
  have hb := (Below.refl w.heap.size w).alloc (Nat.le_refl _) (.cells (madeCells #[.bool false] N) 4)
  have hnew := World.ownsRow_lit (base := w.heap.size) (e := 4) (size := 1) w (madeCells #[.bool false] N) N (Nat.le_refl _) hN (by rw [size_madeCells]; simp)
  rw [toList_madeCells_one] at hnew
  have hnew := own_base hnew (show w0.heap.size ≤ w.heap.size from h1.size)
  have hlt0 := (h2.lt g0 rfl)
  have hGl : G.length = W.length + 1 := by simpa using h2.1
  rw [← World.setCell_alloc_past (hn := hlt0.2)]
  have a1 := h1.trans (hb.mono h1.size)
  have a2 := own_below h2 hb
  have a3 : ∀ j, i + 1 ≤ j → j ≤ W.length → ∃ g', G[j]? = some (.slice (some ⟨g', 0, none⟩) N N) ∧ g' < w.heap.size ∧ (w.alloc (.cells (madeCells #[.bool false] N) 4)).ownsRow w0.heap.size 4 1 (.slice (some ⟨g', 0, none⟩) N N) N ((wayRow k N t (W.drop j)).map Value.bool) := fun j q1 q2 => by
    obtain ⟨g', e1, e3⟩ := h3 j q1 q2
    exact ⟨g', e1, (e3.lt g' rfl).2, own_below e3 hb⟩
  obtain ⟨wa, hwa⟩ : ∃ wa, w.alloc (.cells (madeCells #[.bool false] N) 4) = wa := ⟨_, rfl⟩
  rw [hwa] at a1 a2 a3 hnew ⊢
  have hk := Keeps.of_setCell wa ⟨g0, i, none⟩ (.slice (some ⟨w.heap.size, 0, none⟩) N N)
  have hne : ∀ {n : Nat} {v : Value} {xs : List Value}, wa.ownsRow w0.heap.size 4 1 v n xs → ∀ g, v.ownBlock = some g → ¬ (g = (⟨g0, i, none⟩ : Addr).block) := fun ho g hg e => by
    have e' : g = g0 := e
    subst e'
    exact own_ne_own ho a2 (by decide) hg rfl
  refine ⟨a1.setCell hlt0.1 _, (a2.stored i _).1, List.getElem?_set_self (by omega), ?_, fun j q1 q2 => ?_⟩
  · rw [List.map_replicate]
    exact own_keeps hnew hk (hne hnew)
  · obtain ⟨g', e1, e2, e3⟩ := a3 j (by omega) q2
    exact ⟨g', by rw [List.getElem?_set_ne (by omega)]; exact e1, by omega, own_keeps e3 hk (hne e3)⟩
theorem WaysR.facts (h : WaysR w0 w g0 k N t W G i g fl) (hi : i ≤ W.length) :
    w.cell? ⟨g0, i, none⟩ = some (.slice (some ⟨g, 0, none⟩) N N) ∧ g < w.heap.size ∧ g0 < w.heap.size ∧ g ≠ g0 ∧ ∀ u, u < N → ∃ b, fl[u]? = some b ∧ w.cell? ⟨g, u, none⟩ = some (.bool b) ∧ w.frozen? ⟨g, u, none⟩ = false := by
  refine ⟨?_, (h.row.lt g rfl).2, (h.out.lt g0 rfl).2, fun e => ?_, fun u hu => ?_⟩
  · rw [h.out.cellAt i (by omega), h.cur]
  · subst e
    exact own_ne_own h.row h.out (by decide) rfl rfl
  · have hl : fl.length = N := by simpa using h.row.1
    refine ⟨fl[u], List.getElem?_eq_getElem (by omega), ?_, h.row.frozenAt u⟩
    rw [h.row.cellAt u (by omega), List.getElem?_map, List.getElem?_eq_getElem (by omega)]
    rfl
theorem WaysR.behind (h : WaysR w0 w g0 k N t W G i g fl) (hi : i < W.length) {x : Nat} (hx : x < N) :
    ∃ g', w.cell? ⟨g0, i + 1, none⟩ = some (.slice (some ⟨g', 0, none⟩) N N) ∧ w.cell? ⟨g', x, none⟩ = some (.bool (wayB k N t x (W.drop (i + 1)))) := by
  obtain ⟨g', e1, _, e3⟩ := h.rows (i + 1) (by omega) (by omega)
  refine ⟨g', by rw [h.out.cellAt (i + 1) (by omega), e1], ?_⟩
  rw [e3.cellAt x (by omega), List.getElem?_map, wayRow_at hx]
  rfl
/-- The rows as they are made at first. -/
theorem WaysP.start (w0 w : World) (k N : Nat) (t W : List Nat) (hb : Below w0.heap.size w0 w) (hm : W.length + 1 ≤ maxLen) :
    WaysP w0 (w.alloc (.cells (madeCells #[.slice none 0 0] (W.length + 1)) 98)) w.heap.size k N t W (List.replicate (W.length + 1) (.slice none 0 0)) (W.length + 1) := by
  have h1 := World.ownsRow_lit (base := w.heap.size) (e := 98) (size := 1) w (madeCells #[.slice none 0 0] (W.length + 1)) (W.length + 1) (Nat.le_refl _) hm (by rw [size_madeCells]; simp)
  rw [toList_madeCells_one] at h1
  exact ⟨hb.alloc hb.size _, own_base h1 hb.size, fun j q1 q2 => by omega⟩

/-- What Ways answers: the rows G. -/
def WaysAt (w : World) (base k N : Nat) (t W : List Nat) (v : Value) (G : List Value) : Prop :=
  ∃ g0, v = .slice (some ⟨g0, 0, none⟩) (W.length + 1) (W.length + 1) ∧ w.ownsRow base 98 1 v (W.length + 1) G ∧
    ∀ j, j ≤ W.length → ∃ g', G[j]? = some (.slice (some ⟨g', 0, none⟩) N N) ∧ w.ownsRow base 4 1 (.slice (some ⟨g', 0, none⟩) N N) N ((wayRow k N t (W.drop j)).map Value.bool)

set_option maxRecDepth 100000 in
set_option maxHeartbeats 4000000 in
theorem ways_c (w : World) (k r : Nat) (A B : Option Addr) (n c m d : Nat) (t W : List Nat) (hr : IsRule k r t) (hsm : t.length ≤ 256) (hT : Sl w A n ((ints t).map (Value.int .i64))) (hW : Sl w B m ((ints W).map (Value.int .i64))) (hm : m ≤ 4096) :
    Calls Tryd.prog 77 #[ruleV k r A n c, .slice B m d] w fun e w' => ∃ v G, e = .returned v ∧ WaysAt w' w.heap.size k (k ^ (2 * r)) t W v G ∧ Below w.heap.size w w' := by
  have hnt : t.length = n := by simpa [ints] using hT.1
  have hmw : W.length = m := by simpa [ints] using hW.1
  subst hnt hmw
  have hk1 := hr.k1
  have hk4 := hr.k4
  have hr3 := hr.r3
  have hNk := (nodes_div hr).2
  have hb0 := (Below.refl w.heap.size w).alloc (Nat.le_refl _) (.cells #[.int .i64 (k : Int), .int .i64 (r : Int), .slice A t.length c] 24)
  have hr0 := RuleAt.new w (.int .i64 (k : Int)) (.int .i64 (r : Int)) (.slice A t.length c)
  have hT0 := hT.below hb0
  have hW0 := hW.below hb0
  obtain ⟨w0, hw0⟩ : ∃ w0, w.alloc (.cells #[.int .i64 (k : Int), .int .i64 (r : Int), .slice A t.length c] 24) = w0 := ⟨_, rfl⟩
  have hs0 : w0.heap.size = w.heap.size + 1 := by rw [← hw0]; simp
  have HW0 := Lib.hid hw0
  rw [hw0] at hb0 hr0 hT0 hW0
  have HCO := Lib.hid (fun wz => count_c wz k r A t.length c hk1 hk4 hr3)
  obtain ⟨N, hN⟩ : ∃ N, k ^ (2 * r) = N := ⟨_, rfl⟩
  have hN1 : 1 ≤ N := by rw [← hN]; exact Nat.pow_pos hk1
  rw [hN] at hNk HCO ⊢
  have hN256 : N ≤ 256 := by
    have : N * 1 ≤ N * k := Nat.mul_le_mul_left _ hk1
    omega
  have HRU := Lib.hid (fun (wz : World) (hz : Below w0.heap.size w0 wz) => (hr0.below hz (by omega)).facts)
  have HTA := Lib.hid (fun (wz : World) (hz : Below w0.heap.size w0 wz) => hT0.below hz)
  have HWA := Lib.hid (fun (wz : World) (hz : Below w0.heap.size w0 wz) => hW0.below hz)
  have HB0 := Lib.hid hb0
  have HR := Lib.hid hr
  have HNK := Lib.hid hNk
  obtain ⟨r0, r1, r2, _⟩ := hr0.facts
  clear hb0 hr0 hT0 hW0 hT hW hw0 hr hNk hN
  unfold ruleV at *
  go_enter Tryd.func77, Tryd.ntmps77
  go_wp2_with fail
  rw [HW0.out]
  refine (HCO.out _).mono ?_
  rintro e w1 ⟨rfl, hb1⟩
  have hmk := run_make_row' (P := Tryd.prog) 95 98 (.slice none 0 0) 24 tBoolss.und tBoolss.info rfl .i64 .i64 (W.length + 1) (by omega) (by omega)
  have hmk' : ∀ wz : World, (Instr.makeSlice 95 (.int .i64 ((W.length : Int) + 1)) (.int .i64 ((W.length : Int) + 1))).run Tryd.prog wz = .ok (.slice (some ⟨wz.heap.size, 0, none⟩) (W.length + 1) (W.length + 1)) (wz.alloc (.cells (madeCells #[.slice none 0 0] (W.length + 1)) 98)) := fun wz => by simpa using hmk wz
  have hmk2 := run_make_row' (P := Tryd.prog) 98 4 (.bool false) 1 tBools.und tBools.info rfl .i64 .i64 N (by omega) (by omega)
  have hP0 := WaysP.start w0 w1 k N t W hb1 (by simp only [maxLen]; omega)
  have hmk1 := hmk' w1
  obtain ⟨wA, hwA⟩ : ∃ wA, w1.alloc (.cells (madeCells #[.slice none 0 0] (W.length + 1)) 98) = wA := ⟨_, rfl⟩
  have hsA : wA.heap.size = w1.heap.size + 1 := by rw [← hwA]; simp
  rw [hwA] at hP0 hmk1
  have hP1 := hP0.next (Nat.le_refl _) (show N ≤ maxLen by simp only [maxLen]; omega)
  have hcm := hP0.2.1.cellAt W.length (by omega)
  rw [List.getElem?_replicate, if_pos (by omega)] at hcm
  have hfm := hP0.2.1.frozenAt W.length
  have hlA : w1.heap.size < wA.heap.size := by omega
  have hmk3 := hmk2 wA
  have HMK2 := Lib.hid hmk2
  obtain ⟨G1, HP1⟩ : ∃ G1, Hid (WaysR w0 ((wA.setCell ⟨w1.heap.size, W.length, none⟩ (.slice (some ⟨wA.heap.size, 0, none⟩) N N)).alloc (.cells (madeCells #[.bool false] N) 4)) w1.heap.size k N t W G1 W.length wA.heap.size (wayPart k N t [] 0)) :=
    ⟨_, Lib.hid (by rw [wayPart_zero]; exact hP1)⟩
  clear hmk hmk' hmk2 hP0 hP1 r0 r1 r2 hwA hsA
  go_wp2_with fail
  obtain ⟨gA, hgA⟩ : ∃ gA, w1.heap.size = gA := ⟨_, rfl⟩
  obtain ⟨gB, hgB⟩ : ∃ gB, wA.heap.size = gB := ⟨_, rfl⟩
  have HGB := Lib.hid hgB
  have HGA := Lib.hid hgA
  rw [hgA, hgB] at HP1 ⊢
  clear hgA hgB hmk1 hmk3 hcm hfm hlA hb1
  go_loopw [7] (fun uv wr => ∃ u : Nat, u ≤ N ∧ uv = .int .i64 (u : Int) ∧ Hid (WaysR w0 wr gA k N t W G1 W.length gB (wayPart k N t [] u))) (fun uv _ => N - (intOf uv).toNat)
  case atStart => exact ⟨0, Nat.zero_le _, rfl, HP1⟩
  case round =>
    obtain ⟨u, hu, rfl, hP⟩ := hrel
    clear HP1
    by_cases hlt : u < N
    · obtain ⟨x0, x1, x2, x3, x4⟩ := hP.out.facts (Nat.le_refl _)
      obtain ⟨b, _, y0, y1⟩ := x4 u hlt
      have h2 := hP.out.set u (wayB k N t u [])
      rw [wayPart_set hlt, wayB_nil] at h2
      have HN2 := Lib.hid h2
      clear h2 x4 hP
      go_wp2_with fail
      exact ⟨⟨u + 1, by omega, by go_num, HN2⟩, by simp [intOf]; omega⟩
    · obtain rfl : u = N := by omega
      have hP1 := hP.out
      rw [show wayPart k u t [] u = wayRow k u t (W.drop W.length) by rw [wayPart_all, List.drop_length]] at hP1
      have HP2 := Lib.hid hP1.done
      clear hP hP1 hlt hu
      go_wp2_with fail
      obtain ⟨wo, rfl⟩ : ∃ wo : World, wo = wr := ⟨_, rfl⟩
      go_loopw [8] (fun iv wq => ∃ (q : Nat) (z : Int) (G : List Value), q ≤ W.length ∧ iv = .int .i64 z ∧ Hid (z = (q : Int) - 1) ∧ Hid (WaysP w0 wq gA k u t W G q)) (fun iv _ => (intOf iv + 1).toNat)
      case atStart => exact ⟨W.length, _, G1, Nat.le_refl _, rfl, Lib.hid rfl, HP2⟩
      case round =>
        obtain ⟨q, z, G, hq, rfl, hz, hP⟩ := hrel
        obtain ⟨wq, rfl⟩ : ∃ wq : World, wq = wr := ⟨_, rfl⟩
        clear HP2
        cases q with
        | zero =>
          obtain rfl : z = -1 := by have := hz.out; simpa using this
          go_wp2_with fail
          go_ret
          exact ⟨_, G, rfl, ⟨gA, rfl, own_base hP.out.2.1 (by omega), fun j hj => by
            obtain ⟨g', e1, e2⟩ := hP.out.2.2 j (Nat.zero_le _) hj
            exact ⟨g', e1, own_base e2 (by omega)⟩⟩, HB0.out.trans (hP.out.1.mono (by omega))⟩
        | succ i =>
          obtain rfl : z = (i : Int) := by have := hz.out; omega
          have hdrop := drop_cons (show i < W.length by omega)
          obtain ⟨c1, hc1⟩ : ∃ c1, W.getD i 0 = c1 := ⟨_, rfl⟩
          obtain ⟨V, hV⟩ : ∃ V, W.drop (i + 1) = V := ⟨_, rfl⟩
          rw [hc1, hV] at hdrop
          have HC1 := Lib.hid hc1
          have HV := Lib.hid hV
          have HDR := Lib.hid hdrop
          have hGl : G.length = W.length + 1 := by simpa using hP.out.2.1.1
          have hcm := hP.out.2.1.cellAt i (by omega)
          obtain ⟨gv, hgv⟩ : ∃ gv, G[i]? = some gv := ⟨_, List.getElem?_eq_getElem (by omega)⟩
          rw [hgv] at hcm
          have hfm := hP.out.2.1.frozenAt i
          have hlA := (hP.out.2.1.lt _ rfl).2
          have hmk3 := HMK2.out wq
          obtain ⟨G2, HP3⟩ : ∃ G2, Hid (WaysR w0 ((wq.setCell ⟨gA, i, none⟩ (.slice (some ⟨wq.heap.size, 0, none⟩) u u)).alloc (.cells (madeCells #[.bool false] u) 4)) gA k u t W G2 i wq.heap.size (wayPart k u t (W.drop i) 0)) :=
            ⟨_, Lib.hid (by rw [wayPart_zero]; exact hP.out.next (by omega) (by simp only [maxLen]; omega))⟩
          clear hz hc1 hV hdrop hGl hP hgv
          go_wp2_with fail
          obtain ⟨gC, hgC⟩ : ∃ gC, wq.heap.size = gC := ⟨_, rfl⟩
          rw [hgC] at HP3 ⊢
          clear hgC hmk3 hcm hfm hlA
          go_loopw [9] (fun uv wx => ∃ y : Nat, y ≤ u ∧ uv = .int .i64 (y : Int) ∧ Hid (WaysR w0 wx gA k u t W G2 i gC (wayPart k u t (W.drop i) y))) (fun uv _ => u - (intOf uv).toNat)
          case atStart => exact ⟨0, Nat.zero_le _, rfl, HP3⟩
          case round =>
            obtain ⟨y, hy, rfl, hP⟩ := hrel
            obtain ⟨wx, rfl⟩ : ∃ wx : World, wx = wr := ⟨_, rfl⟩
            clear HP3
            by_cases hlt : y < u
            · have hst : Hid (WaysR w0 wx gA k u t W G2 i gC ((wayPart k u t (W.drop i) y).set y (wayTo k u t y c1 V 0))) := Lib.hid (by rw [wayTo_zero, list_set_same (wayPart_at hlt)]; exact hP.out)
              clear hP
              go_wp2_with fail
              go_loopw [10] (fun sv wy => ∃ s : Nat, s ≤ k ∧ sv = .int .i64 (s : Int) ∧ Hid (WaysR w0 wy gA k u t W G2 i gC ((wayPart k u t (W.drop i) y).set y (wayTo k u t y c1 V s)))) (fun sv _ => k - (intOf sv).toNat)
              case atStart => exact ⟨0, Nat.zero_le _, rfl, hst⟩
              case round =>
                obtain ⟨s, hs, rfl, hP⟩ := hrel
                clear hst
                obtain ⟨r0, r1, r2, _⟩ := HRU.out wr hP.out.old
                by_cases hsk : s < k
                · have hq1 : y * k + s < t.length := by
                    rw [HNK.out]
                    have : (y + 1) * k ≤ u * k := Nat.mul_le_mul_right _ hlt
                    rw [Nat.add_mul, Nat.one_mul] at this
                    omega
                  have hed : (y * k + s) % u < u := Nat.mod_lt _ (by omega)
                  have hhit := wayTo_hit (k := k) (N := u) (t := t) (u := y) (c := c1) (s := s) (w := V)
                  have hdead := wayTo_dead (k := k) (N := u) (t := t) (u := y) (c := c1) (s := s) (w := V)
                  have hmiss := wayTo_miss (k := k) (N := u) (t := t) (u := y) (c := c1) (s := s) (w := V)
                  obtain ⟨q, hqq⟩ : ∃ q, y * k = q := ⟨_, rfl⟩
                  have hqi : IntKind.i64.wrap ((y : Int) * (k : Int)) = (q : Int) := by
                    rw [show (y : Int) * (k : Int) = (q : Int) by rw [← hqq]; simp]
                    exact IntWalk.i64_in _ (by omega)
                  rw [hqq] at hq1 hed hhit hmiss hdead
                  obtain ⟨e, hee⟩ : ∃ e, q + s = e := ⟨_, rfl⟩
                  have hei : IntKind.i64.wrap ((q : Int) + (s : Int)) = (e : Int) := by
                    rw [show (q : Int) + (s : Int) = (e : Int) by omega]
                    exact IntWalk.i64_in _ (by omega)
                  rw [hee] at hq1 hed hhit hmiss hdead
                  clear hqq hee
                  obtain ⟨ta, hta, htc⟩ := int_eq_cell (HTA.out wr hP.out.old) hq1
                  obtain ⟨wa, hwa, hwc⟩ := int_eq_cell (HWA.out wr hP.out.old) (show i < W.length by omega)
                  rw [HC1.out] at hwc
                  obtain ⟨x0, x1, x2, x3, x4⟩ := hP.out.facts (Nat.le_of_lt (show i < W.length by omega))
                  obtain ⟨b0, _, y0, y1⟩ := x4 y hlt
                  obtain ⟨gD, z0, z1⟩ := hP.out.behind (show i < W.length by omega) hed
                  rw [HV.out] at z1
                  have HSET := Lib.hid (fun (wz : World) (hz : Below wr.heap.size wr wz) => (by
                    have h1 := (hP.out.pure hz).set y true
                    rw [list_set_set] at h1
                    exact h1 : WaysR w0 (wz.setCell ⟨gC, y, none⟩ (.bool true)) gA k u t W G2 i gC ((wayPart k u t (W.drop i) y).set y true)))
                  have HSAME := Lib.hid (fun (wz : World) (hz : Below wr.heap.size wr wz) => hP.out.pure hz)
                  have s1 : IntKind.i64.wrap ((i : Int) + 1) = (i : Int) + 1 := IntWalk.i64_in _ (by omega)
                  have s2 : (0 : Int) ≤ (i : Int) + 1 := by omega
                  have s3 : ((i : Int) + 1).toNat = i + 1 := by omega
                  have s4 : (i : Int) + 1 < (W.length : Int) + 1 := by omega
                  have n0 : ¬ u = 0 := by omega
                  have n1 : ¬ ((u : Int) = 0) := by omega
                  have n2 : ((u : Int) == 0) = false := by simp; omega
                  have n3 : IntKind.i64.wrap ((e : Int).tmod (u : Int)) = ((e % u : Nat) : Int) := by
                    rw [show (e : Int).tmod (u : Int) = ((e % u : Nat) : Int) from rfl]
                    have hml : e % u ≤ e := Nat.mod_le _ _
                    generalize e % u = z at hml
                    exact IntWalk.i64_in _ (by omega)
                  have e0 : (0 : Int) ≤ (e : Int) := by omega
                  have e1 : (e : Int) < (t.length : Int) := by omega
                  have e2 : (0 : Int) ≤ (i : Int) := by omega
                  have e3 : (i : Int) < (W.length : Int) := by omega
                  have e4 : (0 : Int) ≤ ((e % u : Nat) : Int) := by omega
                  have e5 : ((e % u : Nat) : Int) < (u : Int) := by omega
                  subst hta
                  subst hwa
                  obtain ⟨bw, hbw⟩ : ∃ bw, wayB k u t (e % u) V = bw := ⟨_, rfl⟩
                  rw [hbw] at z1 hhit hdead
                  clear hbw x4 hP
                  by_cases hhc : t.getD e 0 = c1
                  · rw [hhc] at htc
                    have hcc : ((c1 : Int) == (c1 : Int)) = true := by simp
                    cases bw with
                    | true =>
                      have HW := Lib.hid (hhit hhc rfl)
                      clear hhit hdead hmiss hhc
                      go_wp2_with fail
                      go_quiet (fail)
                      go_wp2_with fail
                      exact ⟨⟨s + 1, by omega, by go_num, by rw [HW.out]; exact Lib.hid (HSET.out _ (pure_drewN _ _))⟩, by simp [intOf]; omega⟩
                    | false =>
                      have HW := Lib.hid (hdead rfl)
                      clear hhit hdead hmiss hhc
                      go_wp2_with fail
                      go_quiet (fail)
                      go_wp2_with fail
                      exact ⟨⟨s + 1, by omega, by go_num, by rw [HW.out]; exact Lib.hid (HSAME.out _ (pure_drewN _ _))⟩, by simp [intOf]; omega⟩
                  · have HW := Lib.hid (hmiss hhc)
                    obtain ⟨yv, hyv⟩ : ∃ yv, t.getD e 0 = yv := ⟨_, rfl⟩
                    rw [hyv] at htc hhc
                    have hcc : ((yv : Int) == (c1 : Int)) = false := by simp; omega
                    clear hhit hdead hmiss hyv hhc
                    go_wp2_with fail
                    go_quiet (fail)
                    go_wp2_with fail
                    exact ⟨⟨s + 1, by omega, by go_num, by rw [HW.out]; exact Lib.hid (HSAME.out _ (pure_drewN _ _))⟩, by simp [intOf]; omega⟩
                · obtain rfl : s = k := by omega
                  have hn := hP.out
                  rw [wayTo_all, ← HDR.out, wayPart_set hlt] at hn
                  have HNX := Lib.hid hn
                  clear hP hn
                  go_wp2_with fail
                  exact ⟨⟨y + 1, by omega, by go_num, HNX⟩, by simp [intOf]; omega⟩
            · obtain rfl : y = u := by omega
              have hn := hP.out
              rw [wayPart_all] at hn
              have HNX := Lib.hid hn.done
              clear hP hn
              go_wp2_with fail
              exact ⟨⟨i, (i : Int) - 1, G2, by omega, rfl, Lib.hid rfl, HNX⟩, by simp [intOf] <;> omega⟩
end Go.Proofs.YtfgjcdfmlpdkaaaDoor

namespace Go.Proofs.YtfgjcdfmlpdkaaaDoor
open Go.RowKit RuleP

/-- The search as memory holds it. -/
structure SeekAt (w : World) (D : DeadP) (lv : Value) (rows : List Value) (L : List (List Nat)) (more : Bool) : Prop where
  blk : w.heap[D.db]? = some (.cells (D.cells lv more) 122 (0, 0))
  old : Below D.B D.w0 w
  ways : WaysAt w D.B D.k D.N D.t D.W D.atv D.G
  lst : w.ownsRow D.B 22 1 lv L.length rows
  el : ∀ (j : Nat) l, L[j]? = some l → ∃ v, rows[j]? = some v ∧ w.ownsRow D.B 3 1 v l.length ((ints l).map (Value.int .i64))
  fb : D.B ≤ D.db

variable {w w' w1 w2 : World} {D : DeadP} {lv lv' : Value} {rows rows' : List Value} {L : List (List Nat)} {more : Bool}

theorem SeekAt.lt (h : SeekAt w D lv rows L more) : D.db < w.heap.size := (Array.getElem?_eq_some_iff.1 h.blk).1
theorem SeekAt.facts (h : SeekAt w D lv rows L more) :
    w.cell? ⟨D.db, 0, none⟩ = some (.int .i64 (D.k : Int)) ∧ w.cell? ⟨D.db, 1, none⟩ = some (.int .i64 (D.r : Int)) ∧ w.cell? ⟨D.db, 2, none⟩ = some (.slice D.TA D.t.length D.tc) ∧ w.cell? ⟨D.db, 3, none⟩ = some (.slice D.WA D.W.length D.wc) ∧
    w.cell? ⟨D.db, 4, none⟩ = some D.atv ∧ w.cell? ⟨D.db, 5, none⟩ = some (.int .i64 (D.most : Int)) ∧ w.cell? ⟨D.db, 6, none⟩ = some lv ∧ w.cell? ⟨D.db, 7, none⟩ = some (.bool more) ∧ w.frozen? ⟨D.db, 6, none⟩ = false ∧ w.frozen? ⟨D.db, 7, none⟩ = false := by
  have hb := h.blk
  refine ⟨?_, ?_, ?_, ?_, ?_, ?_, ?_, ?_, frozen_of_row _ _ 6 _ _ hb, frozen_of_row _ _ 7 _ _ hb⟩ <;> rw [cell_of_row w D.db _ _ _ _ hb] <;> rfl
theorem SeekAt.tab (h : SeekAt w D lv rows L more) (hD : DeadOk D) : Sl w D.TA D.t.length ((ints D.t).map (Value.int .i64)) := hD.T.below h.old
theorem SeekAt.word (h : SeekAt w D lv rows L more) (hD : DeadOk D) : Sl w D.WA D.W.length ((ints D.W).map (Value.int .i64)) := hD.V.below h.old

/-- Writes to blocks that hold neither the search nor a row of it. -/
theorem WaysAt.keeps {Q : Nat → Prop} {base k N : Nat} {t W : List Nat} {v : Value} {G : List Value} (h : WaysAt w base k N t W v G) (hk : Keeps Q w w') (hq : ∀ b, Q b → ∀ e n v xs, w.ownsRow base e 1 v n xs → e ≠ 22 → v.ownBlock ≠ some b) : WaysAt w' base k N t W v G := by
  obtain ⟨g0, rfl, h2, h3⟩ := h
  refine ⟨g0, rfl, own_keeps h2 hk (fun g hg hb => hq g hb _ _ _ _ h2 (by decide) hg), fun j hj => ?_⟩
  obtain ⟨g', e1, e2⟩ := h3 j hj
  exact ⟨g', e1, own_keeps e2 hk (fun g hg hb => hq g hb _ _ _ _ e2 (by decide) hg)⟩
theorem WaysAt.base {base base' k N : Nat} {t W : List Nat} {v : Value} {G : List Value} (h : WaysAt w base k N t W v G) (hb : base' ≤ base) : WaysAt w base' k N t W v G := by
  obtain ⟨g0, rfl, h2, h3⟩ := h
  exact ⟨g0, rfl, own_base h2 hb, fun j hj => by obtain ⟨g', e1, e2⟩ := h3 j hj; exact ⟨g', e1, own_base e2 hb⟩⟩
theorem WaysAt.pure {base k N : Nat} {t W : List Nat} {v : Value} {G : List Value} (h : WaysAt w base k N t W v G) (hb : Below w.heap.size w w') : WaysAt w' base k N t W v G :=
  h.keeps (Keeps.of_pure hb (fun _ => False)) (fun _ hf => hf.elim)
/-- What is read of it. -/
theorem WaysAt.reads {base k N : Nat} {t W : List Nat} {v : Value} {G : List Value} (h : WaysAt w base k N t W v G) {i u : Nat} (hi : i ≤ W.length) (hu : u < N) :
    ∃ g0 g, v = .slice (some ⟨g0, 0, none⟩) (W.length + 1) (W.length + 1) ∧ G[i]? = some (.slice (some ⟨g, 0, none⟩) N N) ∧ w.cell? ⟨g0, i, none⟩ = some (.slice (some ⟨g, 0, none⟩) N N) ∧ w.cell? ⟨g, u, none⟩ = some (.bool (wayB k N t u (W.drop i))) := by
  obtain ⟨g0, rfl, h2, h3⟩ := h
  obtain ⟨g', e1, e2⟩ := h3 i hi
  refine ⟨g0, g', rfl, e1, by rw [h2.cellAt i (by omega), e1], ?_⟩
  rw [e2.cellAt u (by omega), List.getElem?_map, wayRow_at hu]
  rfl
/-- How many nodes the first row has. -/
theorem WaysAt.first {base k N : Nat} {t W : List Nat} {v : Value} {G : List Value} (h : WaysAt w base k N t W v G) :
    ∃ g0 g, v = .slice (some ⟨g0, 0, none⟩) (W.length + 1) (W.length + 1) ∧ G[0]? = some (.slice (some ⟨g, 0, none⟩) N N) ∧ g0 < w.heap.size ∧ w.cell? ⟨g0, 0, none⟩ = some (.slice (some ⟨g, 0, none⟩) N N) := by
  obtain ⟨g0, rfl, h2, h3⟩ := h
  obtain ⟨g', e1, _⟩ := h3 0 (Nat.zero_le _)
  exact ⟨g0, g', rfl, e1, (h2.lt g0 rfl).2, by rw [h2.cellAt 0 (by omega), e1]⟩

theorem SeekAt.pure (h : SeekAt w D lv rows L more) (hb : Below w.heap.size w w') : SeekAt w' D lv rows L more :=
  { blk := (hb.block _ h.lt).trans h.blk, old := h.old.trans (hb.mono h.old.size), ways := h.ways.pure hb, lst := own_below h.lst hb, fb := h.fb,
    el := fun j l hj => by obtain ⟨v, h1, h2⟩ := h.el j l hj; exact ⟨v, h1, own_below h2 hb⟩ }
/-- More than could be kept were found. -/
theorem SeekAt.full (h : SeekAt w D lv rows L more) : SeekAt (w.setCell ⟨D.db, 7, none⟩ (.bool true)) D lv rows L true := by
  have hk := Keeps.of_setCell w ⟨D.db, 7, none⟩ (.bool true)
  have hne : ∀ {e n : Nat} {v : Value} {xs : List Value}, w.ownsRow D.B e 1 v n xs → e ≠ 122 → ∀ g, v.ownBlock = some g → ¬ (g = (⟨D.db, 7, none⟩ : Addr).block) := fun ho he g hg e => by
    have e' : g = D.db := e
    subst e'
    exact own_ne_blk ho h.blk he hg
  exact {
    blk := by
      have := heap_setCell_same w D.db 7 _ _ (.bool true) h.blk
      rw [cells_set7] at this
      exact this
    old := h.old.setCell h.fb _
    ways := by
      obtain ⟨g0, e0, h2, h3⟩ := h.ways
      refine ⟨g0, e0, own_keeps h2 hk (hne h2 (by decide)), fun j hj => ?_⟩
      obtain ⟨g', e1, e2⟩ := h3 j hj
      exact ⟨g', e1, own_keeps e2 hk (hne e2 (by decide))⟩
    lst := own_keeps h.lst hk (hne h.lst (by decide))
    el := fun j l hj => by
      obtain ⟨v, h1, h2⟩ := h.el j l hj
      exact ⟨v, h1, own_keeps h2 hk (hne h2 (by decide))⟩
    fb := h.fb }
/-- A new word behind the others, the list grown beside it. -/
theorem SeekAt.put (h : SeekAt w D lv rows L more) {l : List Nat} {v lv' : Value} (hv : w.ownsRow D.B 3 1 v l.length ((ints l).map (Value.int .i64))) (hl : w'.ownsRow D.B 22 1 lv' (L.length + 1) (rows ++ [v])) (hk : Keeps (fun b => lv.ownBlock = some b) w w') :
    SeekAt (w'.setCell ⟨D.db, 6, none⟩ lv') D lv' (rows ++ [v]) (L ++ [l]) more := by
  have hrl : rows.length = L.length := by simpa using h.lst.1
  have hne : ∀ {e n : Nat} {u : Value} {xs : List Value}, w.ownsRow D.B e 1 u n xs → e ≠ 22 → ∀ g, u.ownBlock = some g → ¬ (lv.ownBlock = some g) := fun ho he g hg e => own_ne_own ho h.lst he hg e
  have hb : w'.heap[D.db]? = some (.cells (D.cells lv more) 122 (0, 0)) := (hk.block _ h.lt (own_ne_blk h.lst h.blk (by decide))).trans h.blk
  have hold : Below D.B D.w0 w' := h.old.trans (hk.below h.old.size (fun b hb' => (h.lst.lt b hb').1))
  have hkS := Keeps.of_setCell w' ⟨D.db, 6, none⟩ lv'
  have hneS : ∀ {e n : Nat} {u : Value} {xs : List Value}, w'.ownsRow D.B e 1 u n xs → e ≠ 122 → ∀ g, u.ownBlock = some g → ¬ (g = (⟨D.db, 6, none⟩ : Addr).block) := fun ho he g hg e => by
    have e' : g = D.db := e
    subst e'
    exact own_ne_blk ho hb he hg
  have keepI : ∀ {e n : Nat} {u : Value} {xs : List Value}, w.ownsRow D.B e 1 u n xs → e ≠ 22 → e ≠ 122 → (w'.setCell ⟨D.db, 6, none⟩ lv').ownsRow D.B e 1 u n xs := fun ho e1 e2 => by
    have h1 := own_keeps ho hk (hne ho e1)
    exact own_keeps h1 hkS (hneS h1 e2)
  exact {
    blk := by
      have := heap_setCell_same w' D.db 6 _ _ lv' hb
      rw [cells_set6] at this
      exact this
    old := hold.setCell h.fb _
    ways := by
      obtain ⟨g0, e0, h2, h3⟩ := h.ways
      refine ⟨g0, e0, keepI h2 (by decide) (by decide), fun j hj => ?_⟩
      obtain ⟨g', e1, e2⟩ := h3 j hj
      exact ⟨g', e1, keepI e2 (by decide) (by decide)⟩
    lst := by
      rw [List.length_append]
      exact own_keeps hl hkS (hneS hl (by decide))
    el := fun j l' hj => by
      rcases Nat.lt_or_ge j L.length with hlt | hge
      · rw [List.getElem?_append_left hlt] at hj
        obtain ⟨u, h1, h2⟩ := h.el j l' hj
        exact ⟨u, by rw [List.getElem?_append_left (by omega)]; exact h1, keepI h2 (by decide) (by decide)⟩
      · rw [List.getElem?_append_right hge] at hj
        rcases Nat.eq_zero_or_pos (j - L.length) with h0 | h0
        · rw [h0] at hj
          simp at hj
          subst hj
          exact ⟨v, by rw [List.getElem?_append_right (by omega), hrl, h0]; rfl, keepI hv (by decide) (by decide)⟩
        · rw [List.getElem?_eq_none (by simp; omega)] at hj; cases hj
    fb := h.fb }
/-- Behind a push to the list: the search's own block. -/
theorem SeekAt.pushed (h : SeekAt w D lv rows L more) (hk : Keeps (fun b => lv.ownBlock = some b) w w') :
    w'.cell? ⟨D.db, 6, none⟩ = some lv ∧ w'.frozen? ⟨D.db, 6, none⟩ = false ∧ w.heap.size ≤ w'.heap.size := by
  have hb : w'.heap[D.db]? = some (.cells (D.cells lv more) 122 (0, 0)) := (hk.block _ h.lt (own_ne_blk h.lst h.blk (by decide))).trans h.blk
  exact ⟨by rw [cell_of_row w' D.db _ _ _ _ hb]; rfl, frozen_of_row _ _ 6 _ _ hb, hk.size⟩

/-- What a call of the search may write. -/
def SeekFoot (D : DeadP) (lv : Value) (b : Nat) : Prop := b = D.db ∨ lv.ownBlock = some b
/-- Numbers are none of it. -/
theorem SeekAt.own (h : SeekAt w D lv rows L more) {base n : Nat} {xv : Value} {xs : List Value} (hx : w.ownsRow base 3 1 xv n xs) (hk : Keeps (SeekFoot D lv) w w') : w'.ownsRow base 3 1 xv n xs :=
  own_keeps hx hk (fun g hg e => by
    rcases e with rfl | e
    · exact own_ne_blk hx h.blk (by decide) hg
    · exact own_ne_own hx h.lst (by decide) hg e)

/-- What a call of the search leaves. -/
def SeekPost (w : World) (D : DeadP) (lv : Value) (x : List Nat) (P S : List (List Nat)) (w' : World) : Prop :=
  ∃ (lv' : Value) (rows' : List Value) (L' : List (List Nat)) (more' : Bool), SeekAt w' D lv' rows' L' more' ∧ RuleP.Found D.most (onP P x S) L' more' ∧ Keeps (SeekFoot D lv) w w' ∧ (∀ g, lv'.ownBlock = some g → lv.ownBlock = some g ∨ w.heap.size ≤ g)
end Go.Proofs.YtfgjcdfmlpdkaaaDoor
