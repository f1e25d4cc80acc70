/- Which vertices stand on a loop: inject.loops of a graph that is one. Condition: the graph reads from memory. The nearest vertex on a loop: inject.near, where one is reached. Condition: the graph and the marks read from memory. -/
import Derived.Deep.RegionLaw
import Derived.Test.YtedmmmlahpmmoaaGreatDoorV16
namespace Go.Proofs.YtedmmmlahpmmoaaGreatDoor
open Go.RowKit RuleP TarjP

theorem putG {α : Type} {a : List α} {i L : Nat} {x d : α} (hl : a.length = L) (hx : a[i]? = some x) (hi : i < L) : (a.take i ++ List.replicate (L - i) d).set i x = a.take (i + 1) ++ List.replicate (L - (i + 1)) d := by
  have h1 : (a.take i).length = i := by rw [List.length_take]; omega
  rw [List.set_append, h1, if_neg (by omega), Nat.sub_self]
  rw [show L - i = (L - (i + 1)) + 1 by omega, List.replicate_succ, List.set_cons_zero, List.take_add_one, hx]
  simp
theorem putG0 {α : Type} {a : List α} {i L : Nat} {d : α} (hl : a.length = L) (hi : i < L) : (a.take i ++ List.replicate (L - i) d)[i]? = some d := by
  rw [List.getElem?_append_right (by rw [List.length_take]; omega), List.length_take, hl, Nat.min_eq_left (by omega), Nat.sub_self, List.getElem?_replicate, if_pos (by omega)]
set_option maxRecDepth 100000 in
set_option maxHeartbeats 1000000 in
theorem loopF_c (w : World) (t v M ga b b' : Nat) (P : List Nat) (ht : t < M) (hv : v < M) (hPl : P.length = M) (hP : w.ownsRow 0 3 1 (.slice (some ⟨ga, 0, none⟩) M M) M ((ints P).map (Value.int .i64))) (c1 : w.cell? ⟨b, 0, none⟩ = some (.slice (some ⟨ga, 0, none⟩) M M)) (c2 : w.cell? ⟨b', 0, none⟩ = some (.int .i64 (v : Int))) :
    Calls Tryz.prog 68 #[.int .i64 (t : Int), .pointer (some ⟨b, 0, none⟩), .pointer (some ⟨b', 0, none⟩)] w fun e w' => e = .returned (.bool (decide (P.getD t 0 = P.getD v 0))) ∧ Below w.heap.size w w' := by
  have q1 : w.cell? ⟨ga, t, none⟩ = some (.int .i64 ((P.getD t 0 : Nat) : Int)) := by
    rw [hP.cellAt t (by omega), ints_map, List.getElem?_map, List.getD_eq_getElem?_getD, List.getElem?_eq_getElem (by omega)]; rfl
  have q2 : w.cell? ⟨ga, v, none⟩ = some (.int .i64 ((P.getD v 0 : Nat) : Int)) := by
    rw [hP.cellAt v (by omega), ints_map, List.getElem?_map, List.getD_eq_getElem?_getD, List.getElem?_eq_getElem (by omega)]; rfl
  obtain ⟨x, hx⟩ : ∃ x, P.getD t 0 = x := ⟨_, rfl⟩
  obtain ⟨y, hy⟩ : ∃ y, P.getD v 0 = y := ⟨_, rfl⟩
  rw [hx] at q1 ⊢
  rw [hy] at q2 ⊢
  have k1 : (t : Int) < (M : Int) := by omega
  have k2 : (0 : Int) ≤ (t : Int) := by omega
  have k3 : (v : Int) < (M : Int) := by omega
  have k4 : (0 : Int) ≤ (v : Int) := by omega
  have HD := Lib.hid (show decide ((x : Int) = (y : Int)) = decide (x = y) from decide_eq_decide.2 ⟨fun h => by omega, fun h => by omega⟩)
  clear hx hy hP hPl
  go_enter Tryz.func68, Tryz.ntmps68
  go_wp2_with (go_quiet (fail))
  go_ret
  exact ⟨by first | rfl | (rw [← HD.out]; rfl) | (simp [HD.out]), below_drewN (Below.refl _ _) _⟩

set_option maxRecDepth 100000 in
set_option maxHeartbeats 4000000 in
theorem loops_c (w : World) (C : Option Addr) (M : Nat) (g : List (List Nat)) (hg : Graph g) (hM : g.length = M) (hM0 : 0 < M) (hG : ListAt w C M (g.map ints)) (h8 : M ≤ 8192) (har : (g.map List.length).sum ≤ 262144) :
    Calls Tryz.prog 51 #[.slice C M M] w fun e w' => ∃ gf, e = .returned (.tuple #[.slice (some ⟨gf, 0, none⟩) M M, .nilIface]) ∧ w'.ownsRow w.heap.size 4 1 (.slice (some ⟨gf, 0, none⟩) M M) M ((loopP g).map Value.bool) ∧ Below w.heap.size w w' := by
  have HPT := Lib.hid (grParts_c w C M M g hg hM hM0 hG h8 har)
  have HGW := Lib.hid hG
  have HGR := Lib.hid (And.intro hg hM)
  have HLEN := Lib.hid (show ∀ u, (g.getD u []).length ≤ 1000000 from fun u => by have := len_le_sum g u; omega)
  have hpl := partOf_len hg
  rw [hM] at hpl
  have HPL := Lib.hid hpl
  have hmk := fun (wz : World) => run_make_row' (P := Tryz.prog) 100 4 (.bool false) 1 tBoolJ.und tBoolJ.info rfl .i64 .i64 M (by omega) (by omega) wz
  clear hG hg hM har hpl
  go_enter Tryz.func51, Tryz.ntmps51
  go_wp2_with fail
  refine (HPT.out).mono ?_
  rintro e w1 ⟨ga, rfl, ho1, b1⟩
  clear HPT
  have bx := (Below.refl w1.heap.size w1).alloc (Nat.le_refl _) (.cells #[.slice (some ⟨ga, 0, none⟩) M M] 22)
  have cx : (w1.alloc (.cells #[.slice (some ⟨ga, 0, none⟩) M M] 22)).cell? ⟨w1.heap.size, 0, none⟩ = some (.slice (some ⟨ga, 0, none⟩) M M) := by simp
  have hF := falses (w1.alloc (.cells #[.slice (some ⟨ga, 0, none⟩) M M] 22)) M (by simp only [maxLen]; omega)
  rw [World.size_alloc] at hF
  have ba := bx.alloc (by simp) (.cells (madeCells #[.bool false] M) 4)
  have cx2 : ((w1.alloc (.cells #[.slice (some ⟨ga, 0, none⟩) M M] 22)).alloc (.cells (madeCells #[.bool false] M) 4)).cell? ⟨w1.heap.size, 0, none⟩ = some (.slice (some ⟨ga, 0, none⟩) M M) := cell_later ((Below.refl _ _).alloc (Nat.le_refl _) _) cx
  obtain ⟨w2, hw2⟩ : ∃ w2, (w1.alloc (.cells #[.slice (some ⟨ga, 0, none⟩) M M] 22)).alloc (.cells (madeCells #[.bool false] M) 4) = w2 := ⟨_, rfl⟩
  obtain ⟨gb, hgb⟩ : ∃ gb, w1.heap.size = gb := ⟨_, rfl⟩
  rw [hw2] at hF ba cx2
  have HO1 := Lib.hid (own_below ho1 ba)
  have B1 := Lib.hid (b1.trans (ba.mono b1.size))
  rw [hgb] at hF cx2
  have hgB : w.heap.size ≤ gb := by rw [← hgb]; exact b1.size
  have HF0 : Hid (w2.ownsRow w.heap.size 4 1 (.slice (some ⟨gb + 1, 0, none⟩) M M) M (((loopP g).take 0 ++ List.replicate (M - 0) false).map Value.bool)) := Lib.hid (by
    rw [List.take_zero, List.nil_append, Nat.sub_zero]
    exact own_base hF (by omega))
  have HCX := Lib.hid cx2
  have HW2 := Lib.hid hw2
  have HGF := Lib.hid hgb
  have hgaf : ga < gb := by have := (ho1.lt ga rfl).2; omega
  clear hF ba hw2 ho1 b1 hgb cx2 bx
  go_wp2_with fail
  rw [HW2.out, HGF.out]
  clear hmk cx
  go_loopw [22] (fun iv wl => ∃ i : Nat, i ≤ M ∧ iv = .int .i64 (i : Int) ∧ Hid (wl.ownsRow w.heap.size 4 1 (.slice (some ⟨gb + 1, 0, none⟩) M M) M (((loopP g).take i ++ List.replicate (M - i) false).map Value.bool)) ∧ Hid (wl.ownsRow w.heap.size 3 1 (.slice (some ⟨ga, 0, none⟩) M M) M ((ints (partOf g)).map (Value.int .i64))) ∧ Hid (wl.cell? ⟨gb, 0, none⟩ = some (.slice (some ⟨ga, 0, none⟩) M M)) ∧ Hid (Below w.heap.size w wl)) (fun iv _ => M - (intOf iv).toNat)
  case atStart => exact ⟨0, Nat.zero_le _, rfl, HF0, HO1, HCX, B1⟩
  case round =>
    clear HF0 HO1 HCX B1
    obtain ⟨i, hi, rfl, HF, HP, HC, BB⟩ := hrel
    obtain ⟨v0, rfl⟩ : ∃ v0, v0 = wr := ⟨_, rfl⟩
    by_cases hlt : i < M
    · have hlt' : (i : Int) < (M : Int) := by omega
      have hi0 : (0 : Int) ≤ (i : Int) := by omega
      obtain ⟨adg, P, L, cr, rfl, hcr0, hL, hsr0⟩ := graph_row HGW.out hlt
      have hcr := cell_later BB.out hcr0
      have HSR0 := Lib.hid hsr0
      have hLb := HLEN.out i
      rw [hL] at hLb
      have hba := (Below.refl v0.heap.size v0).alloc (Nat.le_refl _) (.cells #[.int .i64 (i : Int)] 3)
      have hcv : (v0.alloc (.cells #[.int .i64 (i : Int)] 3)).cell? ⟨v0.heap.size, 0, none⟩ = some (.int .i64 (i : Int)) := by simp
      obtain ⟨v1, hv1⟩ : ∃ v1, v0.alloc (.cells #[.int .i64 (i : Int)] 3) = v1 := ⟨_, rfl⟩
      obtain ⟨gv, hgv⟩ : ∃ gv, v0.heap.size = gv := ⟨_, rfl⟩
      rw [hv1] at hba hcv
      have HFv := Lib.hid (own_below HF.out hba)
      have HPv := Lib.hid (own_below HP.out hba)
      have HCv := Lib.hid (cell_later hba HC.out)
      have BBv := Lib.hid (BB.out.trans (hba.mono BB.out.size))
      rw [hgv] at hcv
      have HV1 := Lib.hid hv1
      have HGV := Lib.hid hgv
      have hCT := fun (wz : World) (hz : Below v1.heap.size v1 wz) => contains_d2 wz 68 ⟨gb, 0, none⟩ ⟨gv, 0, none⟩ (fun x => decide ((partOf g).getD x.toNat 0 = (partOf g).getD i 0)) P L cr (ints (g.getD i [])) (hsr0.below (BBv.out.trans (hz.mono BBv.out.size))) (by omega) (fun x wy => run_enter Tryz.func68 (by kernel_rfl) (by kernel_rfl) _ _) (fun x hx wy hy => by
        obtain ⟨t, ht, rfl⟩ := List.mem_map.1 hx
        have htM := HGR.out.1 i t ht
        rw [HGR.out.2] at htM
        have hzy := hz.trans (hy.mono hz.size)
        exact loopF_c wy t i M ga gb gv (partOf g) htM hlt HPL.out (own_base (own_below HPv.out hzy) (Nat.zero_le _)) (cell_later hzy HCv.out) (cell_later hzy hcv))
      have hany : (ints (g.getD i [])).any (fun x => decide ((partOf g).getD x.toNat 0 = (partOf g).getD i 0)) = (loopP g).getD i false := by
        have h1 := flagTo_all (g := g) (v := i) (by rw [HGR.out.2]; exact hlt)
        rw [← h1]
        unfold flagTo ints
        rw [List.take_length, List.any_map]
        rfl
      rw [hany] at hCT
      have HCT := Lib.hid hCT
      obtain ⟨fl, hfl⟩ : ∃ fl, (loopP g)[i]? = some fl := ⟨_, List.getElem?_eq_getElem (by rw [loopP_len, HGR.out.2]; exact hlt)⟩
      have hfd : (loopP g).getD i false = fl := by rw [List.getD_eq_getElem?_getD, hfl]; rfl
      rw [hfd] at HCT
      have hput := putG (d := false) (show (loopP g).length = M by rw [loopP_len]; exact HGR.out.2) hfl hlt
      have hput0 := putG0 (d := false) (show (loopP g).length = M by rw [loopP_len]; exact HGR.out.2) hlt
      have HPUT := Lib.hid (And.intro hput hput0)
      clear hcr0 hsr0 hL hba hv1 hgv hCT hany hfl hfd hput hput0
      go_upto_region 8 with fail
      rw [HV1.out, HGV.out]
      clear hcr
      go_region_law (first
        | (go_simp
           go_at_call 67
           first
             | with_reducible refine (HCT.out v1 (Below.refl _ _)).mono ?_
             | with_reducible refine (HCT.out v1.drew (Below.refl _ _).drew).mono ?_
           rintro e w5 ⟨rfl, hb5⟩
           have hb5' : Below v1.heap.size v1 w5 := by first | exact hb5 | exact (Below.refl _ _).drew.trans hb5
           have hcv5 := cell_later hb5' hcv
           have hF5 := own_below HFv.out hb5'
           have ff := hF5.frozenAt i
           have cf : w5.cell? ⟨gb + 1, i, none⟩ = some (.bool false) := by rw [hF5.cellAt i (by omega), List.getElem?_map, HPUT.out.2]; rfl
           dsimp only)
        | fail)
      all_goals
        have ho := (hF5.stored i (.bool fl)).1
        have e3 : (((loopP g).take i ++ List.replicate (M - i) false).map Value.bool).set i (.bool fl) = ((loopP g).take (i + 1) ++ List.replicate (M - (i + 1)) false).map Value.bool := by rw [← HPUT.out.1, List.map_set]
        rw [e3] at ho
        have hks := Keeps.of_setCell w5 ⟨gb + 1, i, none⟩ (.bool fl)
        have HF6 := Lib.hid ho
        have HP6 := Lib.hid (own_keeps (own_below HPv.out hb5') hks (fun b hb hO => own_ne_own (own_below HPv.out hb5') hF5 (by decide) hb (by rw [show b = gb + 1 from hO]; rfl)))
        have HC6 := Lib.hid (hks.cell (cell_later hb5' HCv.out) (show ¬ gb = gb + 1 by omega))
        have hBB5 := BBv.out.trans (hb5'.mono BBv.out.size)
        have HB6 := Lib.hid (hBB5.trans (hks.below hBB5.size (fun b hb => by rw [show b = gb + 1 from hb]; omega)))
        clear ho e3 hks hF5 ff cf hb5 hb5' hcv5 hBB5
        go_wp2_with fail
        exact ⟨⟨i + 1, by omega, by go_num, HF6, HP6, HC6, HB6⟩, by simp [intOf]; omega⟩
    · have hlt' : ¬ (i : Int) < (M : Int) := by omega
      obtain rfl : M = i := by omega
      have hf := HF.out
      rw [Nat.sub_self, List.replicate_zero, List.append_nil, List.take_of_length_le (by rw [loopP_len, HGR.out.2]; exact Nat.le_refl _)] at hf
      have HF2 := Lib.hid hf
      clear hf
      go_wp2_with fail
      exact bodyPost_ret (v := .tuple #[.slice (some ⟨gb + 1, 0, none⟩) M M, .nilIface]) (by simp [results, Tryz.results51, go_sem]) rfl ⟨gb + 1, rfl, HF2.out, BB.out⟩
end Go.Proofs.YtedmmmlahpmmoaaGreatDoor

namespace Go.Proofs.YtedmmmlahpmmoaaGreatDoor
open Go.RowKit RuleP TarjP

/-- What the search for the nearest marked vertex keeps. -/
structure NearAt (g : List (List Nat)) (on : List Bool) (v : Nat) (seen : List Bool) (q : List Nat) (i : Nat) : Prop where
  len : seen.length = g.length
  mem : ∀ x, seen.getD x false = true ↔ x ∈ q
  nd : q.Nodup
  rch : ∀ x ∈ q, x < g.length ∧ Rch g v x
  start : v ∈ q
  ix : i ≤ q.length
  done : ∀ j x, j < i → q[j]? = some x → on.getD x false = false ∧ ∀ t ∈ g.getD x [], t ∈ q
theorem NearAt.qlen {g : List (List Nat)} {on : List Bool} {v : Nat} {seen : List Bool} {q : List Nat} {i : Nat} (h : NearAt g on v seen q i) : q.length ≤ g.length := by
  have := nodupL_le (b := List.range g.length) h.nd (fun x hx => List.mem_range.2 (h.rch x hx).1)
  rwa [List.length_range] at this
theorem NearAt.none {g : List (List Nat)} {on : List Bool} {v : Nat} {seen : List Bool} {q : List Nat} {i : Nat} (h : NearAt g on v seen q i) (hi : q.length ≤ i) {u : Nat} (hr : Rch g v u) : on.getD u false = false := by
  have key : ∀ a b, Rch g a b → a ∈ q → b ∈ q := by
    intro a b hab
    induction hab with
    | refl => exact id
    | step _ ha ih =>
      intro hm
      obtain ⟨j, hj, e⟩ := List.getElem_of_mem (ih hm)
      exact (h.done j _ (by omega) (by rw [List.getElem?_eq_getElem hj, e])).2 _ ha
  obtain ⟨j, hj, e⟩ := List.getElem_of_mem (key v u hr h.start)
  exact (h.done j _ (by omega) (by rw [List.getElem?_eq_getElem hj, e])).1
theorem NearAt.push {g : List (List Nat)} {on : List Bool} {v : Nat} {seen : List Bool} {q : List Nat} {i u t : Nat} (h : NearAt g on v seen q i) (hu : u ∈ q) (ha : t ∈ g.getD u []) (ht : t < g.length) (hs : seen.getD t false = false) : NearAt g on v (seen.set t true) (q ++ [t]) i := by
  have hnot : t ∉ q := fun hm => by rw [(h.mem t).2 hm] at hs; cases hs
  refine ⟨by rw [List.length_set]; exact h.len, fun x => ?_, ?_, fun x hx => ?_, List.mem_append_left _ h.start, by rw [List.length_append]; exact Nat.le_trans h.ix (Nat.le_add_right _ _), fun j x hj hx => ?_⟩
  · rw [getD_set, List.mem_append, List.mem_singleton]
    by_cases e : t = x
    · rw [if_pos ⟨e, by rw [h.len, ← e]; exact ht⟩]
      exact ⟨fun _ => .inr e.symm, fun _ => rfl⟩
    · rw [if_neg (fun hh => e hh.1), h.mem x]
      exact ⟨.inl, fun hh => hh.elim id (fun e2 => absurd e2.symm e)⟩
  · rw [List.nodup_append]
    refine ⟨h.nd, by simp, fun a ha b hb e => ?_⟩
    rw [List.mem_singleton.1 hb] at e
    rw [e] at ha
    exact hnot ha
  · rcases List.mem_append.1 hx with hx | hx
    · exact h.rch x hx
    · rw [List.mem_singleton.1 hx]
      exact ⟨ht, .step (h.rch u hu).2 ha⟩
  · have hjq : j < q.length := Nat.lt_of_lt_of_le hj h.ix
    rw [List.getElem?_append_left hjq] at hx
    obtain ⟨a, b⟩ := h.done j x hj hx
    exact ⟨a, fun t' ht' => List.mem_append_left _ (b t' ht')⟩
theorem NearAt.begin {g : List (List Nat)} (on : List Bool) {v : Nat} (hv : v < g.length) : NearAt g on v ((List.replicate g.length false).set v true) [v] 0 := by
  refine ⟨by rw [List.length_set, List.length_replicate], fun x => ?_, by simp, fun x hx => ?_, List.mem_singleton.2 rfl, Nat.zero_le _, fun j x hj => absurd hj (Nat.not_lt_zero j)⟩
  · rw [getD_set, List.mem_singleton]
    by_cases e : v = x
    · rw [if_pos ⟨e, by rw [List.length_replicate, ← e]; exact hv⟩]
      exact ⟨fun _ => e.symm, fun _ => rfl⟩
    · rw [if_neg (fun hh => e hh.1), List.getD_eq_getElem?_getD, List.getElem?_replicate]
      constructor
      · intro h
        split at h <;> cases h
      · intro h
        exact absurd h.symm e
  · rw [List.mem_singleton.1 hx]
    exact ⟨hv, .refl _⟩
theorem NearAt.next {g : List (List Nat)} {on : List Bool} {v : Nat} {seen : List Bool} {q : List Nat} {i u : Nat} (h : NearAt g on v seen q i) (hu : q[i]? = some u) (ho : on.getD u false = false) (ha : ∀ t ∈ g.getD u [], t ∈ q) : NearAt g on v seen q (i + 1) := by
  refine ⟨h.len, h.mem, h.nd, h.rch, h.start, (List.getElem?_eq_some_iff.1 hu).1, fun j x hj hx => ?_⟩
  rcases Nat.lt_or_ge j i with h1 | h1
  · exact h.done j x h1 hx
  · have e : j = i := by omega
    rw [e, hu] at hx
    cases hx
    exact ⟨ho, ha⟩

set_option maxRecDepth 100000 in
set_option maxHeartbeats 4000000 in
theorem near_c (w : World) (C A : Option Addr) (M c : Nat) (g : List (List Nat)) (on : List Bool) (v : Nat) (hg : Graph g) (hM : g.length = M) (hv : v < M) (hon : on.length = M) (hA : Sl w A M (on.map Value.bool)) (hG : ListAt w C M (g.map ints)) (h8 : M ≤ 8192) (hlen : ∀ u, (g.getD u []).length ≤ 1000000) (hex : ∃ u, on.getD u false = true ∧ Rch g v u) :
    Calls Tryz.prog 52 #[.slice C M M, .slice A M c, .int .i64 (v : Int)] w fun e w' => ∃ d : Nat, e = .returned (.int .i64 (d : Int)) ∧ d < M ∧ on.getD d false = true ∧ Rch g v d ∧ Below w.heap.size w w' := by
  obtain ⟨ado, _, rfl, _⟩ := hA.at_ (Nat.lt_of_le_of_lt (Nat.zero_le v) hv)
  have hmk := run_make_row' (P := Tryz.prog) 100 4 (.bool false) 1 tBoolJ.und tBoolJ.info rfl .i64 .i64 M (by omega) (by omega) w
  have hF := falses w M (by simp only [maxLen]; omega)
  have ba := (Below.refl w.heap.size w).alloc (Nat.le_refl _) (.cells (madeCells #[.bool false] M) 4)
  have ffL := hF.frozenAt v
  have cfL : (w.alloc (.cells (madeCells #[.bool false] M) 4)).cell? ⟨w.heap.size, v, none⟩ = some (.bool false) := by rw [hF.cellAt v (by omega), List.getElem?_map, List.getElem?_replicate, if_pos hv]; rfl
  obtain ⟨w1, hw1⟩ : ∃ w1, w.alloc (.cells (madeCells #[.bool false] M) 4) = w1 := ⟨_, rfl⟩
  obtain ⟨gs, hgs⟩ : ∃ gs, w.heap.size = gs := ⟨_, rfl⟩
  have hs1 : w1.heap.size = gs + 1 := by rw [← hw1, ← hgs]; simp
  rw [hw1] at hF ba
  have hst := (hF.stored v (.bool true)).1
  have e3 : ((List.replicate M false).map Value.bool).set v (.bool true) = ((List.replicate M false).set v true).map Value.bool := by rw [List.map_set]
  rw [e3] at hst
  have hks := Keeps.of_setCell w1 ⟨w.heap.size, v, none⟩ (.bool true)
  have bb := ba.trans (hks.below ba.size (fun b hb => by rw [show b = w.heap.size from hb]; exact Nat.le_refl _))
  rw [hgs] at hst bb
  obtain ⟨w2, hw2⟩ : ∃ w2, w1.setCell ⟨gs, v, none⟩ (.bool true) = w2 := ⟨_, rfl⟩
  have hs2 : w2.heap.size = gs + 1 := by rw [← hw2]; simpa using hs1
  rw [hw2] at hst bb
  have HW2 := Lib.hid (show w.alloc (.cells ((madeCells #[.bool false] M).setIfInBounds v (.bool true)) 4) = w2 by rw [← hw2, ← hw1, ← hgs]; exact (World.setCell_alloc_new (w := w) (madeCells #[.bool false] M) 4 v (.bool true)).symm)
  have HGS := Lib.hid hgs
  have HS2 := Lib.hid (show w2.ownsRow w.heap.size 4 1 (.slice (some ⟨gs, 0, none⟩) M M) M (((List.replicate M false).set v true).map Value.bool) by rw [hgs]; exact hst)
  have BB2 := Lib.hid (show Below w.heap.size w w2 by rw [hgs]; exact bb)
  have HZ2 := Lib.hid hs2
  have HGW := Lib.hid hG
  have HAW := Lib.hid hA
  have HGR := Lib.hid (And.intro hg (And.intro hM hon))
  have HLEN := Lib.hid hlen
  have HEX := Lib.hid hex
  have HBG := Lib.hid (NearAt.begin on (show v < g.length by omega))
  have k1 : (v : Int) < (M : Int) := by omega
  have k2 : (0 : Int) ≤ (v : Int) := by omega
  clear hG hA hg hM hon hlen hex hF ba hw1 hgs hst e3 hks bb hw2 hs2 hs1
  go_enter Tryz.func52, Tryz.ntmps52
  go_upto_region 3 with fail
  rw [HW2.out, HGS.out]
  clear hmk ffL cfL
  have hlq := World.ownsRow_lit (base := w.heap.size) (e := 3) (size := 1) w2 #[.int .i64 (v : Int)] 1 (by have h1 := HZ2.out; have h2 := HGS.out; omega) (by decide) rfl
  have bq := (Below.refl w2.heap.size w2).alloc (Nat.le_refl _) (.cells #[.int .i64 (v : Int)] 3)
  obtain ⟨w3, hw3⟩ : ∃ w3, w2.alloc (.cells #[.int .i64 (v : Int)] 3) = w3 := ⟨_, rfl⟩
  rw [hw3] at hlq bq
  have HW3 := Lib.hid hw3
  have HSN := Lib.hid (own_below HS2.out bq)
  have BB3 := Lib.hid (BB2.out.trans (bq.mono BB2.out.size))
  have HQ3 : Hid (w3.ownsRow w.heap.size 3 1 (.slice (some ⟨w2.heap.size, 0, none⟩) 1 1) [v].length ((ints [v]).map (Value.int .i64))) := Lib.hid hlq
  clear hlq bq hw3
  go_wp2_with fail
  rw [HW3.out]
  go_loopw [8, 9] (fun qv iv wl => ∃ (i : Nat) (q : List Nat) (seen : List Bool), iv = .int .i64 (i : Int) ∧ Hid (NearAt g on v seen q i) ∧ Hid (wl.ownsRow w.heap.size 3 1 qv q.length ((ints q).map (Value.int .i64))) ∧ Hid (wl.ownsRow w.heap.size 4 1 (.slice (some ⟨gs, 0, none⟩) M M) M (seen.map Value.bool)) ∧ Hid (Below w.heap.size w wl)) (fun _ iv _ => M - (intOf iv).toNat)
  case atStart => exact ⟨0, [v], _, rfl, Lib.hid HBG.out, HQ3, Lib.hid (by rw [HGR.out.2.1]; exact HSN.out), BB3⟩
  case round =>
    clear HQ3 HSN BB3
    obtain ⟨i, q, seen, rfl, HN, HQ, HS, BB⟩ := hrel
    obtain ⟨v0, rfl⟩ : ∃ v0, v0 = wr := ⟨_, rfl⟩
    obtain ⟨Aq, cq, hqv, _, _⟩ := ownN_slice HQ.out
    subst hqv
    have hql := HN.out.qlen
    rw [HGR.out.2.1] at hql
    obtain ⟨Q, hQ⟩ : ∃ Q, q.length = Q := ⟨_, rfl⟩
    rw [hQ] at HQ hql ⊢
    have HQL := Lib.hid hQ
    by_cases hlt : i < Q
    · have hlt' : (i : Int) < (Q : Int) := by omega
      have hi0 : (0 : Int) ≤ (i : Int) := by omega
      obtain ⟨u, hu⟩ : ∃ u, q[i]? = some u := ⟨_, List.getElem?_eq_getElem (by omega)⟩
      have hum : u ∈ q := List.mem_of_getElem? hu
      have huM : u < M := by have := (HN.out.rch u hum).1; rw [HGR.out.2.1] at this; exact this
      obtain ⟨gq, hgq, cu⟩ := ownN_cell HQ.out (j := i) (u := .int .i64 (u : Int)) (by rw [ints_map, List.getElem?_map, hu]; rfl)
      subst hgq
      obtain ⟨bo, hbo⟩ : ∃ bo, on[u]? = some bo := ⟨_, List.getElem?_eq_getElem (by rw [HGR.out.2.2]; exact huM)⟩
      have hbd : on.getD u false = bo := by rw [List.getD_eq_getElem?_getD, hbo]; rfl
      obtain ⟨ado', hado, co⟩ : ∃ a, (some ado : Option Addr) = some a ∧ v0.cell? (a.add u) = some (.bool bo) := (HAW.out.below BB.out).2 u _ (by rw [List.getElem?_map, hbo]; rfl)
      obtain rfl : ado = ado' := Option.some.inj hado
      have k3 : (u : Int) < (M : Int) := by omega
      have k4 : (0 : Int) ≤ (u : Int) := by omega
      clear hado hbo hQ
      cases bo
      · obtain ⟨adg, P, L, cr, rfl, hcr0, hL, hsr0⟩ := graph_row HGW.out huM
        have hcr := cell_later BB.out hcr0
        have HSR0 := Lib.hid hsr0
        have HL := Lib.hid hL
        have hLb := HLEN.out u
        rw [hL] at hLb
        have HU := Lib.hid (And.intro hu (And.intro hum hbd))
        clear hcr0 hsr0 hL hu hum hbd hql
        go_wp2_with fail
        clear hcr co cu
        go_loopw [8, 41] (fun qv jv wl => ∃ (j : Nat) (q : List Nat) (seen : List Bool), j ≤ L ∧ jv = .int .i64 (j : Int) ∧ Hid (NearAt g on v seen q i) ∧ Hid (q[i]? = some u ∧ ∀ t ∈ (g.getD u []).take j, t ∈ q) ∧ Hid (wl.ownsRow w.heap.size 3 1 qv q.length ((ints q).map (Value.int .i64))) ∧ Hid (wl.ownsRow w.heap.size 4 1 (.slice (some ⟨gs, 0, none⟩) M M) M (seen.map Value.bool)) ∧ Hid (Below w.heap.size w wl)) (fun _ jv _ => L - (intOf jv).toNat)
        case atStart => exact ⟨0, q, seen, Nat.zero_le _, rfl, HN, Lib.hid ⟨HU.out.1, fun t ht => by simp at ht⟩, Lib.hid (by rw [HQL.out]; exact HQ.out), HS, BB⟩
        case round =>
          clear HN HQ HS BB HQL
          obtain ⟨j, q, seen, hj, rfl, HN, HI, HQ, HS, BB⟩ := hrel
          by_cases hlt2 : j < L
          · have hlt2' : (j : Int) < (L : Int) := by omega
            have hsr := HSR0.out.below BB.out
            rw [ints_map] at hsr
            obtain ⟨pad, t, rfl, hT, hct⟩ := hsr.word_ hlt2
            have htM : t < M := by
              have h1 := HGR.out.1 u t (List.mem_of_getElem? hT)
              rw [HGR.out.2.1] at h1
              exact h1
            have htk : (g.getD u []).take (j + 1) = (g.getD u []).take j ++ [t] := by rw [List.take_add_one, hT]; rfl
            obtain ⟨b, hb⟩ : ∃ b, seen[t]? = some b := ⟨_, List.getElem?_eq_getElem (by rw [HN.out.len, HGR.out.2.1]; exact htM)⟩
            have hbd : seen.getD t false = b := by rw [List.getD_eq_getElem?_getD, hb]; rfl
            have cb : wr.cell? ⟨gs, t, none⟩ = some (.bool b) := by rw [HS.out.cellAt t (by omega), List.getElem?_map, hb]; rfl
            have fb := HS.out.frozenAt t
            have k8 : (t : Int) < (M : Int) := by omega
            have k9 : (0 : Int) ≤ (t : Int) := by omega
            have hql := HN.out.qlen
            rw [HGR.out.2.1] at hql
            cases b
            · have hN2 := HN.out.push (u := u) (List.mem_of_getElem? HI.out.1) (List.mem_of_getElem? hT) (by rw [HGR.out.2.1]; exact htM) hbd
              have hI2 : (q ++ [t])[i]? = some u ∧ ∀ x ∈ (g.getD u []).take (j + 1), x ∈ q ++ [t] := by
                refine ⟨by rw [List.getElem?_append_left (List.getElem?_eq_some_iff.1 HI.out.1).1]; exact HI.out.1, fun x hx => ?_⟩
                rw [htk] at hx
                rcases List.mem_append.1 hx with hx | hx
                · exact List.mem_append_left _ (HI.out.2 x hx)
                · exact List.mem_append_right _ hx
              have ho2 := (HS.out.stored t (.bool true)).1
              have e3 : (seen.map Value.bool).set t (.bool true) = (seen.set t true).map Value.bool := by rw [List.map_set]
              rw [e3] at ho2
              have hks := Keeps.of_setCell wr ⟨gs, t, none⟩ (.bool true)
              have hq2 := own_keeps HQ.out hks (fun b' hb' hO' => own_ne_own HQ.out HS.out (by decide) hb' (by rw [show b' = gs from hO']; rfl))
              have bw2 := BB.out.trans (hks.below BB.out.size (fun b' hb' => by rw [show b' = gs from hb']; exact (HS.out.lt gs rfl).1))
              obtain ⟨w5, hw5⟩ : ∃ w5, wr.setCell ⟨gs, t, none⟩ (.bool true) = w5 := ⟨_, rfl⟩
              rw [hw5] at ho2 hq2 bw2
              have HW5 := Lib.hid hw5
              have hBw := bw2.size
              have HO5 := Lib.hid ho2
              have HQ5 := Lib.hid hq2
              have BW5 := Lib.hid bw2
              have HN2 := Lib.hid hN2
              have HI2 := Lib.hid hI2
              clear hN2 hI2 ho2 e3 hks hq2 bw2 hw5 hb hbd hT htk hsr
              go_upto_region 15 with fail
              rw [HW5.out]
              go_wp2_with (at_builtin
                           refine wpList_push_q rfl _ _ _ rfl tInts (HQ5.out.alloc _) rfl ⟨w5.heap.size, 0, none⟩ 1 rfl (.int .i64 (t : Int)) (by simp) rfl (by simp only [maxLen]; omega) (by omega) (by rw [World.size_alloc]; omega) ?_
                           intro g3 cap3 w6 hown3 hor3 hlt3
                           obtain ⟨hk3, hg3⟩ := pushS (w := w5) ((Below.refl _ _).alloc (Nat.le_refl _) _) hor3
                           clear hor3)
              have e : (ints q).map (Value.int .i64) ++ [.int .i64 (t : Int)] = (ints (q ++ [t])).map (Value.int .i64) := by simp [ints]
              have e2 : q.length + 1 = (q ++ [t]).length := by simp
              rw [e] at hown3
              have HQ6 : Hid (w6.ownsRow w.heap.size 3 1 (.slice (some ⟨g3, 0, none⟩) (q.length + 1) cap3) (q ++ [t]).length ((ints (q ++ [t])).map (Value.int .i64))) := Lib.hid (by rw [← e2]; exact hown3)
              have HO6 := Lib.hid (own_keeps HO5.out hk3 (fun b' hb' hO' => own_ne_own HO5.out HQ5.out (by decide) hb' hO'))
              have B6 := Lib.hid (BW5.out.trans (hk3.below hBw (fun b' hb' => (HQ5.out.lt b' hb').1)))
              clear hown3 e e2
              exact ⟨⟨j + 1, q ++ [t], _, by omega, by go_num, HN2, HI2, HQ6, HO6, B6⟩, by simp [intOf]; omega⟩
            · have HI2 := Lib.hid (show q[i]? = some u ∧ ∀ x ∈ (g.getD u []).take (j + 1), x ∈ q from ⟨HI.out.1, fun x hx => by
                rw [htk] at hx
                rcases List.mem_append.1 hx with hx | hx
                · exact HI.out.2 x hx
                · rw [List.mem_singleton.1 hx]
                  exact (HN.out.mem t).1 hbd⟩)
              clear hb hbd hT htk hsr hql
              go_wp2_with fail
              exact ⟨⟨j + 1, q, seen, by omega, by go_num, HN, HI2, HQ, HS, BB⟩, by simp [intOf]; omega⟩
          · have hlt2' : ¬ (j : Int) < (L : Int) := by omega
            have hN2 := HN.out.next HI.out.1 HU.out.2.2 (fun t ht => HI.out.2 t (by rw [List.take_of_length_le (by have := HL.out; omega)]; exact ht))
            have HN2 := Lib.hid hN2
            have hiM : i < M := by
              have h1 := (List.getElem?_eq_some_iff.1 HI.out.1).1
              have h2 := HN.out.qlen
              rw [HGR.out.2.1] at h2
              omega
            clear hN2
            go_wp2_with fail
            exact ⟨⟨i + 1, q, seen, by go_num, HN2, HQ, HS, BB⟩, by simp [intOf]; omega⟩
      · have HFIN := Lib.hid (And.intro huM (And.intro hbd (HN.out.rch u hum).2))
        clear hu hum hbd hql
        go_wp2_with fail
        go_ret
        exact ⟨u, rfl, HFIN.out.1, HFIN.out.2.1, HFIN.out.2.2, BB.out⟩
    · exfalso
      obtain ⟨u, h1, h2⟩ := HEX.out
      rw [HN.out.none (by omega) h2] at h1
      cases h1
end Go.Proofs.YtedmmmlahpmmoaaGreatDoor
