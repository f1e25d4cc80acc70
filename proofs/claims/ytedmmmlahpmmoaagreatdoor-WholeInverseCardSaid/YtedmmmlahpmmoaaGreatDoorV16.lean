/- The live vertices of a graph: graph.Live of a graph that is one. Condition: the graph reads from memory. slices.IndexFunc and slices.ContainsFunc by a closure that writes to nothing that was there. Condition: the list reads from memory. -/
import Derived.Test.YtedmmmlahpmmoaaGreatDoorV6
import Derived.Test.YtedmmmlahpmmoaaGreatDoorV15
namespace Go.Proofs.YtedmmmlahpmmoaaGreatDoor
open Go.RowKit RuleP TarjP

/-- The flags below v are told, v's own is b. -/
def LoopsAt (g : List (List Nat)) (F : List Bool) (v : Nat) (b : Bool) : Prop := F.length = g.length ∧ ∀ x, F.getD x false = if x < v then (loopP g).getD x false else if x = v then b else false
/-- Whether the first j arrows of v lead into its own part. -/
def flagTo (g : List (List Nat)) (v j : Nat) : Bool := ((g.getD v []).take j).any fun t => decide ((partOf g).getD t 0 = (partOf g).getD v 0)
theorem flagTo_succ (g : List (List Nat)) {v j t : Nat} (h : (g.getD v [])[j]? = some t) : flagTo g v (j + 1) = (flagTo g v j || decide ((partOf g).getD t 0 = (partOf g).getD v 0)) := by
  unfold flagTo
  rw [List.take_add_one, h, List.any_append]
  simp
theorem flagTo_all {g : List (List Nat)} {v : Nat} (hv : v < g.length) : flagTo g v (g.getD v []).length = (loopP g).getD v false := by
  unfold flagTo loopP
  rw [List.take_length, List.getD_eq_getElem?_getD (l := List.map _ _), List.getElem?_map, List.getElem?_range hv]
  rfl
theorem LoopsAt.start (g : List (List Nat)) : LoopsAt g (List.replicate g.length false) 0 false := by
  refine ⟨List.length_replicate .., fun x => ?_⟩
  rw [if_neg (Nat.not_lt_zero x), List.getD_eq_getElem?_getD, List.getElem?_replicate]
  split <;> split <;> rfl
theorem LoopsAt.next {g : List (List Nat)} {F : List Bool} {v : Nat} (h : LoopsAt g F v ((loopP g).getD v false)) : LoopsAt g F (v + 1) false := by
  refine ⟨h.1, fun x => ?_⟩
  rw [h.2 x]
  by_cases h1 : x < v
  · rw [if_pos h1, if_pos (by omega)]
  · rw [if_neg h1]
    by_cases h2 : x = v
    · rw [if_pos h2, if_pos (by omega), h2]
    · rw [if_neg h2, if_neg (by omega)]
      split <;> rfl
theorem LoopsAt.set {g : List (List Nat)} {F : List Bool} {v : Nat} {b : Bool} (h : LoopsAt g F v b) (hv : v < g.length) : LoopsAt g (F.set v true) v true := by
  refine ⟨by rw [List.length_set]; exact h.1, fun x => ?_⟩
  rw [getD_set]
  by_cases e : v = x
  · subst e
    rw [if_pos ⟨rfl, by rw [h.1]; exact hv⟩, if_neg (by omega), if_pos rfl]
  · rw [if_neg (fun hh => e hh.1), h.2 x]
    by_cases h1 : x < v
    · rw [if_pos h1, if_pos h1]
    · rw [if_neg h1, if_neg h1, if_neg (fun hh => e hh.symm), if_neg (fun hh => e hh.symm)]
theorem LoopsAt.end_ {g : List (List Nat)} {F : List Bool} {b : Bool} (h : LoopsAt g F g.length b) : F = loopP g := by
  apply List.ext_getElem?
  intro x
  rcases Nat.lt_or_ge x g.length with hx | hx
  · have h1 := h.2 x
    rw [if_pos hx, List.getD_eq_getElem?_getD, List.getD_eq_getElem?_getD, List.getElem?_eq_getElem (by rw [h.1]; exact hx), List.getElem?_eq_getElem (by rw [loopP_len]; exact hx)] at h1
    rw [List.getElem?_eq_getElem (by rw [h.1]; exact hx), List.getElem?_eq_getElem (by rw [loopP_len]; exact hx)]
    exact congrArg some h1
  · rw [List.getElem?_eq_none (by rw [h.1]; exact hx), List.getElem?_eq_none (by rw [loopP_len]; exact hx)]
theorem falses (w : World) (n : Nat) (hn : n ≤ maxLen) : (w.alloc (.cells (madeCells #[.bool false] n) 4)).ownsRow w.heap.size 4 1 (.slice (some ⟨w.heap.size, 0, none⟩) n n) n ((List.replicate n false).map Value.bool) := by
  have h1 := World.ownsRow_lit (base := w.heap.size) (e := 4) (size := 1) w (madeCells #[.bool false] n) n (Nat.le_refl _) hn (by rw [size_madeCells]; simp)
  rw [toList_madeCells_one] at h1
  rw [List.map_replicate]
  exact h1
theorem back_len_le (g : List (List Nat)) (hg : Graph g) (har : (g.map List.length).sum ≤ 262144) (u : Nat) : ((backP g).getD u []).length ≤ 1000000 := by
  have h1 := len_le_sum (backP g) u
  have h2 := backTo_sum hg g.length (Nat.le_refl _)
  have h3 := arrTo_le g g.length
  unfold backP at *
  omega
/-- The live vertices below i. -/
def liveTo (g : List (List Nat)) (i : Nat) : List Nat := (List.range i).filter fun v => (reachP g (loopP g)).getD v false && (reachP (backP g) (loopP g)).getD v false
theorem liveTo_succ (g : List (List Nat)) (i : Nat) : liveTo g (i + 1) = liveTo g i ++ if ((reachP g (loopP g)).getD i false && (reachP (backP g) (loopP g)).getD i false) = true then [i] else [] := by
  unfold liveTo
  rw [List.range_succ, List.filter_append]
  congr 1
  rw [List.filter_cons]
  split <;> rfl
theorem liveTo_len (g : List (List Nat)) (i : Nat) : (liveTo g i).length ≤ i := by
  have := List.length_filter_le (fun v => (reachP g (loopP g)).getD v false && (reachP (backP g) (loopP g)).getD v false) (List.range i)
  rw [List.length_range] at this
  exact this

set_option maxRecDepth 100000 in
set_option maxHeartbeats 4000000 in
theorem live_c (w : World) (C : Option Addr) (M : Nat) (g : List (List Nat)) (hg : Graph g) (hM : g.length = M) (hM0 : 0 < M) (hG : ListAt w C M (g.map ints)) (h8 : M ≤ 8192) (har : (g.map List.length).sum ≤ 262144) :
    Calls Tryz.prog 47 #[.slice C M M] w fun e w' => ∃ A n c, e = .returned (.tuple #[.slice A n c, .nilIface]) ∧ w'.ownsRow w.heap.size 3 1 (.slice A n c) n ((ints (liveP g)).map (Value.int .i64)) ∧ Below w.heap.size w w' := by
  have HPT := Lib.hid (grParts_c w C M M g hg hM hM0 hG h8 har)
  have HG := Lib.hid (fun (wz : World) (hz : Below w.heap.size w wz) => hG.keep hz)
  have HGW := Lib.hid hG
  have HGR := Lib.hid (And.intro hg hM)
  have HLEN := Lib.hid (show ∀ u, (g.getD u []).length ≤ 1000000 from fun u => by have := len_le_sum g u; omega)
  have HAR := Lib.hid har
  have hpl := partOf_len hg
  rw [hM] at hpl
  have HPL := Lib.hid hpl
  have hmk := fun (wz : World) => run_make_row' (P := Tryz.prog) 100 4 (.bool false) 1 tBoolJ.und tBoolJ.info rfl .i64 .i64 M (by omega) (by omega) wz
  clear hG hg hM har hpl
  go_enter Tryz.func47, Tryz.ntmps47
  go_wp2_with fail
  refine (HPT.out).mono ?_
  rintro e w1 ⟨ga, rfl, ho1, b1⟩
  clear HPT
  have hF := falses w1 M (by simp only [maxLen]; omega)
  have ba := (Below.refl w1.heap.size w1).alloc (Nat.le_refl _) (.cells (madeCells #[.bool false] M) 4)
  obtain ⟨w2, hw2⟩ : ∃ w2, w1.alloc (.cells (madeCells #[.bool false] M) 4) = w2 := ⟨_, rfl⟩
  obtain ⟨gf, hgf⟩ : ∃ gf, w1.heap.size = gf := ⟨_, rfl⟩
  rw [hw2] at hF ba
  have HO1 := Lib.hid (own_below ho1 ba)
  have B1 := Lib.hid (b1.trans (ba.mono b1.size))
  have HF0 : Hid (∃ F, LoopsAt g F 0 false ∧ w2.ownsRow w.heap.size 4 1 (.slice (some ⟨gf, 0, none⟩) M M) M (F.map Value.bool)) := Lib.hid ⟨_, LoopsAt.start g, by rw [HGR.out.2, ← hgf]; exact own_base hF b1.size⟩
  have HW2 := Lib.hid hw2
  have HGF := Lib.hid hgf
  have hgaf : ga < gf := by have := (ho1.lt ga rfl).2; omega
  clear hF ba hw2 ho1 b1 hgf
  go_wp2_with fail
  rw [HW2.out, HGF.out]
  clear hmk
  go_loopw [28] (fun iv wl => ∃ i : Nat, i ≤ M ∧ iv = .int .i64 (i : Int) ∧ Hid (∃ F, LoopsAt g F i false ∧ wl.ownsRow w.heap.size 4 1 (.slice (some ⟨gf, 0, none⟩) M M) M (F.map Value.bool)) ∧ Hid (wl.ownsRow w.heap.size 3 1 (.slice (some ⟨ga, 0, none⟩) M M) M ((ints (partOf g)).map (Value.int .i64))) ∧ Hid (Below w.heap.size w wl)) (fun iv _ => M - (intOf iv).toNat)
  case atStart => exact ⟨0, Nat.zero_le _, rfl, HF0, HO1, B1⟩
  case round =>
    clear HF0 HO1 B1
    obtain ⟨i, hi, rfl, HF, HP, BB⟩ := hrel
    obtain ⟨v0, rfl⟩ : ∃ v0, v0 = wr := ⟨_, rfl⟩
    by_cases hlt : i < M
    · have hlt' : (i : Int) < (M : Int) := by omega
      have hi0 : (0 : Int) ≤ (i : Int) := by omega
      obtain ⟨adg, P, L, cr, rfl, hcr0, hL, hsr0⟩ := graph_row HGW.out hlt
      have hcr := cell_later BB.out hcr0
      have HSR0 := Lib.hid hsr0
      have HL := Lib.hid hL
      have hLb := HLEN.out i
      rw [hL] at hLb
      clear hcr0 hsr0 hL
      go_wp2_with fail
      clear hcr
      go_loopw [35] (fun jv wl => ∃ j : Nat, j ≤ L ∧ jv = .int .i64 (j : Int) ∧ Hid (∃ F, LoopsAt g F i (flagTo g i j) ∧ wl.ownsRow w.heap.size 4 1 (.slice (some ⟨gf, 0, none⟩) M M) M (F.map Value.bool)) ∧ Hid (wl.ownsRow w.heap.size 3 1 (.slice (some ⟨ga, 0, none⟩) M M) M ((ints (partOf g)).map (Value.int .i64))) ∧ Hid (Below w.heap.size w wl)) (fun jv _ => L - (intOf jv).toNat)
      case atStart => exact ⟨0, Nat.zero_le _, rfl, HF, HP, BB⟩
      case round =>
        clear HF HP BB
        obtain ⟨j, hj, rfl, HF, HP, BB⟩ := hrel
        by_cases hlt2 : j < L
        · have hlt2' : (j : Int) < (L : Int) := by omega
          have hsr := HSR0.out.below BB.out
          rw [ints_map] at hsr
          obtain ⟨pad, t, rfl, hT, hct⟩ := hsr.word_ hlt2
          have htM : t < M := by
            have h1 := HGR.out.1 i t (List.mem_of_getElem? hT)
            rw [HGR.out.2] at h1
            exact h1
          have hfl := flagTo_succ g hT
          obtain ⟨pt, hpt⟩ : ∃ pt, (partOf g).getD t 0 = pt := ⟨_, rfl⟩
          obtain ⟨pi, hpi⟩ : ∃ pi, (partOf g).getD i 0 = pi := ⟨_, rfl⟩
          have ct1 : wr.cell? ⟨ga, t, none⟩ = some (.int .i64 (pt : Int)) := by
            rw [HP.out.cellAt t (by omega), ints_map, List.getElem?_map, ← hpt, List.getD_eq_getElem?_getD, List.getElem?_eq_getElem (by rw [HPL.out]; exact htM)]
            rfl
          have ct2 : wr.cell? ⟨ga, i, none⟩ = some (.int .i64 (pi : Int)) := by
            rw [HP.out.cellAt i (by omega), ints_map, List.getElem?_map, ← hpi, List.getD_eq_getElem?_getD, List.getElem?_eq_getElem (by rw [HPL.out]; exact hlt)]
            rfl
          rw [hpt, hpi] at hfl
          have k8 : (t : Int) < (M : Int) := by omega
          have k9 : (0 : Int) ≤ (t : Int) := by omega
          by_cases he : pt = pi
          · subst he
            have HFL := Lib.hid (show flagTo g i (j + 1) = true by rw [hfl]; simp)
            clear hfl hpt hpi hT hsr
            go_upto_region 12 with (go_quiet (fail))
            obtain ⟨v1, hv1⟩ : ∃ vz, wr.drewN nq = vz := ⟨_, rfl⟩
            obtain ⟨F, hF1, hF2'⟩ := HF.out
            have hF2 := own_below hF2' (below_drewN (Below.refl wr.heap.size wr) nq)
            have hP1 := own_below HP.out (below_drewN (Below.refl wr.heap.size wr) nq)
            have hB1 := below_drewN BB.out nq
            rw [hv1] at hF2 hP1 hB1 ⊢
            have hst := (hF2.stored i (.bool true)).1
            have e3 : (F.map Value.bool).set i (.bool true) = (F.set i true).map Value.bool := by rw [List.map_set]
            rw [e3] at hst
            have hF3 := hF1.set (by rw [HGR.out.2]; exact hlt)
            have ff := hF2.frozenAt i
            obtain ⟨bo, hbo⟩ : ∃ bo, F[i]? = some bo := ⟨_, List.getElem?_eq_getElem (by rw [hF1.1, HGR.out.2]; exact hlt)⟩
            have cf : v1.cell? ⟨gf, i, none⟩ = some (.bool bo) := by rw [hF2.cellAt i (by omega), List.getElem?_map, hbo]; rfl
            have HF1 := Lib.hid hF3
            have HF2 := Lib.hid hst
            have hks := Keeps.of_setCell v1 ⟨gf, i, none⟩ (.bool true)
            have HP2 := Lib.hid (own_keeps hP1 hks (fun b hb hO => own_ne_own hP1 hF2 (by decide) hb (by rw [show b = gf from hO]; rfl)))
            have HB2 := Lib.hid (hB1.trans (hks.below hB1.size (fun b hb => by rw [show b = gf from hb]; exact (hF2.lt gf rfl).1)))
            clear hF1 hF2 hF2' hP1 hB1 hst e3 hF3 hbo hks hv1
            go_wp2_with fail
            exact ⟨⟨j + 1, by omega, by go_num, Lib.hid ⟨_, by rw [HFL.out]; exact HF1.out, HF2.out⟩, HP2, HB2⟩, by simp [intOf]; omega⟩
          · have HFL := Lib.hid (show flagTo g i (j + 1) = flagTo g i j by rw [hfl, decide_eq_false he, Bool.or_false])
            have he' : ¬ (pt : Int) = (pi : Int) := by omega
            clear hfl hpt hpi hT hsr he
            go_wp2_with (go_quiet (fail))
            exact ⟨⟨j + 1, by omega, by go_num, Lib.hid (by rw [HFL.out]; obtain ⟨F, h1, h2⟩ := HF.out; exact ⟨F, h1, own_below h2 (below_drewN (Below.refl _ _) _)⟩), Lib.hid (own_below HP.out (below_drewN (Below.refl _ _) _)), Lib.hid (below_drewN BB.out _)⟩, by simp [intOf]; omega⟩
        · have hlt2' : ¬ (j : Int) < (L : Int) := by omega
          have HFA := Lib.hid (show flagTo g i j = (loopP g).getD i false by
            have h1 := flagTo_all (g := g) (v := i) (by rw [HGR.out.2]; exact hlt)
            rw [HL.out, show L = j by omega] at h1
            exact h1)
          go_wp2_with fail
          exact ⟨⟨i + 1, by omega, by go_num, Lib.hid (by obtain ⟨F, h1, h2⟩ := HF.out; rw [HFA.out] at h1; exact ⟨F, h1.next, h2⟩), HP, BB⟩, by simp [intOf]; omega⟩
    · have hlt' : ¬ (i : Int) < (M : Int) := by omega
      obtain rfl : M = i := by omega
      have HFF := Lib.hid (show v0.ownsRow w.heap.size 4 1 (.slice (some ⟨gf, 0, none⟩) M M) M ((loopP g).map Value.bool) by
        obtain ⟨F, h1, h2⟩ := HF.out
        rw [← HGR.out.2] at h1
        rw [← h1.end_]
        exact h2)
      have HR1 := Lib.hid (reach_c v0 C (some ⟨gf, 0, none⟩) M M g (loopP g) HGR.out.1 HGR.out.2 hM0 (by rw [loopP_len]; exact HGR.out.2) (Sl.of_own HFF.out) (HG.out v0 BB.out) h8 HLEN.out)
      go_wp2_with fail
      refine (HR1.out).mono ?_
      rintro e w2 ⟨g1, c1, rfl, ho1, b2⟩
      have HO1 := Lib.hid (own_base ho1 BB.out.size)
      have B2 := Lib.hid (BB.out.trans (b2.mono BB.out.size))
      have HF2 := Lib.hid (own_below HFF.out b2)
      clear ho1 b2 HR1
      have HBK := Lib.hid (grBack_c w2 C M g HGR.out.1 HGR.out.2 (HG.out w2 B2.out) h8 HLEN.out HAR.out)
      go_wp2_with fail
      refine (HBK.out).mono ?_
      rintro e w3 ⟨gb, rfl, hLB, b3⟩
      have HO2 := Lib.hid (own_below HO1.out b3)
      have B3 := Lib.hid (B2.out.trans (b3.mono B2.out.size))
      have HF3 := Lib.hid (own_below HF2.out b3)
      have HLB := Lib.hid hLB
      clear hLB b3 HBK HO1 HF2 HFF
      have HR2 := Lib.hid (reach_c w3 (some ⟨gb, 0, none⟩) (some ⟨gf, 0, none⟩) M M (backP g) (loopP g) (back_graph HGR.out.1) (by unfold backP; rw [backTo_len]; exact HGR.out.2) hM0 (by rw [loopP_len]; exact HGR.out.2) (Sl.of_own HF3.out) HLB.out h8 (back_len_le g HGR.out.1 HAR.out))
      go_wp2_with fail
      refine (HR2.out).mono ?_
      rintro e w4 ⟨g2, c2, rfl, ho2, b4⟩
      have HA := Lib.hid (own_base ho2 B3.out.size)
      have HB := Lib.hid (own_below HO2.out b4)
      have B4 := Lib.hid (B3.out.trans (b4.mono B3.out.size))
      have HL1 := Lib.hid (show (reachP g (loopP g)).length = M ∧ (reachP (backP g) (loopP g)).length = M from ⟨by rw [reach_len HGR.out.1 (loopP_len g)]; exact HGR.out.2, by
        rw [reach_len (back_graph HGR.out.1) (by rw [loopP_len]; exact (backTo_len g _).symm)]
        unfold backP
        rw [backTo_len]
        exact HGR.out.2⟩)
      clear ho2 b4 HR2 HO2 HF3 HLB HF HP
      go_wp2_with fail
      go_loopw [13, 62] (fun ov iv wl => ∃ i : Nat, i ≤ M ∧ iv = .int .i64 (i : Int) ∧ Hid (wl.ownsRow w.heap.size 3 1 ov (liveTo g i).length ((ints (liveTo g i)).map (Value.int .i64))) ∧ Hid (wl.ownsRow w.heap.size 4 1 (.slice (some ⟨g1, 0, none⟩) M c1) M ((reachP g (loopP g)).map Value.bool)) ∧ Hid (wl.ownsRow w.heap.size 4 1 (.slice (some ⟨g2, 0, none⟩) M c2) M ((reachP (backP g) (loopP g)).map Value.bool)) ∧ Hid (Below w.heap.size w wl)) (fun _ iv _ => M - (intOf iv).toNat)
      case atStart => exact ⟨0, Nat.zero_le _, rfl, Lib.hid (World.ownsRow_nil _ _ _ _), HB, HA, B4⟩
      case round =>
        clear HB HA B4
        obtain ⟨i, hi, rfl, HQ, HB, HA, B4⟩ := hrel
        by_cases hlt2 : i < M
        · have hlt2' : (i : Int) < (M : Int) := by omega
          have hi0 : (0 : Int) ≤ (i : Int) := by omega
          obtain ⟨x1, hx1⟩ : ∃ x, (reachP g (loopP g))[i]? = some x := ⟨_, List.getElem?_eq_getElem (by rw [HL1.out.1]; exact hlt2)⟩
          obtain ⟨x2, hx2⟩ : ∃ x, (reachP (backP g) (loopP g))[i]? = some x := ⟨_, List.getElem?_eq_getElem (by rw [HL1.out.2]; exact hlt2)⟩
          have q1 : wr.cell? ⟨g1, i, none⟩ = some (.bool x1) := by rw [HB.out.cellAt i (by omega), List.getElem?_map, hx1]; rfl
          have q2 : wr.cell? ⟨g2, i, none⟩ = some (.bool x2) := by rw [HA.out.cellAt i (by omega), List.getElem?_map, hx2]; rfl
          have hls := liveTo_succ g i
          rw [show (reachP g (loopP g)).getD i false = x1 by rw [List.getD_eq_getElem?_getD, hx1]; rfl, show (reachP (backP g) (loopP g)).getD i false = x2 by rw [List.getD_eq_getElem?_getD, hx2]; rfl] at hls
          have hll := liveTo_len g i
          have hBw := B4.out.size
          by_cases hx : x1 = true ∧ x2 = true
          · obtain ⟨rfl, rfl⟩ := hx
            have HLS := Lib.hid (show liveTo g (i + 1) = liveTo g i ++ [i] by rw [hls]; rfl)
            clear hls hx1 hx2
            go_wp2_with (at_builtin
                         refine wpList_push_q rfl _ _ _ rfl tInts (HQ.out.alloc _) rfl ⟨wr.heap.size, 0, none⟩ 1 rfl (.int .i64 (i : Int)) (by simp) rfl (by simp only [maxLen]; omega) (by omega) (by rw [World.size_alloc]; omega) ?_
                         intro g3 cap3 w5 hown3 hor3 hlt3
                         obtain ⟨hk3, hg3⟩ := pushS (w := wr) ((Below.refl _ _).alloc (Nat.le_refl _) _) hor3
                         clear hor3)
            have e : (ints (liveTo g i)).map (Value.int .i64) ++ [.int .i64 (i : Int)] = (ints (liveTo g (i + 1))).map (Value.int .i64) := by rw [HLS.out]; simp [ints]
            have e2 : (liveTo g i).length + 1 = (liveTo g (i + 1)).length := by rw [HLS.out]; simp
            rw [e] at hown3
            have HQ2 : Hid (w5.ownsRow w.heap.size 3 1 (.slice (some ⟨g3, 0, none⟩) ((liveTo g i).length + 1) cap3) (liveTo g (i + 1)).length ((ints (liveTo g (i + 1))).map (Value.int .i64))) := Lib.hid (by rw [← e2]; exact hown3)
            have HB2 := Lib.hid (own_keeps HB.out hk3 (fun b hb hO => own_ne_own HB.out HQ.out (by decide) hb hO))
            have HA2 := Lib.hid (own_keeps HA.out hk3 (fun b hb hO => own_ne_own HA.out HQ.out (by decide) hb hO))
            have B5 := Lib.hid (B4.out.trans (hk3.below B4.out.size (fun b hb => (HQ.out.lt b hb).1)))
            clear hown3 e e2
            exact ⟨⟨i + 1, by omega, by go_num, HQ2, HB2, HA2, B5⟩, by simp [intOf]; omega⟩
          · have HLS := Lib.hid (show liveTo g (i + 1) = liveTo g i by
              rw [hls, if_neg (by cases x1 <;> cases x2 <;> simp_all), List.append_nil])
            clear hls hx1 hx2
            cases x1 <;> cases x2
            · go_wp2_with fail
              exact ⟨⟨i + 1, by omega, by go_num, Lib.hid (by rw [HLS.out]; exact HQ.out), HB, HA, B4⟩, by simp [intOf]; omega⟩
            · go_wp2_with fail
              exact ⟨⟨i + 1, by omega, by go_num, Lib.hid (by rw [HLS.out]; exact HQ.out), HB, HA, B4⟩, by simp [intOf]; omega⟩
            · go_wp2_with fail
              exact ⟨⟨i + 1, by omega, by go_num, Lib.hid (by rw [HLS.out]; exact HQ.out), HB, HA, B4⟩, by simp [intOf]; omega⟩
            · exact absurd ⟨rfl, rfl⟩ hx
        · have hlt2' : ¬ (i : Int) < (M : Int) := by omega
          obtain rfl : M = i := by omega
          have hq := HQ.out
          obtain ⟨A, c, hv, _, _⟩ := ownN_slice hq
          subst hv
          have HQ2 := Lib.hid (show wr.ownsRow w.heap.size 3 1 (.slice A (liveTo g M).length c) (liveTo g M).length ((ints (liveP g)).map (Value.int .i64)) by
            have e : liveP g = liveTo g M := by rw [← HGR.out.2]; rfl
            rw [e]
            exact hq)
          clear hq
          go_wp2_with fail
          exact bodyPost_ret (v := .tuple #[.slice A (liveTo g M).length c, .nilIface]) (by simp [results, Tryz.results47, go_sem]) rfl ⟨A, _, c, rfl, HQ2.out, B4.out⟩
end Go.Proofs.YtedmmmlahpmmoaaGreatDoor

namespace Go.Proofs.YtedmmmlahpmmoaaGreatDoor
open Go.RowKit RuleP

set_option maxRecDepth 100000 in
set_option maxHeartbeats 1000000 in
theorem indexFunc_d1 (w : World) (F : FuncId) (b : Addr) (p : Int → Bool) (A : Option Addr) (n c : Nat) (xs : List Int) (h : Sl w A n (xs.map (Value.int .i64))) (hm : n ≤ 9223372036854775807)
    (he : ∀ (x : Int) (wz : World), (callFunc F #[.int .i64 x, .pointer (some b)]).run Tryz.prog wz = .ok (.enter F #[.int .i64 x, .pointer (some b)]) wz)
    (hf : ∀ x ∈ xs, ∀ wz : World, Below w.heap.size w wz → Calls Tryz.prog F #[.int .i64 x, .pointer (some b)] wz fun e w' => e = .returned (.bool (p x)) ∧ Below wz.heap.size wz w') :
    Calls Tryz.prog 33 #[.slice A n c, .func (.func F) #[] #[.pointer (some b)]] w fun e w' => e = .returned (.int .i64 (place (xs.findIdx? p))) ∧ Below w.heap.size w w' := by
  have hl : xs.length = n := by simpa using h.1
  have HL := Lib.hid hl
  have HF := Lib.hid hf
  have HE := Lib.hid he
  have HS := Lib.hid (fun (wz : World) (hz : Below w.heap.size w wz) => h.below hz)
  clear hl hf he h
  go_enter Tryz.func33, Tryz.ntmps33
  go_wp2_with fail
  go_loopw [8] (fun i wl => ∃ k : Nat, k ≤ n ∧ i = .int .i64 (k : Int) ∧ Hid (∀ (j : Nat) (x : Int), j < k → xs[j]? = some x → p x = false) ∧ Hid (Below w.heap.size w wl)) (fun i _ => n - (intOf i).toNat)
  case atStart => exact ⟨0, Nat.zero_le _, rfl, Lib.hid (fun j x hj => by omega), Lib.hid (Below.refl _ _)⟩
  case round =>
    obtain ⟨k, hk, rfl, hs, BB⟩ := hrel
    by_cases hlt : k < n
    · obtain ⟨ad, x, rfl, hxk, hcx⟩ := (HS.out wr BB.out).int_ hlt
      have hx := HE.out x
      have hc := HF.out x (List.mem_of_getElem? hxk) wr BB.out
      cases hpx : p x with
      | false =>
        rw [hpx] at hc
        have HC := Lib.hid hc
        have hs2 : Hid (∀ (j : Nat) (y : Int), j < k + 1 → xs[j]? = some y → p y = false) := Lib.hid (fun j y hj hy => by
          rcases Nat.lt_or_ge j k with h1 | h1
          · exact hs.out j y h1 hy
          · obtain rfl : j = k := by omega
            rw [hxk] at hy
            cases hy; exact hpx)
        clear hc hpx hxk hs
        go_wp2_with fail
        refine (HC.out).mono ?_
        rintro e w' ⟨rfl, hb⟩
        have HB2 := Lib.hid (BB.out.trans (hb.mono BB.out.size))
        clear hb
        go_wp2_with fail
        exact ⟨⟨k + 1, by omega, by go_num, hs2, HB2⟩, by simp [intOf]; omega⟩
      | true =>
        rw [hpx] at hc
        have HC := Lib.hid hc
        have hp : Hid (place (xs.findIdx? p) = (k : Int)) := Lib.hid (by
          rw [List.findIdx?_eq_some_iff_getElem.2 ⟨by rw [HL.out]; exact hlt, by rw [(List.getElem?_eq_some_iff.1 hxk).2]; exact hpx, fun j hj => by
            have := hs.out j _ hj (List.getElem?_eq_getElem (by have := HL.out; omega))
            simp [this]⟩]
          rfl)
        clear hc hpx hxk hs
        go_wp2_with fail
        refine (HC.out).mono ?_
        rintro e w' ⟨rfl, hb⟩
        have HB2 := Lib.hid (BB.out.trans (hb.mono BB.out.size))
        clear hb
        go_wp2_with fail
        go_ret
        exact ⟨by rw [hp.out]; rfl, HB2.out⟩
    · obtain rfl : k = n := by omega
      have hp : Hid (place (xs.findIdx? p) = -1) := Lib.hid (by
        rw [List.findIdx?_eq_none_iff.2 (fun x hx => by
          obtain ⟨j, hj, e⟩ := List.getElem_of_mem hx
          exact hs.out j x (by have := HL.out; omega) (by rw [List.getElem?_eq_getElem hj, e]))]
        rfl)
      have hlt' : ¬ (k : Int) < (k : Int) := by omega
      clear hs
      go_wp2_with fail
      go_ret
      exact ⟨by rw [hp.out]; rfl, BB.out⟩

set_option maxRecDepth 100000 in
set_option maxHeartbeats 1000000 in
theorem indexFunc_d2 (w : World) (F : FuncId) (b b' : Addr) (p : Int → Bool) (A : Option Addr) (n c : Nat) (xs : List Int) (h : Sl w A n (xs.map (Value.int .i64))) (hm : n ≤ 9223372036854775807)
    (he : ∀ (x : Int) (wz : World), (callFunc F #[.int .i64 x, .pointer (some b), .pointer (some b')]).run Tryz.prog wz = .ok (.enter F #[.int .i64 x, .pointer (some b), .pointer (some b')]) wz)
    (hf : ∀ x ∈ xs, ∀ wz : World, Below w.heap.size w wz → Calls Tryz.prog F #[.int .i64 x, .pointer (some b), .pointer (some b')] wz fun e w' => e = .returned (.bool (p x)) ∧ Below wz.heap.size wz w') :
    Calls Tryz.prog 33 #[.slice A n c, .func (.func F) #[] #[.pointer (some b), .pointer (some b')]] w fun e w' => e = .returned (.int .i64 (place (xs.findIdx? p))) ∧ Below w.heap.size w w' := by
  have hl : xs.length = n := by simpa using h.1
  have HL := Lib.hid hl
  have HF := Lib.hid hf
  have HE := Lib.hid he
  have HS := Lib.hid (fun (wz : World) (hz : Below w.heap.size w wz) => h.below hz)
  clear hl hf he h
  go_enter Tryz.func33, Tryz.ntmps33
  go_wp2_with fail
  go_loopw [8] (fun i wl => ∃ k : Nat, k ≤ n ∧ i = .int .i64 (k : Int) ∧ Hid (∀ (j : Nat) (x : Int), j < k → xs[j]? = some x → p x = false) ∧ Hid (Below w.heap.size w wl)) (fun i _ => n - (intOf i).toNat)
  case atStart => exact ⟨0, Nat.zero_le _, rfl, Lib.hid (fun j x hj => by omega), Lib.hid (Below.refl _ _)⟩
  case round =>
    obtain ⟨k, hk, rfl, hs, BB⟩ := hrel
    by_cases hlt : k < n
    · obtain ⟨ad, x, rfl, hxk, hcx⟩ := (HS.out wr BB.out).int_ hlt
      have hx := HE.out x
      have hc := HF.out x (List.mem_of_getElem? hxk) wr BB.out
      cases hpx : p x with
      | false =>
        rw [hpx] at hc
        have HC := Lib.hid hc
        have hs2 : Hid (∀ (j : Nat) (y : Int), j < k + 1 → xs[j]? = some y → p y = false) := Lib.hid (fun j y hj hy => by
          rcases Nat.lt_or_ge j k with h1 | h1
          · exact hs.out j y h1 hy
          · obtain rfl : j = k := by omega
            rw [hxk] at hy
            cases hy; exact hpx)
        clear hc hpx hxk hs
        go_wp2_with fail
        refine (HC.out).mono ?_
        rintro e w' ⟨rfl, hb⟩
        have HB2 := Lib.hid (BB.out.trans (hb.mono BB.out.size))
        clear hb
        go_wp2_with fail
        exact ⟨⟨k + 1, by omega, by go_num, hs2, HB2⟩, by simp [intOf]; omega⟩
      | true =>
        rw [hpx] at hc
        have HC := Lib.hid hc
        have hp : Hid (place (xs.findIdx? p) = (k : Int)) := Lib.hid (by
          rw [List.findIdx?_eq_some_iff_getElem.2 ⟨by rw [HL.out]; exact hlt, by rw [(List.getElem?_eq_some_iff.1 hxk).2]; exact hpx, fun j hj => by
            have := hs.out j _ hj (List.getElem?_eq_getElem (by have := HL.out; omega))
            simp [this]⟩]
          rfl)
        clear hc hpx hxk hs
        go_wp2_with fail
        refine (HC.out).mono ?_
        rintro e w' ⟨rfl, hb⟩
        have HB2 := Lib.hid (BB.out.trans (hb.mono BB.out.size))
        clear hb
        go_wp2_with fail
        go_ret
        exact ⟨by rw [hp.out]; rfl, HB2.out⟩
    · obtain rfl : k = n := by omega
      have hp : Hid (place (xs.findIdx? p) = -1) := Lib.hid (by
        rw [List.findIdx?_eq_none_iff.2 (fun x hx => by
          obtain ⟨j, hj, e⟩ := List.getElem_of_mem hx
          exact hs.out j x (by have := HL.out; omega) (by rw [List.getElem?_eq_getElem hj, e]))]
        rfl)
      have hlt' : ¬ (k : Int) < (k : Int) := by omega
      clear hs
      go_wp2_with fail
      go_ret
      exact ⟨by rw [hp.out]; rfl, BB.out⟩

theorem contains_d2 (w : World) (F : FuncId) (b b' : Addr) (p : Int → Bool) (A : Option Addr) (n c : Nat) (xs : List Int) (h : Sl w A n (xs.map (Value.int .i64))) (hm : n ≤ 9223372036854775807)
    (he : ∀ (x : Int) (wz : World), (callFunc F #[.int .i64 x, .pointer (some b), .pointer (some b')]).run Tryz.prog wz = .ok (.enter F #[.int .i64 x, .pointer (some b), .pointer (some b')]) wz)
    (hf : ∀ x ∈ xs, ∀ wz : World, Below w.heap.size w wz → Calls Tryz.prog F #[.int .i64 x, .pointer (some b), .pointer (some b')] wz fun e w' => e = .returned (.bool (p x)) ∧ Below wz.heap.size wz w') :
    Calls Tryz.prog 67 #[.slice A n c, .func (.func F) #[] #[.pointer (some b), .pointer (some b')]] w fun e w' => e = .returned (.bool (xs.any p)) ∧ Below w.heap.size w w' := by
  have hi := indexFunc_d2 w F b b' p A n c xs h hm he hf
  have HI := Lib.hid hi
  cases hx : xs.findIdx? p with
  | none =>
    have ha : xs.any p = false := by
      rw [List.any_eq_false]
      intro x hxm
      have := List.findIdx?_eq_none_iff.1 hx x hxm
      simp [this]
    have HP := Lib.hid (show place (xs.findIdx? p) = -1 by rw [hx]; rfl)
    rw [ha]
    clear hi h he hf hx ha
    go_enter Tryz.func67, Tryz.ntmps67
    go_wp2_with fail
    refine (HI.out).mono ?_
    rintro e w2 ⟨rfl, hb⟩
    rw [HP.out]
    go_wp2_with fail
    go_ret
    exact ⟨rfl, hb⟩
  | some i =>
    have ha : xs.any p = true := by
      rw [List.any_eq_true]
      obtain ⟨hl, hp, _⟩ := List.findIdx?_eq_some_iff_getElem.1 hx
      exact ⟨_, List.getElem_mem hl, hp⟩
    have HP := Lib.hid (show place (xs.findIdx? p) = (i : Int) by rw [hx]; rfl)
    have hi0 : (0 : Int) ≤ (i : Int) := by omega
    rw [ha]
    clear hi h he hf hx ha
    go_enter Tryz.func67, Tryz.ntmps67
    go_wp2_with fail
    refine (HI.out).mono ?_
    rintro e w2 ⟨rfl, hb⟩
    rw [HP.out]
    go_wp2_with fail
    go_ret
    exact ⟨rfl, hb⟩

end Go.Proofs.YtedmmmlahpmmoaaGreatDoor
