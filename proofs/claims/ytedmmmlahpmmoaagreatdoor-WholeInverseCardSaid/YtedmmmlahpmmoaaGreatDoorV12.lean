/- graph's search ends a vertex: leave. Condition: the search lies in memory, the vertex is the last call's and open. graph's search goes through all that a vertex reaches: from. Condition: the search and the graph lie in memory. -/
import Derived.BigQuiet
import Derived.Deep.LoopGhost
import Derived.Test.YtedmmmlahpmmoaaGreatDoorV6
import Derived.Test.YtedmmmlahpmmoaaGreatDoorV8
import Derived.Test.YtedmmmlahpmmoaaGreatDoorV11
namespace Go.Proofs.YtedmmmlahpmmoaaGreatDoor
open Go.RowKit RuleP TarjP

theorem SrchAt.own_low {w : World} {B p gl gf gp : Nat} {C : Option Addr} {M n : Nat} {s : St} {ov cv : Value} (h : SrchAt w B p gl gf gp C M n s ov cv) {v : Nat} (hv : v < n) : w.cell? ⟨gl, v, none⟩ = some (.int .i64 ((s.low.getD v 0 : Nat) : Int)) ∧ w.cell? ⟨gf, v, none⟩ = some (.int .i64 ((s.found.getD v 0 : Nat) : Int)) ∧ w.cell? ⟨gp, v, none⟩ = some (.int .i64 (s.part.getD v 0)) ∧
    w.frozen? ⟨gl, v, none⟩ = false ∧ w.frozen? ⟨gp, v, none⟩ = false := by
  have h1 : s.low.length = n := by have := h.core.low.1; simpa [ints] using this
  have h2 : s.found.length = n := by have := h.core.found.1; simpa [ints] using this
  have h3 : s.part.length = n := by have := h.core.part.1; simpa using this
  refine ⟨?_, ?_, ?_, h.core.low.frozenAt v, h.core.part.frozenAt v⟩
  · rw [h.core.low.cellAt v (by omega), ints_map, List.getElem?_map, List.getD_eq_getElem?_getD, List.getElem?_eq_getElem (by omega)]; rfl
  · rw [h.core.found.cellAt v (by omega), ints_map, List.getElem?_map, List.getD_eq_getElem?_getD, List.getElem?_eq_getElem (by omega)]; rfl
  · rw [h.core.part.cellAt v (by omega), List.getElem?_map, List.getD_eq_getElem?_getD, List.getElem?_eq_getElem (by omega)]; rfl
/-- The last open vertex's place in memory. -/
theorem SrchAt.topO {w : World} {B p gl gf gp : Nat} {C : Option Addr} {M n : Nat} {s : St} {ov cv : Value} (h : SrchAt w B p gl gf gp C M n s ov cv) {x : Nat} {l : List Nat} (hl : s.opn = x :: l) : ∃ g c, ov = .slice (some ⟨g, 0, none⟩) (l.length + 1) c ∧ l.length + 1 ≤ c ∧ c ≤ maxLen ∧ w.cell? ⟨g, l.length, none⟩ = some (.int .i64 (x : Int)) := by
  obtain ⟨A, c, hov, hc1, hc2⟩ := ownN_slice h.opn
  have hlen : s.opn.length = l.length + 1 := by rw [hl]; rfl
  rw [hlen] at hov hc1
  have h1 := h.opn
  rw [hov, hlen, hl, List.reverse_cons] at h1
  obtain ⟨g, hA, hc⟩ := ownN_cell h1 (j := l.length) (u := .int .i64 (x : Int)) (by rw [ints_map, List.map_append, List.getElem?_append_right (by simp), List.length_map, List.length_reverse, Nat.sub_self]; rfl)
  subst hA
  exact ⟨g, c, hov, hc1, hc2, hc⟩

/-- How many vertices the world holds open. -/
def openN (p : Nat) (w : World) : Nat := match w.cell? ⟨p, 3, none⟩ with
  | some (.slice _ n _) => n
  | _ => 0
theorem SrchAt.openN {w : World} {B p gl gf gp : Nat} {C : Option Addr} {M n : Nat} {s : St} {ov cv : Value} (h : SrchAt w B p gl gf gp C M n s ov cv) : openN p w = s.opn.length := by
  obtain ⟨A, c, e, _⟩ := ownN_slice h.opn
  unfold Proofs.YtedmmmlahpmmoaaGreatDoor.openN
  rw [h.core.facts.2.2.2.1, e]
set_option maxRecDepth 100000 in
set_option maxHeartbeats 4000000 in
theorem leave_c (w : World) {B p gl gf gp : Nat} {C : Option Addr} {M n : Nat} {s : St} {ov cv : Value} (h : SrchAt w B p gl gf gp C M n s ov cv) (v i : Nat) (cs : List (Nat × Nat)) (hcs : s.calls = (v, i) :: cs) (hvo : v ∈ s.opn) (hop : ∀ x ∈ s.opn, x < n) (hcl : ∀ c ∈ cs, c.1 < n) (hn : n ≤ 1000000) (ho : s.opn.length < 1000000) (hc : s.calls.length < 1000000) :
    Calls Tryz.prog 105 #[.pointer (some ⟨p, 0, none⟩), .int .i64 (v : Int)] w fun e w' => e = .returned (.tuple #[]) ∧ ∃ ov' cv', SrchAt w' B p gl gf gp C M n (s.leave v cs) ov' cv' ∧ Below B w w' := by
  have hB : B ≤ w.heap.size := Nat.le_trans h.core.bp (Nat.le_of_lt h.core.lt)
  have hv : v < n := hop v hvo
  obtain ⟨g, c, hcv, t1, t2, t3, t4, t5, t6, _⟩ := h.top hcs
  have hcl1 : s.calls.length = cs.length + 1 := by rw [hcs]; rfl
  have hcap := ownN_slice h.calls
  rw [hcv] at hcap
  obtain ⟨A', c', e', hc1, hc2⟩ := hcap
  injection e' with eA _ e'
  subst e'
  subst eA
  have h1 := h.popC (A := some ⟨g, 0, none⟩) (c := c) hcs (by rw [hcv, hcl1])
  have b1 : Below B w (w.setCell ⟨p, 5, none⟩ (.slice (some ⟨g, 0, none⟩) cs.length c)) := (Keeps.of_setCell w ⟨p, 5, none⟩ (.slice (some ⟨g, 0, none⟩) cs.length c)).below hB (fun b hb => by rw [show b = p from hb]; exact h.core.bp)
  have h2 := h1.below (Below.refl _ _).drew
  have b2 := b1.drew
  obtain ⟨f0, f1, f2, f3, f4, f5, f6, z3, z5, z6⟩ := h.core.facts
  rw [hcv] at f5
  obtain ⟨K, hK⟩ : ∃ K, cs.length = K := ⟨_, rfl⟩
  rw [hK] at f5 h1 h2 b1 b2 hcl1
  obtain ⟨w2, hw2⟩ : ∃ w2, (w.setCell ⟨p, 5, none⟩ (.slice (some ⟨g, 0, none⟩) K c)).drew = w2 := ⟨_, rfl⟩
  rw [hw2] at h2 b2
  have e1 : IntKind.i64.wrap (((K + 1 : Nat) : Int) - 1) = (K : Int) := by rw [show ((K + 1 : Nat) : Int) - 1 = (K : Int) by omega]; exact IntWalk.i64_in _ (by omega)
  have e2 : IntKind.i64.wrap (K : Int) = (K : Int) := IntWalk.i64_in _ (by omega)
  have k0 : (0 : Int) ≤ (K : Int) := by omega
  have k1 : (K : Int) ≤ (c : Int) := by omega
  have hK6 : K < 1000000 := by omega
  have H2 := Lib.hid h2
  have B2 := Lib.hid b2
  have HW2 := Lib.hid hw2
  have HK := Lib.hid hK
  have HVO := Lib.hid hvo
  have HOP := Lib.hid hop
  have HCL := Lib.hid hcl
  clear h h1 h2 b1 b2 hcs hcv hcl1 hw2 hB hK hvo hop hcl t1 t2 t3 t4 t5 t6
  go_enter Tryz.func105, Tryz.ntmps105
  go_wp2_with fail
  go_region
  rw [HW2.out]
  clear f0 f1 f2 f3 f4 f5 f6 z3 z5 z6
  obtain ⟨f0, f1, f2, f3, f4, f5, f6, z3, z5, z6⟩ := H2.out.core.facts
  go_upto_if 27 with fail
  go_cut [5] (fun u5 wx => ∃ cv', Hid (SrchAt wx B p gl gf gp C M n ⟨up s.low v cs, s.found, s.opn, s.part, cs, s.time⟩ ov cv') ∧ Hid (Below B w wx))
  case first =>
    cases cs with
    | nil =>
      have hK0 : K = 0 := HK.out.symm
      subst hK0
      go_wp2_with fail
      go_meet
      exact ⟨_, Lib.hid H2.out, Lib.hid B2.out⟩
    | cons a cs' =>
      obtain ⟨u, j⟩ := a
      have hKp : (0 : Int) < (K : Int) := by have h1 := HK.out; rw [List.length_cons] at h1; omega
      have hu : u < n := HCL.out (u, j) List.mem_cons_self
      obtain ⟨g', c', hcv', t1, t2, t3, t4, t5, t6, _⟩ := H2.out.top rfl
      injection hcv' with eA eK eC
      injection eA with eA
      injection eA with eA
      subst eA eC
      obtain ⟨K', hK'⟩ : ∃ K', cs'.length = K' := ⟨_, rfl⟩
      rw [hK'] at eK t1 t2
      subst eK
      obtain ⟨lu1, lu2, lu3, lu4, lu5⟩ := H2.out.own_low hu
      obtain ⟨lv1, lv2, lv3, lv4, lv5⟩ := H2.out.own_low hv
      obtain ⟨lu, hlu⟩ : ∃ lu, s.low.getD u 0 = lu := ⟨_, rfl⟩
      obtain ⟨lv, hlv⟩ : ∃ lv, s.low.getD v 0 = lv := ⟨_, rfl⟩
      obtain ⟨mm, hmm⟩ : ∃ mm, min lu lv = mm := ⟨_, rfl⟩
      dsimp only at lu1 lv1
      rw [hlu] at lu1
      rw [hlv] at lv1
      have hup : up s.low v ((u, j) :: cs') = s.low.set u mm := by rw [up, hlu, hlv, hmm]
      have hP := H2.out.putL u mm
      have hPb := B2.out.trans ((Keeps.of_setCell w2 ⟨gl, u, none⟩ (.int .i64 (mm : Int))).below (Nat.le_trans H2.out.core.bp (Nat.le_of_lt H2.out.core.lt)) (fun b hb => by rw [show b = gl from hb]; exact H2.out.core.ltl.1))
      have HMM := Lib.hid hmm
      have HUP := Lib.hid hup
      clear hlu hlv hmm hup
      have e3 : IntKind.i64.wrap (((K' + 1 : Nat) : Int) - 1) = (K' : Int) := by rw [show ((K' + 1 : Nat) : Int) - 1 = (K' : Int) by omega]; exact IntWalk.i64_in _ (by omega)
      have e4 : IntKind.i64.wrap (K' : Int) = (K' : Int) := IntWalk.i64_in _ (by omega)
      have k3 : (K' : Int) < ((K' + 1 : Nat) : Int) := by omega
      have k4 : (K' : Int) < (K' : Int) + 1 := by omega
      have k5 : (0 : Int) ≤ (K' : Int) := by omega
      have k6 : (u : Int) < (n : Int) := by omega
      have k7 : (0 : Int) ≤ (u : Int) := by omega
      have k8 : (v : Int) < (n : Int) := by omega
      have k9 : (0 : Int) ≤ (v : Int) := by omega
      have hmm := HMM.out
      rcases Nat.lt_trichotomy lu lv with hle | hle | hle
      · have hx : mm = lu := by omega
        subst hx
        have c1 : (mm : Int) < (lv : Int) := by omega
        have c2 : (mm : Int) ≤ (lv : Int) := by omega
        have c3 : ¬ (lv : Int) < (mm : Int) := by omega
        have c4 : ¬ (lv : Int) ≤ (mm : Int) := by omega
        have c5 : min (mm : Int) (lv : Int) = (mm : Int) := by omega
        clear hmm HMM hle
        have HPP := Lib.hid hP
        have HPB := Lib.hid hPb
        clear hP hPb
        go_wp2_with fail
        go_region
        have hdr := (Below.refl (w2.setCell ⟨gl, u, none⟩ (.int .i64 (mm : Int))).heap.size (w2.setCell ⟨gl, u, none⟩ (.int .i64 (mm : Int)))).drew
        try go_wp2_with fail
        go_meet
        rw [HUP.out]
        exact ⟨_, Lib.hid (HPP.out.below hdr), Lib.hid HPB.out.drew⟩
      · have hx : mm = lu := by omega
        subst hx
        subst hle
        have c5 : min (mm : Int) (mm : Int) = (mm : Int) := by omega
        clear hmm HMM
        have HPP := Lib.hid hP
        have HPB := Lib.hid hPb
        clear hP hPb
        go_wp2_with fail
        go_region
        have hdr := (Below.refl (w2.setCell ⟨gl, u, none⟩ (.int .i64 (mm : Int))).heap.size (w2.setCell ⟨gl, u, none⟩ (.int .i64 (mm : Int)))).drew
        try go_wp2_with fail
        go_meet
        rw [HUP.out]
        exact ⟨_, Lib.hid (HPP.out.below hdr), Lib.hid HPB.out.drew⟩
      · have hx : mm = lv := by omega
        subst hx
        have c1 : (mm : Int) < (lu : Int) := by omega
        have c2 : (mm : Int) ≤ (lu : Int) := by omega
        have c3 : ¬ (lu : Int) < (mm : Int) := by omega
        have c4 : ¬ (lu : Int) ≤ (mm : Int) := by omega
        have c5 : min (lu : Int) (mm : Int) = (mm : Int) := by omega
        clear hmm HMM hle
        have HPP := Lib.hid hP
        have HPB := Lib.hid hPb
        clear hP hPb
        go_wp2_with fail
        go_region
        have hdr := (Below.refl (w2.setCell ⟨gl, u, none⟩ (.int .i64 (mm : Int))).heap.size (w2.setCell ⟨gl, u, none⟩ (.int .i64 (mm : Int)))).drew
        try go_wp2_with fail
        go_meet
        rw [HUP.out]
        exact ⟨_, Lib.hid (HPP.out.below hdr), Lib.hid HPB.out.drew⟩
  case rest =>
    obtain ⟨cv3, H3, B3⟩ := hcut
    clear f0 f1 f2 f3 f4 f5 f6 z3 z5 z6
    obtain ⟨f0, f1, f2, f3, f4, f5, f6, z3, z5, z6⟩ := H3.out.core.facts
    obtain ⟨lv1, lv2, _, _, _⟩ := H3.out.own_low hv
    have k8 : (v : Int) < (n : Int) := by omega
    have k9 : (0 : Int) ≤ (v : Int) := by omega
    have HLV := Lib.hid (show s.leave v cs = if (up s.low v cs).getD v 0 = s.found.getD v 0 then ⟨up s.low v cs, s.found, (closeTo v s.opn s.part).1, (closeTo v s.opn s.part).2, cs, s.time⟩ else ⟨up s.low v cs, s.found, s.opn, s.part, cs, s.time⟩ from rfl)
    dsimp only at lv1 lv2
    obtain ⟨a, ha⟩ : ∃ a, (up s.low v cs).getD v 0 = a := ⟨_, rfl⟩
    obtain ⟨b, hb⟩ : ∃ b, s.found.getD v 0 = b := ⟨_, rfl⟩
    rw [ha] at lv1 HLV
    rw [hb] at lv2 HLV
    clear ha hb
    by_cases hr : a = b
    · subst hr
      have HL2 : Hid (s.leave v cs = ⟨up s.low v cs, s.found, (closeTo v s.opn s.part).1, (closeTo v s.opn s.part).2, cs, s.time⟩) := Lib.hid (by rw [HLV.out, if_pos rfl])
      clear HLV
      go_wp2_with (go_quiet (fail))
      clear f0 f1 f2 f3 f4 f5 f6 z3 z5 z6 lv1 lv2
      go_loopw [6] (fun tv wl => ∃ (l : List Nat) (q : List Int) (ov' : Value), Hid (SrchAt wl B p gl gf gp C M n ⟨up s.low v cs, s.found, l, q, cs, s.time⟩ ov' cv3) ∧ Hid (closeTo v l q = closeTo v s.opn s.part) ∧ Hid (v ∈ l ∧ (∀ x ∈ l, x < n) ∧ l.length < 1000000) ∧ Hid (Below B w wl)) (fun _ wl => openN p wl)
      case atStart => exact ⟨s.opn, s.part, ov, Lib.hid (by first | exact H3.out | exact H3.out.below (below_drewN (Below.refl _ _) _)), Lib.hid rfl, Lib.hid ⟨HVO.out, HOP.out, ho⟩, Lib.hid (by first | exact B3.out | exact below_drewN B3.out _)⟩
      case round =>
        clear H3 B3
        obtain ⟨l, q, ov', H3, HCT, HV, B3⟩ := hrel
        obtain ⟨x, l', hl⟩ : ∃ x l', l = x :: l' := by
          cases l with
          | nil => have h1 := HV.out.1; cases h1
          | cons x l' => exact ⟨x, l', rfl⟩
        subst hl
        obtain ⟨go, co, rfl, o1, o2, o3⟩ := H3.out.topO rfl
        have HON := Lib.hid H3.out.openN
        have hxn : x < n := HV.out.2.1 x List.mem_cons_self
        obtain ⟨f0, f1, f2, f3, f4, f5, f6, z3, z5, z6⟩ := H3.out.core.facts
        have h4 := H3.out.popO (A := some ⟨go, 0, none⟩) (c := co) rfl rfl
        have b4 := B3.out.trans ((Keeps.of_setCell wr ⟨p, 3, none⟩ (.slice (some ⟨go, 0, none⟩) l'.length co)).below (Nat.le_trans H3.out.core.bp (Nat.le_of_lt H3.out.core.lt)) (fun b hb => by rw [show b = p from hb]; exact H3.out.core.bp))
        have HLL := Lib.hid (show l'.length + 1 < 1000000 from HV.out.2.2)
        obtain ⟨K', hK'⟩ : ∃ K', l'.length = K' := ⟨_, rfl⟩
        rw [hK'] at f3 o1 o3 h4 b4
        have hK6' : K' + 1 < 1000000 := by have := HLL.out; omega
        have H4 := Lib.hid h4
        have B4 := Lib.hid b4
        have HK' := Lib.hid hK'
        have e3 : IntKind.i64.wrap (((K' + 1 : Nat) : Int) - 1) = (K' : Int) := by rw [show ((K' + 1 : Nat) : Int) - 1 = (K' : Int) by omega]; exact IntWalk.i64_in _ (by omega)
        have e4 : IntKind.i64.wrap (K' : Int) = (K' : Int) := IntWalk.i64_in _ (by omega)
        have k3 : (K' : Int) < ((K' + 1 : Nat) : Int) := by omega
        have k4 : (K' : Int) < (K' : Int) + 1 := by omega
        have k5 : (0 : Int) ≤ (K' : Int) := by omega
        have k6 : (K' : Int) ≤ (co : Int) := by omega
        have k7 : (x : Int) < (n : Int) := by omega
        have k10 : (0 : Int) ≤ (x : Int) := by omega
        clear h4 b4 hK'
        go_upto_region 7 with (go_quiet (fail))
        obtain ⟨v0, hv0⟩ : ∃ v0, wr.drewN nq = v0 := ⟨_, rfl⟩
        have h0 := H3.out.below (below_drewN (Below.refl wr.heap.size wr) nq)
        have b0 := below_drewN B3.out nq
        rw [hv0] at h0 b0 ⊢
        clear f0 f1 f2 f3 f4 f5 f6 z3 z5 z6 H4 B4 hv0 o1 o2 o3
        obtain ⟨f0, f1, f2, f3, f4, f5, f6, z3, z5, z6⟩ := h0.core.facts
        rw [HK'.out] at f3
        have h4 := h0.popO (A := some ⟨go, 0, none⟩) (c := co) rfl rfl
        have b4 := b0.trans ((Keeps.of_setCell v0 ⟨p, 3, none⟩ (.slice (some ⟨go, 0, none⟩) l'.length co)).below (Nat.le_trans h0.core.bp (Nat.le_of_lt h0.core.lt)) (fun b hb => by rw [show b = p from hb]; exact h0.core.bp))
        have h5 := h4.below (Below.refl _ _).drew
        have b5 := b4.drew
        rw [HK'.out] at h5 b5
        obtain ⟨v1, hv1⟩ : ∃ v1, (v0.setCell ⟨p, 3, none⟩ (.slice (some ⟨go, 0, none⟩) K' co)).drew = v1 := ⟨_, rfl⟩
        rw [hv1] at h5 b5
        have HV1 := Lib.hid hv1
        have H5 := Lib.hid h5
        have B5 := Lib.hid b5
        clear h0 b0 h4 b4 h5 b5 hv1
        go_wp2_with fail
        go_region
        rw [HV1.out]
        clear f0 f1 f2 f3 f4 f5 f6 z3 z5 z6
        obtain ⟨f0, f1, f2, f3, f4, f5, f6, z3, z5, z6⟩ := H5.out.core.facts
        obtain ⟨_, _, lx3, _, lx5⟩ := H5.out.own_low hxn
        have h6 := H5.out.putP x (v : Int)
        have b6 := B5.out.trans ((Keeps.of_setCell v1 ⟨gp, x, none⟩ (.int .i64 (v : Int))).below (Nat.le_trans H5.out.core.bp (Nat.le_of_lt H5.out.core.lt)) (fun b hb => by rw [show b = gp from hb]; exact H5.out.core.ltp.1))
        have hct := HCT.out
        rw [closeTo] at hct
        have H6 := Lib.hid h6
        have B6 := Lib.hid b6
        clear h6 b6
        by_cases hxv : x = v
        · rw [if_pos hxv] at hct
          have HE := Lib.hid hct
          have HXV := Lib.hid hxv
          have hxv' : (x : Int) = (v : Int) := by omega
          clear hct
          subst hxv
          go_wp2_with fail
          first | go_end0 | refine bodyPost_ret (results_none rfl _ _ _) rfl ?_
          rw [HL2.out, ← HE.out]
          exact ⟨rfl, ⟨_, _, H6.out⟩, B6.out⟩
        · rw [if_neg hxv] at hct
          have HE := Lib.hid hct
          have hxv' : ¬ (x : Int) = (v : Int) := by omega
          have HVV := Lib.hid (show v ∈ l' ∧ (∀ y ∈ l', y < n) ∧ l'.length < 1000000 from ⟨by
            rcases List.mem_cons.1 HV.out.1 with e | h
            · exact absurd e.symm hxv
            · exact h, fun y hy => HV.out.2.1 y (List.mem_cons_of_mem _ hy), by have := HLL.out; omega⟩)
          have HME := Lib.hid (show openN p (v1.setCell ⟨gp, x, none⟩ (.int .i64 (v : Int))) < openN p wr by rw [H6.out.openN, HON.out]; exact Nat.lt_succ_self _)
          clear hct hxv
          go_wp2_with fail
          exact ⟨⟨l', q.set x (v : Int), _, H6, HE, HVV, B6⟩, HME.out⟩
    · have HL2 : Hid (s.leave v cs = ⟨up s.low v cs, s.found, s.opn, s.part, cs, s.time⟩) := Lib.hid (by rw [HLV.out, if_neg hr])
      have hr' : ¬ (a : Int) = (b : Int) := by omega
      clear HLV
      go_wp2_with (go_quiet (fail))
      first | go_end0 | refine bodyPost_ret (results_none rfl _ _ _) rfl ?_
      rw [HL2.out]
      first
        | exact ⟨rfl, ⟨_, _, H3.out⟩, B3.out⟩
        | exact ⟨rfl, ⟨_, _, H3.out.below (below_drewN (Below.refl _ _) _)⟩, below_drewN B3.out _⟩
end Go.Proofs.YtedmmmlahpmmoaaGreatDoor

namespace Go.Proofs.YtedmmmlahpmmoaaGreatDoor
open Go.RowKit RuleP TarjP

/-- A vertex's arrows in memory. -/
theorem graph_row {w : World} {C : Option Addr} {M : Nat} {g : List (List Nat)} (h : ListAt w C M (g.map ints)) {u : Nat} (hu : u < M) : ∃ ad P L c, C = some ad ∧ w.cell? (ad.add u) = some (.slice P L c) ∧ (g.getD u []).length = L ∧ Sl w P L ((ints (g.getD u [])).map (Value.int .i64)) := by
  obtain ⟨ad, l, P, c, e, hl, hc, _, hs⟩ := h.at_ hu
  rw [List.getElem?_map] at hl
  cases hg : g[u]? with
  | none => rw [hg] at hl; cases hl
  | some m =>
    rw [hg] at hl
    have e2 : ints m = l := Option.some.inj hl
    have e3 : g.getD u [] = m := by rw [List.getD_eq_getElem?_getD, hg]; rfl
    have e4 : l.length = m.length := by rw [← e2]; simp [ints]
    rw [e4] at hc hs
    refine ⟨ad, P, m.length, c, e, hc, by rw [e3], ?_⟩
    rw [e3, e2]
    exact hs

set_option maxRecDepth 100000 in
set_option maxHeartbeats 8000000 in
theorem srchFrom_c (w : World) {B p gl gf gp : Nat} {C : Option Addr} {M n : Nat} {s : St} {ov cv : Value} (g : List (List Nat)) (hg : Graph g) (hgn : g.length = n) (hM : M = n) (hi : Inv g s) (hcs : s.calls = []) (h : SrchAt w B p gl gf gp C M n s ov cv) (v : Nat) (hv : v < n) (h0 : fo s v = 0)
    (hG : ∀ wz, Below B w wz → ListAt wz C M (g.map ints)) (hn : n < 1000000) (hlen : ∀ u, (g.getD u []).length ≤ 1000000) (ht : s.time + un s.found g < 1000000) :
    Calls Tryz.prog 88 #[.pointer (some ⟨p, 0, none⟩), .int .i64 (v : Int)] w fun e w' => e = .returned (.tuple #[]) ∧ ∃ ov' cv', SrchAt w' B p gl gf gp C M n (run g (s.enter v)) ov' cv' ∧ Below B w w' := by
  have hi1 : Inv g (s.enter v) := hi.enter (by omega) h0 (.inl hcs)
  have ht1 := Nat.le_trans (enter_time hi (show v < g.length by omega) h0) (Nat.le_refl _)
  have hon := opn_len hi
  have hcn := calls_len hi
  have hEN := enter_c w h v hv (by omega) (by omega) (by omega) (by omega)
  have HEN := Lib.hid hEN
  have HG := Lib.hid hG
  have HI1 := Lib.hid hi1
  have HGR := Lib.hid (And.intro hg hgn)
  have HT1 := Lib.hid (show (s.enter v).time + un (s.enter v).found g < 1000000 by omega)
  have HLEN := Lib.hid hlen
  obtain ⟨s1, hs1⟩ : ∃ s1, s.enter v = s1 := ⟨_, rfl⟩
  rw [hs1] at HEN HI1 HT1 ⊢
  clear h hG hi hcs hg hgn hi1 ht1 hon hcn hEN ht hlen h0 hs1
  subst hM
  go_enter Tryz.func88, Tryz.ntmps88
  go_wp2_with fail
  refine (HEN.out).mono ?_
  rintro e w1 ⟨rfl, ov1, cv1, h1, b1⟩
  have H1 := Lib.hid h1
  have B1 := Lib.hid b1
  clear h1 b1 HEN
  go_wp2_with fail
  go_loopg [4] (mu g s1) (fun k f wl => ∃ (S : St) (ov cv : Value), Hid (∃ j, it g j s1 = S) ∧ Hid (SrchAt wl B p gl gf gp C M M S ov cv) ∧ Hid (Below B w wl) ∧ Hid (mu g S ≤ k))
  case atStart => exact ⟨s1, ov1, cv1, Lib.hid ⟨0, rfl⟩, H1, B1, Lib.hid (Nat.le_refl _)⟩
  case round =>
    clear H1 B1
    obtain ⟨S, ov2, cv2, HJ, H2, B2, HMU⟩ := hrel
    have hiS : Inv g S := by
      obtain ⟨j, hj⟩ := HJ.out
      rw [← hj]
      exact it_inv HGR.out.1 HI1.out j
    have htS : S.time + un S.found g < 1000000 := by
      obtain ⟨j, hj⟩ := HJ.out
      have h1 := it_time HGR.out.1 HI1.out j
      rw [hj] at h1
      have := HT1.out
      omega
    have hoS := opn_len hiS
    have hcS := calls_len hiS
    rw [HGR.out.2] at hoS hcS
    have HIS := Lib.hid hiS
    by_cases hce : S.calls = []
    · obtain ⟨A, c, hcv, _, _⟩ := ownN_slice H2.out.calls
      have hL : S.calls.length = 0 := by rw [hce]; rfl
      rw [hL] at hcv
      subst hcv
      obtain ⟨f0, f1, f2, f3, f4, f5, f6, z3, z5, z6⟩ := H2.out.core.facts
      have hend : run g s1 = S := by
        obtain ⟨j, hj⟩ := HJ.out
        have h1 := run_eq HGR.out.1 HI1.out j (by rw [hj]; exact hce)
        rw [h1, hj]
      have HEND := Lib.hid hend
      clear hend hce hL hiS htS hoS hcS
      go_wp2_with fail
      first | go_end0 | refine bodyPost_ret (results_none rfl _ _ _) rfl ?_
      rw [HEND.out]
      first | exact ⟨rfl, ⟨_, _, H2.out⟩, B2.out⟩ | exact ⟨rfl, _, _, H2.out, B2.out⟩
    · obtain ⟨u, i, cs, hc⟩ : ∃ u i cs, S.calls = (u, i) :: cs := by
        cases hcc : S.calls with
        | nil => exact absurd hcc hce
        | cons a cs => exact ⟨a.1, a.2, cs, rfl⟩
      obtain ⟨gc, cc, hcv, _⟩ := H2.out.top hc
      subst hcv
      obtain ⟨K, hK⟩ : ∃ K, cs.length = K := ⟨_, rfl⟩
      have hKl : S.calls.length = K + 1 := by rw [hc, ← hK]; rfl
      have HC := Lib.hid hc
      have HK := Lib.hid hK
      have hKn : K + 1 ≤ M := by omega
      have hcix : i ≤ (g.getD u []).length := hiS.cix (u, i) (by rw [hc]; exact List.mem_cons_self)
      have huo : u ∈ S.opn := hiS.cmem (u, i) (by rw [hc]; exact List.mem_cons_self)
      have hu : u < M := by have := (hiS.op u huo).1; rw [HGR.out.2] at this; exact this
      obtain ⟨L, hL⟩ : ∃ L, (g.getD u []).length = L := ⟨_, rfl⟩
      have hLb := HLEN.out u
      rw [hL] at hcix hLb
      have HL := Lib.hid hL
      have hNX : mu g (S.next g) < mu g S := mu_next HGR.out.1 hiS hce
      have HNX := Lib.hid hNX
      have HJN := Lib.hid (show ∃ j, it g j s1 = S.next g by
        obtain ⟨j, hj⟩ := HJ.out
        exact ⟨j + 1, by rw [← hj]; rfl⟩)
      have HNXD := Lib.hid (show S.next g = if i = (g.getD u []).length then S.leave u cs else if S.found.getD ((g.getD u []).getD i 0) 0 = 0 then (⟨S.low, S.found, S.opn, S.part, (u, i + 1) :: cs, S.time⟩ : St).enter ((g.getD u []).getD i 0) else if S.part.getD ((g.getD u []).getD i 0) 0 < 0 then ⟨S.low.set u (min (S.low.getD u 0) (S.found.getD ((g.getD u []).getD i 0) 0)), S.found, S.opn, S.part, (u, i + 1) :: cs, S.time⟩ else ⟨S.low, S.found, S.opn, S.part, (u, i + 1) :: cs, S.time⟩ by
        unfold St.next
        rw [hc])
      have HSB := Lib.hid (show S.time < 1000000 ∧ S.opn.length < 1000000 ∧ S.calls.length < 1000000 by omega)
      have hcvL : Value.slice (some ⟨gc, 0, none⟩) (cs.length + 1) cc = .slice (some ⟨gc, 0, none⟩) (K + 1) cc := by rw [hK]
      rw [hcvL] at H2
      clear hce hc hK hKl hL hNX hcvL hiS htS hoS hcS huo
      have e1 : IntKind.i64.wrap (((K + 1 : Nat) : Int) - 1) = (K : Int) := by rw [show ((K + 1 : Nat) : Int) - 1 = (K : Int) by omega]; exact IntWalk.i64_in _ (by omega)
      have e2 : IntKind.i64.wrap (K : Int) = (K : Int) := IntWalk.i64_in _ (by omega)
      have k1 : (K : Int) < ((K + 1 : Nat) : Int) := by omega
      have k2 : (K : Int) < (K : Int) + 1 := by omega
      have k3 : (0 : Int) ≤ (K : Int) := by omega
      have k4 : (u : Int) < (M : Int) := by omega
      have k5 : (0 : Int) ≤ (u : Int) := by omega
      have k6 : (0 : Int) < (K : Int) + 1 := by omega
      have k7 : (0 : Int) < ((K + 1 : Nat) : Int) := by omega
      obtain ⟨f0, f1, f2, f3, f4, f5, f6, z3, z5, z6⟩ := H2.out.core.facts
      obtain ⟨gc', cc', hcv', t1, t2, t3, t4, t5, t6, tS⟩ := H2.out.top HC.out
      injection hcv' with eA eK eC
      clear eK
      injection eA with eA
      injection eA with eA
      subst eA eC
      rw [HK.out] at t1 t2 t3 tS
      obtain ⟨ad, P, L', cr, rfl, hcr, hL', hsr⟩ := graph_row (HG.out wr B2.out) hu
      obtain rfl : L = L' := HL.out.symm.trans hL'
      go_upto_region 3 with (go_quiet (fail))
      obtain ⟨v0, hv0⟩ : ∃ vz, wr.drewN nq = vz := ⟨_, rfl⟩
      have h2' := H2.out.below (below_drewN (Below.refl wr.heap.size wr) nq)
      have b2' := below_drewN B2.out nq
      rw [hv0] at h2' b2' ⊢
      clear H2 B2 hv0
      have H2 := Lib.hid h2'
      have B2 := Lib.hid b2'
      clear h2' b2'
      clear f0 f1 f2 f3 f4 f5 f6 z3 z5 z6 t1 t2 t3 t4 t5 t6 tS hcr hL' hsr
      obtain ⟨f0, f1, f2, f3, f4, f5, f6, z3, z5, z6⟩ := H2.out.core.facts
      obtain ⟨gc', cc', hcv', t1, t2, t3, t4, t5, t6, tS⟩ := H2.out.top HC.out
      injection hcv' with eA eK eC
      clear eK
      injection eA with eA
      injection eA with eA
      subst eA eC
      rw [HK.out] at t1 t2 t3 tS
      obtain ⟨ad', P', L', c', eC', hcr, hL', hsr⟩ := graph_row (HG.out v0 B2.out) hu
      injection eC' with eC'
      subst eC'
      obtain rfl : L = L' := HL.out.symm.trans hL'
      by_cases hiL : i = L
      · have hiL' : (i : Int) = (L : Int) := by omega
        have HE := Lib.hid (show S.next g = S.leave u cs by rw [HNXD.out, if_pos (by rw [HL.out]; exact hiL)])
        subst hiL
        have hop : ∀ x ∈ S.opn, x < M := fun x hx => by have := (HIS.out.op x hx).1; rw [HGR.out.2] at this; exact this
        have hLV := fun (wz : World) (hz : Below v0.heap.size v0 wz) => leave_c wz (H2.out.below hz) u i cs HC.out (HIS.out.cmem (u, i) (by rw [HC.out]; exact List.mem_cons_self)) hop (fun c hc => hop _ (HIS.out.cmem c (by rw [HC.out]; exact List.mem_cons_of_mem _ hc))) (by omega) HSB.out.2.1 HSB.out.2.2
        have HLV := Lib.hid hLV
        clear hLV hop
        go_wp2_with (go_quiet (fail))
        refine (HLV.out _ (below_drewN (Below.refl _ _) _)).mono ?_
        rintro e w3 ⟨rfl, ov3, cv3, h3, b3⟩
        rw [← HE.out] at h3
        have H3 := Lib.hid h3
        have B3 := Lib.hid ((below_drewN B2.out nq).trans b3)
        clear h3 b3
        go_wp2_with fail
        go_roundg (mu g (S.next g))
        case measure => have h1 := HNX.out; have h2 := HMU.out; omega
        case rel => exact ⟨S.next g, ov3, cv3, HJN, H3, B3, Lib.hid (Nat.le_refl _)⟩
      · have hiL' : ¬ (i : Int) = (L : Int) := by omega
        have hiL2 : i < L := by omega
        have k8 : (i : Int) < (L : Int) := by omega
        have k9 : (0 : Int) ≤ (i : Int) := by omega
        go_upto_region 5 with (go_quiet (fail))
        obtain ⟨v1, hv0⟩ : ∃ vz, v0.drewN nq = vz := ⟨_, rfl⟩
        have h2' := H2.out.below (below_drewN (Below.refl v0.heap.size v0) nq)
        have b2' := below_drewN B2.out nq
        rw [hv0] at h2' b2' ⊢
        clear H2 B2 hv0
        have H2 := Lib.hid h2'
        have B2 := Lib.hid b2'
        clear h2' b2'
        clear f0 f1 f2 f3 f4 f5 f6 z3 z5 z6 t1 t2 t3 t4 t5 t6 tS hcr hL' hsr
        obtain ⟨f0, f1, f2, f3, f4, f5, f6, z3, z5, z6⟩ := H2.out.core.facts
        obtain ⟨gc', cc', hcv', t1, t2, t3, t4, t5, t6, tS⟩ := H2.out.top HC.out
        injection hcv' with eA eK eC
        clear eK
        injection eA with eA
        injection eA with eA
        subst eA eC
        rw [HK.out] at t1 t2 t3 tS
        obtain ⟨ad', P', L', c', eC', hcr, hL', hsr⟩ := graph_row (HG.out v1 B2.out) hu
        injection eC' with eC'
        subst eC'
        obtain rfl : L = L' := HL.out.symm.trans hL'
        have hsr' := hsr
        rw [ints_map] at hsr'
        obtain ⟨pad, T, rfl, hT, hct⟩ := hsr'.word_ hiL2
        clear hsr'
        go_upto_region 6 with (go_quiet (fail))
        obtain ⟨v2, hv0⟩ : ∃ vz, v1.drewN nq = vz := ⟨_, rfl⟩
        have h2' := H2.out.below (below_drewN (Below.refl v1.heap.size v1) nq)
        have b2' := below_drewN B2.out nq
        rw [hv0] at h2' b2' ⊢
        clear H2 B2 hv0
        have H2 := Lib.hid h2'
        have B2 := Lib.hid b2'
        clear h2' b2'
        clear f0 f1 f2 f3 f4 f5 f6 z3 z5 z6 t1 t2 t3 t4 t5 t6 tS hcr hL' hsr hct
        obtain ⟨f0, f1, f2, f3, f4, f5, f6, z3, z5, z6⟩ := H2.out.core.facts
        obtain ⟨gc', cc', hcv', t1, t2, t3, t4, t5, t6, tS⟩ := H2.out.top HC.out
        injection hcv' with eA eK eC
        clear eK
        injection eA with eA
        injection eA with eA
        subst eA eC
        rw [HK.out] at t1 t2 t3 tS
        obtain ⟨I1, hI1⟩ : ∃ I1, i + 1 = I1 := ⟨_, rfl⟩
        rw [hI1] at tS
        have e3 : IntKind.i64.wrap ((i : Int) + 1) = (I1 : Int) := by rw [show (i : Int) + 1 = (I1 : Int) by omega]; exact IntWalk.i64_in _ (by omega)
        have b4 := B2.out.trans ((Keeps.of_setCell v2 ⟨gc, K * 2 + 1, none⟩ (.int .i64 (I1 : Int))).below (Nat.le_trans H2.out.core.bp (Nat.le_of_lt H2.out.core.lt)) (fun b hb => by rw [show b = gc from hb]; exact t4))
        obtain ⟨w4, hw4⟩ : ∃ w4, v2.setCell ⟨gc, K * 2 + 1, none⟩ (.int .i64 (I1 : Int)) = w4 := ⟨_, rfl⟩
        rw [hw4] at tS b4
        have HW4 := Lib.hid hw4
        have H4 := Lib.hid tS
        have B4 := Lib.hid b4
        have hTe : (g.getD u []).getD i 0 = T := by rw [List.getD_eq_getElem?_getD (l := g.getD u []), hT]; rfl
        have hTM : T < M := by
          have h1 := HGR.out.1 u T (List.mem_of_getElem? hT)
          rw [HGR.out.2] at h1
          exact h1
        have HND := Lib.hid (show S.next g = if S.found.getD T 0 = 0 then (⟨S.low, S.found, S.opn, S.part, (u, I1) :: cs, S.time⟩ : St).enter T else if S.part.getD T 0 < 0 then ⟨S.low.set u (min (S.low.getD u 0) (S.found.getD T 0)), S.found, S.opn, S.part, (u, I1) :: cs, S.time⟩ else ⟨S.low, S.found, S.opn, S.part, (u, I1) :: cs, S.time⟩ by
          rw [HNXD.out, if_neg (by have := HL.out; omega), hTe, hI1])
        have HI := Lib.hid hI1
        clear hw4 b4 hTe hT hI1 HNXD
        clear tS
        go_upto_region 7 with fail
        rw [HW4.out]
        clear f0 f1 f2 f3 f4 f5 f6 z3 z5 z6 t1 t2 t3 t4 t5 t6
        obtain ⟨f0, f1, f2, f3, f4, f5, f6, z3, z5, z6⟩ := H4.out.core.facts
        obtain ⟨gc', cc', hcv', t1, t2, t3, t4, t5, t6, _⟩ := H4.out.top rfl
        injection hcv' with eA eK eC
        clear eK
        injection eA with eA
        injection eA with eA
        subst eA eC
        rw [HK.out] at t1 t2 t3
        obtain ⟨x1, x2, x3, x4, x5⟩ := H4.out.own_low hTM
        obtain ⟨y1, y2, y3, y4, y5⟩ := H4.out.own_low hu
        have k10 : (T : Int) < (M : Int) := by omega
        have k11 : (0 : Int) ≤ (T : Int) := by omega
        obtain ⟨fT, hfT⟩ : ∃ fT, S.found.getD T 0 = fT := ⟨_, rfl⟩
        obtain ⟨pT, hpT⟩ : ∃ pT, S.part.getD T 0 = pT := ⟨_, rfl⟩
        obtain ⟨lu, hlu⟩ : ∃ lu, S.low.getD u 0 = lu := ⟨_, rfl⟩
        dsimp only at x2 x3 y1
        rw [hfT] at x2 HND
        rw [hpT] at x3 HND
        rw [hlu] at y1 HND
        clear x1 x4 x5 y2 y3 y5 hfT hpT hlu
        by_cases hf : fT = 0
        · subst hf
          have HE := Lib.hid (show S.next g = (⟨S.low, S.found, S.opn, S.part, (u, I1) :: cs, S.time⟩ : St).enter T by rw [HND.out, if_pos rfl])
          have HEN := Lib.hid (enter_c w4 H4.out T hTM (by omega) HSB.out.1 HSB.out.2.1 (by have := HSB.out.2.2; rw [HC.out] at this; exact this))
          clear HND
          go_wp2_with fail
          refine (HEN.out).mono ?_
          rintro e w5 ⟨rfl, ov5, cv5, h5, b5⟩
          rw [← HE.out] at h5
          have H5 := Lib.hid h5
          have B5 := Lib.hid (B4.out.trans b5)
          clear h5 b5
          go_wp2_with fail
          go_roundg (mu g (S.next g))
          case measure => have h1 := HNX.out; have h2 := HMU.out; omega
          case rel => exact ⟨S.next g, ov5, cv5, HJN, H5, B5, Lib.hid (Nat.le_refl _)⟩
        · have hf' : ¬ (fT : Int) = 0 := by omega
          by_cases hp : pT < 0
          · obtain ⟨mm, hmm⟩ : ∃ mm, min lu fT = mm := ⟨_, rfl⟩
            have HE := Lib.hid (show S.next g = ⟨S.low.set u mm, S.found, S.opn, S.part, (u, I1) :: cs, S.time⟩ by rw [HND.out, if_neg hf, if_pos hp, hmm])
            clear HND
            rcases Nat.lt_trichotomy lu fT with hle | hle | hle
            · have hx : mm = lu := by omega
              subst hx
              have c1 : (mm : Int) < (fT : Int) := by omega
              have c2 : (mm : Int) ≤ (fT : Int) := by omega
              have c3 : ¬ (fT : Int) < (mm : Int) := by omega
              have c4 : ¬ (fT : Int) ≤ (mm : Int) := by omega
              have c5 : min (mm : Int) (fT : Int) = (mm : Int) := by omega
              clear hmm hle
              have HPP := Lib.hid (H4.out.putL u mm)
              have HPB := Lib.hid (B4.out.trans ((Keeps.of_setCell w4 ⟨gl, u, none⟩ (.int .i64 (mm : Int))).below (Nat.le_trans H4.out.core.bp (Nat.le_of_lt H4.out.core.lt)) (fun b hb => by rw [show b = gl from hb]; exact H4.out.core.ltl.1)))
              go_wp2_with fail
              go_region
              have hdr := (Below.refl (w4.setCell ⟨gl, u, none⟩ (.int .i64 (mm : Int))).heap.size (w4.setCell ⟨gl, u, none⟩ (.int .i64 (mm : Int)))).drew
              try go_wp2_with fail
              go_roundg (mu g (S.next g))
              case measure => have h1 := HNX.out; have h2 := HMU.out; omega
              case rel => exact ⟨S.next g, _, _, HJN, Lib.hid (by rw [HE.out]; exact HPP.out.below hdr), Lib.hid HPB.out.drew, Lib.hid (Nat.le_refl _)⟩
            · have hx : mm = lu := by omega
              subst hx
              subst hle
              have c5 : min (mm : Int) (mm : Int) = (mm : Int) := by omega
              clear hmm
              have HPP := Lib.hid (H4.out.putL u mm)
              have HPB := Lib.hid (B4.out.trans ((Keeps.of_setCell w4 ⟨gl, u, none⟩ (.int .i64 (mm : Int))).below (Nat.le_trans H4.out.core.bp (Nat.le_of_lt H4.out.core.lt)) (fun b hb => by rw [show b = gl from hb]; exact H4.out.core.ltl.1)))
              go_wp2_with fail
              go_region
              have hdr := (Below.refl (w4.setCell ⟨gl, u, none⟩ (.int .i64 (mm : Int))).heap.size (w4.setCell ⟨gl, u, none⟩ (.int .i64 (mm : Int)))).drew
              try go_wp2_with fail
              go_roundg (mu g (S.next g))
              case measure => have h1 := HNX.out; have h2 := HMU.out; omega
              case rel => exact ⟨S.next g, _, _, HJN, Lib.hid (by rw [HE.out]; exact HPP.out.below hdr), Lib.hid HPB.out.drew, Lib.hid (Nat.le_refl _)⟩
            · have hx : mm = fT := by omega
              subst hx
              have c1 : (mm : Int) < (lu : Int) := by omega
              have c2 : (mm : Int) ≤ (lu : Int) := by omega
              have c3 : ¬ (lu : Int) < (mm : Int) := by omega
              have c4 : ¬ (lu : Int) ≤ (mm : Int) := by omega
              have c5 : min (lu : Int) (mm : Int) = (mm : Int) := by omega
              clear hmm hle
              have HPP := Lib.hid (H4.out.putL u mm)
              have HPB := Lib.hid (B4.out.trans ((Keeps.of_setCell w4 ⟨gl, u, none⟩ (.int .i64 (mm : Int))).below (Nat.le_trans H4.out.core.bp (Nat.le_of_lt H4.out.core.lt)) (fun b hb => by rw [show b = gl from hb]; exact H4.out.core.ltl.1)))
              go_wp2_with fail
              go_region
              have hdr := (Below.refl (w4.setCell ⟨gl, u, none⟩ (.int .i64 (mm : Int))).heap.size (w4.setCell ⟨gl, u, none⟩ (.int .i64 (mm : Int)))).drew
              try go_wp2_with fail
              go_roundg (mu g (S.next g))
              case measure => have h1 := HNX.out; have h2 := HMU.out; omega
              case rel => exact ⟨S.next g, _, _, HJN, Lib.hid (by rw [HE.out]; exact HPP.out.below hdr), Lib.hid HPB.out.drew, Lib.hid (Nat.le_refl _)⟩
          · have HE := Lib.hid (show S.next g = ⟨S.low, S.found, S.opn, S.part, (u, I1) :: cs, S.time⟩ by rw [HND.out, if_neg hf, if_neg hp])
            clear HND
            go_wp2_with fail
            go_roundg (mu g (S.next g))
            case measure => have h1 := HNX.out; have h2 := HMU.out; omega
            case rel => exact ⟨S.next g, _, _, HJN, Lib.hid (by rw [HE.out]; exact H4.out), B4, Lib.hid (Nat.le_refl _)⟩
end Go.Proofs.YtedmmmlahpmmoaaGreatDoor
