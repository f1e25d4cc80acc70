/- A graph is looked over: graph.Check of a graph that is one. Condition: the graph reads from memory. All that is reached from marked vertices: graph.reach. Condition: the graph and the marks read from memory. What the search for twins begins with: twins.nodes, slices.Repeat of one number. Condition: the lists read from memory. -/
import Derived.IntWalk
import Derived.Laws.CopyOwn
import Derived.Shelf.Bits.Mul64
import Derived.Deep.RegionLaw
import Derived.Test.YtedmmmlahpmmoaaGreatDoorV6
import Derived.Test.YtedmmmlahpmmoaaGreatDoorV7
import Derived.Test.YtedmmmlahpmmoaaGreatDoorV8
import Derived.Test.YtedmmmlahpmmoaaGreatDoorV9
import Derived.Test.YtedmmmlahpmmoaaGreatDoorV12
namespace Go.Proofs.YtedmmmlahpmmoaaGreatDoor
open Go.RowKit RuleP TarjP

/-- No element that the closure takes. -/
theorem contains_none (w : World) (F : FuncId) (b : Addr) (p : Int → Bool) (B : Option Addr) (m d : Nat) (xs : List Int) (hW : Sl w B m (xs.map (Value.int .i64))) (hm2 : m ≤ 9223372036854775807)
    (he : ∀ (x : Int) (wz : World), (callFunc F #[.int .i64 x, .pointer (some b)]).run Tryz.prog wz = .ok (.enter F #[.int .i64 x, .pointer (some b)]) wz)
    (hf : ∀ (x : Int), Calls Tryz.prog F #[.int .i64 x, .pointer (some b)] w fun e w' => e = .returned (.bool (p x)) ∧ w = w') (hall : ∀ x ∈ xs, p x = false) :
    Calls Tryz.prog 67 #[.slice B m d, .func (.func F) #[] #[.pointer (some b)]] w fun e w' => e = .returned (.bool false) ∧ w = w' := by
  have hi := indexFunc_c w F b p B m d xs hW hm2 he hf
  have hno : xs.findIdx? p = none := by
    rw [List.findIdx?_eq_none_iff]
    intro x hx
    exact hall x hx
  rw [hno] at hi
  have HI := Lib.hid hi
  clear hi hno hW he hf hall
  go_enter Tryz.func67, Tryz.ntmps67
  go_wp2_with fail
  refine (HI.out).mono ?_
  rintro e w2 ⟨rfl, rfl⟩
  have hpl : place none = -1 := rfl
  rw [hpl]
  clear hpl
  go_wp2_with fail
  go_ret
  exact ⟨rfl, rfl⟩
theorem checkF_c (w : World) (x : Int) (b : Nat) (C : Option Addr) (M c : Nat) (hb : w.cell? ⟨b, 0, none⟩ = some (.slice C M c)) :
    Calls Tryz.prog 90 #[.int .i64 x, .pointer (some ⟨b, 0, none⟩)] w fun e w' => e = .returned (.bool (decide (x < 0 ∨ (M : Int) ≤ x))) ∧ w = w' := by
  by_cases h0 : x < 0
  · have hd := Lib.hid (show decide (x < 0 ∨ (M : Int) ≤ x) = true from decide_eq_true (.inl h0))
    go_enter Tryz.func90, Tryz.ntmps90
    go_wp2_with fail
    go_ret
    exact ⟨by first | rfl | (rw [hd.out]; rfl) | (have h2 := hd.out; simp only [Bool.decide_or] at h2; rw [h2]; rfl), rfl⟩
  · by_cases h1 : (M : Int) ≤ x
    · have hd := Lib.hid (show decide (x < 0 ∨ (M : Int) ≤ x) = true from decide_eq_true (.inr h1))
      go_enter Tryz.func90, Tryz.ntmps90
      go_wp2_with fail
      go_ret
      exact ⟨by first | rfl | (rw [hd.out]; rfl) | (have h2 := hd.out; simp only [Bool.decide_or] at h2; rw [h2]; rfl), rfl⟩
    · have hd := Lib.hid (show decide (x < 0 ∨ (M : Int) ≤ x) = false from decide_eq_false (fun h => h.elim h0 h1))
      go_enter Tryz.func90, Tryz.ntmps90
      go_wp2_with fail
      go_ret
      exact ⟨by first | rfl | (rw [hd.out]; rfl) | (have h2 := hd.out; simp only [Bool.decide_or] at h2; rw [h2]; rfl), rfl⟩
/-- The arrows of the first vertices. -/
def arrTo (g : List (List Nat)) (i : Nat) : Nat := ((g.take i).map List.length).sum
theorem arrTo_succ (g : List (List Nat)) {i : Nat} (hi : i < g.length) : arrTo g (i + 1) = arrTo g i + (g.getD i []).length := by
  unfold arrTo
  rw [List.take_add_one, List.map_append, List.sum_append, List.getElem?_eq_getElem hi, List.getD_eq_getElem?_getD, List.getElem?_eq_getElem hi]
  simp
theorem arrTo_le (g : List (List Nat)) (i : Nat) : arrTo g i ≤ (g.map List.length).sum := by
  unfold arrTo
  conv => rhs; rw [← List.take_append_drop i g, List.map_append, List.sum_append]
  omega

set_option maxRecDepth 100000 in
set_option maxHeartbeats 2000000 in
theorem grCheck_c (w : World) (C : Option Addr) (M c : Nat) (g : List (List Nat)) (hg : Graph g) (hM : g.length = M) (hG : ListAt w C M (g.map ints)) (h8 : M ≤ 8192) (har : (g.map List.length).sum ≤ 262144) :
    Calls Tryz.prog 69 #[.slice C M c] w fun e w' => e = .returned .nilIface ∧ Below w.heap.size w w' := by
  have hb0 := (Below.refl w.heap.size w).alloc (Nat.le_refl _) (.cells #[.slice C M c] 49)
  have hc0 : (w.alloc (.cells #[.slice C M c] 49)).cell? ⟨w.heap.size, 0, none⟩ = some (.slice C M c) := by simp
  obtain ⟨w1, hw1⟩ : ∃ w1, w.alloc (.cells #[.slice C M c] 49) = w1 := ⟨_, rfl⟩
  rw [hw1] at hb0 hc0
  have hlt : ¬ (8192 : Int) < (M : Int) := by omega
  have HG := Lib.hid (hG.keep hb0)
  have HGR := Lib.hid (And.intro hg hM)
  have HAR := Lib.hid (fun i => Nat.le_trans (arrTo_le g i) har)
  have HB := Lib.hid hb0
  have HW := Lib.hid hw1
  clear hG hg hM har hb0 hw1
  go_enter Tryz.func69, Tryz.ntmps69
  go_wp2_with fail
  rw [HW.out]
  go_wp2_with fail
  go_loopw [3, 4, 13] (fun av ov iv wl => ∃ i : Nat, i ≤ M ∧ iv = .int .i64 (i : Int) ∧ av = .int .i64 ((arrTo g i : Nat) : Int) ∧ ov = .int .i64 (-1) ∧ wl = w1) (fun _ _ iv _ => M - (intOf iv).toNat)
  case atStart => exact ⟨0, Nat.zero_le _, rfl, rfl, rfl, rfl⟩
  case round =>
    obtain ⟨i, hi, rfl, rfl, rfl, hwr⟩ := hrel
    subst hwr
    by_cases hlt2 : i < M
    · have hlt2' : (i : Int) < (M : Int) := by omega
      obtain ⟨ad, P, L, cr, rfl, hcr, hL, hsr⟩ := graph_row HG.out hlt2
      have hs := arrTo_succ g (i := i) (by rw [HGR.out.2]; exact hlt2)
      rw [hL] at hs
      have hb1 := HAR.out (i + 1)
      obtain ⟨a0, ha0⟩ : ∃ a0, arrTo g i = a0 := ⟨_, rfl⟩
      obtain ⟨a1, ha1⟩ : ∃ a1, arrTo g (i + 1) = a1 := ⟨_, rfl⟩
      rw [ha0, ha1] at hs
      rw [ha1] at hb1
      rw [ha0]
      have e1 : IntKind.i64.wrap ((a0 : Int) + (L : Int)) = (a1 : Int) := by rw [show (a0 : Int) + (L : Int) = (a1 : Int) by omega]; exact IntWalk.i64_in _ (by omega)
      have hb2 : ¬ (262144 : Int) < (a1 : Int) := by omega
      have HCT := Lib.hid (contains_none wr 90 ⟨w.heap.size, 0, none⟩ (fun x => decide (x < 0 ∨ (M : Int) ≤ x)) P L cr _ hsr (by omega) (fun x wz => run_enter Tryz.func90 (by kernel_rfl) (by kernel_rfl) _ _) (fun x => checkF_c wr x w.heap.size (some ad) M c hc0) (fun x hx => by
        unfold ints at hx
        obtain ⟨y, hy, rfl⟩ := List.mem_map.1 hx
        have h1 := HGR.out.1 i y hy
        rw [HGR.out.2] at h1
        exact decide_eq_false (by omega)))
      have HA1 := Lib.hid ha1
      clear hs hb1 hL hsr ha0 ha1
      go_wp2_with fail
      refine (HCT.out).mono ?_
      rintro e w2 ⟨rfl, rfl⟩
      go_wp2_with fail
      exact ⟨⟨i + 1, by omega, by go_num, by rw [HA1.out], by trivial⟩, by simp [intOf]; omega⟩
    · obtain rfl : i = M := by omega
      have hlt2' : ¬ (i : Int) < (i : Int) := by omega
      go_wp2_with fail
      go_ret
      exact ⟨rfl, HB.out⟩
end Go.Proofs.YtedmmmlahpmmoaaGreatDoor

namespace Go.Proofs.YtedmmmlahpmmoaaGreatDoor
open Go.RowKit RuleP TarjP

theorem tBoolJ : ElemT Tryz.prog 100 4 (.bool false) 1 := ⟨by kernel_rfl, by kernel_rfl, rfl⟩
set_option maxRecDepth 100000 in
/-- slices.Clone of marks. -/
theorem cloneB_c (w : World) (ad : Addr) (m c : Nat) (xs : List Value) (h1 : ∀ u ∈ xs, u.oneCell' = true) (hm : m ≤ 100000) (h : Sl w (some ad) m xs) :
    Calls Tryz.prog 89 #[.slice (some ad) m c] w fun e w' => ∃ C cc, e = .returned (.slice C m cc) ∧ w'.ownsRow w.heap.size 4 1 (.slice C m cc) m xs ∧ Below w.heap.size w w' := by
  have hl : xs.length = m := h.1
  have HL := Lib.hid hl
  have H1 := Lib.hid h1
  clear hl h1
  have he := Lib.run_eql_slice_nil (P := Tryz.prog) w 100 4 (some ad) m c 0 0 tBoolJ.und
  have hown0 := World.ownsRow_lit (base := w.heap.size) (e := 4) (size := 1) w #[] 0 (Nat.le_refl _) (Nat.zero_le _) rfl
  have hs := h.alloc (.cells #[] 4)
  go_enter Tryz.func89, Tryz.ntmps89
  go_wp2_with (at_builtin; refine wpList_cat rfl _ _ _ rfl tBoolJ hown0 rfl hs rfl H1.out (by simp only [maxLen]; omega) (by omega) (by simp) ?_; intro v' w3 hown3 hg3 hat3 _)
  rw [Nat.zero_add] at hown3
  obtain ⟨C, cc, rfl, _, _⟩ := own_slice hown3
  go_ret
  refine ⟨C, cc, rfl, by simpa using hown3, ((Below.refl _ _).alloc (Nat.le_refl _) _).grown hg3 (by simp) (fun k hk => by simp [Value.ownBlock] at hk; omega)⟩
/-- The last of a row of numbers, and the row without it. -/
theorem row_top {w : World} {B x : Nat} {l : List Nat} {v : Value} (h : w.ownsRow B 3 1 v (x :: l).length ((ints (x :: l).reverse).map (Value.int .i64))) : ∃ g c, v = .slice (some ⟨g, 0, none⟩) (l.length + 1) c ∧ l.length + 1 ≤ c ∧ c ≤ maxLen ∧ w.cell? ⟨g, l.length, none⟩ = some (.int .i64 (x : Int)) ∧
    w.ownsRow B 3 1 (.slice (some ⟨g, 0, none⟩) l.length c) l.length ((ints l.reverse).map (Value.int .i64)) := by
  obtain ⟨A, c, hv, hc1, hc2⟩ := ownN_slice h
  subst hv
  rw [List.reverse_cons] at h
  obtain ⟨g, hA, hc⟩ := ownN_cell h (j := l.length) (u := .int .i64 (x : Int)) (by rw [ints_map, List.map_append, List.getElem?_append_right (by simp), List.length_map, List.length_reverse, Nat.sub_self]; rfl)
  subst hA
  have h2 := own_take h (m := l.length) (by simp)
  have e : ((ints (l.reverse ++ [x])).map (Value.int .i64)).take l.length = (ints l.reverse).map (Value.int .i64) := by
    rw [ints_map, ints_map, List.map_append, List.take_append_of_le_length (by simp), List.take_of_length_le (by simp)]
  rw [e] at h2
  exact ⟨g, c, rfl, hc1, hc2, hc, h2⟩
theorem push_ints (l : List Nat) (x : Nat) : (ints l.reverse).map (Value.int .i64) ++ [.int .i64 (x : Int)] = (ints (x :: l).reverse).map (Value.int .i64) := by simp [ints]
theorem marks_len (m : List Bool) : ∀ j, (marksTo m j).length ≤ j
  | 0 => Nat.le_refl _
  | j + 1 => by
    have := marks_len m j
    rw [marksTo]
    split
    · rw [List.length_cons]; omega
    · omega
theorem fold_next (g : List (List Nat)) (v : Nat) (s : RS) {j t : Nat} (h : (g.getD v [])[j]? = some t) : ((g.getD v []).take (j + 1)).foldl RS.visit s = (((g.getD v []).take j).foldl RS.visit s).visit t := by
  rw [List.take_add_one, h]
  simp

set_option maxRecDepth 100000 in
set_option maxHeartbeats 4000000 in
theorem reach_c (w : World) (C A : Option Addr) (M c : Nat) (g : List (List Nat)) (m : List Bool) (hg : Graph g) (hM : g.length = M) (hM0 : 0 < M) (hm : m.length = M) (hA : Sl w A M (m.map Value.bool)) (hG : ListAt w C M (g.map ints)) (h8 : M ≤ 8192) (hlen : ∀ u, (g.getD u []).length ≤ 1000000) :
    Calls Tryz.prog 63 #[.slice C M M, .slice A M c] w fun e w' => ∃ go oc, e = .returned (.slice (some ⟨go, 0, none⟩) M oc) ∧ w'.ownsRow w.heap.size 4 1 (.slice (some ⟨go, 0, none⟩) M oc) M ((reachP g m).map Value.bool) ∧ Below w.heap.size w w' := by
  obtain ⟨ad, _, rfl, _⟩ := hA.at_ hM0
  have HCL := Lib.hid (cloneB_c w ad M c _ (by intro v hv; obtain ⟨z, _, rfl⟩ := List.mem_map.1 hv; rfl) (by omega) hA)
  have HG := Lib.hid (fun (wz : World) (hz : Below w.heap.size w wz) => hG.keep hz)
  have HGR := Lib.hid (And.intro hg hM)
  have HM := Lib.hid hm
  have HLEN := Lib.hid hlen
  clear hG hg hM hA hm hlen
  go_enter Tryz.func63, Tryz.ntmps63
  go_wp2_with fail
  refine (HCL.out).mono ?_
  rintro e w1 ⟨O, oc, rfl, ho1, b1⟩
  obtain ⟨go, hO⟩ : ∃ go, O = some ⟨go, 0, none⟩ := by
    rcases ho1.2 with ⟨_, h0⟩ | ⟨g', cap, cur, hv, _⟩
    · omega
    · injection hv with hv _ _
      exact ⟨g', hv⟩
  subst hO
  have HO1 := Lib.hid ho1
  have B1 := Lib.hid b1
  clear ho1 b1 HCL
  go_wp2_with fail
  go_loopw [6, 16] (fun qv iv wl => ∃ i : Nat, i ≤ M ∧ iv = .int .i64 (i : Int) ∧ Hid (wl.ownsRow w.heap.size 3 1 qv (marksTo m i).length ((ints (marksTo m i).reverse).map (Value.int .i64))) ∧ Hid (wl.ownsRow w.heap.size 4 1 (.slice (some ⟨go, 0, none⟩) M oc) M (m.map Value.bool)) ∧ Hid (Below w.heap.size w wl)) (fun _ iv _ => M - (intOf iv).toNat)
  case atStart => exact ⟨0, Nat.zero_le _, rfl, Lib.hid (World.ownsRow_nil _ _ _ _), HO1, B1⟩
  case round =>
    clear HO1 B1
    obtain ⟨i, hi, rfl, HQ, HO, BB⟩ := hrel
    by_cases hlt : i < M
    · have hlt' : (i : Int) < (M : Int) := by omega
      have hi0 : (0 : Int) ≤ (i : Int) := by omega
      obtain ⟨b, hb⟩ : ∃ b, m[i]? = some b := ⟨_, List.getElem?_eq_getElem (by rw [HM.out]; exact hlt)⟩
      have cb : wr.cell? ⟨go, i, none⟩ = some (.bool b) := by rw [HO.out.cellAt i (by omega), List.getElem?_map, hb]; rfl
      have hbd : m.getD i false = b := by rw [List.getD_eq_getElem?_getD, hb]; rfl
      cases b
      · have HMK := Lib.hid (show marksTo m (i + 1) = marksTo m i by rw [marksTo, hbd]; rfl)
        clear hb hbd
        go_wp2_with fail
        exact ⟨⟨i + 1, by omega, by go_num, Lib.hid (by rw [HMK.out]; exact HQ.out), HO, BB⟩, by simp [intOf]; omega⟩
      · have HMK := Lib.hid (show marksTo m (i + 1) = i :: marksTo m i by rw [marksTo, hbd]; rfl)
        have hql : (marksTo m i).length ≤ M := Nat.le_trans (marks_len m i) hi
        have hBw := BB.out.size
        clear hb hbd
        go_wp2_with (at_builtin
                     refine wpList_push_q rfl _ _ _ rfl tInts (HQ.out.alloc _) rfl ⟨wr.heap.size, 0, none⟩ 1 rfl (.int .i64 (i : Int)) (by simp) rfl (by simp only [maxLen]; omega) (by omega) (by rw [World.size_alloc]; omega) ?_
                     intro g3 cap3 w3 hown3 hor3 hlt3
                     obtain ⟨hk3, hg3⟩ := pushS (w := wr) ((Below.refl _ _).alloc (Nat.le_refl _) _) hor3
                     clear hor3)
        rw [push_ints] at hown3
        have HQ2 : Hid (w3.ownsRow w.heap.size 3 1 (.slice (some ⟨g3, 0, none⟩) ((marksTo m i).length + 1) cap3) (marksTo m (i + 1)).length ((ints (marksTo m (i + 1)).reverse).map (Value.int .i64))) := Lib.hid (by rw [HMK.out]; exact hown3)
        have HO2 := Lib.hid (own_keeps HO.out hk3 (fun b' hb' hO' => own_ne_own HO.out HQ.out (by decide) hb' hO'))
        have B2 := Lib.hid (BB.out.trans (hk3.below BB.out.size (fun b' hb' => (HQ.out.lt b' hb').1)))
        exact ⟨⟨i + 1, by omega, by go_num, HQ2, HO2, B2⟩, by simp [intOf]; omega⟩
    · have hlt' : ¬ (i : Int) < (M : Int) := by omega
      obtain rfl : M = i := by omega
      have hinv := reach_start (g := g) (m := m) (by rw [HM.out, HGR.out.2])
      have HI0 := Lib.hid hinv
      obtain ⟨s0, hs0⟩ : ∃ s0 : RS, s0 = ⟨m, marksTo m g.length⟩ := ⟨_, rfl⟩
      have HS0 := Lib.hid hs0
      have HRP := Lib.hid (show reachP g m = (rRun g s0).out by rw [hs0]; rfl)
      rw [← hs0] at HI0
      have HQ2 := Lib.hid (show wr.ownsRow w.heap.size 3 1 _ s0.q.length ((ints s0.q.reverse).map (Value.int .i64)) by rw [hs0, HGR.out.2]; exact HQ.out)
      have HO2 := Lib.hid (show wr.ownsRow w.heap.size 4 1 (.slice (some ⟨go, 0, none⟩) M oc) M (s0.out.map Value.bool) by rw [hs0]; exact HO.out)
      have HMU0 := Lib.hid (show rmu s0 ≤ 30000 by
        rw [hs0]
        unfold rmu
        have h1 := marks_len m g.length
        have h2 : m.count false ≤ m.length := List.count_le_length
        have h3 := HM.out
        have h4 := HGR.out.2
        dsimp only
        omega)
      clear hinv hs0 HQ HO
      go_wp2_with fail
      go_loopg [6] (rmu s0) (fun k qv wl => ∃ s : RS, Hid (∃ j, rIt g j s0 = s) ∧ Hid (wl.ownsRow w.heap.size 3 1 qv s.q.length ((ints s.q.reverse).map (Value.int .i64))) ∧ Hid (wl.ownsRow w.heap.size 4 1 (.slice (some ⟨go, 0, none⟩) M oc) M (s.out.map Value.bool)) ∧ Hid (Below w.heap.size w wl) ∧ Hid (rmu s ≤ k) ∧ Hid (rmu s ≤ 30000))
      case atStart => exact ⟨s0, Lib.hid ⟨0, rfl⟩, HQ2, HO2, BB, Lib.hid (Nat.le_refl _), HMU0⟩
      case round =>
        clear HQ2 HO2 BB HMU0
        obtain ⟨s, HJ, HQ, HO, BB, HMU, HM3⟩ := hrel
        have hinv : RInv g m s := by
          obtain ⟨j, hj⟩ := HJ.out
          rw [← hj]
          exact rIt_inv HGR.out.1 HI0.out j
        have HINV := Lib.hid hinv
        cases hq : s.q with
        | nil =>
          have h1 := HQ.out
          rw [hq] at h1
          obtain ⟨A', c', hv, _, _⟩ := ownN_slice h1
          subst hv
          have HE := Lib.hid (show (rRun g s0).out = s.out by
            obtain ⟨j, hj⟩ := HJ.out
            rw [rRun_eq HGR.out.1 HI0.out j (by rw [hj]; exact hq), hj])
          clear h1 hinv hq
          rw [show ([] : List Nat).length = 0 from rfl]
          go_wp2_with fail
          go_ret
          exact ⟨go, oc, rfl, by rw [HRP.out, HE.out]; exact HO.out, BB.out⟩
        | cons v q =>
          have h1 := HQ.out
          rw [hq] at h1
          obtain ⟨gq, cq, hv, hc1, hc2, hct, hpop⟩ := row_top h1
          subst hv
          obtain ⟨v0, rfl⟩ : ∃ v0, v0 = wr := ⟨_, rfl⟩
          have hvM : v < M := by have := hinv.qs v (by rw [hq]; exact List.mem_cons_self); rw [HGR.out.2] at this; exact this
          obtain ⟨adg, P, L, cr, rfl, hcr0, hL, hsr0⟩ := graph_row (HG.out w (Below.refl _ _)) hvM
          have hcr := cell_later BB.out hcr0
          have HSR0 := Lib.hid hsr0
          clear hcr0 hsr0
          have hLb := HLEN.out v
          rw [hL] at hLb
          have HNX := Lib.hid (show s.next g = (g.getD v []).foldl RS.visit ⟨s.out, q⟩ by unfold RS.next; rw [hq])
          have HLT := Lib.hid (rmu_next HGR.out.1 hinv (by rw [hq]; simp))
          have HJN := Lib.hid (show ∃ j, rIt g j s0 = s.next g by
            obtain ⟨j, hj⟩ := HJ.out
            exact ⟨j + 1, by rw [← hj]; rfl⟩)
          have hmu2 : rmu ⟨s.out, q⟩ ≤ 30000 := by
            have h2 := HM3.out
            unfold rmu at h2 ⊢
            rw [hq] at h2
            simp only [List.length_cons] at h2
            dsimp only
            omega
          have HMU2 := Lib.hid hmu2
          obtain ⟨K, hK⟩ : ∃ K, q.length = K := ⟨_, rfl⟩
          have HPOP := Lib.hid hpop
          have HOL := Lib.hid (show s.out.length = M by have := hinv.len; rw [HGR.out.2] at this; exact this)
          rw [hK] at hct hc1
          have hK3 : K ≤ 30000 := by
            unfold rmu at hmu2
            dsimp only at hmu2
            omega
          have HL := Lib.hid hL
          have e1 : IntKind.i64.wrap (((K + 1 : Nat) : Int) - 1) = (K : Int) := by rw [show ((K + 1 : Nat) : Int) - 1 = (K : Int) by omega]; exact IntWalk.i64_in _ (by omega)
          have e2 : IntKind.i64.wrap (K : Int) = (K : Int) := IntWalk.i64_in _ (by omega)
          have k0 : (0 : Int) ≤ (K : Int) := by omega
          have k1 : (K : Int) ≤ (cq : Int) := by omega
          have k2 : (K : Int) < ((K + 1 : Nat) : Int) := by omega
          have k3 : (K : Int) < (K : Int) + 1 := by omega
          have k4 : (0 : Int) < ((K + 1 : Nat) : Int) := by omega
          have k5 : (0 : Int) < (K : Int) + 1 := by omega
          have k6 : (v : Int) < (M : Int) := by omega
          have k7 : (0 : Int) ≤ (v : Int) := by omega
          have HKQ := Lib.hid hK
          rw [hK]
          clear h1 hpop hinv hq hL hmu2 hK
          go_wp2_with fail
          clear hcr hct
          go_loopw [6, 46] (fun qv jv wl => ∃ j : Nat, j ≤ L ∧ jv = .int .i64 (j : Int) ∧ Hid (wl.ownsRow w.heap.size 3 1 qv (((g.getD v []).take j).foldl RS.visit ⟨s.out, q⟩).q.length ((ints (((g.getD v []).take j).foldl RS.visit ⟨s.out, q⟩).q.reverse).map (Value.int .i64))) ∧ Hid (wl.ownsRow w.heap.size 4 1 (.slice (some ⟨go, 0, none⟩) M oc) M ((((g.getD v []).take j).foldl RS.visit ⟨s.out, q⟩).out.map Value.bool)) ∧ Hid (Below w.heap.size v0 wl)) (fun _ jv _ => L - (intOf jv).toNat)
          case atStart => exact ⟨0, Nat.zero_le _, rfl, Lib.hid (by have h := HPOP.out; rw [HKQ.out] at h; show World.ownsRow _ _ _ _ _ q.length ((ints q.reverse).map (Value.int .i64)); rw [HKQ.out]; exact h), HO, Lib.hid (Below.refl _ _)⟩
          case round =>
            clear HPOP HO HQ
            obtain ⟨j, hj, rfl, HQ, HO, BW⟩ := hrel
            have hvo := visit_ok (n := M) ⟨s.out, q⟩ HOL.out ((g.getD v []).take j) (fun x hx => by have := HGR.out.1 v x (List.mem_of_mem_take hx); rw [HGR.out.2] at this; exact this)
            by_cases hlt : j < L
            · have hlt' : (j : Int) < (L : Int) := by omega
              have hj0 : (0 : Int) ≤ (j : Int) := by omega
              have hsr := HSR0.out.below (BB.out.trans BW.out)
              rw [ints_map] at hsr
              obtain ⟨pad, t, rfl, hT, hct⟩ := hsr.word_ hlt
              have htM : t < M := by
                have h1 := HGR.out.1 v t (List.mem_of_getElem? hT)
                rw [HGR.out.2] at h1
                exact h1
              have hvis := fold_next g v ⟨s.out, q⟩ hT
              obtain ⟨S, hS⟩ : ∃ S, ((g.getD v []).take j).foldl RS.visit ⟨s.out, q⟩ = S := ⟨_, rfl⟩
              rw [hS] at HQ HO hvo hvis
              have hSl := hvo.1
              have hSm : rmu S ≤ 30000 := Nat.le_trans hvo.2.2.2.2.2.2 HMU2.out
              have hSq : S.q.length ≤ 30000 := Nat.le_trans (Nat.le_add_right _ _) hSm
              have k8 : (t : Int) < (M : Int) := by omega
              have k9 : (0 : Int) ≤ (t : Int) := by omega
              obtain ⟨b, hb⟩ : ∃ b, S.out[t]? = some b := ⟨_, List.getElem?_eq_getElem (by omega)⟩
              have cb : wr.cell? ⟨go, t, none⟩ = some (.bool b) := by rw [HO.out.cellAt t (by omega), List.getElem?_map, hb]; rfl
              have fb := HO.out.frozenAt t
              have hbd : S.out.getD t false = b := by rw [List.getD_eq_getElem?_getD, hb]; rfl
              have HBB := Lib.hid (BB.out.trans BW.out)
              cases b
              · have HV := Lib.hid (show ((g.getD v []).take (j + 1)).foldl RS.visit ⟨s.out, q⟩ = ⟨S.out.set t true, t :: S.q⟩ by rw [hvis, RS.visit, hbd]; rfl)
                have ho2 := (HO.out.stored t (.bool true)).1
                have e3 : (S.out.map Value.bool).set t (.bool true) = (S.out.set t true).map Value.bool := by rw [List.map_set]
                rw [e3] at ho2
                have hks := Keeps.of_setCell wr ⟨go, t, none⟩ (.bool true)
                have hq2 := own_keeps HQ.out hks (fun b' hb' hO' => own_ne_own HQ.out HO.out (by decide) hb' (by rw [show b' = go from hO']; rfl))
                have bw2 := BW.out.trans (hks.below (Nat.le_trans BB.out.size BW.out.size) (fun b' hb' => by rw [show b' = go from hb']; exact (HO.out.lt go rfl).1))
                obtain ⟨w5, hw5⟩ : ∃ w5, wr.setCell ⟨go, t, none⟩ (.bool true) = w5 := ⟨_, rfl⟩
                rw [hw5] at ho2 hq2 bw2
                have HW5 := Lib.hid hw5
                have hBw : w.heap.size ≤ w5.heap.size := Nat.le_trans BB.out.size bw2.size
                have HO5 := Lib.hid ho2
                have HQ5 := Lib.hid hq2
                have BW5 := Lib.hid bw2
                clear hvis hS hSl hSm hb hbd hT hvo hsr ho2 e3 hks hq2 bw2 hw5
                go_upto_region 17 with fail
                rw [HW5.out]
                go_wp2_with (at_builtin
                             refine wpList_push_q rfl _ _ _ rfl tInts (HQ5.out.alloc _) rfl ⟨w5.heap.size, 0, none⟩ 1 rfl (.int .i64 (t : Int)) (by simp) rfl (by simp only [maxLen]; omega) (by omega) (by rw [World.size_alloc]; omega) ?_
                             intro g3 cap3 w3 hown3 hor3 hlt3
                             obtain ⟨hk3, hg3⟩ := pushS (w := w5) ((Below.refl _ _).alloc (Nat.le_refl _) _) hor3
                             clear hor3)
                rw [push_ints] at hown3
                have HO6 := Lib.hid (own_keeps HO5.out hk3 (fun b' hb' hO' => own_ne_own HO5.out HQ5.out (by decide) hb' hO'))
                have B6 := Lib.hid (BW5.out.trans (hk3.below hBw (fun b' hb' => (HQ5.out.lt b' hb').1)))
                have HQ6 : Hid (w3.ownsRow w.heap.size 3 1 (.slice (some ⟨g3, 0, none⟩) (S.q.length + 1) cap3) (((g.getD v []).take (j + 1)).foldl RS.visit ⟨s.out, q⟩).q.length ((ints (((g.getD v []).take (j + 1)).foldl RS.visit ⟨s.out, q⟩).q.reverse).map (Value.int .i64))) := Lib.hid (by rw [HV.out]; exact hown3)
                clear hown3
                exact ⟨⟨j + 1, by omega, by go_num, HQ6, Lib.hid (by rw [HV.out]; exact HO6.out), B6⟩, by simp [intOf]; omega⟩
              · have HV := Lib.hid (show ((g.getD v []).take (j + 1)).foldl RS.visit ⟨s.out, q⟩ = S by rw [hvis, RS.visit, hbd]; rfl)
                clear hvis hS hSl hSm hb hbd hT hvo hsr
                go_wp2_with fail
                exact ⟨⟨j + 1, by omega, by go_num, Lib.hid (by rw [HV.out]; exact HQ.out), Lib.hid (by rw [HV.out]; exact HO.out), BW⟩, by simp [intOf]; omega⟩
            · have hlt' : ¬ (j : Int) < (L : Int) := by omega
              have hjL : (g.getD v []).take j = g.getD v [] := List.take_of_length_le (by have := HL.out; omega)
              have HE := Lib.hid (show ((g.getD v []).take j).foldl RS.visit ⟨s.out, q⟩ = s.next g by rw [hjL, HNX.out])
              clear hjL hvo
              go_wp2_with fail
              go_roundg (rmu (s.next g))
              case measure => have h1 := HLT.out; have h2 := HMU.out; omega
              case rel => exact ⟨s.next g, HJN, Lib.hid (by rw [← HE.out]; exact HQ.out), Lib.hid (by rw [← HE.out]; exact HO.out), Lib.hid (BB.out.trans BW.out), Lib.hid (Nat.le_refl _), Lib.hid (by have h1 := HLT.out; have h2 := HM3.out; omega)⟩
end Go.Proofs.YtedmmmlahpmmoaaGreatDoor

namespace Go.Proofs.YtedmmmlahpmmoaaGreatDoor
open Go.RowKit RuleP MeetP

def mulL_ren : Go.Shelf.Ren := ⟨fun | 212 => 103 | 263 => 109 | 264 => 110 | n => n, fun | 46 => 114 | 51 => 132 | 146 => 164 | 53 => 134 | 148 => 166 | n => n, fun | n => n⟩
theorem mulL : Go.Proofs.Lays.n212 Tryz.prog mulL_ren := {
  mixed := by kernel_rfl
  f212 := Tryz.func103.trans (congrArg some (by kernel_rfl))
  f263 := Tryz.func109.trans (congrArg some (by kernel_rfl))
  f264 := Tryz.func110.trans (congrArg some (by kernel_rfl))
  t46 := Tryz.underlying114
  a46 := Tryz.isAgg114
  z46 := Tryz.sizeOf114
  v46 := Tryz.zeroValue114
  t51 := Tryz.underlying132
  a51 := Tryz.isAgg132
  z51 := Tryz.sizeOf132
  v51 := Tryz.zeroValue132
  t53 := Tryz.underlying134
  a53 := Tryz.isAgg134
  z53 := Tryz.sizeOf134
  v53 := Tryz.zeroValue134
  t146 := Tryz.underlying164
  a146 := Tryz.isAgg164
  z146 := Tryz.sizeOf164
  v146 := Tryz.zeroValue164
  t148 := Tryz.underlying166
  a148 := Tryz.isAgg166
  z148 := Tryz.sizeOf166
  v148 := Tryz.zeroValue166 }

theorem rep_splice (x : Value) (z : Value) {n m M : Nat} (_ : n + m ≤ M) : splice (List.replicate n x ++ List.replicate (M - n) z) n (List.replicate m x) = List.replicate (n + m) x ++ List.replicate (M - (n + m)) z := by
  unfold splice
  rw [List.take_left' (by simp), List.drop_append, List.drop_eq_nil_of_le (by simp), List.nil_append, List.drop_replicate, List.length_replicate, ← List.append_assoc, List.replicate_append_replicate]
  congr 2
  simp
  omega

set_option maxRecDepth 100000 in
set_option maxHeartbeats 2000000 in
theorem repeat_c (w : World) (A : Option Addr) (c : Nat) (x : Int) (hX : Sl w A 1 [.int .i64 x]) (M : Nat) (hM1 : 1 ≤ M) (hM : M ≤ 100000) :
    Calls Tryz.prog 87 #[.slice A 1 c, .int .i64 (M : Int)] w fun e w' => e = .returned (.slice (some ⟨w.heap.size, 0, none⟩) M M) ∧ w'.ownsRow w.heap.size 3 1 (.slice (some ⟨w.heap.size, 0, none⟩) M M) M (List.replicate M (.int .i64 x)) ∧ Below w.heap.size w w' := by
  have hmul := Any.bits_Mul mulL 1 M (by decide) (by omega) w
  rw [Nat.one_mul, Nat.div_eq_of_lt (show M < 18446744073709551616 by omega), Nat.mod_eq_of_lt (show M < 18446744073709551616 by omega)] at hmul
  have hmul' : Calls Tryz.prog 103 #[.int .u64 1, .int .u64 (M : Int)] w fun e w' => e = .returned (.tuple #[.int .u64 0, .int .u64 (M : Int)]) ∧ w = w' := hmul.mono fun _ _ h => ⟨h.1, h.2.symm⟩
  have HMUL := Lib.hid hmul'
  have hmk := run_make_row' (P := Tryz.prog) 22 3 (.int .i64 0) 8 tInts.und tInts.info rfl .i64 .i64 M (by omega) (by omega)
  have hb1 := (Below.refl w.heap.size w).alloc (Nat.le_refl _) (.cells (madeCells #[.int .i64 0] M) 3)
  have hh1 := heap_new w (.cells (madeCells #[.int .i64 0] M) 3)
  have hh1' : (w.alloc (.cells (madeCells #[.int .i64 0] M) 3)).heap[w.heap.size]? = some (.cells (List.replicate 0 (Value.int .i64 x) ++ List.replicate (M - 0) (Value.int .i64 0)).toArray 3 (0, 0)) := by
    rw [hh1]
    have e : madeCells #[.int .i64 0] M = (List.replicate M (Value.int .i64 0)).toArray := by
      apply Array.toList_inj.1
      rw [toList_madeCells_one]
    rw [e]
    rfl
  have hX1 := hX.below hb1
  have HSRC : Hid (∃ ad, A = some ad ∧ ∀ j v, [Value.int .i64 x][j]? = some v → (w.alloc (.cells (madeCells #[.int .i64 0] M) 3)).cell? (ad.add j) = some v) := Lib.hid (by
    obtain ⟨ad, e, h0⟩ := hX1.2 0 (.int .i64 x) rfl
    refine ⟨ad, e, fun j v hj => ?_⟩
    match j, hj with
    | 0, hj => cases hj; exact h0)
  have hone : ∀ v ∈ [Value.int .i64 x], v.oneCell' = true := fun v hv => by simp at hv; subst hv; rfl
  have hBB := hb1
  have hnn : [Value.int .i64 x].length = Nat.min 1 M := (Nat.min_eq_left hM1).symm
  have hfit : 0 + [Value.int .i64 x].length ≤ (List.replicate 0 (Value.int .i64 x) ++ List.replicate (M - 0) (Value.int .i64 0)).length := by simp; omega
  have e1 : IntKind.u64.wrap (M : Int) = (M : Int) := IntWalk.u64_in _ ⟨by omega, by omega⟩
  have e2 : IntKind.i64.wrap (M : Int) = (M : Int) := IntWalk.i64_in _ (by omega)
  have hM0 : ¬ (M : Int) < 0 := by omega
  have hMg : ¬ (M : Int) > 9223372036854775807 := by omega
  clear hmul hmul' hb1 hh1 hX
  go_enter Tryz.func87, Tryz.ntmps87
  go_wp2_with fail
  refine (HMUL.out).mono ?_
  rintro e w2 ⟨rfl, rfl⟩
  go_wp2_with (refine wpList_copy_splice rfl _ _ _ _ rfl 3 tInts.und (by kernel_rfl) (some ⟨w.heap.size, 0, none⟩) A M M 1 c rfl rfl w.heap.size 0 _ 3 hh1' [.int .i64 x] hnn (fun _ => ⟨rfl, HSRC.out⟩) hfit hone w.heap.size w hBB (Nat.le_refl _) ?_; intro w3 h3 b3)
  have H3 : Hid (w3.heap[w.heap.size]? = some (.cells (List.replicate 1 (Value.int .i64 x) ++ List.replicate (M - 1) (Value.int .i64 0)).toArray 3 (0, 0))) := Lib.hid (by
    have := h3.out
    have e := rep_splice (Value.int .i64 x) (Value.int .i64 0) (n := 0) (m := 1) (M := M) (by omega)
    rw [show [Value.int .i64 x] = List.replicate 1 (Value.int .i64 x) from rfl, e] at this
    exact this)
  have HB3 := Lib.hid b3
  clear h3 b3 hmk hh1' hBB hone hX1 hnn hfit
  go_wp2_with fail
  go_loopw [8] (fun nv wl => ∃ n : Nat, nv = .int .i64 (n : Int) ∧ 1 ≤ n ∧ n ≤ M ∧ Hid (wl.heap[w.heap.size]? = some (.cells (List.replicate n (Value.int .i64 x) ++ List.replicate (M - n) (Value.int .i64 0)).toArray 3 (0, 0))) ∧ Hid (Below w.heap.size w wl)) (fun nv _ => M - (intOf nv).toNat)
  case atStart => exact ⟨1, rfl, Nat.le_refl _, hM1, H3, HB3⟩
  case round =>
    obtain ⟨n, rfl, hn1, hnM, hH, hB⟩ := hrel
    clear H3 HB3
    by_cases hlt : n < M
    · have hlt' : (n : Int) < (M : Int) := by omega
      have hn0 : (0 : Int) ≤ (n : Int) := by omega
      have hnM' : (n : Int) ≤ (M : Int) := by omega
      have hMn : ¬ M = n := by omega
      obtain ⟨m, hm⟩ : ∃ m, Nat.min n (M - n) = m := ⟨_, rfl⟩
      have hm1 : 1 ≤ m ∧ m ≤ n ∧ n + m ≤ M := by
        rw [← hm]
        refine ⟨?_, Nat.min_le_left _ _, ?_⟩
        · exact Nat.le_min.2 ⟨hn1, by omega⟩
        · exact Nat.le_trans (Nat.add_le_add_left (Nat.min_le_right _ _) n) (by omega)
      have hsb : (M : Int) - (n : Int) = ((M - n : Nat) : Int) := by omega
      have hHd : wr.drew.heap[w.heap.size]? = some (.cells (List.replicate n (Value.int .i64 x) ++ List.replicate (M - n) (Value.int .i64 0)).toArray 3 (0, 0)) := hH.out
      have hsrc : ∀ j v, (List.replicate m (Value.int .i64 x))[j]? = some v → wr.drew.cell? ((⟨w.heap.size, 0, none⟩ : Addr).add j) = some v := by
        intro j v hj
        rw [List.getElem?_replicate] at hj
        split at hj
        · rename_i hjm
          cases hj
          have e : (⟨w.heap.size, 0, none⟩ : Addr).add j = ⟨w.heap.size, j, none⟩ := by
            unfold Addr.add
            split
            · rename_i h; rw [h]
            · simp
          rw [e, cell_of_row _ _ _ _ _ _ hHd, ← Array.getElem?_toList]
          simp only
          rw [List.getElem?_append_left (by simp; omega), List.getElem?_replicate, if_pos (by omega)]
        · cases hj
      have HSR := Lib.hid hsrc
      have hbd : Below w.heap.size w wr.drew := hB.out.drew
      have hone : ∀ v ∈ List.replicate m (Value.int .i64 x), v.oneCell' = true := fun v hv => by rw [List.eq_of_mem_replicate hv]; rfl
      obtain ⟨hm1a, hm1b, hm1c⟩ := hm1
      have hrun := run_copy_row (P := Tryz.prog) wr.drew 22 22 3 3 w.heap.size n (M - n) (M - n) ⟨w.heap.size, 0, none⟩ n M _ 3 (List.replicate m (Value.int .i64 x)) tInts.und (by kernel_rfl) hHd (by rw [List.length_replicate]; exact hm.symm) hsrc (by simp; omega) hone
      rw [List.length_replicate] at hrun
      have hnew := setRow_heap wr.drew w.heap.size _ ((List.replicate n (Value.int .i64 x) ++ List.replicate (M - n) (Value.int .i64 0)).toArray.toList.take n ++ List.replicate m (Value.int .i64 x) ++ (List.replicate n (Value.int .i64 x) ++ List.replicate (M - n) (Value.int .i64 0)).toArray.toList.drop (n + m)).toArray 3 _ hHd
      have hbn := below_setRow hbd (Nat.le_refl _) ((List.replicate n (Value.int .i64 x) ++ List.replicate (M - n) (Value.int .i64 0)).toArray.toList.take n ++ List.replicate m (Value.int .i64 x) ++ (List.replicate n (Value.int .i64 x) ++ List.replicate (M - n) (Value.int .i64 0)).toArray.toList.drop (n + m)).toArray
      obtain ⟨W5, hW5⟩ : ∃ W5, wr.drew.setRow w.heap.size ((List.replicate n (Value.int .i64 x) ++ List.replicate (M - n) (Value.int .i64 0)).toArray.toList.take n ++ List.replicate m (Value.int .i64 x) ++ (List.replicate n (Value.int .i64 x) ++ List.replicate (M - n) (Value.int .i64 0)).toArray.toList.drop (n + m)).toArray = W5 := ⟨_, rfl⟩
      rw [hW5] at hrun hnew hbn
      have HN : Hid (W5.heap[w.heap.size]? = some (.cells (List.replicate (n + m) (Value.int .i64 x) ++ List.replicate (M - (n + m)) (Value.int .i64 0)).toArray 3 (0, 0))) := Lib.hid (by
        have h := rep_splice (Value.int .i64 x) (Value.int .i64 0) (n := n) (m := m) (M := M) hm1c
        unfold splice at h
        rw [List.length_replicate] at h
        rw [hnew, List.append_assoc]
        simp only
        rw [h])
      have HB5 := Lib.hid hbn
      have hgi : goInt (m : Int) = .int .i64 (m : Int) := rfl
      rw [hgi] at hrun
      clear hsrc hm hHd hone hbd hnew hbn hW5 hH hB hgi
      go_wp2_with fail
      go_region
      all_goals
        go_wp2_with fail
        exact ⟨⟨n + m, by go_num, by omega, by omega, HN, HB5⟩, by simp [intOf]; omega⟩
    · obtain rfl : n = M := by omega
      have hlt' : ¬ (n : Int) < (n : Int) := by omega
      have HOW : Hid (wr.ownsRow w.heap.size 3 1 (.slice (some ⟨w.heap.size, 0, none⟩) n n) n (List.replicate n (.int .i64 x))) := Lib.hid (by
        have h := hH.out
        rw [Nat.sub_self] at h
        refine ⟨by simp, .inr ⟨w.heap.size, n, _, rfl, Nat.le_refl _, h, Nat.le_refl _, by simp only [maxLen]; omega, by simp, ?_⟩⟩
        simp)
      go_wp2_with fail
      go_ret
      exact ⟨rfl, HOW.out, hB.out⟩
end Go.Proofs.YtedmmmlahpmmoaaGreatDoor
