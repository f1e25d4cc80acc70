/- Ways and loops of a graph: graph.Path and graph.Loop, where there is one. Condition: the graph reads from memory. The last symbols of the nodes of vertices: inject.sides of any numbers: it ends, and turns nothing. Condition: the numbers read from memory. append to what is behind the first element of a list of the call's own. No condition but the length. slices.DeleteFunc of a list of the call's own: what the closure doesn't strike is left. Condition: the closure turns nothing; the length. -/
import Derived.ArgAppend
import Derived.Shelf.SlicesE.DeleteFunc
import Derived.Test.YtedmmmlahpmmoaaGreatDoorV6
import Derived.Test.YtedmmmlahpmmoaaGreatDoorV16
import Derived.Test.YtedmmmlahpmmoaaGreatDoorV20
namespace Go.Proofs.YtedmmmlahpmmoaaGreatDoor
open Go.RowKit RuleP TarjP

set_option maxRecDepth 100000 in
set_option maxHeartbeats 2000000 in
theorem path_c (w : World) (C : Option Addr) (M : Nat) (g : List (List Nat)) (f d : Nat) (hg : Graph g) (hM : g.length = M) (hf : f < M) (hd : d < M) (hG : ListAt w C M (g.map ints)) (h8 : M ≤ 8192) (har : (g.map List.length).sum ≤ 262144) (hr : Rch g f d) :
    Calls Tryz.prog 55 #[.slice C M M, .int .i64 (f : Int), .int .i64 (d : Int)] w fun e w' => ∃ (ga Q cc : Nat) (q : List Nat), e = .returned (.tuple #[.slice (some ⟨ga, 0, none⟩) Q cc, .nilIface]) ∧ 0 < Q ∧ Q ≤ M ∧ (∀ x ∈ q, x < M) ∧ w'.ownsRow w.heap.size 3 1 (.slice (some ⟨ga, 0, none⟩) Q cc) Q ((ints q).map (Value.int .i64)) ∧ Below w.heap.size w w' := by
  have HCK := Lib.hid (grCheck_c w C M M g hg hM hG h8 har)
  have HFI := Lib.hid (fun (wz : World) (hz : Below w.heap.size w wz) => first_c wz C M g f d hg hM hf hd (hG.keep hz) (by omega) (fun u => by have := len_le_sum g u; omega) hr)
  have k1 : ¬ (f : Int) < 0 := by omega
  have k2 : ¬ (M : Int) ≤ (f : Int) := by omega
  have k3 : ¬ (d : Int) < 0 := by omega
  have k4 : ¬ (M : Int) ≤ (d : Int) := by omega
  clear hg hM hG har hr
  go_enter Tryz.func55, Tryz.ntmps55
  go_wp2_with fail
  refine (HCK.out).mono ?_
  rintro e w2 ⟨rfl, hb2⟩
  have HB2 := Lib.hid hb2
  have HFI2 := Lib.hid (HFI.out w2 hb2)
  clear hb2
  go_wp2_with fail
  refine (HFI2.out).mono ?_
  rintro e w3 ⟨ga, Q, cc, q, rfl, hq0, hqM, _, hlt, ho, hb3⟩
  have HR := Lib.hid (And.intro hq0 (And.intro hqM (And.intro hlt (And.intro (own_base ho HB2.out.size) (HB2.out.trans (hb3.mono HB2.out.size))))))
  clear hq0 hqM hlt ho hb3
  go_wp2_with fail
  exact bodyPost_ret (v := .tuple #[.slice (some ⟨ga, 0, none⟩) Q cc, .nilIface]) (by simp [results, Tryz.results55, go_sem]) rfl ⟨ga, Q, cc, q, rfl, HR.out⟩

/-- The rows of the graph with a second vertex, as far as they stand. -/
structure WideAt (w : World) (go M1 : Nat) (rows : List Value) (L : List (List Nat)) (u : Nat) (cur : Option Value) (top : Nat) : Prop where
  own : w.ownsRow go 22 1 (.slice (some ⟨go, 0, none⟩) M1 M1) M1 rows
  rest : ∀ i, u ≤ i → i < M1 → (cur = none ∨ i ≠ u) → rows[i]? = some (.slice none 0 0)
  curr : ∀ x, cur = some x → rows[u]? = some x
  fin : ∀ i, i < u → ∃ P n c, rows[i]? = some (.slice P n c) ∧ w.ownsRow (go + 1) 3 1 (.slice P n c) n ((ints (L.getD i [])).map (Value.int .i64)) ∧ ∀ b, (Value.slice P n c).ownBlock = some b → b < top
namespace WideAt
variable {w w' : World} {go M1 u top : Nat} {rows : List Value} {L : List (List Nat)} {cur : Option Value}
theorem keeps (h : WideAt w go M1 rows L u cur top) {O : Nat → Prop} (hk : Keeps O w w') (h1 : ¬ O go) (h2 : ∀ b, b < top → go + 1 ≤ b → ¬ O b) : WideAt w' go M1 rows L u cur top := by
  refine ⟨own_keeps h.own hk (fun b hb => by rw [← Option.some.inj hb]; exact h1), h.rest, h.curr, fun i hi => ?_⟩
  obtain ⟨P, n, c, a1, a2, a3⟩ := h.fin i hi
  exact ⟨P, n, c, a1, own_keeps a2 hk (fun b hb => h2 b (a3 b hb) (a2.lt b hb).1), a3⟩
theorem below (h : WideAt w go M1 rows L u cur top) (hb : Below w.heap.size w w') : WideAt w' go M1 rows L u cur top := h.keeps (Keeps.of_pure hb (fun _ => False)) (fun e => e) (fun _ _ _ e => e)
theorem mono (h : WideAt w go M1 rows L u cur top) {top' : Nat} (ht : top ≤ top') : WideAt w go M1 rows L u cur top' :=
  ⟨h.own, h.rest, h.curr, fun i hi => by obtain ⟨P, n, c, a1, a2, a3⟩ := h.fin i hi; exact ⟨P, n, c, a1, a2, fun b hb => Nat.lt_of_lt_of_le (a3 b hb) ht⟩⟩
theorem store (h : WideAt w go M1 rows L u none top) (hu : u < M1) (v : Value) : WideAt (w.setCell ⟨go, u, none⟩ v) go M1 (rows.set u v) L u (some v) top := by
  have hl := h.own.1
  refine ⟨(h.own.stored u v).1, fun i h1 h2 h3 => ?_, fun x hx => ?_, fun i hi => ?_⟩
  · have hne : i ≠ u := h3.resolve_left (by simp)
    rw [List.getElem?_set_ne (fun e => hne e.symm)]
    exact h.rest i h1 h2 (.inl rfl)
  · cases hx
    rw [List.getElem?_set_self (by omega)]
  · obtain ⟨P, n, c, a1, a2, a3⟩ := h.fin i hi
    refine ⟨P, n, c, by rw [List.getElem?_set_ne (by omega)]; exact a1, own_keeps a2 (Keeps.of_setCell w ⟨go, u, none⟩ v) (fun b hb e => ?_), a3⟩
    have h1 := (a2.lt b hb).1
    have h2 : b = go := e
    omega
theorem close {P : Option Addr} {n c : Nat} (h : WideAt w go M1 rows L u (some (.slice P n c)) top) (ho : w.ownsRow (go + 1) 3 1 (.slice P n c) n ((ints (L.getD u [])).map (Value.int .i64))) {top' : Nat} (ht : top ≤ top') (hs : w.heap.size ≤ top') : WideAt w go M1 rows L (u + 1) none top' := by
  refine ⟨h.own, fun i h1 h2 _ => h.rest i (by omega) h2 (.inr (by omega)), fun x hx => (by cases hx), fun i hi => ?_⟩
  by_cases e : i = u
  · subst e
    exact ⟨P, n, c, h.curr _ rfl, ho, fun b hb => Nat.lt_of_lt_of_le (ho.lt b hb).2 hs⟩
  · obtain ⟨P, n, c, a1, a2, a3⟩ := h.fin i (by omega)
    exact ⟨P, n, c, a1, a2, fun b hb => Nat.lt_of_lt_of_le (a3 b hb) ht⟩
theorem start (w : World) (n : Nat) (hn : n ≤ maxLen) (L : List (List Nat)) : WideAt (w.alloc (.cells (madeCells #[.slice none 0 0] n) 22)) w.heap.size n (List.replicate n (.slice none 0 0)) L 0 none 0 := by
  have h1 := World.ownsRow_lit (base := w.heap.size) (e := 22) (size := 1) w (madeCells #[.slice none 0 0] n) n (Nat.le_refl _) hn (by rw [size_madeCells]; simp)
  rw [toList_madeCells_one] at h1
  exact ⟨h1, fun i _ h2 _ => by rw [List.getElem?_replicate, if_pos h2], fun x hx => (by cases hx), fun i hi => absurd hi (Nat.not_lt_zero i)⟩
theorem list (h : WideAt w go M1 rows L u none top) (hL : L.length = M1) (hu : ∀ i, u ≤ i → L.getD i [] = []) : ListAt w (some ⟨go, 0, none⟩) M1 (L.map ints) := by
  refine ⟨rows, Sl.of_own h.own, by rw [List.length_map, hL], fun j l hl => ?_⟩
  have hj : j < M1 := by have := (List.getElem?_eq_some_iff.1 hl).1; rw [List.length_map, hL] at this; exact this
  have e : ints (L.getD j []) = l := by
    rw [List.getElem?_map, List.getElem?_eq_getElem (by omega)] at hl
    rw [List.getD_eq_getElem?_getD, List.getElem?_eq_getElem (by omega)]
    exact Option.some.inj hl
  by_cases hju : j < u
  · obtain ⟨P, n, c, a1, a2, _⟩ := h.fin j hju
    rw [e] at a2
    have h1 : l.length = n := by simpa using a2.1
    subst h1
    exact ⟨P, c, a1, by have := own_le a2; have := (ownN_slice a2); obtain ⟨_, _, e1, h2, h3⟩ := this; simp only [maxLen] at h3; omega, Sl.of_own a2⟩
  · rw [hu j (by omega)] at e
    subst e
    exact ⟨none, 0, h.rest j (by omega) hj (.inl rfl), by simp [ints], Sl.of_own (World.ownsRow_nil w 0 3 1)⟩
end WideAt
/-- A list of arrows, turned as far as j. -/
def curL (l : List Nat) (v n j : Nat) : List Nat := (l.take j).map (fun t => if t = v then n else t) ++ l.drop j
theorem curL_len (l : List Nat) (v n j : Nat) : (curL l v n j).length = l.length := by simp [curL]; omega
theorem curL_step {l : List Nat} {v n j t : Nat} (h : l[j]? = some t) : curL l v n (j + 1) = (curL l v n j).set j (if t = v then n else t) := by
  obtain ⟨hj, e⟩ := List.getElem?_eq_some_iff.1 h
  unfold curL
  rw [List.take_add_one, h, List.drop_eq_getElem_cons hj, e, List.set_append_right _ _ (by simp; omega), show j - ((l.take j).map fun t => if t = v then n else t).length = 0 by simp; omega]
  simp
theorem curL_same {l : List Nat} {v n j t : Nat} (h : l[j]? = some t) (ht : t ≠ v) : curL l v n (j + 1) = curL l v n j := by
  rw [curL_step h, if_neg ht]
  apply List.ext_getElem?
  intro i
  by_cases e : j = i
  · subst e
    obtain ⟨hj, e⟩ := List.getElem?_eq_some_iff.1 h
    rw [List.getElem?_set_self (by rw [curL_len]; exact hj)]
    unfold curL
    rw [List.getElem?_append_right (by simp; omega), List.getElem?_drop]
    simp only [List.length_map, List.length_take]
    rw [show j + (j - min j l.length) = j by omega, h]
  · rw [List.getElem?_set_ne e]
theorem curL_zero (l : List Nat) (v n : Nat) : curL l v n 0 = l := by simp [curL]
theorem curL_all {l : List Nat} {v n j : Nat} (hj : l.length ≤ j) : curL l v n j = l.map fun t => if t = v then n else t := by
  unfold curL
  rw [List.take_of_length_le hj, List.drop_of_length_le hj, List.append_nil]

set_option maxRecDepth 100000 in
set_option maxHeartbeats 4000000 in
theorem loop_c (w : World) (C : Option Addr) (M : Nat) (g : List (List Nat)) (v : Nat) (hg : Graph g) (hM : g.length = M) (hv : v < M) (hG : ListAt w C M (g.map ints)) (h8 : M ≤ 8192) (har : (g.map List.length).sum ≤ 262144) (hr : (loopP g).getD v false = true) :
    Calls Tryz.prog 54 #[.slice C M M, .int .i64 (v : Int)] w fun e w' => ∃ (ga Q cc : Nat) (q : List Nat), e = .returned (.tuple #[.slice (some ⟨ga, 0, none⟩) Q cc, .nilIface]) ∧ 0 < Q ∧ Q ≤ M ∧ (∀ x ∈ q, x ≤ M) ∧ w'.ownsRow w.heap.size 3 1 (.slice (some ⟨ga, 0, none⟩) Q cc) Q ((ints q).map (Value.int .i64)) ∧ Below w.heap.size w w' := by
  have HCK := Lib.hid (grCheck_c w C M M g hg hM hG h8 har)
  obtain ⟨M1, hM1⟩ : ∃ M1, M + 1 = M1 := ⟨_, rfl⟩
  obtain ⟨W, hW⟩ : ∃ W, wideG g v = W := ⟨_, rfl⟩
  have hWl : W.length = M1 := by rw [← hW, wideG_len, hM, hM1]
  have HWA := Lib.hid (show ∀ u, u < M → W.getD u [] = (g.getD u []).map fun t => if t = v then M else t from fun u hu => by rw [← hW, wideG_at (by omega), hM])
  have HWO := Lib.hid (show ∀ u, M ≤ u → W.getD u [] = [] from fun u hu => by rw [← hW]; exact wideG_out (by omega))
  have hlen : ∀ u, (g.getD u []).length ≤ 262144 := fun u => by have := len_le_sum g u; omega
  have HFI := Lib.hid (fun (wz : World) (go : Nat) (hL : ListAt wz (some ⟨go, 0, none⟩) M1 (W.map ints)) => first_c wz (some ⟨go, 0, none⟩) M1 W v M (by rw [← hW]; exact wideG_graph hg v) hWl (by omega) (by omega) hL (by omega) (fun u => by
    by_cases hu : u < M
    · rw [HWA.out u hu, List.length_map]
      have := hlen u
      omega
    · rw [HWO.out u (by omega)]
      simp) (by
    rw [← hW]
    obtain ⟨t, h1, h2⟩ := loopP_sound hg hr
    have := wide_loop (by omega) h1 h2
    rw [hM] at this
    exact this))
  have HWL := Lib.hid hWl
  have HLEN := Lib.hid hlen
  have HGW := Lib.hid hG
  have HGR := Lib.hid (And.intro hg hM)
  have HMM := Lib.hid hM1
  have k1 : ¬ (v : Int) < 0 := by omega
  have k2 : ¬ (M : Int) ≤ (v : Int) := by omega
  have e1 : IntKind.i64.wrap ((M : Int) + 1) = (M1 : Int) := by rw [show (M : Int) + 1 = (M1 : Int) by omega]; exact IntWalk.i64_in _ (by omega)
  clear hg hM hG har hr hlen hWl hW
  go_enter Tryz.func54, Tryz.ntmps54
  go_wp2_with fail
  refine (HCK.out).mono ?_
  rintro e w2 ⟨rfl, hb2⟩
  have hmk := run_make_row' (P := Tryz.prog) 49 22 (.slice none 0 0) 24 tRowsJ.und tRowsJ.info rfl .i64 .i64 M1 (by omega) (by omega) w2
  have h0 := WideAt.start w2 M1 (by simp only [maxLen]; omega) W
  have b3 := hb2.alloc hb2.size (.cells (madeCells #[.slice none 0 0] M1) 22)
  have hs3 : (w2.alloc (.cells (madeCells #[.slice none 0 0] M1) 22)).heap.size = w2.heap.size + 1 := by simp
  obtain ⟨w3, hw3⟩ : ∃ w3, w2.alloc (.cells (madeCells #[.slice none 0 0] M1) 22) = w3 := ⟨_, rfl⟩
  rw [hw3] at h0 b3 hs3
  have hgw := hb2.size
  obtain ⟨go, hgo⟩ : ∃ go, w2.heap.size = go := ⟨_, rfl⟩
  rw [hgo] at h0 hs3 hgw
  have HW3 := Lib.hid hw3
  have HGO := Lib.hid hgo
  have H0 : Hid (∃ rows, WideAt w3 go M1 rows W 0 none w3.heap.size) := Lib.hid ⟨_, h0.mono (Nat.zero_le _)⟩
  have B3 := Lib.hid b3
  have HSZ3 := Lib.hid (show go < w3.heap.size by omega)
  have HGQ := Lib.hid hgw
  clear hb2 h0 b3 hs3 hw3 hgo hgw
  go_wp2_with fail
  rw [HW3.out, HGO.out]
  clear hmk
  go_loopw [35] (fun iv wl => ∃ u : Nat, u ≤ M ∧ iv = .int .i64 (u : Int) ∧ Hid (∃ rows, WideAt wl go M1 rows W u none wl.heap.size) ∧ Hid (Below w.heap.size w wl) ∧ Hid (go < wl.heap.size)) (fun iv _ => M - (intOf iv).toNat)
  case atStart => exact ⟨0, Nat.zero_le _, rfl, H0, B3, HSZ3⟩
  case round =>
    clear H0 B3 HSZ3
    obtain ⟨u, hu, rfl, HR, BB, HSZ⟩ := hrel
    obtain ⟨v0, rfl⟩ : ∃ v0, v0 = wr := ⟨_, rfl⟩
    by_cases hlt : u < M
    · have hlt' : (u : Int) < (M : Int) := by omega
      have hu0 : (0 : Int) ≤ (u : Int) := by omega
      have hlt1 : (u : Int) < (M1 : Int) := by have := HMM.out; omega
      obtain ⟨adg, P, L, cr, rfl, hcr0, hL, hsr0⟩ := graph_row HGW.out hlt
      have hcr := cell_later BB.out hcr0
      have hLb := HLEN.out u
      rw [hL] at hLb
      have HL := Lib.hid hL
      have HSR0 := Lib.hid hsr0
      have HCL := Lib.hid (clone_c v0 P L cr ((ints (g.getD u [])).map (Value.int .i64)) (fun x hx => by obtain ⟨y, _, rfl⟩ := List.mem_map.1 hx; rfl) (by omega) (hsr0.below BB.out))
      clear hcr0 hL hsr0
      go_wp2_with fail
      refine (HCL.out).mono ?_
      rintro e w5 ⟨D, dc, rfl, ho5, hb5⟩
      obtain ⟨rows, hrows⟩ := HR.out
      have h5 := hrows.below hb5
      have cg := h5.own.cellAt u (by have := HMM.out; omega)
      rw [h5.rest u (Nat.le_refl _) (by have := HMM.out; omega) (.inl rfl)] at cg
      have fg := h5.own.frozenAt u
      have h6 := h5.store (by have := HMM.out; omega) (.slice D L dc)
      have hks := Keeps.of_setCell w5 ⟨go, u, none⟩ (.slice D L dc)
      have hsz := HSZ.out
      have ho6 := own_keeps ho5 hks (fun b hb e => by
        have h1 := (ho5.lt b hb).1
        have h2 : b = go := e
        omega)
      have bb5 := BB.out.trans (hb5.mono BB.out.size)
      have bb6 := bb5.trans (hks.below bb5.size (fun b hb => by rw [show b = go from hb]; exact Nat.le_trans (Nat.le_refl _) HGQ.out))
      have hz6 : (w5.setCell ⟨go, u, none⟩ (.slice D L dc)).heap.size = w5.heap.size := by simp
      have hz5 := hb5.size
      obtain ⟨w6, hw6⟩ : ∃ w6, w5.setCell ⟨go, u, none⟩ (.slice D L dc) = w6 := ⟨_, rfl⟩
      rw [hw6] at h6 ho6 bb6 hz6
      have HW6 := Lib.hid hw6
      obtain ⟨top, htop⟩ : ∃ top, v0.heap.size = top := ⟨_, rfl⟩
      rw [htop] at h6 ho6 hz5 hsz
      have HR6 : Hid (∃ rows, WideAt w6 go M1 rows W u (some (.slice D L dc)) top) := Lib.hid ⟨_, h6⟩
      have HO6 : Hid (w6.ownsRow top 3 1 (.slice D L dc) L ((ints (curL (g.getD u []) v M 0)).map (Value.int .i64))) := Lib.hid (by rw [curL_zero]; exact ho6)
      have BB6 := Lib.hid bb6
      have HSZ6 := Lib.hid (show top ≤ w6.heap.size by omega)
      have HTP := Lib.hid hsz
      clear hrows h5 h6 hks ho5 ho6 hb5 bb5 bb6 hz6 hz5 hw6 htop hsz HCL HR
      go_upto_region 12 with fail
      rw [HW6.out]
      clear hcr cg fg
      go_wp2_with fail
      go_loopw [47] (fun jv wl => ∃ j : Nat, j ≤ L ∧ jv = .int .i64 (j : Int) ∧ Hid (∃ rows, WideAt wl go M1 rows W u (some (.slice D L dc)) top) ∧ Hid (wl.ownsRow top 3 1 (.slice D L dc) L ((ints (curL (g.getD u []) v M j)).map (Value.int .i64))) ∧ Hid (Below w.heap.size w wl) ∧ Hid (top ≤ wl.heap.size)) (fun jv _ => L - (intOf jv).toNat)
      case atStart => exact ⟨0, Nat.zero_le _, rfl, HR6, HO6, BB6, HSZ6⟩
      case round =>
        clear HR6 HO6 BB6 HSZ6 BB
        obtain ⟨j, hj, rfl, HR, HO, BB, HTS⟩ := hrel
        by_cases hlt2 : j < L
        · have hlt2' : (j : Int) < (L : Int) := by omega
          have hj0 : (0 : Int) ≤ (j : Int) := by omega
          have hsr := HSR0.out.below BB.out
          rw [ints_map] at hsr
          obtain ⟨pad, t, rfl, hT, hct⟩ := hsr.word_ hlt2
          by_cases htv : t = v
          · have htv' : (t : Int) = (v : Int) := by omega
            obtain ⟨rows, hrows⟩ := HR.out
            have cg := hrows.own.cellAt u (by have := HMM.out; omega)
            rw [hrows.curr _ rfl] at cg
            obtain ⟨gd, cap', hCe, _⟩ := HO.out.form (by omega)
            cases hCe
            have hcl := curL_len (g.getD u []) v M j
            have hgl := HL.out
            have cd := HO.out.cellAt j (by omega)
            rw [List.getElem?_map, ints, List.getElem?_map, List.getElem?_eq_getElem (show j < (curL (g.getD u []) v M j).length by omega)] at cd
            simp only [Option.map_some] at cd
            generalize (curL (g.getD u []) v M j)[j] = old at cd
            have fd := HO.out.frozenAt j
            have ho7 := (HO.out.stored j (.int .i64 (M : Int))).1
            have e3 : ((ints (curL (g.getD u []) v M j)).map (Value.int .i64)).set j (.int .i64 (M : Int)) = (ints (curL (g.getD u []) v M (j + 1))).map (Value.int .i64) := by
              rw [curL_step hT, if_pos htv]
              unfold ints
              rw [List.map_set, List.map_set]
            rw [e3] at ho7
            have hks := Keeps.of_setCell wr ⟨gd, j, none⟩ (.int .i64 (M : Int))
            have hgd := (HO.out.lt gd rfl).1
            have htp := HTP.out
            have h7 := hrows.keeps hks (fun e => by have h1 : go = gd := e; omega) (fun b hb _ e => by have h1 : b = gd := e; omega)
            have bb7 := BB.out.trans (hks.below BB.out.size (fun b hb => by
              have h1 : b = gd := hb
              have h2 := HGQ.out
              omega))
            have hz7 : (wr.setCell ⟨gd, j, none⟩ (.int .i64 (M : Int))).heap.size = wr.heap.size := by simp
            obtain ⟨w7, hw7⟩ : ∃ w7, wr.setCell ⟨gd, j, none⟩ (.int .i64 (M : Int)) = w7 := ⟨_, rfl⟩
            rw [hw7] at ho7 h7 bb7 hz7
            have HW7 := Lib.hid hw7
            have HR7 : Hid (∃ rows, WideAt w7 go M1 rows W u (some (.slice (some ⟨gd, 0, none⟩) L dc)) top) := Lib.hid ⟨_, h7⟩
            have HO7 := Lib.hid ho7
            have BB7 := Lib.hid bb7
            have HTS7 := Lib.hid (show top ≤ w7.heap.size by rw [hz7]; exact HTS.out)
            have hk5 : (u : Int) < (M1 : Int) := by omega
            have hk6 : (0 : Int) ≤ (u : Int) := by omega
            clear hrows h7 ho7 e3 hks bb7 hz7 hw7 hT hsr hgd htp hcl hgl
            subst htv
            clear htv'
            go_wp2_with fail
            rw [HW7.out]
            exact ⟨⟨j + 1, by omega, by go_num, HR7, HO7, BB7, HTS7⟩, by simp [intOf]; omega⟩
          · have htv' : ¬ (t : Int) = (v : Int) := by omega
            have HO7 : Hid (wr.ownsRow top 3 1 (.slice D L dc) L ((ints (curL (g.getD u []) v M (j + 1))).map (Value.int .i64))) := Lib.hid (by rw [curL_same hT htv]; exact HO.out)
            clear hT hsr
            go_wp2_with fail
            exact ⟨⟨j + 1, by omega, by go_num, HR, HO7, BB, HTS⟩, by simp [intOf]; omega⟩
        · have hlt2' : ¬ (j : Int) < (L : Int) := by omega
          obtain ⟨rows, hrows⟩ := HR.out
          have ho := HO.out
          rw [curL_all (by have := HL.out; omega), ← HWA.out u hlt] at ho
          have HR8 : Hid (∃ rows, WideAt wr go M1 rows W (u + 1) none wr.heap.size) := Lib.hid ⟨_, hrows.close (own_base ho HTP.out) HTS.out (Nat.le_refl _)⟩
          have HSZ8 := Lib.hid (show go < wr.heap.size from Nat.lt_of_lt_of_le HTP.out HTS.out)
          clear hrows ho
          go_wp2_with fail
          exact ⟨⟨_, _, _, _, _, ⟨u + 1, by omega, by go_num, HR8⟩, rfl, rfl, rfl, rfl, rfl⟩, by simp [intOf]; omega⟩
    · have hlt' : ¬ (u : Int) < (M : Int) := by omega
      obtain ⟨rows, hrows⟩ := HR.out
      have HFI8 := Lib.hid (HFI.out v0 go (hrows.list HWL.out (fun i hi => HWO.out i (by omega))))
      clear hrows
      go_wp2_with fail
      refine (HFI8.out).mono ?_
      rintro e w9 ⟨ga, Q, cc, q, rfl, hq0, hqM, hq2, hql, ho, hb9⟩
      obtain ⟨Q1, hQ1⟩ : ∃ Q1, Q = Q1 + 1 := ⟨Q - 1, by omega⟩
      have hQ2 : 0 < Q1 := by have := hq2 (by omega); omega
      have hQM : Q1 ≤ M := by have := HMM.out; omega
      have hcc := own_le ho
      have hql' : ints (q.take Q1) = (ints q).take Q1 := by unfold ints; rw [List.map_take]
      have HR9 := Lib.hid (show (∀ x ∈ q.take Q1, x ≤ M) ∧ w9.ownsRow w.heap.size 3 1 (.slice (some ⟨ga, 0, none⟩) Q1 cc) Q1 ((ints (q.take Q1)).map (Value.int .i64)) ∧ Below w.heap.size w w9 from by
        refine ⟨fun x hx => ?_, ?_, BB.out.trans (hb9.mono BB.out.size)⟩
        · have h1 := hql x (List.mem_of_mem_take hx)
          have h2 := HMM.out
          omega
        · rw [hql', List.map_take]
          exact own_frontC (own_base ho BB.out.size) (by omega))
      have e9 : IntKind.i64.wrap ((Q : Int) - 1) = (Q1 : Int) := by rw [show (Q : Int) - 1 = (Q1 : Int) by omega]; exact IntWalk.i64_in _ (by omega)
      have hq0 : ¬ (Q : Int) = 0 := by omega
      have hq0' : ¬ Q = 0 := by omega
      have hcc1 : Q1 ≤ cc := by omega
      have hcc2 : Q1 ≤ Q := by omega
      clear hq2 hqM hql ho hb9 hql' hQ1
      go_wp2_with fail
      exact bodyPost_ret (v := .tuple #[.slice (some ⟨ga, 0, none⟩) Q1 cc, .nilIface]) (by simp [results, Tryz.results54, go_sem]) rfl ⟨ga, Q1, cc, q.take Q1, rfl, hQ2, hQM, HR9.out⟩
end Go.Proofs.YtedmmmlahpmmoaaGreatDoor

namespace Go.Proofs.YtedmmmlahpmmoaaGreatDoor
open Go.RowKit RuleP TarjP

theorem cell_blk {w : World} {a : Addr} {v : Value} (h : w.cell? a = some v) : a.block < w.heap.size := by
  rcases Nat.lt_or_ge a.block w.heap.size with h' | h'
  · exact h'
  · simp [World.cell?, Array.getElem?_eq_none h'] at h
set_option maxRecDepth 100000 in
set_option maxHeartbeats 4000000 in
theorem sides_c (w : World) (k N : Nat) (hk : 0 < k) (hN : 0 < N) (A : Option Addr) (m c : Nat) (xs : List Int) (hA : Sl w A m (xs.map (Value.int .i64))) (hm : m ≤ 100000) :
    Calls Tryz.prog 56 #[.int .i64 (k : Int), .int .i64 (N : Int), .slice A m c] w fun e w' => ∃ P a Q b n, e = .returned (.tuple #[.slice P n a, .slice Q n b]) ∧ Below w.heap.size w w' := by
  have hl : xs.length = m := by simpa using hA.1
  have HL := Lib.hid hl
  have HA := Lib.hid hA
  have HADB := Lib.hid (show ∀ ad, A = some ad → 0 < m → ad.block < w.heap.size from fun ad hd h0 => by
    obtain ⟨ad', x, h1, h2, h3⟩ := hA.int_ h0
    rw [hd] at h1
    cases h1
    simpa [Addr.add] using cell_blk h3)
  have n1 : ¬ (k : Int) = 0 := by omega
  have n2 : ¬ (N : Int) = 0 := by omega
  have n3 : ¬ k = 0 := by omega
  have n4 : ¬ N = 0 := by omega
  clear hl hA
  go_enter Tryz.func56, Tryz.ntmps56
  go_wp2_with fail
  go_loopw [8, 9, 14] (fun av bv iv wl => ∃ (i : Nat) (P : Option Addr) (a : Nat) (Q : Option Addr) (b : Nat), i ≤ m ∧ iv = .int .i64 (i : Int) ∧ av = .slice P i a ∧ bv = .slice Q i b ∧ Hid (∃ xs : List Int, wl.ownsRow w.heap.size 3 1 (.slice P i a) i (xs.map (Value.int .i64))) ∧ Hid (∃ xs : List Int, wl.ownsRow w.heap.size 3 1 (.slice Q i b) i (xs.map (Value.int .i64))) ∧ Hid (∀ x y, (Value.slice P i a).ownBlock = some x → (Value.slice Q i b).ownBlock = some y → x ≠ y) ∧ Hid (Below w.heap.size w wl)) (fun _ _ iv _ => m - (intOf iv).toNat)
  case atStart => exact ⟨0, none, 0, none, 0, Nat.zero_le _, rfl, rfl, rfl, Lib.hid ⟨[], World.ownsRow_nil _ _ _ _⟩, Lib.hid ⟨[], World.ownsRow_nil _ _ _ _⟩, Lib.hid (fun x y h => by simp [Value.ownBlock] at h), Lib.hid (Below.refl _ _)⟩
  case round =>
    obtain ⟨i, P, a, Q, b, hi, rfl, rfl, rfl, HP, HQ, HD, BB⟩ := hrel
    obtain ⟨v0, rfl⟩ : ∃ v0, v0 = wr := ⟨_, rfl⟩
    by_cases hlt : i < m
    · have hlt' : (i : Int) < (m : Int) := by omega
      have hi0 : (0 : Int) ≤ (i : Int) := by omega
      obtain ⟨ad, x, rfl, hx, hc⟩ := (HA.out.below BB.out).int_ hlt
      obtain ⟨p1, hp1⟩ : ∃ p, IntKind.i64.wrap (x.tdiv (N : Int)) = p := ⟨_, rfl⟩
      obtain ⟨p2, hp2⟩ : ∃ p, p1.tmod (k : Int) = p := ⟨_, rfl⟩
      obtain ⟨p3, hp3⟩ : ∃ p, x.tmod (N : Int) = p := ⟨_, rfl⟩
      obtain ⟨p4, hp4⟩ : ∃ p, p3.tmod (k : Int) = p := ⟨_, rfl⟩
      obtain ⟨l1, hO1⟩ := HP.out
      obtain ⟨l2, hO2⟩ := HQ.out
      have hsz := BB.out.size
      have HAB := Lib.hid (show (ad.add i).block = ad.block by unfold Addr.add; split <;> rfl)
      have HADL := Lib.hid (HADB.out ad rfl (by omega))
      clear hx HP HQ
      go_wp2_with fail
      have d0 : v0.cell? (ad.add i) = some (.int .i64 x) := hc
      go_region_held3 (fun wz => wz.cell? (ad.add i) = some (.int .i64 x))
        (first | assumption | go_keep)
        (first
          | (refine step_push3 ?_ (.tmp 26) (.tmp 32) 22 rfl tInts (base := w.heap.size) (v := .slice Q i b) (n := i) (xs := l2.map (Value.int .i64)) ?_ rfl _ _ rfl (.int .i64 p4) ?_ rfl ?_ ?_ ?_ ?_
             · rfl
             · refine own_below hQ3 ?_
               repeat (first | with_reducible exact Below.refl _ _ | with_reducible refine bl_dr ?_ | with_reducible refine bl_al (Nat.le_refl _) _ ?_)
             · first
                 | with_reducible exact hc2
                 | with_reducible exact cell_dr hc2
                 | (repeat (first | (with_reducible refine lit_at _ _ _ _ ?_; simp; done) | with_reducible refine cell_dr ?_ | with_reducible refine cell_al _ ?_))
             · (simp only [maxLen]; omega)
             · omega
             · first | exact hsz3 | (simp; omega)
             intro g4 cap4 w4 hown4 hor4 hlt4
             have hpr4 := pushS (w := w3) (by repeat (first | with_reducible exact Below.refl _ _ | with_reducible refine bl_dr ?_ | with_reducible refine bl_al (Nat.le_refl _) _ ?_)) hor4
             obtain ⟨hk4, hg4⟩ := hpr4
             have d2 := hk4.cell d1 (fun e => by have h1 := (hO2.lt _ e).1; rw [HAB.out] at h1; have := HADL.out; omega))
          | (refine step_push3 ?_ (.tmp 18) (.tmp 24) 22 rfl tInts (base := w.heap.size) (v := .slice P i a) (n := i) (xs := l1.map (Value.int .i64)) ?_ rfl _ _ rfl (.int .i64 p2) ?_ rfl ?_ ?_ ?_ ?_
             · rfl
             · refine own_below hO1 ?_
               repeat (first | with_reducible exact Below.refl _ _ | with_reducible refine bl_dr ?_ | with_reducible refine bl_al (Nat.le_refl _) _ ?_)
             · repeat (first | (with_reducible refine lit_at _ _ _ _ ?_; simp; done) | with_reducible refine cell_dr ?_ | with_reducible refine cell_al _ ?_)
             · (simp only [maxLen]; omega)
             · omega
             · (simp; omega)
             intro g3 cap3 w3 hown3 hor3 hlt3
             have hpr := pushS (w := v0) (by repeat (first | with_reducible exact Below.refl _ _ | with_reducible refine bl_dr ?_ | with_reducible refine bl_al (Nat.le_refl _) _ ?_)) hor3
             obtain ⟨hk3, hg3⟩ := hpr
             have hprL := pushS (Below.refl _ _) hor3
             obtain ⟨hkL, _⟩ := hprL
             first
               | have hc2 : w3.cell? ⟨v0.heap.size + 1, 0, none⟩ = some (.int .i64 p4) := by
                   refine hkL.cell ?_ ?_
                   · repeat (first | (with_reducible refine lit_at _ _ _ _ ?_; simp; done) | with_reducible refine cell_dr ?_ | with_reducible refine cell_al _ ?_)
                     done
                   · exact fun e => by have h1 := (hO1.lt _ e).2; have h2 : v0.heap.size + 1 < v0.heap.size := h1; omega
               | have hc2 : w3.cell? ⟨v0.heap.size, 0, none⟩ = some (.int .i64 p4) := by
                   refine hkL.cell ?_ ?_
                   · repeat (first | (with_reducible refine lit_at _ _ _ _ ?_; simp; done) | with_reducible refine cell_dr ?_ | with_reducible refine cell_al _ ?_)
                     done
                   · exact fun e => by have h1 := (hO1.lt _ e).2; have h2 : v0.heap.size < v0.heap.size := h1; omega
               | skip
             have hQ3 := own_keeps hO2 hk3 (fun y hy e => HD.out y y e hy rfl)
             have hsz3 : w.heap.size ≤ w3.heap.size := Nat.le_trans hsz hk3.size
             have d1 := hk3.cell d0 (fun e => by have h1 := (hO1.lt _ e).1; rw [HAB.out] at h1; have := HADL.out; omega)
             clear hkL hor3)
          | fail)
      all_goals
        have hB3 := BB.out.trans (hk3.below hsz (fun y hy => (hO1.lt y hy).1))
        have hB4 := Lib.hid (hB3.trans (hk4.below hsz3 (fun y hy => (hO2.lt y hy).1)))
        have hP4 := Lib.hid (own_keeps hown3 hk4 (fun y hy e => by
          have h1 : g3 = y := Option.some.inj hy
          subst h1
          rcases hg3 with h2 | h2
          · exact HD.out g3 g3 h2 e rfl
          · have h3 := (hO2.lt g3 e).2
            omega))
        have hD4 : Hid (∀ x y, (Value.slice (some ⟨g3, 0, none⟩) (i + 1) cap3).ownBlock = some x → (Value.slice (some ⟨g4, 0, none⟩) (i + 1) cap4).ownBlock = some y → x ≠ y) := Lib.hid (fun x y hx hy e => by
          have h1 : g3 = x := Option.some.inj hx
          have h2 : g4 = y := Option.some.inj hy
          have h5 : g3 = g4 := by omega
          rcases hg4 with h3 | h3
          · rcases hg3 with h4 | h4
            · exact HD.out g3 g4 h4 h3 h5
            · have h6 := (hO2.lt g4 h3).2
              omega
          · omega)
        have hQ4 := Lib.hid hown4
        have e1 : l1.map (Value.int .i64) ++ [.int .i64 p2] = (l1 ++ [p2]).map (Value.int .i64) := by simp
        have e2 : l2.map (Value.int .i64) ++ [.int .i64 p4] = (l2 ++ [p4]).map (Value.int .i64) := by simp
        have hP5 : Hid (∃ xs : List Int, w4.ownsRow w.heap.size 3 1 (.slice (some ⟨g3, 0, none⟩) (i + 1) cap3) (i + 1) (xs.map (Value.int .i64))) := Lib.hid ⟨_, by rw [← e1]; exact hP4.out⟩
        have hQ5 : Hid (∃ xs : List Int, w4.ownsRow w.heap.size 3 1 (.slice (some ⟨g4, 0, none⟩) (i + 1) cap4) (i + 1) (xs.map (Value.int .i64))) := Lib.hid ⟨_, by rw [← e2]; exact hQ4.out⟩
        clear hP4 hQ4 e1 e2 hB3 hown3 hown4 hor4 hk3 hk4 hg3 hg4 hQ3 d0 d1 d2
        go_wp2_with fail
        exact ⟨⟨i + 1, some ⟨g3, 0, none⟩, cap3, some ⟨g4, 0, none⟩, cap4, by omega, by go_num, rfl, rfl, hP5, hQ5, hD4, hB4⟩, by simp [intOf]; omega⟩
    · have hlt' : ¬ (i : Int) < (m : Int) := by omega
      go_wp2_with fail
      exact bodyPost_ret (v := .tuple #[.slice P i a, .slice Q i b]) (by simp [results, Tryz.results56, go_sem]) rfl ⟨⟨P, a, Q, b, i, rfl⟩, BB.out⟩
end Go.Proofs.YtedmmmlahpmmoaaGreatDoor

namespace Go.Proofs.YtedmmmlahpmmoaaGreatDoor
open Go.RowKit RuleP

theorem wpList_push_t {P : Program} {w : World} {ops : Array Oper} {rest : List Oper} {o : Oper} {a : Act} {Q : Exit → Act → World → Prop} (hg : o.guard = none) (s x : Operand) (t : TypeId)
    (ho : o.op = .call { callee := .builtin .append, args := #[s, x], argTypes := #[t, t] }) {e : TypeId} {z : Value} {bytes : Nat} (hT : ElemT P t e z bytes)
    {base g n cap : Nat} {y : Value} {ys : List Value} (hown : w.ownsRow base e 1 (.slice (some ⟨g, 0, none⟩) (n + 1) cap) (n + 1) (y :: ys)) (aa : Addr) (haa : cap = 1 ∨ aa = ⟨g, 1, none⟩) (hs : a.eval s = .slice (some aa) n (cap - 1)) (ad : Addr) (c : Nat) (hx : a.eval x = .slice (some ad) 1 c) (u : Value) (hc : w.cell? ad = some u) (hu : u.oneCell' = true)
    (h63 : n + 1 ≤ maxLen) (hbytes : (n + 1) * bytes ≤ 140737488355328)
    (h : ∀ A c' w', Sl w' A (n + 1) (ys ++ [u]) → Keeps (fun b => b = g) w w' → wpList P ops Q rest (a.put o.dst (.slice A (n + 1) c')) w') : wpList P ops Q (o :: rest) a w := by
  have hyl : ys.length = n := by have := hown.1; simpa using this
  have hcell : ∀ j v, ys[j]? = some v → w.cell? ⟨g, 1 + j, none⟩ = some v := fun j v hj => by
    have hjn : j < n := by have := (List.getElem?_eq_some_iff.1 hj).1; omega
    rw [hown.cellAt (1 + j) (by omega), show 1 + j = j + 1 by omega, List.getElem?_cons_succ]
    exact hj
  refine wpList_plain hg fun K hK' => ?_
  obtain ⟨i, hi, hz, hz1, hz2⟩ := info_parts hT.info
  by_cases hr : n + 1 ≤ cap - 1
  · have haa := haa.resolve_left (by omega)
    subst haa
    have hsp : (w.cell? ⟨g, 1 + n, none⟩).isSome = true ∧ w.frozen? ⟨g, 1 + n, none⟩ = false := by
      refine ⟨?_, hown.frozenAt _⟩
      rcases hown.2 with ⟨hv, _⟩ | ⟨g', cap', cur, hv, _, hgb, h1, h2, h3, _⟩
      · cases hv
      · cases hv
        rw [cell_of_row _ _ _ _ _ _ hgb, Array.getElem?_eq_getElem (by omega)]
        rfl
    have hrun := run_append_room_cells (P := P) w t o.type e i hT.und hi g 1 n (cap - 1) ad 1 c [u] (by rw [hz1]; rfl) (fun j v hj => by
      cases j with
      | zero =>
        have e1 : u = v := by simpa using hj
        rw [show ad.add 0 = ad by simp [Addr.add], ← e1]; exact hc
      | succ j => simp at hj) (fun v hv => by rw [List.mem_singleton.1 hv]; exact hu) hr (fun j hj => by
      obtain rfl : j = 0 := by simpa using hj
      rw [hz1, show 1 + n * 1 + 0 = 1 + n by omega]; exact hsp.1) (fun j hj => by
      obtain rfl : j = 0 := by simpa using hj
      rw [hz1, show 1 + n * 1 + 0 = 1 + n by omega]; exact hsp.2)
    rw [hz1, show 1 + n * 1 = 1 + n by omega, show w.setCells g (1 + n) [u] = w.setCell ⟨g, 1 + n, none⟩ u from rfl] at hrun
    unfold Oper.wp
    simp [execOp, ho, resolve, invoke, builtin, hs, hx, hrun, Result.andThen]
    refine hK' _ _ (h _ _ _ ⟨by simp [hyl], fun j v hj => ⟨_, rfl, ?_⟩⟩ (Keeps.of_setCell w ⟨g, 1 + n, none⟩ u))
    rw [Addr.add_lit]
    by_cases e1 : j = n
    · subst e1
      rw [List.getElem?_append_right (by omega), hyl, Nat.sub_self] at hj
      have e2 : u = v := by simpa using hj
      rw [← e2]
      exact World.cell?_setCell_same' w _ u hsp.1
    · have hjn : j < n := by have := (List.getElem?_eq_some_iff.1 hj).1; simp [hyl] at this; omega
      rw [List.getElem?_append_left (by omega)] at hj
      refine (Eq.trans ?_ (hcell j v hj))
      apply World.cell?_setCell_other
      intro e2
      have e3 : 1 + n = 1 + j := congrArg Addr.off e2
      omega
  · obtain ⟨v', w', hrun, r1, r2⟩ := run_append_arg_grows (P := P) w t o.type e i z 1 bytes hT.und hi hz hz1 hz2 (by rw [hT.one]; rfl) (by omega) aa n (cap - 1) ys (by omega) (fun j v hj => by
      have hjn : j < n := by have := (List.getElem?_eq_some_iff.1 hj).1; omega
      have hle := own_le hown
      have haa := haa.resolve_left (by omega)
      subst haa
      rw [Addr.add_lit]
      exact hcell j v hj) ad 1 c [u] rfl (fun j v hj => by
      cases j with
      | zero =>
        have e1 : u = v := by simpa using hj
        rw [show ad.add 0 = ad by simp [Addr.add], ← e1]; exact hc
      | succ j => simp at hj) (by omega) h63 hbytes
    obtain ⟨A, c', rfl, _, _⟩ := own_slice r1
    unfold Oper.wp
    simp [execOp, ho, resolve, invoke, builtin, hs, hx, hrun, Result.andThen]
    exact hK' _ _ (h _ _ _ (Sl.of_own r1) ((Keeps.of_grown r2).mono (fun b _ e => by cases e)))
end Go.Proofs.YtedmmmlahpmmoaaGreatDoor

namespace Go.Proofs.YtedmmmlahpmmoaaGreatDoor
open Go.RowKit Go.Shelf Go.Sort Go.Maps RuleP

def delL_ren : Go.Shelf.Ren := ⟨fun | 6 => 33 | 10 => 49 | n => n, fun | 22 => 22 | 23 => 3 | 25 => 68 | 3 => 3 | 4 => 4 | 0 => 0 | n => n, fun | n => n⟩
theorem delL : Go.Proofs.SlLaysH.n10 Tryz.prog delL_ren := {
  mixed := by kernel_rfl
  f6 := ⟨Tryz.f33.name, by decide, Tryz.func33.trans (congrArg some (by kernel_rfl))⟩
  f10 := ⟨Tryz.f49.name, by decide, Tryz.func49.trans (congrArg some (by kernel_rfl))⟩
  t0 := Tryz.underlying0
  a0 := Tryz.isAgg0
  z0 := Tryz.sizeOf0
  v0 := Tryz.zeroValue0
  t3 := Tryz.underlying3
  a3 := Tryz.isAgg3
  z3 := Tryz.sizeOf3
  v3 := Tryz.zeroValue3
  t4 := Tryz.underlying4
  a4 := Tryz.isAgg4
  z4 := Tryz.sizeOf4
  v4 := Tryz.zeroValue4
  t22 := Tryz.underlying22
  a22 := Tryz.isAgg22
  z22 := Tryz.sizeOf22
  v22 := Tryz.zeroValue22
  a23 := Tryz.isAgg3
  z23 := Tryz.sizeOf3
  t25 := Tryz.underlying68
  a25 := Tryz.isAgg68
  z25 := Tryz.sizeOf68
  v25 := Tryz.zeroValue68 }

/-- slices.DeleteFunc of a list of the call's own, by a closure that reads one cell of another block. -/
theorem delOwn_c (w : World) (H n cap g : Nat) (b : Addr) (p : Int → Bool) (C : Option Addr) (xs : List Int) (hr : w.ownsRow H 3 1 (.slice C n cap) n (xs.map (Value.int .i64))) (hn : n ≤ 9223372036854775807) (hn0 : 0 < n)
    (eg : ∀ args w, (callFunc g args).run Tryz.prog w = .ok (.enter g args) w) (u : Value) (hb : w.cell? b = some u) (hbC : ∀ c, C = some c → c.block ≠ b.block)
    (hp : ∀ (W : World) (x : Int), W.cell? b = some u → Calls Tryz.prog g #[.int .i64 x, .pointer (some b)] W fun e w' => e = .returned (.bool (p x)) ∧ ∃ q, w' = W.drewN q) :
    Calls Tryz.prog 49 #[.slice C n cap, .func (.func g) #[] #[.pointer (some b)]] w fun e w' => e = .returned (.slice C (xs.filter fun x => !p x).length cap) ∧
      w'.ownsRow H 3 1 (.slice C (xs.filter fun x => !p x).length cap) (xs.filter fun x => !p x).length ((xs.filter fun x => !p x).map (Value.int .i64)) ∧ w.grownBy w' (Value.slice C n cap).ownBlock := by
  have hl : xs.length = n := by simpa using hr.1
  rcases hr.2 with ⟨hv, hz0⟩ | ⟨gb, cap2, cur, hv, hbase, hgb, r1, r2, r3, r4⟩
  · omega
  · cases hv
    subst hl
    have hne : gb ≠ b.block := hbC _ rfl
    have hH : Holds (Value.int .i64) w gb 0 xs.toArray := holds_of_blockI hgb (by simpa using r4)
    have hcb : ∀ (d : Array Int) (n : Nat) (os : Array Obj), (grow (putRow (Value.int .i64) (Sort.ahead w n) gb 0 d) os).cell? b = some u := fun d n os =>
      (Keeps.of_grown (grownBy_sortedI (w := w) (g := gb) (n := n) (os := os) d)).cell hb (fun e => hne (Option.some.inj e))
    refine (AnyE.slices_DeleteFunc delL (Value.int .i64) (fun _ => rfl) p g #[.pointer (some b)] eg 0 Tryz.zeroValue3 gb 0 cap xs.toArray w (fun W x hW => hp W x (cell_later hW hb)) (fun q os dk x _ => hp _ x (hcb dk q os)) hH (by simpa using hn) (by simpa using r1)).mono ?_
    rintro e w' ⟨rfl, q, rfl⟩
    simp only [List.toList_toArray, List.size_toArray]
    obtain ⟨ys, hys⟩ : ∃ ys, xs.filter (fun x => !p x) = ys := ⟨_, rfl⟩
    have hyl : ys.length ≤ xs.length := by rw [← hys]; exact List.length_filter_le ..
    rw [hys]
    have hts : (ys ++ List.replicate (xs.length - ys.length) 0).length = xs.length := by simp; omega
    have h1 := ownsRow_sortedI (ts := ys ++ List.replicate (xs.length - ys.length) 0) (n := q) (os := #[]) hts hbase hgb r1 r2 r3
    have h2 : w.grownBy (grow (putRow (Value.int .i64) (Sort.ahead w q) gb 0 (ys ++ List.replicate (xs.length - ys.length) 0).toArray) #[]) (some gb) := grownBy_sortedI _
    rw [grow_empty] at h1 h2
    refine ⟨trivial, ?_, h2⟩
    have h3 := own_frontC h1 hyl
    rw [← List.map_take, List.take_left' rfl] at h3
    exact h3
/-- .. of an empty one. -/
theorem delNil_c (w : World) (C : Option Addr) (cap g : Nat) (b : Addr) (he : ∀ (x : Int) (wz : World), (callFunc g #[.int .i64 x, .pointer (some b)]).run Tryz.prog wz = .ok (.enter g #[.int .i64 x, .pointer (some b)]) wz) :
    Calls Tryz.prog 49 #[.slice C 0 cap, .func (.func g) #[] #[.pointer (some b)]] w fun e w' => e = .returned (.slice C 0 cap) ∧ Below w.heap.size w w' := by
  have HI := Lib.hid (indexFunc_d1 w g b (fun _ => false) C 0 cap [] ⟨rfl, fun i v h => by simp at h⟩ (by omega) he (fun x hx => by simp at hx))
  clear he
  go_enter Tryz.func49, Tryz.ntmps49
  go_wp2_with fail
  refine (HI.out).mono ?_
  rintro e w' ⟨rfl, hb⟩
  have HB := Lib.hid hb
  clear hb
  rw [show place (([] : List Int).findIdx? fun _ => false) = -1 from rfl]
  go_wp2_with fail
  first | exact bodyPost_ret (v := .slice C 0 cap) (by simp [results, Tryz.results49, go_sem]) rfl ⟨rfl, HB.out⟩ | go_end0
end Go.Proofs.YtedmmmlahpmmoaaGreatDoor
