/- A graph's arrows the other way round: graph.back, inject.turned. Condition: the graph reads from memory. -/
import Derived.Test.YtedmmmlahpmmoaaGreatDoorV7
import Derived.Test.YtedmmmlahpmmoaaGreatDoorV13
import Derived.Test.YtedmmmlahpmmoaaGreatDoorV14
namespace Go.Proofs.YtedmmmlahpmmoaaGreatDoor
open Go.RowKit RuleP TarjP

theorem sum_push (L : List (List Nat)) (x : Nat) : ∀ {t : Nat}, t < L.length → ((pushAt L t x).map List.length).sum = (L.map List.length).sum + 1 := by
  induction L with
  | nil => intro t h; simp at h
  | cons l L ih =>
    intro t h
    cases t with
    | zero => simp [pushAt]; omega
    | succ t =>
      have := ih (t := t) (by simpa using h)
      simp only [pushAt, List.getD_cons_succ, List.set_cons_succ, List.map_cons, List.sum_cons] at this ⊢
      omega
theorem backV_sum (g : List (List Nat)) (v : Nat) : ∀ (ts : List Nat) (L : List (List Nat)), (∀ t ∈ ts, t < L.length) → ((backV g v ts L).map List.length).sum = (L.map List.length).sum + ts.length
  | [], L, _ => rfl
  | t :: ts, L, h => by
    show ((backV g v ts (pushAt L t v)).map List.length).sum = _
    rw [backV_sum g v ts (pushAt L t v) (fun t' ht' => by rw [pushAt_len]; exact h t' (List.mem_cons_of_mem _ ht')), sum_push L v (h t List.mem_cons_self), List.length_cons]
    omega
theorem backTo_sum {g : List (List Nat)} (hg : Graph g) : ∀ v, v ≤ g.length → ((backTo g v).map List.length).sum = arrTo g v
  | 0, _ => by simp [backTo, arrTo]
  | v + 1, h => by
    rw [backTo, backV_sum g v _ _ (fun t ht => by rw [backTo_len]; exact hg v t ht), backTo_sum hg v (by omega), arrTo_succ g (by omega)]
theorem tRowsJ : ElemT Tryz.prog 49 22 (.slice none 0 0) 24 := ⟨by kernel_rfl, by kernel_rfl, rfl⟩
/-- One row of a list grows by an element. -/
theorem rows_grow {w w' : World} {B g n : Nat} {rows : List Value} {L : List (List Nat)} (h : RowsAt w B (.slice (some ⟨g, 0, none⟩) n n) rows (L.map ints) (fun _ => False)) (hn : L.length = n) {j x : Nat} {v : Value} (hj : j < n) (hv : rows[j]? = some v) {g3 cap : Nat}
    (hk : Keeps (fun b => v.ownBlock = some b) w w') (hg : v.ownBlock = some g3 ∨ w.heap.size ≤ g3) (hown : w'.ownsRow B 3 1 (.slice (some ⟨g3, 0, none⟩) ((L.getD j []).length + 1) cap) ((L.getD j []).length + 1) ((ints (L.getD j [])).map (Value.int .i64) ++ [.int .i64 (x : Int)])) :
    RowsAt (w'.setCell ⟨g, j, none⟩ (.slice (some ⟨g3, 0, none⟩) ((L.getD j []).length + 1) cap)) B (.slice (some ⟨g, 0, none⟩) n n) (rows.set j (.slice (some ⟨g3, 0, none⟩) ((L.getD j []).length + 1) cap)) ((pushAt L j x).map ints) (fun _ => False) := by
  have hLl : (L.map ints).length = n := by rw [List.length_map, hn]
  have hrl : rows.length = n := by rw [h.len, hLl]
  have hlst := h.lst
  rw [hLl] at hlst
  have hvm : v ∈ rows := List.mem_of_getElem? hv
  have hvg : v.ownBlock ≠ some g := fun e => by
    obtain ⟨l, _, h2, _⟩ := h.mem hvm
    exact own_ne_own h2 hlst (by decide) e rfl
  have hl1 := own_keeps hlst hk (fun b hb hO => by
    have e : g = b := by simpa [Value.ownBlock] using hb
    rw [← e] at hO
    exact hvg hO)
  have hst := (hl1.stored j (.slice (some ⟨g3, 0, none⟩) ((L.getD j []).length + 1) cap)).1
  have hks := Keeps.of_setCell w' ⟨g, j, none⟩ (.slice (some ⟨g3, 0, none⟩) ((L.getD j []).length + 1) cap)
  have hng : ∀ {v' : Value} {m : Nat} {xs : List Value}, w'.ownsRow B 3 1 v' m xs → (w'.setCell ⟨g, j, none⟩ (.slice (some ⟨g3, 0, none⟩) ((L.getD j []).length + 1) cap)).ownsRow B 3 1 v' m xs := fun ho => own_keeps ho hks (fun b hb hO => by
    have e : b = g := hO
    rw [e] at hb
    exact own_ne_own ho hl1 (by decide) hb rfl)
  have hPl : ((pushAt L j x).map ints).length = n := by rw [List.length_map, pushAt_len, hn]
  refine RowsAt.mk' (by rw [hPl]; exact hst) ?_ ?_
  · intro i l hl
    have hi : i < n := by have := (List.getElem?_eq_some_iff.1 hl).1; omega
    rw [List.getElem?_map] at hl
    by_cases e : j = i
    · subst e
      have hl2 : (pushAt L j x)[j]? = some (L.getD j [] ++ [x]) := by
        unfold pushAt
        rw [List.getElem?_set, if_pos rfl, if_pos (by omega)]
      rw [hl2] at hl
      have e2 : ints (L.getD j [] ++ [x]) = l := Option.some.inj hl
      refine ⟨_, by rw [List.getElem?_set, if_pos rfl, if_pos (by omega)], ?_, fun _ _ h => h⟩
      have e3 : l.length = (L.getD j []).length + 1 := by rw [← e2]; simp [ints]
      have e4 : l.map (Value.int .i64) = (ints (L.getD j [])).map (Value.int .i64) ++ [.int .i64 (x : Int)] := by rw [← e2]; simp [ints]
      rw [e3, e4]
      exact hng hown
    · have hl2 : (pushAt L j x)[i]? = L[i]? := by
        unfold pushAt
        rw [List.getElem?_set, if_neg e]
      rw [hl2, ← List.getElem?_map] at hl
      obtain ⟨u, h1, h2, _⟩ := h.el i l hl
      refine ⟨u, by rw [List.getElem?_set, if_neg e]; exact h1, hng (own_keeps h2 hk (fun b hb hO => h.far j i v u b e hv h1 hO hb)), fun _ _ h => h⟩
  · intro a b u u' gg hab hu hu' hg1 hg2
    have hold : ∀ (i : Nat) (y : Value), rows[i]? = some y → i ≠ j → y.ownBlock ≠ some g3 := fun i y hy hij e => by
      rcases hg with hg | hg
      · exact h.far j i v y g3 (fun e => hij e.symm) hv hy hg e
      · have := (h.not_new hg).2 y (List.mem_of_getElem? hy)
        exact this e
    rw [List.getElem?_set] at hu hu'
    by_cases ea : j = a
    · rw [if_pos ea, if_pos (by omega)] at hu
      have eu : g3 = gg := by rw [← Option.some.inj hu] at hg1; simpa [Value.ownBlock] using hg1
      rw [if_neg (fun eb => hab (ea.symm.trans eb))] at hu'
      rw [← eu] at hg2
      exact hold b u' hu' (fun eb => hab (ea.symm.trans eb.symm)) hg2
    · rw [if_neg ea] at hu
      by_cases eb : j = b
      · rw [if_pos eb, if_pos (by omega)] at hu'
        have eu : g3 = gg := by rw [← Option.some.inj hu'] at hg2; simpa [Value.ownBlock] using hg2
        rw [← eu] at hg1
        exact hold a u hu (fun e => ea e.symm) hg1
      · rw [if_neg eb] at hu'
        exact h.far a b u u' gg hab hu hu' hg1 hg2
theorem rows_start (w : World) (n : Nat) (hn : n ≤ maxLen) : RowsAt (w.alloc (.cells (madeCells #[.slice none 0 0] n) 22)) w.heap.size (.slice (some ⟨w.heap.size, 0, none⟩) n n) (List.replicate n (.slice none 0 0)) ((List.replicate n ([] : List Nat)).map ints) (fun _ => False) := by
  have h1 := World.ownsRow_lit (base := w.heap.size) (e := 22) (size := 1) w (madeCells #[.slice none 0 0] n) n (Nat.le_refl _) hn (by rw [size_madeCells]; simp)
  rw [toList_madeCells_one] at h1
  refine RowsAt.mk' (by rw [List.length_map, List.length_replicate]; exact h1) ?_ ?_
  · intro j l hl
    have hj : j < n := by have := (List.getElem?_eq_some_iff.1 hl).1; simpa using this
    rw [List.getElem?_map, List.getElem?_replicate, if_pos hj] at hl
    have e : ints [] = l := Option.some.inj hl
    subst e
    exact ⟨.slice none 0 0, by rw [List.getElem?_replicate, if_pos hj], World.ownsRow_nil _ _ _ _, fun _ _ h => h⟩
  · intro a b u u' gg _ hu _ hg1 _
    have ha : a < n := by have := (List.getElem?_eq_some_iff.1 hu).1; simpa using this
    rw [List.getElem?_replicate, if_pos ha] at hu
    rw [← Option.some.inj hu] at hg1
    simp [Value.ownBlock] at hg1
theorem listAt_rows {w : World} {B g n : Nat} {rows : List Value} {L : List (List Int)} (h : RowsAt w B (.slice (some ⟨g, 0, none⟩) n n) rows L (fun _ => False)) (hn : L.length = n) : ListAt w (some ⟨g, 0, none⟩) n L := by
  have hlst := h.lst
  rw [hn] at hlst
  refine ⟨rows, Sl.of_own hlst, hn.symm, fun j l hl => ?_⟩
  obtain ⟨v, h1, h2, _⟩ := h.el j l hl
  obtain ⟨A, c, rfl, _, hc⟩ := ownN_slice h2
  exact ⟨A, c, h1, by have := own_le h2; simp only [maxLen] at this; omega, Sl.of_own h2⟩


set_option maxRecDepth 100000 in
set_option maxHeartbeats 4000000 in
theorem grBack_c (w : World) (C : Option Addr) (M : Nat) (g : List (List Nat)) (hg : Graph g) (hM : g.length = M) (hG : ListAt w C M (g.map ints)) (h8 : M ≤ 8192) (hlen : ∀ u, (g.getD u []).length ≤ 1000000) (har : (g.map List.length).sum ≤ 262144) :
    Calls Tryz.prog 64 #[.slice C M M] w fun e w' => ∃ go, e = .returned (.slice (some ⟨go, 0, none⟩) M M) ∧ ListAt w' (some ⟨go, 0, none⟩) M ((backP g).map ints) ∧ Below w.heap.size w w' := by
  have hmk := run_make_row' (P := Tryz.prog) 49 22 (.slice none 0 0) 24 tRowsJ.und tRowsJ.info rfl .i64 .i64 M (by omega) (by omega) w
  have h0 := rows_start w M (by simp only [maxLen]; omega)
  have b0 := (Below.refl w.heap.size w).alloc (Nat.le_refl _) (.cells (madeCells #[.slice none 0 0] M) 22)
  obtain ⟨w1, hw1⟩ : ∃ w1, w.alloc (.cells (madeCells #[.slice none 0 0] M) 22) = w1 := ⟨_, rfl⟩
  rw [hw1] at h0 b0
  obtain ⟨go, hgo⟩ : ∃ go, w.heap.size = go := ⟨_, rfl⟩
  have HW1 := Lib.hid hw1
  have HGO := Lib.hid hgo
  have HR0 : Hid (∃ rows, RowsAt w1 w.heap.size (.slice (some ⟨go, 0, none⟩) M M) rows ((backTo g 0).map ints) (fun _ => False)) := Lib.hid ⟨_, by rw [backTo, hM, ← hgo]; exact h0⟩
  have B0 := Lib.hid b0
  have HG := Lib.hid (fun (wz : World) (hz : Below w.heap.size w wz) => hG.keep hz)
  have HGW := Lib.hid hG
  have HGR := Lib.hid (And.intro hg hM)
  have HLEN := Lib.hid hlen
  have HLB := Lib.hid (show ∀ i j s, i < M → (((backV g i ((g.getD i []).take j) (backTo g i))).getD s []).length ≤ 524288 from fun i j s hi => by
    have h1 := len_le_sum (backV g i ((g.getD i []).take j) (backTo g i)) s
    have h2 := backV_sum g i ((g.getD i []).take j) (backTo g i) (fun t ht => by rw [backTo_len]; exact hg i t (List.mem_of_mem_take ht))
    have h3 := backTo_sum hg i (by omega)
    have h4 := arrTo_le g i
    have h5 : ((g.getD i []).take j).length ≤ (g.getD i []).length := by rw [List.length_take]; exact Nat.min_le_right _ _
    have h6 := len_le_sum g i
    omega)
  clear h0 b0 hw1 hgo hG hg hM hlen har
  go_enter Tryz.func64, Tryz.ntmps64
  go_wp2_with fail
  rw [HW1.out, HGO.out]
  clear hmk
  go_loopw [13] (fun iv wl => ∃ i : Nat, i ≤ M ∧ iv = .int .i64 (i : Int) ∧ Hid (∃ rows, RowsAt wl w.heap.size (.slice (some ⟨go, 0, none⟩) M M) rows ((backTo g i).map ints) (fun _ => False)) ∧ Hid (Below w.heap.size w wl)) (fun iv _ => M - (intOf iv).toNat)
  case atStart => exact ⟨0, Nat.zero_le _, rfl, HR0, B0⟩
  case round =>
    clear HR0 B0
    obtain ⟨i, hi, rfl, HR, BB⟩ := hrel
    obtain ⟨v0, rfl⟩ : ∃ v0, v0 = wr := ⟨_, rfl⟩
    by_cases hlt : i < M
    · have hlt' : (i : Int) < (M : Int) := by omega
      obtain ⟨adg, P, L, cr, rfl, hcr0, hL, hsr0⟩ := graph_row HGW.out hlt
      have hcr := cell_later BB.out hcr0
      have HSR0 := Lib.hid hsr0
      have HL := Lib.hid hL
      have hLb := HLEN.out i
      rw [hL] at hLb
      clear hcr0 hsr0 hL
      go_wp2_with fail
      clear hcr
      go_loopw [20] (fun jv wl => ∃ j : Nat, j ≤ L ∧ jv = .int .i64 (j : Int) ∧ Hid (∃ rows, RowsAt wl w.heap.size (.slice (some ⟨go, 0, none⟩) M M) rows ((backV g i ((g.getD i []).take j) (backTo g i)).map ints) (fun _ => False)) ∧ Hid (Below w.heap.size w wl)) (fun jv _ => L - (intOf jv).toNat)
      case atStart => exact ⟨0, Nat.zero_le _, rfl, HR, BB⟩
      case round =>
        clear HR BB
        obtain ⟨j, hj, rfl, HR, BB⟩ := hrel
        by_cases hlt2 : j < L
        · have hlt2' : (j : Int) < (L : Int) := by omega
          have hsr := HSR0.out.below BB.out
          rw [ints_map] at hsr
          obtain ⟨pad, t, rfl, hT, hct⟩ := hsr.word_ hlt2
          have htM : t < M := by
            have h1 := HGR.out.1 i t (List.mem_of_getElem? hT)
            rw [HGR.out.2] at h1
            exact h1
          have hnx : backV g i ((g.getD i []).take (j + 1)) (backTo g i) = pushAt (backV g i ((g.getD i []).take j) (backTo g i)) t i := by
            unfold backV
            rw [List.take_add_one, hT]
            simp
          have hlb := HLB.out i j t hlt
          have hSl : (backV g i ((g.getD i []).take j) (backTo g i)).length = M := by rw [backV_len, backTo_len, HGR.out.2]
          obtain ⟨S, hS⟩ : ∃ S, backV g i ((g.getD i []).take j) (backTo g i) = S := ⟨_, rfl⟩
          rw [hS] at HR hnx hlb hSl
          obtain ⟨rows, hrows⟩ := HR.out
          have hSt : (S.map ints)[t]? = some (ints (S.getD t [])) := by
            rw [List.getElem?_map, List.getD_eq_getElem?_getD, List.getElem?_eq_getElem (by omega)]
            rfl
          obtain ⟨v, hv, hown, _⟩ := hrows.el t _ hSt
          have hlst := hrows.lst
          rw [List.length_map, hSl] at hlst
          have hrl : rows.length = M := by rw [hrows.len, List.length_map, hSl]
          have cv : wr.cell? ⟨go, t, none⟩ = some v := by rw [hlst.cellAt t (by omega), hv]
          have k8 : (t : Int) < (M : Int) := by omega
          have k9 : (0 : Int) ≤ (t : Int) := by omega
          obtain ⟨sl, hsl⟩ : ∃ sl, (S.getD t []).length = sl := ⟨_, rfl⟩
          have hil : (ints (S.getD t [])).length = sl := by rw [← hsl]; exact List.length_map ..
          rw [hil] at hown
          rw [hsl] at hlb
          have HOWN := Lib.hid hown
          have HLST := Lib.hid hlst
          have HROWS := Lib.hid hrows
          have HV := Lib.hid (And.intro hv hSl)
          have HNX := Lib.hid hnx
          have HSL := Lib.hid hsl
          have hBw := BB.out.size
          clear hown hlst hrows hv hSl hnx hsl hil hSt hrl hS hT hsr
          go_wp2_with (at_builtin
                       refine wpList_push_q rfl _ _ _ rfl tInts (HOWN.out.alloc _) rfl ⟨wr.heap.size, 0, none⟩ 1 rfl (.int .i64 (i : Int)) (by simp) rfl (by simp only [maxLen]; omega) (by omega) (by rw [World.size_alloc]; omega) ?_
                       intro g3 cap3 w3 hown3 hor3 hlt3
                       obtain ⟨hk3, hg3⟩ := pushS (w := wr) ((Below.refl _ _).alloc (Nat.le_refl _) _) hor3
                       have hl3 := own_keeps HLST.out hk3 (fun b hb hO => own_ne_own HLST.out HOWN.out (by decide) hb hO)
                       have ft := hl3.frozenAt t
                       have ct3 : w3.cell? ⟨go, t, none⟩ = some v := by rw [hl3.cellAt t (by omega), HV.out.1]
                       clear hor3)
          have hgr := rows_grow HROWS.out HV.out.2 htM HV.out.1 hk3 hg3 (x := i) (cap := cap3) (by rw [HSL.out]; exact hown3)
          rw [HSL.out, ← HNX.out] at hgr
          have hb3 := BB.out.trans ((hk3.below BB.out.size (fun b hb => (HOWN.out.lt b hb).1)).trans ((Keeps.of_setCell w3 ⟨go, t, none⟩ (.slice (some ⟨g3, 0, none⟩) (sl + 1) cap3)).below (Nat.le_trans BB.out.size hk3.size) (fun b hb => by rw [show b = go from hb]; exact (HLST.out.lt go rfl).1)))
          exact ⟨⟨j + 1, by omega, by go_num, Lib.hid ⟨_, hgr⟩, Lib.hid hb3⟩, by simp [intOf]; omega⟩
        · have hlt2' : ¬ (j : Int) < (L : Int) := by omega
          have hjL : (g.getD i []).take j = g.getD i [] := List.take_of_length_le (by have := HL.out; omega)
          rw [hjL] at HR
          clear hjL
          go_wp2_with fail
          exact ⟨⟨i + 1, by omega, by go_num, HR, BB⟩, by simp [intOf]; omega⟩
    · have hlt' : ¬ (i : Int) < (M : Int) := by omega
      obtain rfl : M = i := by omega
      have HL := Lib.hid (show ListAt v0 (some ⟨go, 0, none⟩) M ((backP g).map ints) by
        obtain ⟨rows, hrows⟩ := HR.out
        have h := listAt_rows hrows (by rw [List.length_map, backTo_len, HGR.out.2])
        unfold backP
        rw [HGR.out.2]
        exact h)
      go_wp2_with fail
      go_ret
      exact ⟨go, rfl, HL.out, BB.out⟩


set_option maxRecDepth 100000 in
set_option maxHeartbeats 4000000 in
theorem turned_c (w : World) (C : Option Addr) (M : Nat) (g : List (List Nat)) (hg : Graph g) (hM : g.length = M) (hG : ListAt w C M (g.map ints)) (h8 : M ≤ 8192) (hlen : ∀ u, (g.getD u []).length ≤ 1000000) (har : (g.map List.length).sum ≤ 262144) :
    Calls Tryz.prog 53 #[.slice C M M] w fun e w' => ∃ go, e = .returned (.slice (some ⟨go, 0, none⟩) M M) ∧ ListAt w' (some ⟨go, 0, none⟩) M ((backP g).map ints) ∧ Below w.heap.size w w' := by
  have hmk := run_make_row' (P := Tryz.prog) 49 22 (.slice none 0 0) 24 tRowsJ.und tRowsJ.info rfl .i64 .i64 M (by omega) (by omega) w
  have h0 := rows_start w M (by simp only [maxLen]; omega)
  have b0 := (Below.refl w.heap.size w).alloc (Nat.le_refl _) (.cells (madeCells #[.slice none 0 0] M) 22)
  obtain ⟨w1, hw1⟩ : ∃ w1, w.alloc (.cells (madeCells #[.slice none 0 0] M) 22) = w1 := ⟨_, rfl⟩
  rw [hw1] at h0 b0
  obtain ⟨go, hgo⟩ : ∃ go, w.heap.size = go := ⟨_, rfl⟩
  have HW1 := Lib.hid hw1
  have HGO := Lib.hid hgo
  have HR0 : Hid (∃ rows, RowsAt w1 w.heap.size (.slice (some ⟨go, 0, none⟩) M M) rows ((backTo g 0).map ints) (fun _ => False)) := Lib.hid ⟨_, by rw [backTo, hM, ← hgo]; exact h0⟩
  have B0 := Lib.hid b0
  have HG := Lib.hid (fun (wz : World) (hz : Below w.heap.size w wz) => hG.keep hz)
  have HGW := Lib.hid hG
  have HGR := Lib.hid (And.intro hg hM)
  have HLEN := Lib.hid hlen
  have HLB := Lib.hid (show ∀ i j s, i < M → (((backV g i ((g.getD i []).take j) (backTo g i))).getD s []).length ≤ 524288 from fun i j s hi => by
    have h1 := len_le_sum (backV g i ((g.getD i []).take j) (backTo g i)) s
    have h2 := backV_sum g i ((g.getD i []).take j) (backTo g i) (fun t ht => by rw [backTo_len]; exact hg i t (List.mem_of_mem_take ht))
    have h3 := backTo_sum hg i (by omega)
    have h4 := arrTo_le g i
    have h5 : ((g.getD i []).take j).length ≤ (g.getD i []).length := by rw [List.length_take]; exact Nat.min_le_right _ _
    have h6 := len_le_sum g i
    omega)
  clear h0 b0 hw1 hgo hG hg hM hlen har
  go_enter Tryz.func53, Tryz.ntmps53
  go_wp2_with fail
  rw [HW1.out, HGO.out]
  clear hmk
  go_loopw [13] (fun iv wl => ∃ i : Nat, i ≤ M ∧ iv = .int .i64 (i : Int) ∧ Hid (∃ rows, RowsAt wl w.heap.size (.slice (some ⟨go, 0, none⟩) M M) rows ((backTo g i).map ints) (fun _ => False)) ∧ Hid (Below w.heap.size w wl)) (fun iv _ => M - (intOf iv).toNat)
  case atStart => exact ⟨0, Nat.zero_le _, rfl, HR0, B0⟩
  case round =>
    clear HR0 B0
    obtain ⟨i, hi, rfl, HR, BB⟩ := hrel
    obtain ⟨v0, rfl⟩ : ∃ v0, v0 = wr := ⟨_, rfl⟩
    by_cases hlt : i < M
    · have hlt' : (i : Int) < (M : Int) := by omega
      obtain ⟨adg, P, L, cr, rfl, hcr0, hL, hsr0⟩ := graph_row HGW.out hlt
      have hcr := cell_later BB.out hcr0
      have HSR0 := Lib.hid hsr0
      have HL := Lib.hid hL
      have hLb := HLEN.out i
      rw [hL] at hLb
      clear hcr0 hsr0 hL
      go_wp2_with fail
      clear hcr
      go_loopw [20] (fun jv wl => ∃ j : Nat, j ≤ L ∧ jv = .int .i64 (j : Int) ∧ Hid (∃ rows, RowsAt wl w.heap.size (.slice (some ⟨go, 0, none⟩) M M) rows ((backV g i ((g.getD i []).take j) (backTo g i)).map ints) (fun _ => False)) ∧ Hid (Below w.heap.size w wl)) (fun jv _ => L - (intOf jv).toNat)
      case atStart => exact ⟨0, Nat.zero_le _, rfl, HR, BB⟩
      case round =>
        clear HR BB
        obtain ⟨j, hj, rfl, HR, BB⟩ := hrel
        by_cases hlt2 : j < L
        · have hlt2' : (j : Int) < (L : Int) := by omega
          have hsr := HSR0.out.below BB.out
          rw [ints_map] at hsr
          obtain ⟨pad, t, rfl, hT, hct⟩ := hsr.word_ hlt2
          have htM : t < M := by
            have h1 := HGR.out.1 i t (List.mem_of_getElem? hT)
            rw [HGR.out.2] at h1
            exact h1
          have hnx : backV g i ((g.getD i []).take (j + 1)) (backTo g i) = pushAt (backV g i ((g.getD i []).take j) (backTo g i)) t i := by
            unfold backV
            rw [List.take_add_one, hT]
            simp
          have hlb := HLB.out i j t hlt
          have hSl : (backV g i ((g.getD i []).take j) (backTo g i)).length = M := by rw [backV_len, backTo_len, HGR.out.2]
          obtain ⟨S, hS⟩ : ∃ S, backV g i ((g.getD i []).take j) (backTo g i) = S := ⟨_, rfl⟩
          rw [hS] at HR hnx hlb hSl
          obtain ⟨rows, hrows⟩ := HR.out
          have hSt : (S.map ints)[t]? = some (ints (S.getD t [])) := by
            rw [List.getElem?_map, List.getD_eq_getElem?_getD, List.getElem?_eq_getElem (by omega)]
            rfl
          obtain ⟨v, hv, hown, _⟩ := hrows.el t _ hSt
          have hlst := hrows.lst
          rw [List.length_map, hSl] at hlst
          have hrl : rows.length = M := by rw [hrows.len, List.length_map, hSl]
          have cv : wr.cell? ⟨go, t, none⟩ = some v := by rw [hlst.cellAt t (by omega), hv]
          have k8 : (t : Int) < (M : Int) := by omega
          have k9 : (0 : Int) ≤ (t : Int) := by omega
          obtain ⟨sl, hsl⟩ : ∃ sl, (S.getD t []).length = sl := ⟨_, rfl⟩
          have hil : (ints (S.getD t [])).length = sl := by rw [← hsl]; exact List.length_map ..
          rw [hil] at hown
          rw [hsl] at hlb
          have HOWN := Lib.hid hown
          have HLST := Lib.hid hlst
          have HROWS := Lib.hid hrows
          have HV := Lib.hid (And.intro hv hSl)
          have HNX := Lib.hid hnx
          have HSL := Lib.hid hsl
          have hBw := BB.out.size
          clear hown hlst hrows hv hSl hnx hsl hil hSt hrl hS hT hsr
          go_wp2_with (at_builtin
                       refine wpList_push_q rfl _ _ _ rfl tInts (HOWN.out.alloc _) rfl ⟨wr.heap.size, 0, none⟩ 1 rfl (.int .i64 (i : Int)) (by simp) rfl (by simp only [maxLen]; omega) (by omega) (by rw [World.size_alloc]; omega) ?_
                       intro g3 cap3 w3 hown3 hor3 hlt3
                       obtain ⟨hk3, hg3⟩ := pushS (w := wr) ((Below.refl _ _).alloc (Nat.le_refl _) _) hor3
                       have hl3 := own_keeps HLST.out hk3 (fun b hb hO => own_ne_own HLST.out HOWN.out (by decide) hb hO)
                       have ft := hl3.frozenAt t
                       have ct3 : w3.cell? ⟨go, t, none⟩ = some v := by rw [hl3.cellAt t (by omega), HV.out.1]
                       clear hor3)
          have hgr := rows_grow HROWS.out HV.out.2 htM HV.out.1 hk3 hg3 (x := i) (cap := cap3) (by rw [HSL.out]; exact hown3)
          rw [HSL.out, ← HNX.out] at hgr
          have hb3 := BB.out.trans ((hk3.below BB.out.size (fun b hb => (HOWN.out.lt b hb).1)).trans ((Keeps.of_setCell w3 ⟨go, t, none⟩ (.slice (some ⟨g3, 0, none⟩) (sl + 1) cap3)).below (Nat.le_trans BB.out.size hk3.size) (fun b hb => by rw [show b = go from hb]; exact (HLST.out.lt go rfl).1)))
          exact ⟨⟨j + 1, by omega, by go_num, Lib.hid ⟨_, hgr⟩, Lib.hid hb3⟩, by simp [intOf]; omega⟩
        · have hlt2' : ¬ (j : Int) < (L : Int) := by omega
          have hjL : (g.getD i []).take j = g.getD i [] := List.take_of_length_le (by have := HL.out; omega)
          rw [hjL] at HR
          clear hjL
          go_wp2_with fail
          exact ⟨⟨i + 1, by omega, by go_num, HR, BB⟩, by simp [intOf]; omega⟩
    · have hlt' : ¬ (i : Int) < (M : Int) := by omega
      obtain rfl : M = i := by omega
      have HL := Lib.hid (show ListAt v0 (some ⟨go, 0, none⟩) M ((backP g).map ints) by
        obtain ⟨rows, hrows⟩ := HR.out
        have h := listAt_rows hrows (by rw [List.length_map, backTo_len, HGR.out.2])
        unfold backP
        rw [HGR.out.2]
        exact h)
      go_wp2_with fail
      go_ret
      exact ⟨go, rfl, HL.out, BB.out⟩

end Go.Proofs.YtedmmmlahpmmoaaGreatDoor
