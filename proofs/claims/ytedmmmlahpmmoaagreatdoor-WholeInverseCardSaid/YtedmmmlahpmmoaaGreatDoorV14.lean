/- The numbers of a graph's parts: graph.Parts of a graph that is one. Condition: the graph reads from memory. A list of lists of numbers as the call's own memory holds it: the list's row, the rows of its elements, apart from one another. Plain lemmas, no program. No condition. -/
import Derived.Deep.DeepCutAuto
import Derived.Maps.OwnOps
import Derived.Maps.OwnSet
import Derived.Maps.Views
import Derived.WalkKit
import Derived.Test.YtedmmmlahpmmoaaGreatDoorV6
import Derived.Test.YtedmmmlahpmmoaaGreatDoorV8
import Derived.Test.YtedmmmlahpmmoaaGreatDoorV13
namespace Go.Proofs.YtedmmmlahpmmoaaGreatDoor
open Go.RowKit Go.WideMaps Go.Maps RuleP TarjP

theorem zeroJ (w : World) : (zeroValue 3).run Tryz.prog w = .ok (.int .i64 0) w := by kernel_rfl
theorem keyJ : Keyed Tryz.prog 3 := int_keyed Tryz.underlying3
theorem keyJ_of (x : Nat) (h : x ≤ 1000000) : keyOf Tryz.prog 3 (.int .i64 (x : Int)) = some (.int .i64 (x : Int)) := keyOf_int_mk Tryz.underlying3 (WalkArith.wf_i64 (by omega))
theorem get_snocJ {α : Type} {l : List α} {a x : α} {i : Nat} (h : (l ++ [a])[i]? = some x) : l[i]? = some x ∨ (i = l.length ∧ x = a) := by
  rcases Nat.lt_or_ge i l.length with hi | hi
  · rw [List.getElem?_append_left hi] at h
    exact .inl h
  · rw [List.getElem?_append_right hi] at h
    rcases Nat.eq_zero_or_pos (i - l.length) with h0 | h0
    · rw [h0] at h
      simp at h
      exact .inr ⟨by omega, h.symm⟩
    · rw [List.getElem?_eq_none (by simp; omega)] at h
      cases h
/-- The map numbers the keys in their order, and counts them. -/
def RelJ (D : DataW Unit) (K : List Nat) : Prop :=
  Maps.IsMap D ∧ Maps.size D = K.length ∧ ∀ x : Nat, Maps.has D (.int .i64 (x : Int)) = decide (x ∈ K) ∧ ∀ i : Nat, K[i]? = some x → D.atKey (.int .i64 (x : Int)) (.lit (.int .i64 0)) = .lit (.int .i64 (i : Int))
theorem atJ {D : DataW Unit} {l : Lit} {z : DataW Unit} {a b : Int} (h1 : D.atKey l z = .lit (.int .i64 a)) (h2 : D.atKey l z = .lit (.int .i64 b)) : a = b := by
  have h := h1.symm.trans h2
  injection h with h
  injection h
theorem relJ_nil : RelJ (.map []) [] := ⟨Maps.isMap_empty, rfl, fun x => ⟨rfl, fun i h => by simp at h⟩⟩
theorem size_put {D : DataW Unit} (hD : Maps.IsMap D) {k : Lit} (h : Maps.has D k = false) (d : DataW Unit) : Maps.size (D.put k d) = Maps.size D + 1 := by
  obtain ⟨es, rfl⟩ := hD
  show (DataW.insert (k, d) (es.filter fun p => !p.1.sameKey k)).length = es.length + 1
  rw [show (DataW.insert (k, d) (es.filter fun p => !p.1.sameKey k)).length = (es.filter fun p => !p.1.sameKey k).length + 1 from length_insert _ _]
  congr 1
  have hf : es.filter (fun p => !p.1.sameKey k) = es := by
    rw [List.filter_eq_self]
    intro p hp
    have h1 : es.any (fun p => p.1.sameKey k) = false := h
    rw [List.any_eq_false] at h1
    simpa using h1 p hp
  rw [hf]
theorem relJ_snoc {D : DataW Unit} {S : List Nat} (h : RelJ D S) {l : Nat} (hn : l ∉ S) : RelJ (D.put (.int .i64 (l : Int)) (.lit (.int .i64 (S.length : Int)))) (S ++ [l]) := by
  refine ⟨h.1.put _ _, ?_, fun l' => ?_⟩
  · rw [size_put h.1 (by rw [(h.2.2 l).1]; exact decide_eq_false hn), h.2.1]
    simp
  by_cases e : l' = l
  · subst e
    refine ⟨?_, fun i hi => ?_⟩
    · rw [Maps.has_put_same h.1 (by simp [WideAt.IsKeyLit])]; simp
    · rw [Maps.atKey_put_same h.1 (by simp [WideAt.IsKeyLit])]
      rcases get_snocJ hi with hi | ⟨hi, _⟩
      · exact absurd (List.mem_of_getElem? hi) hn
      · rw [hi]
  · have hne : (Lit.int .i64 (l' : Int)) ≠ Lit.int .i64 (l : Int) := by
      intro e'
      injection e' with _ e'
      exact e (by omega)
    refine ⟨?_, fun i hi => ?_⟩
    · rw [Maps.has_put_other hne, (h.2.2 l').1, decide_eq_decide]; simp [e]
    · rw [Maps.atKey_put_other hne]
      rcases get_snocJ hi with hi | ⟨_, hi⟩
      · exact (h.2.2 l').2 i hi
      · exact absurd hi e
theorem putQ {a : List Nat} {i x L : Nat} (hl : a.length = L) (hx : a[i]? = some x) (hi : i < L) : (a.take i ++ List.replicate (L - i) 0).set i x = a.take (i + 1) ++ List.replicate (L - (i + 1)) 0 := by
  have h1 : (a.take i).length = i := by rw [List.length_take]; omega
  rw [List.set_append, h1, if_neg (by omega), Nat.sub_self]
  rw [show L - i = (L - (i + 1)) + 1 by omega, List.replicate_succ, List.set_cons_zero, List.take_add_one, hx]
  simp
theorem putQ0 {a : List Nat} {i L : Nat} (hl : a.length = L) (hi : i < L) : (a.take i ++ List.replicate (L - i) 0)[i]? = some 0 := by
  rw [List.getElem?_append_right (by rw [List.length_take]; omega), List.length_take, hl, Nat.min_eq_left (by omega), Nat.sub_self, List.getElem?_replicate, if_pos (by omega)]
theorem mem_le_sumJ : ∀ {l : List Nat} {x : Nat}, x ∈ l → x ≤ l.sum
  | y :: l, x, h => by
    rw [List.sum_cons]
    rcases List.mem_cons.1 h with rfl | h
    · omega
    · have := mem_le_sumJ h; omega
theorem len_le_sum (g : List (List Nat)) (u : Nat) : (g.getD u []).length ≤ (g.map List.length).sum := by
  rw [List.getD_eq_getElem?_getD]
  rcases Nat.lt_or_ge u g.length with h | h
  · rw [List.getElem?_eq_getElem h]
    exact mem_le_sumJ (List.mem_map.2 ⟨_, List.getElem_mem h, rfl⟩)
  · rw [List.getElem?_eq_none h]
    exact Nat.zero_le _
theorem sl_one {w : World} {a : Nat} {u : Value} (h : w.cell? ⟨a, 0, none⟩ = some u) : Sl w (some ⟨a, 0, none⟩) 1 [u] :=
  ⟨rfl, fun j v hj => by
    match j, hj with
    | 0, hj =>
      simp at hj
      subst hj
      exact ⟨_, rfl, by simpa [Addr.add] using h⟩⟩
theorem zerosAt (X : World) (B a n : Nat) (ha : X.heap.size = a) (hB : B ≤ a) (hn : n ≤ maxLen) : (X.alloc (.cells (madeCells #[.int .i64 0] n) 3)).ownsRow B 3 1 (.slice (some ⟨a, 0, none⟩) n n) n ((ints (List.replicate n 0)).map (Value.int .i64)) := by
  subst ha
  exact own_base (make_ints X n hn) hB

theorem lit_at (X : World) (a : Nat) (u : Value) (t : TypeId) (h : X.heap.size = a) : (X.alloc (.cells #[u] t)).cell? ⟨a, 0, none⟩ = some u := by
  subst h
  simp
theorem cell_al {X : World} {a : Addr} {u : Value} (o : Obj) (h : X.cell? a = some u) : (X.alloc o).cell? a = some u := cell_later ((Below.refl _ _).alloc (Nat.le_refl _) o) h
theorem cell_dr {X : World} {a : Addr} {u : Value} (h : X.cell? a = some u) : X.drew.cell? a = some u := h
theorem ow_al {X : World} {B e n : Nat} {v : Value} {xs : List Value} (o : Obj) (h : X.ownsRow B e 1 v n xs) : (X.alloc o).ownsRow B e 1 v n xs := h.alloc o
theorem ow_dr {X : World} {B e n : Nat} {v : Value} {xs : List Value} (h : X.ownsRow B e 1 v n xs) : X.drew.ownsRow B e 1 v n xs := h
theorem bl_al {X Y : World} {B : Nat} (hX : B ≤ X.heap.size) (o : Obj) (h : Below B X Y) : Below B X (Y.alloc o) := h.alloc (Nat.le_trans hX h.size) o
theorem bl_dr {X Y : World} {B : Nat} (h : Below B X Y) : Below B X Y.drew := h.drew
theorem bl_call {X Y Z : World} {B : Nat} (hX : B ≤ X.heap.size) (hb : Below Y.heap.size Y Z) (h : Below B X Y) : Below B X Z := h.trans (hb.mono (Nat.le_trans hX h.size))
theorem struct_at (X : World) (a : Nat) (cs : Array Value) (t : TypeId) (h : X.heap.size = a) : (X.alloc (.cells cs t)).heap[a]? = some (.cells cs t (0, 0)) := by
  subst h
  exact heap_new _ _
theorem repeat_e (w : World) (A : Option Addr) (c : Nat) (x : Int) (hX : Sl w A 1 [.int .i64 x]) (M : Nat) (hM1 : 1 ≤ M) (hM : M ≤ 100000) :
    Calls Tryz.prog 87 #[.slice A 1 c, .int .i64 (M : Int)] w fun e w' => ∃ a, w.heap.size ≤ a ∧ e = .returned (.slice (some ⟨a, 0, none⟩) M M) ∧ w'.ownsRow w.heap.size 3 1 (.slice (some ⟨a, 0, none⟩) M M) M ((List.replicate M x).map (Value.int .i64)) ∧ Below w.heap.size w w' :=
  (repeat_c w A c x hX M hM1 hM).mono fun _ _ h => ⟨_, Nat.le_refl _, h.1, by rw [List.map_replicate]; exact h.2.1, h.2.2⟩

set_option maxRecDepth 100000 in
set_option maxHeartbeats 4000000 in
theorem grParts_c (w : World) (C : Option Addr) (M c : Nat) (g : List (List Nat)) (hg : Graph g) (hM : g.length = M) (hM0 : 0 < M) (hG : ListAt w C M (g.map ints)) (h8 : M ≤ 8192) (har : (g.map List.length).sum ≤ 262144) :
    Calls Tryz.prog 62 #[.slice C M M] w fun e w' => ∃ a, e = .returned (.tuple #[.slice (some ⟨a, 0, none⟩) M M, .nilIface]) ∧ w'.ownsRow w.heap.size 3 1 (.slice (some ⟨a, 0, none⟩) M M) M ((ints (partOf g)).map (Value.int .i64)) ∧ Below w.heap.size w w' := by
  have HCK := Lib.hid (grCheck_c w C M M g hg hM hG h8 har)
  have HG := Lib.hid (fun (wz : World) (hz : Below w.heap.size w wz) => hG.keep hz)
  have HGR := Lib.hid (And.intro hg hM)
  have HAR := Lib.hid har
  have hmk := fun (wz : World) => run_make_row' (P := Tryz.prog) 22 3 (.int .i64 0) 8 tInts.und tInts.info rfl .i64 .i64 M (by omega) (by omega) wz
  have hM1 : 1 ≤ M := hM0
  have hM5 : M ≤ 100000 := by omega
  have hMx : M ≤ maxLen := by simp only [maxLen]; omega
  clear hG hg hM har
  go_enter Tryz.func62, Tryz.ntmps62
  go_wp2_with fail
  refine (HCK.out).mono ?_
  rintro e w1 ⟨rfl, b1⟩
  have B1 := Lib.hid b1
  have hw1 := b1.size
  clear b1 HCK
  go_upto_region 5 with fail
  go_cut [6] (fun s6 wx => ∃ p gl gf gp : Nat, s6 = .pointer (some ⟨p, 0, none⟩) ∧ Hid (SrchAt wx w.heap.size p gl gf gp C M M (TarjP.start M) (.slice none 0 0) (.slice none 0 0)) ∧ Hid (Below w.heap.size w wx))
  case first =>
    go_region_law (first
      | (go_simp
         go_at_call 87
         with_reducible refine (repeat_e _ _ _ (-1) (sl_one (by repeat (first | exact lit_at _ _ _ _ (by simp) | refine cell_dr ?_ | refine cell_al _ ?_))) M hM1 hM5).mono ?_
         rintro e w3 ⟨a3, ha3, rfl, hown3, hb3⟩
         dsimp only)
      | fail)
    all_goals
      have hs3 := hb3.size
      have hl3 := (hown3.lt a3 rfl).2
      simp at hs3 ha3
      try go_wp2_with fail
      go_meet
      refine ⟨_, _, _, a3, rfl, Lib.hid ⟨⟨struct_at _ _ _ _ (by simp), by omega, ?_, ?_, ?_, by omega, by omega, by omega⟩, World.ownsRow_nil _ _ _ _, World.ownsRow_nil _ _ _ _, by simp [Value.ownBlock], by simp [Value.ownBlock], by simp [Value.ownBlock]⟩, Lib.hid ?_⟩
      · change World.ownsRow _ _ _ _ _ _ ((ints (List.replicate M 0)).map (Value.int .i64))
        repeat (first | (with_reducible refine zerosAt _ _ _ _ ?_ ?_ hMx; (focus (simp; done)); omega) | with_reducible refine ow_al _ ?_ | with_reducible refine ow_dr ?_ | with_reducible refine own_below ?_ hb3)
      · change World.ownsRow _ _ _ _ _ _ ((ints (List.replicate M 0)).map (Value.int .i64))
        repeat (first | (with_reducible refine zerosAt _ _ _ _ ?_ ?_ hMx; (focus (simp; done)); omega) | with_reducible refine ow_al _ ?_ | with_reducible refine ow_dr ?_ | with_reducible refine own_below ?_ hb3)
      · change World.ownsRow _ _ _ _ _ _ ((List.replicate M (-1)).map (Value.int .i64))
        repeat (first | with_reducible exact own_base hown3 (by simp; omega) | with_reducible refine ow_al _ ?_ | with_reducible refine ow_dr ?_)
      · repeat (first | with_reducible exact B1.out | with_reducible refine bl_dr ?_ | with_reducible refine bl_al (Nat.le_refl _) _ ?_ | with_reducible refine bl_call (Nat.le_refl _) hb3 ?_)
  case rest =>
    obtain ⟨p, gl, gf, gp, rfl, H2, B2⟩ := hcut
    clear hmk
    have HBD := Lib.hid (show ∀ i, i ≤ M → (partsTo g i).time + un (partsTo g i).found g < 1000000 by
      intro i hi
      have h1 := partsTo_time HGR.out.1 i (by rw [HGR.out.2]; exact hi)
      have h2 := un_sum g.length g
      have h3 := HAR.out
      have h4 := HGR.out.2
      omega)
    have HLN := Lib.hid (show ∀ u, (g.getD u []).length ≤ 1000000 by
      intro u
      have h1 := len_le_sum g u
      have h3 := HAR.out
      omega)
    go_wp2_with fail
    go_loopw [33] (fun iv wl => ∃ (i : Nat) (ov cv : Value), i ≤ M ∧ iv = .int .i64 (i : Int) ∧ Hid (SrchAt wl w.heap.size p gl gf gp C M M (partsTo g i) ov cv) ∧ Hid (Below w.heap.size w wl)) (fun iv _ => M - (intOf iv).toNat)
    case atStart => exact ⟨0, _, _, Nat.zero_le _, rfl, Lib.hid (by rw [partsTo, HGR.out.2]; exact H2.out), B2⟩
    case round =>
      clear H2 B2
      obtain ⟨i, ov, cv, hi, rfl, H2, B2⟩ := hrel
      by_cases hlt : i < M
      · have hlt' : (i : Int) < (M : Int) := by omega
        have hi0 : (0 : Int) ≤ (i : Int) := by omega
        obtain ⟨f0, f1, f2, f3, f4, f5, f6, z3, z5, z6⟩ := H2.out.core.facts
        obtain ⟨_, x2, _, _, _⟩ := H2.out.own_low hlt
        obtain ⟨hiI, hiC⟩ := partsTo_inv HGR.out.1 i (by rw [HGR.out.2]; exact hi)
        obtain ⟨fi, hfi⟩ : ∃ fi, (partsTo g i).found.getD i 0 = fi := ⟨_, rfl⟩
        rw [hfi] at x2
        by_cases hf : fi = 0
        · subst hf
          have HFR := Lib.hid (srchFrom_c wr g HGR.out.1 HGR.out.2 rfl hiI hiC H2.out i hlt hfi (fun wz hz => HG.out wz (B2.out.trans hz)) (by omega) HLN.out (HBD.out i hi))
          have HE := Lib.hid (show partsTo g (i + 1) = run g ((partsTo g i).enter i) by rw [partsTo, if_pos hfi])
          clear hiI hiC hfi
          go_wp2_with fail
          refine (HFR.out).mono ?_
          rintro e w5 ⟨rfl, ov5, cv5, h5, b5⟩
          rw [← HE.out] at h5
          have H5 := Lib.hid h5
          have B5 := Lib.hid (B2.out.trans b5)
          clear h5 b5
          go_wp2_with fail
          exact ⟨⟨i + 1, ov5, cv5, by omega, by go_num, H5, B5⟩, by simp [intOf]; omega⟩
        · have hf' : ¬ (fi : Int) = 0 := by omega
          have HE := Lib.hid (show partsTo g (i + 1) = partsTo g i by rw [partsTo, if_neg (by rw [hfi]; exact hf)])
          clear hiI hiC hfi
          go_wp2_with fail
          exact ⟨⟨i + 1, ov, cv, by omega, by go_num, Lib.hid (by rw [HE.out]; exact H2.out), B2⟩, by simp [intOf]; omega⟩
      · have hlt' : ¬ (i : Int) < (M : Int) := by omega
        obtain rfl : M = i := by omega
        obtain ⟨Pn, hP1, hP2, hP3⟩ := parts_nat HGR.out.1
        have hpo := partOf_nat hP1
        rw [HGR.out.2] at hP1 hP2 hP3
        obtain ⟨R, hR⟩ : ∃ R, (Pn.map fun p => (keysN [] Pn).idxOf p) = R := ⟨_, rfl⟩
        rw [hR] at hpo
        have hRl : R.length = M := by rw [← hR, List.length_map, hP2]
        have hown := H2.out.core.part
        rw [hP1] at hown
        obtain ⟨f0, f1, f2, f3, f4, f5, f6, z3, z5, z6⟩ := H2.out.core.facts
        have hgp := H2.out.core.ltp
        have hmm := @run_makeMap Tryz.prog
        obtain ⟨mb, hmb⟩ : ∃ mb, wr.heap.size = mb := ⟨_, rfl⟩
        have ba := (Below.refl wr.heap.size wr).alloc (Nat.le_refl _) (.map #[] 0)
        have hmp := World.ownsMap_made wr Tryz.prog 3 (plainElem (H := Unit) Tryz.prog 3)
        obtain ⟨wa, hwa⟩ : ∃ wa, wr.alloc (.map #[] 0) = wa := ⟨_, rfl⟩
        have hsa : wa.heap.size = mb + 1 := by rw [← hwa, ← hmb]; simp
        rw [hwa] at ba hmp
        have bb := (Below.refl wa.heap.size wa).alloc (Nat.le_refl _) (.cells (madeCells #[.int .i64 0] M) 3)
        have hout := zerosAt wa w.heap.size (mb + 1) M hsa (by have := B2.out.size; omega) hMx
        have hmk := run_make_row' (P := Tryz.prog) 22 3 (.int .i64 0) 8 tInts.und tInts.info rfl .i64 .i64 M (by omega) (by omega) (wr.alloc (.map #[] 0))
        obtain ⟨wb, hwb⟩ : ∃ wb, wa.alloc (.cells (madeCells #[.int .i64 0] M) 3) = wb := ⟨_, rfl⟩
        rw [hwb] at bb hout
        have hab := ba.trans (bb.mono ba.size)
        have HOWN := Lib.hid (own_below hown hab)
        have HOUT := Lib.hid hout
        have HMP := Lib.hid (show ∃ D, wb.ownsMap Tryz.prog 3 (plainElem (H := Unit) Tryz.prog 3) mb 0 D ∧ RelJ D [] from ⟨_, by
          obtain ⟨es, ck, hbk, rest⟩ := hmp
          rw [hmb] at hbk
          exact ⟨es, ck, (bb.block mb (by omega)).trans hbk, rest⟩, relJ_nil⟩)
        have BB := Lib.hid (B2.out.trans (hab.mono B2.out.size))
        have f4b : ((wr.alloc (.map #[] 0)).alloc (.cells (madeCells #[.int .i64 0] M) 3)).cell? ⟨p, 4, none⟩ = some (.slice (some ⟨gp, 0, none⟩) M M) := by rw [hwa, hwb]; exact cell_later hab f4
        have HWB := Lib.hid (show (wr.alloc (.map #[] 0)).alloc (.cells (madeCells #[.int .i64 0] M) 3) = wb by rw [hwa, hwb])
        have HMB := Lib.hid hmb
        have HP := Lib.hid (And.intro hP2 (And.intro hP3 hRl))
        have HR := Lib.hid hR
        have HPO := Lib.hid hpo
        have hgm : gp < mb := by omega
        clear hP1 hP2 hP3 hpo hR hRl hown hgp ba bb hab hmp hout hwa hwb hsa hmb f0 f1 f2 f3 f5 f6 z3 z5 z6
        go_wp2_with fail
        rw [HWB.out, HMB.out]
        have HMBW := Lib.hid (show w.heap.size ≤ mb by have h1 := B2.out.size; have h2 := HMB.out; omega)
        clear hmk f4b hmm
        go_loopw [56] (fun iv wl => ∃ i : Nat, i ≤ M ∧ iv = .int .i64 (i : Int) ∧ Hid (∃ D, wl.ownsMap Tryz.prog 3 (plainElem (H := Unit) Tryz.prog 3) mb (keysN [] (Pn.take i)).length D ∧ RelJ D (keysN [] (Pn.take i))) ∧ Hid (wl.ownsRow w.heap.size 3 1 (.slice (some ⟨mb + 1, 0, none⟩) M M) M ((ints (R.take i ++ List.replicate (M - i) 0)).map (Value.int .i64))) ∧
          Hid (wl.ownsRow w.heap.size 3 1 (.slice (some ⟨gp, 0, none⟩) M M) M ((ints Pn).map (Value.int .i64))) ∧ Hid (Below w.heap.size w wl)) (fun iv _ => M - (intOf iv).toNat)
        case atStart => exact ⟨0, Nat.zero_le _, rfl, HMP, Lib.hid (by have h := HOUT.out; simpa using h), HOWN, BB⟩
        case round =>
          clear HMP HOUT HOWN BB
          obtain ⟨i, hi, rfl, HMP, HOUT, HOWN, BB⟩ := hrel
          by_cases hlt2 : i < M
          · have hlt2' : (i : Int) < (M : Int) := by omega
            have hi0 : (0 : Int) ≤ (i : Int) := by omega
            obtain ⟨x, hx⟩ : ∃ x, Pn[i]? = some x := ⟨_, List.getElem?_eq_getElem (by rw [HP.out.1]; exact hlt2)⟩
            have hxM : x < M := HP.out.2.1 x (List.mem_of_getElem? hx)
            have hkey := keyJ_of x (by omega)
            have cp : wr.cell? ⟨gp, i, none⟩ = some (.int .i64 (x : Int)) := by rw [HOWN.out.cellAt i (by omega), ints_map, List.getElem?_map, hx]; rfl
            have hkt := keysN_take Pn hx
            obtain ⟨K, hK⟩ : ∃ K, keysN [] (Pn.take i) = K := ⟨_, rfl⟩
            rw [hK] at HMP hkt
            obtain ⟨D, hM, hrel⟩ := HMP.out
            have hKl : K.length ≤ i := by rw [← hK]; have := keysN_len (Pn.take i) []; simp at this; omega
            by_cases hin : x ∈ K
            · have HH := Lib.hid (show Maps.has D (.int .i64 (x : Int)) = true by rw [(hrel.2.2 x).1]; exact decide_eq_true hin)
              obtain ⟨ix, hix⟩ : ∃ ix, K.idxOf x = ix := ⟨_, rfl⟩
              have HAT := Lib.hid ((hrel.2.2 x).2 ix (by rw [← hix]; exact idx_get hin))
              have hrx : R[i]? = some ix := by
                rw [← HR.out, List.getElem?_map, hx]
                show some ((keysN [] Pn).idxOf x) = some ix
                rw [idx_stay Pn (i := i) (by rw [hK]; exact hin), hK, hix]
              rw [if_pos hin] at hkt
              have hst := putQ HP.out.2.2 hrx hlt2
              have fa := HOUT.out.frozenAt i
              have ca : wr.cell? ⟨mb + 1, i, none⟩ = some (.int .i64 0) := by
                rw [HOUT.out.cellAt i (by omega), ints_map, List.getElem?_map, putQ0 HP.out.2.2 hlt2]
                rfl
              have o1 := (HOUT.out.stored i (.int .i64 (ix : Int))).1
              have e3 : ((ints (R.take i ++ List.replicate (M - i) 0)).map (Value.int .i64)).set i (.int .i64 (ix : Int)) = (ints (R.take (i + 1) ++ List.replicate (M - (i + 1)) 0)).map (Value.int .i64) := by
                rw [← hst, ints_map, ints_map, List.map_set]
              rw [e3] at o1
              have hks := Keeps.of_setCell wr ⟨mb + 1, i, none⟩ (.int .i64 (ix : Int))
              have HM2 := Lib.hid (show ∃ D, (wr.setCell ⟨mb + 1, i, none⟩ (.int .i64 (ix : Int))).ownsMap Tryz.prog 3 (plainElem (H := Unit) Tryz.prog 3) mb (keysN [] (Pn.take (i + 1))).length D ∧ RelJ D (keysN [] (Pn.take (i + 1))) from ⟨D, by
                rw [hkt]
                obtain ⟨es, ck, hbk, rest⟩ := hM
                exact ⟨es, ck, (hks.block mb (Array.getElem?_eq_some_iff.1 hbk).1 (fun e => absurd (show mb = mb + 1 from e) (by omega))).trans hbk, rest⟩, by rw [hkt]; exact hrel⟩)
              have HO2 := Lib.hid o1
              have HW2 := Lib.hid (own_keeps HOWN.out hks (fun g hg hO => by
                have h1 : gp = g := by simpa [Value.ownBlock] using hg
                have h2 : g = mb + 1 := hO
                omega))
              have HB2 := Lib.hid (BB.out.trans (hks.below BB.out.size (fun b hb => by rw [show b = mb + 1 from hb]; exact (HOUT.out.lt (mb + 1) rfl).1)))
              clear hst o1 e3 hks hrx hkt hrel hin hix hK hx hKl
              go_wp2_with (first
                | (at_lookup; refine wpList_lookup_own_ok_int _ rfl _ _ _ rfl 3 3 .i64 keyJ Tryz.underlying141 Tryz.underlying3 (zeroJ _) mb _ D rfl hM _ _ rfl hkey ?_; intro c' hat' _; rw [HH.out])
                | (at_lookup; refine wpList_lookup_own_int _ rfl _ _ _ rfl 3 3 .i64 keyJ Tryz.underlying141 Tryz.underlying3 (zeroJ _) mb _ D rfl hM _ _ rfl hkey ?_; intro c'' hat'' _; obtain rfl : c'' = (ix : Int) := atJ hat'' HAT.out))
              exact ⟨⟨i + 1, by omega, by go_num, HM2, HO2, HW2, HB2⟩, by simp [intOf]; omega⟩
            · have HH := Lib.hid (show Maps.has D (.int .i64 (x : Int)) = false by rw [(hrel.2.2 x).1]; exact decide_eq_false hin)
              rw [if_neg hin] at hkt
              have hrel2 := relJ_snoc hrel hin
              have hx2 : x ∈ keysN [] (Pn.take (i + 1)) := by rw [hkt]; exact List.mem_append_right _ (List.mem_singleton.2 rfl)
              obtain ⟨ix, hix⟩ : ∃ ix, (keysN [] (Pn.take (i + 1))).idxOf x = ix := ⟨_, rfl⟩
              have hrx : R[i]? = some ix := by
                rw [← HR.out, List.getElem?_map, hx]
                show some ((keysN [] Pn).idxOf x) = some ix
                rw [idx_stay Pn hx2, hix]
              have hat2 := (hrel2.2.2 x).2 ix (by rw [← hkt, ← hix]; exact idx_get hx2)
              rw [← hkt] at hrel2
              have HAT := Lib.hid hat2
              have HREL := Lib.hid hrel2
              have HKT := Lib.hid (show K.length + 1 = (keysN [] (Pn.take (i + 1))).length by rw [hkt]; simp)
              have hst := putQ HP.out.2.2 hrx hlt2
              have HST := Lib.hid (show ((ints (R.take i ++ List.replicate (M - i) 0)).map (Value.int .i64)).set i (.int .i64 (ix : Int)) = (ints (R.take (i + 1) ++ List.replicate (M - (i + 1)) 0)).map (Value.int .i64) by
                rw [← hst, ints_map, ints_map, List.map_set])
              have HC0 := Lib.hid (show ((ints (R.take i ++ List.replicate (M - i) 0)).map (Value.int .i64))[i]? = some (.int .i64 0) by
                rw [ints_map, List.getElem?_map, putQ0 HP.out.2.2 hlt2]
                rfl)
              obtain ⟨kl, hkl⟩ : ∃ kl, K.length = kl := ⟨_, rfl⟩
              have hsz := hrel.2.1
              rw [hkl] at hM hsz hKl HKT HREL HAT
              have hln := fun ty => hM.len Tryz.underlying141 ty
              simp only [hsz] at hln
              have hkm : kl < maxLen := by simp only [maxLen]; omega
              have hpe : plainElem (H := Unit) Tryz.prog 3 (.int .i64 (kl : Int)) = some (.lit (.int .i64 (kl : Int)), []) := plainElem_int Tryz.underlying3 (WalkArith.wf_i64 (by omega))
              clear hst hrx hkt hrel hrel2 hin hix hK hx hx2 hat2 hkl hsz
              go_wp2_with (first
                | (at_lookup; refine wpList_lookup_own_ok_int _ rfl _ _ _ rfl 3 3 .i64 keyJ Tryz.underlying141 Tryz.underlying3 (zeroJ _) mb _ D rfl hM _ _ rfl hkey ?_; intro c' hat' _; rw [HH.out])
                | (at_mapUpdate; refine wpList_mapUpdate_own _ rfl _ _ _ 141 rfl 3 3 keyJ Tryz.underlying141 _ mb kl D rfl hM hkm _ _ _ rfl rfl hkey _ [] hpe ?_
                   intro w10 hmap10 hg10
                   have hk10 := Keeps.of_grown hg10
                   have ho10 := own_keeps HOUT.out hk10 (fun g hg hO => by have h1 : mb + 1 = g := by simpa [Value.ownBlock] using hg
                                                                           have h2 : mb = g := by injection hO
                                                                           omega)
                   have hp10 := own_keeps HOWN.out hk10 (fun g hg hO => by have h1 : gp = g := by simpa [Value.ownBlock] using hg
                                                                           have h2 : mb = g := by injection hO
                                                                           omega)
                   have fa := ho10.frozenAt i
                   have ca : w10.cell? ⟨mb + 1, i, none⟩ = some (.int .i64 0) := by rw [ho10.cellAt i (by omega), HC0.out])
                | (at_lookup; refine wpList_lookup_own_int _ rfl _ _ _ rfl 3 3 .i64 keyJ Tryz.underlying141 Tryz.underlying3 (zeroJ _) mb _ _ rfl hmap10 _ _ rfl hkey ?_; intro c'' hat'' _; obtain rfl : c'' = (ix : Int) := atJ hat'' HAT.out))
              have o1 := (ho10.stored i (.int .i64 (ix : Int))).1
              rw [HST.out] at o1
              have hks := Keeps.of_setCell w10 ⟨mb + 1, i, none⟩ (.int .i64 (ix : Int))
              have hmbl := hM.lt
              have hB10 := BB.out.trans (hk10.below BB.out.size (fun b hb => by
                have h2 : mb = b := by injection hb
                have h3 := (HOUT.out.lt (mb + 1) rfl).1
                have h4 := HMBW.out
                omega))
              have HM2 : Hid (∃ D, (w10.setCell ⟨mb + 1, i, none⟩ (.int .i64 (ix : Int))).ownsMap Tryz.prog 3 (plainElem (H := Unit) Tryz.prog 3) mb (keysN [] (Pn.take (i + 1))).length D ∧ RelJ D (keysN [] (Pn.take (i + 1)))) := Lib.hid ⟨_, by
                rw [← HKT.out]
                obtain ⟨es, ck, hbk, rest⟩ := hmap10
                exact ⟨es, ck, (hks.block mb (Array.getElem?_eq_some_iff.1 hbk).1 (fun e => absurd (show mb = mb + 1 from e) (by omega))).trans hbk, rest⟩, HREL.out⟩
              have HW2 := Lib.hid (own_keeps hp10 hks (fun g hg hO => by
                have h1 : gp = g := by simpa [Value.ownBlock] using hg
                have h2 : g = mb + 1 := hO
                omega))
              have HB2 := Lib.hid (hB10.trans (hks.below hB10.size (fun b hb => by rw [show b = mb + 1 from hb]; exact (HOUT.out.lt (mb + 1) rfl).1)))
              exact ⟨⟨i + 1, by omega, by go_num, HM2, Lib.hid o1, HW2, HB2⟩, by simp [intOf]; omega⟩
          · have hlt2' : ¬ (i : Int) < (M : Int) := by omega
            obtain rfl : M = i := by omega
            have ho := HOUT.out
            rw [Nat.sub_self, List.replicate_zero, List.append_nil, List.take_of_length_le (by rw [HP.out.2.2]; exact Nat.le_refl _), ← HPO.out] at ho
            have HO2 := Lib.hid ho
            clear ho
            go_wp2_with fail
            exact bodyPost_ret (v := .tuple #[.slice (some ⟨mb + 1, 0, none⟩) M M, .nilIface]) (by simp [results, Tryz.results62, go_sem]) rfl ⟨mb + 1, rfl, HO2.out, BB.out⟩
end Go.Proofs.YtedmmmlahpmmoaaGreatDoor

namespace Go.Proofs.YtedmmmlahpmmoaaGreatDoor
open Go.RowKit RuleP

/-- A list of lists: lt the inner lists' type, et their elements'. -/
structure RowsG (lt et : TypeId) (w : World) (B : Nat) (lv : Value) (rows : List Value) (L : List (List Value)) (X : Nat → Prop) : Prop where
  lst : w.ownsRow B lt 1 lv L.length rows
  el : ∀ (j : Nat) l, L[j]? = some l → ∃ v, rows[j]? = some v ∧ w.ownsRow B et 1 v l.length l ∧ ∀ g, v.ownBlock = some g → ¬ X g
  far : FarV rows
namespace RowsG
variable {lt et : TypeId} {w w' : World} {B : Nat} {lv lv' : Value} {rows : List Value} {L : List (List Value)} {X X' : Nat → Prop}
theorem len (h : RowsG lt et w B lv rows L X) : rows.length = L.length := by simpa using h.lst.1
theorem mem (h : RowsG lt et w B lv rows L X) {v : Value} (hv : v ∈ rows) : ∃ l, l ∈ L ∧ w.ownsRow B et 1 v l.length l ∧ ∀ g, v.ownBlock = some g → ¬ X g := by
  obtain ⟨j, hj⟩ := List.getElem?_of_mem hv
  have hl : j < L.length := by have := (List.getElem?_eq_some_iff.1 hj).1; have := h.len; omega
  obtain ⟨u, h1, h2, h3⟩ := h.el j _ (List.getElem?_eq_getElem hl)
  rw [hj] at h1
  cases h1
  exact ⟨_, List.getElem_mem hl, h2, h3⟩
theorem nil (w : World) (B : Nat) (X : Nat → Prop) : RowsG lt et w B (.slice none 0 0) [] [] X :=
  ⟨World.ownsRow_nil _ _ _ _, fun j l h => by simp at h, fun i j v v' g _ h => by simp at h⟩
theorem mono (h : RowsG lt et w B lv rows L X) (hx : ∀ b, X' b → X b ∨ w.heap.size ≤ b) : RowsG lt et w B lv rows L X' :=
  { h with
    el := fun j l hj => by
      obtain ⟨v, h1, h2, h3⟩ := h.el j l hj
      exact ⟨v, h1, h2, fun g hg hx' => by
        rcases hx g hx' with h' | h'
        · exact h3 g hg h'
        · have := (h2.lt g hg).2; omega⟩ }
theorem base (h : RowsG lt et w B lv rows L X) {B' : Nat} (hb : B' ≤ B) : RowsG lt et w B' lv rows L X :=
  ⟨own_base h.lst hb, fun j l hj => (let ⟨v, h1, h2, h3⟩ := h.el j l hj; ⟨v, h1, own_base h2 hb, h3⟩), h.far⟩
theorem keeps {Q : Nat → Prop} (h : RowsG lt et w B lv rows L X) (hk : Keeps Q w w') (h1 : ∀ b, Q b → lv.ownBlock ≠ some b) (h2 : ∀ b, Q b → ∀ v ∈ rows, v.ownBlock ≠ some b) : RowsG lt et w' B lv rows L X :=
  ⟨own_keeps h.lst hk (fun g hg hQ => h1 g hQ hg), fun j l hj => by
    obtain ⟨v, e1, e2, e3⟩ := h.el j l hj
    exact ⟨v, e1, own_keeps e2 hk (fun g hg hQ => h2 g hQ v (List.mem_of_getElem? e1) hg), e3⟩, h.far⟩
theorem pure (h : RowsG lt et w B lv rows L X) (hb : Below w.heap.size w w') : RowsG lt et w' B lv rows L X :=
  h.keeps (Keeps.of_pure hb (fun _ => False)) (fun _ hf => hf.elim) (fun _ hf => hf.elim)
theorem not_new (h : RowsG lt et w B lv rows L X) {b : Nat} (hb : w.heap.size ≤ b) : lv.ownBlock ≠ some b ∧ ∀ v ∈ rows, v.ownBlock ≠ some b :=
  ⟨fun hg => by have := (h.lst.lt b hg).2; omega, fun v hv hg => by
    obtain ⟨l, _, h2, _⟩ := h.mem hv
    have := (h2.lt b hg).2
    omega⟩
/-- One element more: the list grown beside it. -/
theorem put (hT : et ≠ lt) (h : RowsG lt et w B lv rows L X) {l : List Value} {v : Value} (hv : w.ownsRow B et 1 v l.length l) (hX : ∀ g, v.ownBlock = some g → ¬ X g) (hnew : ∀ g, v.ownBlock = some g → ∀ u ∈ rows, u.ownBlock ≠ some g)
    (hl : w'.ownsRow B lt 1 lv' (L.length + 1) (rows ++ [v])) (hk : Keeps (fun b => lv.ownBlock = some b) w w') :
    RowsG lt et w' B lv' (rows ++ [v]) (L ++ [l]) X := by
  have hrl := h.len
  have hne : ∀ {n : Nat} {u : Value} {xs : List Value}, w.ownsRow B et 1 u n xs → ∀ g, u.ownBlock = some g → ¬ (lv.ownBlock = some g) := fun ho g hg e => own_ne_own ho h.lst hT hg e
  refine ⟨by rw [List.length_append]; exact hl, fun j l' hj => ?_, fun i j u u' g hij hu hu' hg hg' => ?_⟩
  · rcases Nat.lt_or_ge j L.length with hlt | hge
    · rw [List.getElem?_append_left hlt] at hj
      obtain ⟨u, h1, h2, h3⟩ := h.el j l' hj
      exact ⟨u, by rw [List.getElem?_append_left (by omega)]; exact h1, own_keeps h2 hk (hne h2), h3⟩
    · rw [List.getElem?_append_right hge] at hj
      rcases Nat.eq_zero_or_pos (j - L.length) with h0 | h0
      · rw [h0] at hj
        simp at hj
        subst hj
        exact ⟨v, by rw [List.getElem?_append_right (by omega), hrl, h0]; rfl, own_keeps hv hk (hne hv), hX⟩
      · rw [List.getElem?_eq_none (by simp; omega)] at hj; cases hj
  · have hin : ∀ (i : Nat) (u : Value), (rows ++ [v])[i]? = some u → (rows[i]? = some u ∧ u ∈ rows) ∨ (i = rows.length ∧ u = v) := fun i u hu => by
      rcases Nat.lt_or_ge i rows.length with hlt | hge
      · rw [List.getElem?_append_left hlt] at hu
        exact .inl ⟨hu, List.mem_of_getElem? hu⟩
      · rw [List.getElem?_append_right hge] at hu
        rcases Nat.eq_zero_or_pos (i - rows.length) with h0 | h0
        · rw [h0] at hu; simp at hu; exact .inr ⟨by omega, hu.symm⟩
        · rw [List.getElem?_eq_none (by simp; omega)] at hu; cases hu
    rcases hin i u hu with ⟨a1, a2⟩ | ⟨a1, a2⟩ <;> rcases hin j u' hu' with ⟨b1, b2⟩ | ⟨b1, b2⟩
    · exact h.far i j u u' g hij a1 b1 hg hg'
    · subst b2; exact hnew g hg' u a2 hg
    · subst a2; exact hnew g hg u' b2 hg'
    · omega
end RowsG

/-- A list of lists of numbers. -/
def iVs (L : List (List Int)) : List (List Value) := L.map fun l => l.map (Value.int .i64)
def RowsAt (w : World) (B : Nat) (lv : Value) (rows : List Value) (L : List (List Int)) (X : Nat → Prop) : Prop := RowsG 22 3 w B lv rows (iVs L) X
namespace RowsAt
variable {w w' : World} {B : Nat} {lv lv' : Value} {rows : List Value} {L : List (List Int)} {X X' : Nat → Prop}
theorem lst (h : RowsAt w B lv rows L X) : w.ownsRow B 22 1 lv L.length rows := by
  have := RowsG.lst h
  unfold iVs at this
  rwa [List.length_map] at this
theorem el (h : RowsAt w B lv rows L X) (j : Nat) (l : List Int) (hj : L[j]? = some l) : ∃ v, rows[j]? = some v ∧ w.ownsRow B 3 1 v l.length (l.map (Value.int .i64)) ∧ ∀ g, v.ownBlock = some g → ¬ X g := by
  obtain ⟨v, h1, h2, h3⟩ := RowsG.el h j (l.map (Value.int .i64)) (by unfold iVs; rw [List.getElem?_map, hj]; rfl)
  rw [List.length_map] at h2
  exact ⟨v, h1, h2, h3⟩
theorem mk' (h1 : w.ownsRow B 22 1 lv L.length rows) (h2 : ∀ (j : Nat) l, L[j]? = some l → ∃ v, rows[j]? = some v ∧ w.ownsRow B 3 1 v l.length (l.map (Value.int .i64)) ∧ ∀ g, v.ownBlock = some g → ¬ X g) (h3 : FarV rows) : RowsAt w B lv rows L X :=
  ⟨by unfold iVs; rw [List.length_map]; exact h1, fun j l hj => by
    unfold iVs at hj
    rw [List.getElem?_map] at hj
    cases hl : L[j]? with
    | none => rw [hl] at hj; cases hj
    | some l' =>
      rw [hl] at hj
      obtain rfl := Option.some.inj hj
      obtain ⟨v, a1, a2, a3⟩ := h2 j l' hl
      exact ⟨v, a1, by rw [List.length_map]; exact a2, a3⟩, h3⟩
theorem far (h : RowsAt w B lv rows L X) : FarV rows := RowsG.far h
theorem nil (w : World) (B : Nat) (X : Nat → Prop) : RowsAt w B (.slice none 0 0) [] [] X := RowsG.nil w B X
theorem len (h : RowsAt w B lv rows L X) : rows.length = L.length := by have := RowsG.len h; unfold iVs at this; rwa [List.length_map] at this
theorem mem (h : RowsAt w B lv rows L X) {v : Value} (hv : v ∈ rows) : ∃ l, l ∈ iVs L ∧ w.ownsRow B 3 1 v l.length l ∧ ∀ g, v.ownBlock = some g → ¬ X g := RowsG.mem h hv
theorem mono (h : RowsAt w B lv rows L X) (hx : ∀ b, X' b → X b ∨ w.heap.size ≤ b) : RowsAt w B lv rows L X' := RowsG.mono h hx
theorem base (h : RowsAt w B lv rows L X) {B' : Nat} (hb : B' ≤ B) : RowsAt w B' lv rows L X := RowsG.base h hb
theorem keeps {Q : Nat → Prop} (h : RowsAt w B lv rows L X) (hk : Keeps Q w w') (h1 : ∀ b, Q b → lv.ownBlock ≠ some b) (h2 : ∀ b, Q b → ∀ v ∈ rows, v.ownBlock ≠ some b) : RowsAt w' B lv rows L X := RowsG.keeps h hk h1 h2
theorem pure (h : RowsAt w B lv rows L X) (hb : Below w.heap.size w w') : RowsAt w' B lv rows L X := RowsG.pure h hb
theorem not_new (h : RowsAt w B lv rows L X) {b : Nat} (hb : w.heap.size ≤ b) : lv.ownBlock ≠ some b ∧ ∀ v ∈ rows, v.ownBlock ≠ some b := RowsG.not_new h hb
theorem put (h : RowsAt w B lv rows L X) {l : List Int} {v : Value} (hv : w.ownsRow B 3 1 v l.length (l.map (Value.int .i64))) (hX : ∀ g, v.ownBlock = some g → ¬ X g) (hnew : ∀ g, v.ownBlock = some g → ∀ u ∈ rows, u.ownBlock ≠ some g)
    (hl : w'.ownsRow B 22 1 lv' (L.length + 1) (rows ++ [v])) (hk : Keeps (fun b => lv.ownBlock = some b) w w') :
    RowsAt w' B lv' (rows ++ [v]) (L ++ [l]) X := by
  have := RowsG.put (by decide) h (l := l.map (Value.int .i64)) (by rw [List.length_map]; exact hv) hX hnew (lv' := lv') (w' := w') (by unfold iVs; rw [List.length_map]; exact hl) hk
  unfold RowsAt iVs at *
  rw [List.map_append]
  exact this
end RowsAt
end Go.Proofs.YtedmmmlahpmmoaaGreatDoor
