/- The word by which a state was found: (*edenref10.Walked).word. Condition: the walked lists read from memory. What memory holds of the document's walk over the subsets: edenref10's Walked and its map. Plain lemmas, no program. No condition. Steps of the document's walk: what a kept set, From, By leave. Plain lemmas, no program. No condition. The document's sets of nodes: edenref10's text, empty, Behind. Condition: the sets and the rule's table read from memory. The document's walk over the subsets: edenref10.Go. Condition: the rule's table reads from memory. Whether every word has a preimage, by the document: edenref10.Onto. Condition: the rule's table reads from memory. -/
import Derived.Deep.RegionHeld3
import Derived.StillTailTactics
import Derived.Test.YthilnpfpllplaaaGreatDoorS2
import Derived.Test.YthilnpfpllplaaaGreatDoorS4
import Derived.Test.YthilnpfpllplaaaGreatDoorS6
import Derived.Test.YthilnpfpllplaaaGreatDoorS7
import Derived.Test.YthilnpfpllplaaaGreatDoorS8
import Derived.Test.YthilnpfpllplaaaGreatDoorS15
import Derived.Test.YthilnpfpllplaaaGreatDoorS17
namespace Go.Proofs.YthilnpfpllplaaaGreatDoor
open Go.RowKit BagP RuleP SubP

/-- From and By tell the words. -/
structure WordsOk (words : List (List Nat)) (F Y : List Nat) : Prop where
  lf : F.length = words.length
  ly : Y.length = words.length
  zero : words[0]? = some []
  step : ∀ j, 0 < j → j < words.length → F.getD j 0 < j ∧ words.getD j [] = words.getD (F.getD j 0) [] ++ [Y.getD j 0]
theorem WordsOk.snoc {words : List (List Nat)} {F Y : List Nat} (h : WordsOk words F Y) {i s : Nat} (hi : i < words.length) : WordsOk (words ++ [words.getD i [] ++ [s]]) (F ++ [i]) (Y ++ [s]) where
  lf := by simp [h.lf]
  ly := by simp [h.ly]
  zero := get_app h.zero
  step := fun j h0 hj => by
    have hj' : j < words.length + 1 := by simpa using hj
    rcases Nat.lt_or_ge j words.length with hl | hl
    · obtain ⟨a, b⟩ := h.step j h0 hl
      rw [getD_app (l := F) (by rw [h.lf]; exact hl), getD_app (l := words) hl, getD_app (l := Y) (by rw [h.ly]; exact hl), getD_app (l := words) (show F.getD j 0 < words.length by omega)]
      exact ⟨a, b⟩
    · obtain rfl : j = words.length := by omega
      have e1 : (F ++ [i]).getD words.length 0 = i := getD_of (by rw [← h.lf]; exact get_last F i)
      have e2 : (Y ++ [s]).getD words.length 0 = s := getD_of (by rw [← h.ly]; exact get_last Y s)
      have e3 : (words ++ [words.getD i [] ++ [s]]).getD words.length [] = words.getD i [] ++ [s] := getD_of (get_last words _)
      rw [e1, e2, e3, getD_app hi]
      exact ⟨hi, rfl⟩
theorem back_set {n q : Nat} (hq : q < n) (x : Int) (R : List Int) : (List.replicate (n - q) 0 ++ R).set (n - 1 - q) x = List.replicate (n - (q + 1)) 0 ++ (x :: R) := by
  rw [show n - q = (n - (q + 1)) + 1 by omega, List.replicate_succ', List.append_assoc, List.set_append_right _ _ (by simp; omega)]
  simp [show n - 1 - q - (n - (q + 1)) = 0 by omega]
theorem back_at {n q : Nat} (hq : q < n) (R : List Int) : (List.replicate (n - q) 0 ++ R)[n - 1 - q]? = some 0 := by
  rw [List.getElem?_append_left (by simp; omega), List.getElem?_replicate, if_pos (by omega)]
theorem take_rev {l : List Nat} {q x : Nat} (h : l[q]? = some x) : ints (l.take (q + 1)).reverse = (x : Int) :: ints (l.take q).reverse := by
  rw [List.take_add_one, h]
  simp [ints]

set_option maxRecDepth 100000 in
set_option maxHeartbeats 2000000 in
theorem word10_c (w : World) (gb m fc yc : Nat) (FA YA : Option Addr) (words : List (List Nat)) (F Y : List Nat) (c2 : w.cell? ⟨gb, 2, none⟩ = some (.slice FA m fc)) (c3 : w.cell? ⟨gb, 3, none⟩ = some (.slice YA m yc))
    (hF : Sl w FA m ((ints F).map (Value.int .i64))) (hY : Sl w YA m ((ints Y).map (Value.int .i64))) (hW : WordsOk words F Y) (i : Nat) (hi : i < m) (hm : m ≤ 4096) :
    Calls Tryz.prog 127 #[.pointer (some ⟨gb, 0, none⟩), .int .i64 (i : Int)] w (OneRow w 3 ((ints (words.getD i [])).map (Value.int .i64))) := by
  have hfl : F.length = m := by simpa [ints] using hF.1
  have hyl : Y.length = m := by simpa [ints] using hY.1
  have hwl : words.length = m := by rw [← hW.lf, hfl]
  have HW := Lib.hid hW
  have HF := Lib.hid hF
  have HY := Lib.hid hY
  have HL := Lib.hid (⟨hfl, hyl, hwl⟩ : _ ∧ _ ∧ _)
  have HC2 := Lib.hid c2
  have HC3 := Lib.hid c3
  clear hW hF hY hfl hyl hwl c2 c3
  go_enter Tryz.func127, Tryz.ntmps127
  go_wp2_with fail
  go_loopw [1, 5] (fun iv b wl => ∃ (j : Nat) (Bk : List Nat), iv = .int .i64 (j : Int) ∧ j < m ∧ Bk.length + j ≤ i ∧ wl.ownsRow w.heap.size 3 1 b Bk.length ((ints Bk).map (Value.int .i64)) ∧ Hid (words.getD i [] = words.getD j [] ++ Bk.reverse) ∧ Hid (Below w.heap.size w wl)) (fun iv _ _ => (intOf iv).toNat)
  case atStart => exact ⟨i, [], rfl, hi, by simp, World.ownsRow_nil _ _ _ _, Lib.hid (by simp), Lib.hid (Below.refl _ _)⟩
  case round =>
    obtain ⟨j, Bk, rfl, hj, hbk, hown, hwd, hb⟩ := hrel
    have d2 := cell_later hb.out HC2.out
    have d3 := cell_later hb.out HC3.out
    by_cases h0 : 0 < j
    · have h0' : (0 : Int) < (j : Int) := by omega
      obtain ⟨x, hx⟩ : ∃ x, F[j]? = some x := ⟨_, List.getElem?_eq_getElem (by rw [HL.out.1]; exact hj)⟩
      obtain ⟨y, hy⟩ : ∃ y, Y[j]? = some y := ⟨_, List.getElem?_eq_getElem (by rw [HL.out.2.1]; exact hj)⟩
      obtain ⟨fa, hFA, hcx⟩ := (HF.out.below hb.out).2 j (.int .i64 (x : Int)) (by rw [List.getElem?_map]; unfold ints; rw [List.getElem?_map, hx]; rfl)
      obtain ⟨ya, hYA, hcy⟩ := (HY.out.below hb.out).2 j (.int .i64 (y : Int)) (by rw [List.getElem?_map]; unfold ints; rw [List.getElem?_map, hy]; rfl)
      subst hFA hYA
      obtain ⟨s1, s2⟩ := HW.out.step j h0 (by rw [HL.out.2.2]; exact hj)
      rw [getD_of hx] at s1 s2
      rw [getD_of hy] at s2
      have HS2 := Lib.hid s2
      have hm1 : Bk.length + 1 ≤ maxLen := by simp only [maxLen]; omega
      have hm2 : (Bk.length + 1) * 8 ≤ 140737488355328 := by omega
      have hbs := hb.out.size
      have HFC := Lib.hid (fun (w3 : World) (hz : Below w.heap.size w w3) => (⟨cell_later hz HC2.out, (by
        obtain ⟨fa', hFA', hcx'⟩ := (HF.out.below hz).2 j (.int .i64 (x : Int)) (by rw [List.getElem?_map]; unfold ints; rw [List.getElem?_map, hx]; rfl)
        cases hFA'
        exact hcx')⟩ : w3.cell? ⟨gb, 2, none⟩ = some (.slice (some fa) m fc) ∧ w3.cell? (fa.add j) = some (.int .i64 (x : Int))))
      clear hx hy s2
      go_wp2_with (at_builtin; refine wpList_push rfl _ _ _ rfl tInts hown rfl _ 0 rfl rfl rfl hm1 hm2 hbs ?_; intro g cap w3 hown3 hg3 hat3 hlt3; have hb3 := hb.out.grown hg3 hb.out.size (fun q hq => (hown.lt q hq).1); obtain ⟨q2, q3⟩ := HFC.out w3 hb3)
      refine ⟨⟨x, Bk ++ [y], rfl, by omega, by simp; omega, ?_, Lib.hid ?_, Lib.hid hb3⟩, by simp [intOf]; omega⟩
      · have e3 : (ints (Bk ++ [y])).map (Value.int .i64) = (ints Bk).map (Value.int .i64) ++ [Value.int .i64 (y : Int)] := by simp [ints]
        rw [e3, List.length_append]
        exact hown3
      · rw [hwd.out, HS2.out]
        simp
    · obtain rfl : j = 0 := by omega
      have HWD : Hid (words.getD i [] = Bk.reverse) := Lib.hid (by rw [hwd.out, getD_of HW.out.zero]; rfl)
      obtain ⟨BA, bc, rfl, _, _⟩ := own_slice hown
      have hbl : Bk.length ≤ 4096 := by omega
      have hmk := run_make_row' (P := Tryz.prog) 22 3 (.int .i64 0) 8 tInts.und tInts.info rfl .i64 .i64 Bk.length (by omega) (by omega)
      have hmk2 := hmk wr
      have hown0 := make_row_ints wr Bk.length (by simp only [maxLen]; omega)
      have hba := (Below.refl wr.heap.size wr).alloc (Nat.le_refl _) (.cells (madeCells #[.int .i64 0] Bk.length) 3)
      have HSB := Lib.hid ((Sl.of_own hown).below hba)
      have HB := Lib.hid (hb.out.trans (hba.mono hb.out.size))
      have HNE0 : ∀ ad, BA = some ad → ¬ ad.block = wr.heap.size := fun ad h e => by have := (hown.lt ad.block (by rw [h]; rfl)).2; omega
      have hzw := hb.out.size
      have HRL := Lib.hid (show (ints Bk.reverse).length = Bk.length by rw [ints_len, List.length_reverse])
      clear hmk hba hown hb hwd hbk d2 d3 h0
      go_wp2_with fail
      clear hmk2
      obtain ⟨w4, hw4⟩ : ∃ w4, wr.alloc (.cells (madeCells #[.int .i64 0] Bk.length) 3) = w4 := ⟨_, rfl⟩
      obtain ⟨g, hg⟩ : ∃ g, wr.heap.size = g := ⟨_, rfl⟩
      rw [hw4] at hown0 HSB HB
      rw [hg] at hown0 hzw HNE0
      rw [hw4, hg]
      have HGL := Lib.hid (show g < w4.heap.size from (hown0.lt g rfl).2)
      have HNE := Lib.hid HNE0
      have HGZ := Lib.hid hg
      clear hw4 hg
      go_loopw [7] (fun iv wl => ∃ q : Nat, q ≤ Bk.length ∧ iv = .int .i64 (q : Int) ∧ wl.ownsRow w.heap.size 3 1 (.slice (some ⟨g, 0, none⟩) Bk.length Bk.length) Bk.length ((List.replicate (Bk.length - q) 0 ++ ints (Bk.take q).reverse).map (Value.int .i64)) ∧ Hid (Keeps (fun k => k = g) w4 wl)) (fun iv _ => Bk.length - (intOf iv).toNat)
      case atStart => exact ⟨0, Nat.zero_le _, rfl, by simpa [ints] using own_base hown0 hzw, Lib.hid (Keeps.refl _ _)⟩
      case round =>
        clear hown0
        obtain ⟨q, hq, rfl, hown, hk⟩ := hrel
        by_cases hlt : q < Bk.length
        · obtain ⟨x, hx⟩ : ∃ x, Bk[q]? = some x := ⟨_, List.getElem?_eq_getElem hlt⟩
          have hlt' : (q : Int) < (Bk.length : Int) := by omega
          have hgl : g < w4.heap.size := HGL.out
          obtain ⟨ba, hBA', hcx⟩ := HSB.out.2 q (.int .i64 (x : Int)) (by rw [List.getElem?_map]; unfold ints; rw [List.getElem?_map, hx]; rfl)
          subst hBA'
          have hcx' : wr.cell? (ba.add q) = some (.int .i64 (x : Int)) := hk.out.cell hcx (by rw [block_of_add]; exact HNE.out ba rfl)
          have hcell : wr.cell? ⟨g, Bk.length - 1 - q, none⟩ = some (.int .i64 0) := by
            rw [hown.cellAt (Bk.length - 1 - q) (by omega), List.getElem?_map, back_at hlt]; rfl
          have hfr := hown.frozenAt (Bk.length - 1 - q)
          have hst := (hown.stored (Bk.length - 1 - q) (.int .i64 (x : Int))).1
          rw [← List.map_set, back_set hlt, ← take_rev hx] at hst
          have HK := Lib.hid (hk.out.trans (Keeps.of_setCell wr ⟨g, Bk.length - 1 - q, none⟩ (.int .i64 (x : Int))) (fun _ _ h => h))
          obtain ⟨ix, hix⟩ : ∃ ix, Bk.length - 1 - q = ix := ⟨_, rfl⟩
          have hix' : (Bk.length : Int) - 1 - (q : Int) = (ix : Int) := by omega
          have hixl : ix < Bk.length := by omega
          rw [hix] at hcell hfr hst HK
          clear hx hix hown hk hcx hgl
          go_wp2_with fail
          exact ⟨⟨q + 1, by omega, by go_num, hst, HK⟩, by simp [intOf]; omega⟩
        · have hqe : q = Bk.length := by omega
          have hlt' : ¬ (q : Int) < (Bk.length : Int) := by omega
          have HO2 : Hid (wr.ownsRow w.heap.size 3 1 (.slice (some ⟨g, 0, none⟩) Bk.length Bk.length) Bk.length ((ints Bk.reverse).map (Value.int .i64))) := Lib.hid (by
            have h := hown
            rw [hqe, Nat.sub_self, List.replicate_zero, List.nil_append, List.take_length] at h
            exact h)
          have HBE := Lib.hid (HB.out.trans (hk.out.below HB.out.size (fun k hk => by rw [hk]; exact hzw)))
          clear hqe hown hk
          go_wp2_with fail
          go_ret
          have hwd2 : words[i]?.getD [] = Bk.reverse := by rw [← List.getD_eq_getElem?_getD]; exact HWD.out
          exact ⟨_, rfl, by rw [hwd2, List.length_map, HRL.out]; exact HO2.out, HBE.out⟩
end Go.Proofs.YthilnpfpllplaaaGreatDoor

namespace Go.Proofs.YthilnpfpllplaaaGreatDoor
open Go.RowKit Go.Maps BagP RuleP SubP

structure GoP where
  w0 : World
  k : Nat
  r : Nat
  t : List Nat
  TA : Option Addr
  tc : Nat
  gb : Nat
  mb : Nat
  rb : Nat
def GoP.B (D : GoP) : Nat := D.w0.heap.size
def GoP.cells (_ : GoP) (sv nv fv yv ov : Value) (has over : Bool) : Array Value := #[sv, nv, fv, yv, ov, .bool has, .bool over]
def bVs (L : List (List Bool)) : List (List Value) := L.map fun l => l.map Value.bool
/-- The number rows that may be written. -/
def XI (X : Nat → Prop) (fv yv : Value) (b : Nat) : Prop := X b ∨ fv.ownBlock = some b ∨ yv.ownBlock = some b

/-- All but the block itself. -/
structure RefC (w : World) (D : GoP) (sets msets : List (List Bool)) (next : List (List Int)) (F Y : List Nat) (sv nv fv yv ov : Value) (sr nr : List Value) (X : Nat → Prop) : Prop where
  old : Below D.B D.w0 w
  fb : D.B ≤ D.gb
  rul : RuleAt w D.rb (.int .i64 (D.k : Int)) (.int .i64 (D.r : Int)) (.slice D.TA D.t.length D.tc)
  map : ∃ M, w.ownsMap Tryz.prog 9 (plainElem (H := Unit) Tryz.prog 3) D.mb msets.length M ∧ RelK textS (fun _ => True) M msets
  fm : D.B ≤ D.mb
  sets : RowsG 139 4 w D.B sv sr (bVs sets) (fun _ => False)
  nx : RowsAt w D.B nv nr next (XI X fv yv)
  fr : w.ownsRow D.B 3 1 fv F.length ((ints F).map (Value.int .i64))
  yr : w.ownsRow D.B 3 1 yv Y.length ((ints Y).map (Value.int .i64))
  ne : ∀ g, fv.ownBlock = some g → yv.ownBlock ≠ some g
  nX : ∀ g, X g → fv.ownBlock ≠ some g ∧ yv.ownBlock ≠ some g
  orp : ∃ x : List Int, w.ownsRow D.B 3 1 ov x.length (x.map (Value.int .i64)) ∧ ∀ g, ov.ownBlock = some g → ¬ XI X fv yv g
def RefB (w : World) (D : GoP) (sv nv fv yv ov : Value) (has over : Bool) : Prop := w.heap[D.gb]? = some (.cells (D.cells sv nv fv yv ov has over) 158 (0, 0))

namespace RefC
variable {w w' : World} {D : GoP} {sets msets : List (List Bool)} {next : List (List Int)} {F Y : List Nat} {sv nv fv yv ov sv' nv' fv' yv' : Value} {sr nr : List Value} {X X' : Nat → Prop}
theorem map_keeps {Q : Nat → Prop} (h : RefC w D sets msets next F Y sv nv fv yv ov sr nr X) (hk : Keeps Q w w') (hq : ∀ b, Q b → ∃ cs e, w.heap[b]? = some (.cells cs e (0, 0))) :
    ∃ M, w'.ownsMap Tryz.prog 9 (plainElem (H := Unit) Tryz.prog 3) D.mb msets.length M ∧ RelK textS (fun _ => True) M msets := by
  obtain ⟨M, ⟨es, clock, hb, rest⟩, hr⟩ := h.map
  refine ⟨M, ⟨es, clock, (hk.block D.mb (Array.getElem?_eq_some_iff.1 hb).1 (fun hQ => ?_)).trans hb, rest⟩, hr⟩
  obtain ⟨cs, e, hc⟩ := hq _ hQ
  rw [hb] at hc
  cases hc
theorem rul_keeps {Q : Nat → Prop} (h : RefC w D sets msets next F Y sv nv fv yv ov sr nr X) (hk : Keeps Q w w') {e0 : TypeId} (he : e0 ≠ 24) (hq : ∀ b, Q b → ∃ cs, w.heap[b]? = some (.cells cs e0 (0, 0))) :
    RuleAt w' D.rb (.int .i64 (D.k : Int)) (.int .i64 (D.r : Int)) (.slice D.TA D.t.length D.tc) :=
  h.rul.keeps hk (fun hQ => by
    obtain ⟨cs, hc⟩ := hq _ hQ
    have := h.rul
    unfold RuleAt at this
    rw [this] at hc
    injection hc with hc
    injection hc with _ hc
    exact he hc.symm)
/-- Writes to blocks of one kind, none of the lists'. -/
theorem keepsT {Q : Nat → Prop} (h : RefC w D sets msets next F Y sv nv fv yv ov sr nr X) (hk : Keeps Q w w') {e0 : TypeId} (h1 : e0 ≠ 24) (h2 : e0 ≠ 139) (h3 : e0 ≠ 4) (h4 : e0 ≠ 22) (h5 : e0 ≠ 3)
    (hq : ∀ b, Q b → D.B ≤ b ∧ ∃ cs, w.heap[b]? = some (.cells cs e0 (0, 0))) : RefC w' D sets msets next F Y sv nv fv yv ov sr nr X where
  old := h.old.trans (hk.below h.old.size (fun b hb => (hq b hb).1))
  fb := h.fb
  rul := h.rul_keeps hk h1 (fun b hb => (hq b hb).2)
  map := h.map_keeps hk (fun b hb => by obtain ⟨_, cs, hc⟩ := hq b hb; exact ⟨cs, e0, hc⟩)
  fm := h.fm
  sets := h.sets.keeps hk (fun b hb => by obtain ⟨_, cs, hc⟩ := hq b hb; exact h.sets.not_lst hc h2) (fun b hb => by obtain ⟨_, cs, hc⟩ := hq b hb; exact h.sets.not_el hc h3)
  nx := h.nx.keeps hk (fun b hb => by obtain ⟨_, cs, hc⟩ := hq b hb; exact h.nx.not_lst hc h4) (fun b hb => by obtain ⟨_, cs, hc⟩ := hq b hb; exact h.nx.not_el hc h5)
  fr := own_keeps h.fr hk (fun g hg hQ => by obtain ⟨_, cs, hc⟩ := hq g hQ; exact own_ne_blk h.fr hc h5.symm hg)
  yr := own_keeps h.yr hk (fun g hg hQ => by obtain ⟨_, cs, hc⟩ := hq g hQ; exact own_ne_blk h.yr hc h5.symm hg)
  ne := h.ne
  nX := h.nX
  orp := by
    obtain ⟨x, h6, h7⟩ := h.orp
    exact ⟨x, own_keeps h6 hk (fun g hg hQ => by obtain ⟨_, cs, hc⟩ := hq g hQ; exact own_ne_blk h6 hc h5.symm hg), h7⟩
/-- Writes to the current row. -/
theorem keeps {Q : Nat → Prop} (h : RefC w D sets msets next F Y sv nv fv yv ov sr nr X) (hk : Keeps Q w w') (hq : ∀ b, Q b → X b ∧ D.B ≤ b ∧ ∃ cs, w.heap[b]? = some (.cells cs 3 (0, 0))) : RefC w' D sets msets next F Y sv nv fv yv ov sr nr X where
  old := h.old.trans (hk.below h.old.size (fun b hb => (hq b hb).2.1))
  fb := h.fb
  rul := h.rul_keeps hk (e0 := 3) (by decide) (fun b hb => (hq b hb).2.2)
  map := h.map_keeps hk (fun b hb => by obtain ⟨_, _, cs, hc⟩ := hq b hb; exact ⟨cs, _, hc⟩)
  fm := h.fm
  sets := h.sets.keeps hk (fun b hb => by obtain ⟨_, _, cs, hc⟩ := hq b hb; exact h.sets.not_lst hc (by decide)) (fun b hb => by obtain ⟨_, _, cs, hc⟩ := hq b hb; exact h.sets.not_el hc (by decide))
  nx := h.nx.keeps hk (fun b hb => by obtain ⟨_, _, cs, hc⟩ := hq b hb; exact h.nx.not_lst hc (by decide)) (fun b hb => h.nx.not_X (.inl (hq b hb).1))
  fr := own_keeps h.fr hk (fun g hg hQ => (h.nX g (hq g hQ).1).1 hg)
  yr := own_keeps h.yr hk (fun g hg hQ => (h.nX g (hq g hQ).1).2 hg)
  ne := h.ne
  nX := h.nX
  orp := by
    obtain ⟨x, h6, h7⟩ := h.orp
    exact ⟨x, own_keeps h6 hk (fun g hg hQ => h7 g hg (.inl (hq g hQ).1)), h7⟩
theorem pure (h : RefC w D sets msets next F Y sv nv fv yv ov sr nr X) (hb : Below w.heap.size w w') : RefC w' D sets msets next F Y sv nv fv yv ov sr nr X :=
  h.keeps (Keeps.of_pure hb (fun _ => False)) (fun _ hf => hf.elim)
/-- Another current row: a new one, or none. -/
theorem mono (h : RefC w D sets msets next F Y sv nv fv yv ov sr nr X) (hx : ∀ b, X' b → X b ∨ w.heap.size ≤ b) : RefC w D sets msets next F Y sv nv fv yv ov sr nr X' where
  old := h.old
  fb := h.fb
  rul := h.rul
  map := h.map
  fm := h.fm
  sets := h.sets
  nx := h.nx.mono (fun b hb => by
    rcases hb with hb | hb
    · exact (hx b hb).imp .inl id
    · exact .inl (.inr hb))
  fr := h.fr
  yr := h.yr
  ne := h.ne
  nX := fun g hg => by
    rcases hx g hg with h1 | h1
    · exact h.nX g h1
    · exact ⟨fun e => by have := (h.fr.lt g e).2; omega, fun e => by have := (h.yr.lt g e).2; omega⟩
  orp := by
    obtain ⟨x, h6, h7⟩ := h.orp
    refine ⟨x, h6, fun g hg hx' => ?_⟩
    rcases hx' with hb | hb
    · rcases hx g hb with h1 | h1
      · exact h7 g hg (.inl h1)
      · have := (h6.lt g hg).2; omega
    · exact h7 g hg (.inr hb)
/-- A set told to the map. -/
theorem mapped (h : RefC w D sets msets next F Y sv nv fv yv ov sr nr X) {M : DataW Unit} {b : List Bool} (hg : w.grownBy w' (some D.mb)) (hm : w'.ownsMap Tryz.prog 9 (plainElem (H := Unit) Tryz.prog 3) D.mb (msets.length + 1) (M.put (.string (textS b)) (.lit (.int .i64 (msets.length : Int)))))
    (hr : RelK textS (fun _ => True) M msets) (hn : b ∉ msets) : RefC w' D sets (msets ++ [b]) next F Y sv nv fv yv ov sr nr X := by
  have hk := Keeps.of_grown hg
  obtain ⟨_, ⟨es, clock, hb, _⟩, _⟩ := h.map
  have hne : ∀ {e n : Nat} {v : Value} {xs : List Value} {base : Nat}, w.ownsRow base e 1 v n xs → ∀ g, v.ownBlock = some g → ¬ (some D.mb = some g) := fun ho g hg e => by
    injection e with e
    rw [← e] at hg
    exact own_ne_map ho hb hg
  exact {
    old := h.old.trans (hk.below h.old.size (fun b hb => by injection hb with hb; rw [← hb]; exact h.fm))
    fb := h.fb
    rul := h.rul.keeps hk (fun e => by
      have := h.rul
      unfold RuleAt at this
      injection e with e
      rw [← e, hb] at this
      cases this)
    map := ⟨_, by rw [List.length_append]; exact hm, relK_snoc (fun a b _ _ h => textS_inj a b h) hr trivial hn⟩
    fm := h.fm
    sets := h.sets.keeps hk (fun b hb hg => hne h.sets.lst b hg hb) (fun b hb v hv hg => by obtain ⟨l, _, h2, _⟩ := h.sets.mem hv; exact hne h2 b hg hb)
    nx := h.nx.keeps hk (fun b hb hg => hne h.nx.lst b hg hb) (fun b hb v hv hg => by obtain ⟨l, _, h2, _⟩ := h.nx.mem hv; exact hne h2 b hg hb)
    fr := own_keeps h.fr hk (fun g hg hQ => hne h.fr g hg hQ)
    yr := own_keeps h.yr hk (fun g hg hQ => hne h.yr g hg hQ)
    ne := h.ne
    nX := h.nX
    orp := by
      obtain ⟨x, h6, h7⟩ := h.orp
      exact ⟨x, own_keeps h6 hk (fun g hg hQ => hne h6 g hg hQ), h7⟩ }
theorem row_ne {w : World} {base e e' n n' : Nat} {v u : Value} {xs ys : List Value} (h1 : w.ownsRow base e 1 v n xs) (h2 : w.ownsRow base e' 1 u n' ys) (he : e ≠ e') : ∀ g, v.ownBlock = some g → ¬ (u.ownBlock = some g) := fun _ hg hg' => own_ne_own h1 h2 he hg hg'
/-- A set kept behind the others. -/
theorem setted (h : RefC w D sets msets next F Y sv nv fv yv ov sr nr X) {b : List Bool} {v : Value} (hv : w.ownsRow D.B 4 1 v b.length (b.map Value.bool)) (hnew : ∀ g, v.ownBlock = some g → ∀ u ∈ sr, u.ownBlock ≠ some g)
    (hl : w'.ownsRow D.B 139 1 sv' (sets.length + 1) (sr ++ [v])) (hk : Keeps (fun b => sv.ownBlock = some b) w w') : RefC w' D (sets ++ [b]) msets next F Y sv' nv fv yv ov (sr ++ [v]) nr X where
  old := h.old.trans (hk.below h.old.size (fun b hb => (h.sets.lst.lt b hb).1))
  fb := h.fb
  rul := h.rul.keeps hk (fun hQ => own_ne_blk h.sets.lst h.rul (by decide) hQ)
  map := h.map_keeps hk (fun b hb => by obtain ⟨cs, hc⟩ := own_block h.sets.lst hb; exact ⟨cs, _, hc⟩)
  fm := h.fm
  sets := by
    have hl' : (bVs sets).length = sets.length := by unfold bVs; rw [List.length_map]
    have := RowsG.put (by decide) h.sets (l := b.map Value.bool) (v := v) (lv' := sv') (w' := w') (by rw [List.length_map]; exact hv) (fun _ _ hf => hf) hnew (by rw [hl']; exact hl) hk
    unfold bVs at *
    rw [List.map_append]
    exact this
  nx := h.nx.keeps hk (fun b hb hg => row_ne h.nx.lst h.sets.lst (by decide) b hg hb) (fun b hb v hv hg => by obtain ⟨l, _, h2, _⟩ := h.nx.mem hv; exact row_ne h2 h.sets.lst (by decide) b hg hb)
  fr := own_keeps h.fr hk (fun g hg hQ => row_ne h.fr h.sets.lst (by decide) g hg hQ)
  yr := own_keeps h.yr hk (fun g hg hQ => row_ne h.yr h.sets.lst (by decide) g hg hQ)
  ne := h.ne
  nX := h.nX
  orp := by
    obtain ⟨x, h6, h7⟩ := h.orp
    exact ⟨x, own_keeps h6 hk (fun g hg hQ => row_ne h6 h.sets.lst (by decide) g hg hQ), h7⟩
/-- A row kept behind the others. -/
theorem nexted (h : RefC w D sets msets next F Y sv nv fv yv ov sr nr X) {x : List Int} {v : Value} (hv : w.ownsRow D.B 3 1 v x.length (x.map (Value.int .i64))) (hX : ∀ g, v.ownBlock = some g → ¬ XI X fv yv g) (hnew : ∀ g, v.ownBlock = some g → ∀ u ∈ nr, u.ownBlock ≠ some g)
    (hl : w'.ownsRow D.B 22 1 nv' (next.length + 1) (nr ++ [v])) (hk : Keeps (fun b => nv.ownBlock = some b) w w') : RefC w' D sets msets (next ++ [x]) F Y sv nv' fv yv ov sr (nr ++ [v]) X where
  old := h.old.trans (hk.below h.old.size (fun b hb => (h.nx.lst.lt b hb).1))
  fb := h.fb
  rul := h.rul.keeps hk (fun hQ => own_ne_blk h.nx.lst h.rul (by decide) hQ)
  map := h.map_keeps hk (fun b hb => by obtain ⟨cs, hc⟩ := own_block h.nx.lst hb; exact ⟨cs, _, hc⟩)
  fm := h.fm
  sets := h.sets.keeps hk (fun b hb hg => row_ne h.sets.lst h.nx.lst (by decide) b hg hb) (fun b hb v hv hg => by obtain ⟨l, _, h2, _⟩ := h.sets.mem hv; exact row_ne h2 h.nx.lst (by decide) b hg hb)
  nx := h.nx.put hv hX hnew hl hk
  fr := own_keeps h.fr hk (fun g hg hQ => row_ne h.fr h.nx.lst (by decide) g hg hQ)
  yr := own_keeps h.yr hk (fun g hg hQ => row_ne h.yr h.nx.lst (by decide) g hg hQ)
  ne := h.ne
  nX := h.nX
  orp := by
    obtain ⟨x, h6, h7⟩ := h.orp
    exact ⟨x, own_keeps h6 hk (fun g hg hQ => row_ne h6 h.nx.lst (by decide) g hg hQ), h7⟩
/-- A number kept behind From's. -/
theorem froms (h : RefC w D sets msets next F Y sv nv fv yv ov sr nr X) {i : Nat} (hl : w'.ownsRow D.B 3 1 fv' (F.length + 1) ((ints F).map (Value.int .i64) ++ [.int .i64 (i : Int)])) (hk : Keeps (fun b => fv.ownBlock = some b) w w') (hg : ∀ g, fv'.ownBlock = some g → fv.ownBlock = some g ∨ w.heap.size ≤ g) (hXl : ∀ b, X b → b < w.heap.size) :
    RefC w' D sets msets next (F ++ [i]) Y sv nv fv' yv ov sr nr X where
  old := h.old.trans (hk.below h.old.size (fun b hb => (h.fr.lt b hb).1))
  fb := h.fb
  rul := h.rul.keeps hk (fun hQ => own_ne_blk h.fr h.rul (by decide) hQ)
  map := h.map_keeps hk (fun b hb => by obtain ⟨cs, hc⟩ := own_block h.fr hb; exact ⟨cs, _, hc⟩)
  fm := h.fm
  sets := h.sets.keeps hk (fun b hb hg => row_ne h.sets.lst h.fr (by decide) b hg hb) (fun b hb v hv hg => by obtain ⟨l, _, h2, _⟩ := h.sets.mem hv; exact row_ne h2 h.fr (by decide) b hg hb)
  nx := (h.nx.mono (X' := XI X fv' yv) (fun b hb => by
    rcases hb with hb | hb | hb
    · exact .inl (.inl hb)
    · exact (hg b hb).imp (fun h => .inr (.inl h)) id
    · exact .inl (.inr (.inr hb)))).keeps hk (fun b hb hg => row_ne h.nx.lst h.fr (by decide) b hg hb) (fun b hb => h.nx.not_X (.inr (.inl hb)))
  fr := by
    have e : (ints (F ++ [i])).map (Value.int .i64) = (ints F).map (Value.int .i64) ++ [.int .i64 (i : Int)] := by simp [ints]
    rw [e, List.length_append]
    exact hl
  yr := own_keeps h.yr hk (fun g hg hQ => h.ne g hQ hg)
  ne := fun g h1 h2 => by
    rcases hg g h1 with h3 | h3
    · exact h.ne g h3 h2
    · have := (h.yr.lt g h2).2; omega
  nX := fun g hx => ⟨fun h1 => by
    rcases hg g h1 with h3 | h3
    · exact (h.nX g hx).1 h3
    · have := hXl g hx; omega, (h.nX g hx).2⟩
  orp := by
    obtain ⟨x, h6, h7⟩ := h.orp
    refine ⟨x, own_keeps h6 hk (fun g hg hQ => h7 g hg (.inr (.inl hQ))), fun g hg' hx => ?_⟩
    rcases hx with hx | hx | hx
    · exact h7 g hg' (.inl hx)
    · rcases hg g hx with h3 | h3
      · exact h7 g hg' (.inr (.inl h3))
      · have := (h6.lt g hg').2; omega
    · exact h7 g hg' (.inr (.inr hx))
/-- A number kept behind By's. -/
theorem bys (h : RefC w D sets msets next F Y sv nv fv yv ov sr nr X) {i : Nat} (hl : w'.ownsRow D.B 3 1 yv' (Y.length + 1) ((ints Y).map (Value.int .i64) ++ [.int .i64 (i : Int)])) (hk : Keeps (fun b => yv.ownBlock = some b) w w') (hg : ∀ g, yv'.ownBlock = some g → yv.ownBlock = some g ∨ w.heap.size ≤ g) (hXl : ∀ b, X b → b < w.heap.size) :
    RefC w' D sets msets next F (Y ++ [i]) sv nv fv yv' ov sr nr X where
  old := h.old.trans (hk.below h.old.size (fun b hb => (h.yr.lt b hb).1))
  fb := h.fb
  rul := h.rul.keeps hk (fun hQ => own_ne_blk h.yr h.rul (by decide) hQ)
  map := h.map_keeps hk (fun b hb => by obtain ⟨cs, hc⟩ := own_block h.yr hb; exact ⟨cs, _, hc⟩)
  fm := h.fm
  sets := h.sets.keeps hk (fun b hb hg => row_ne h.sets.lst h.yr (by decide) b hg hb) (fun b hb v hv hg => by obtain ⟨l, _, h2, _⟩ := h.sets.mem hv; exact row_ne h2 h.yr (by decide) b hg hb)
  nx := (h.nx.mono (X' := XI X fv yv') (fun b hb => by
    rcases hb with hb | hb | hb
    · exact .inl (.inl hb)
    · exact .inl (.inr (.inl hb))
    · exact (hg b hb).imp (fun h => .inr (.inr h)) id)).keeps hk (fun b hb hg => row_ne h.nx.lst h.yr (by decide) b hg hb) (fun b hb => h.nx.not_X (.inr (.inr hb)))
  fr := own_keeps h.fr hk (fun g hg hQ => h.ne g hg hQ)
  yr := by
    have e : (ints (Y ++ [i])).map (Value.int .i64) = (ints Y).map (Value.int .i64) ++ [.int .i64 (i : Int)] := by simp [ints]
    rw [e, List.length_append]
    exact hl
  ne := fun g h1 h2 => by
    rcases hg g h2 with h3 | h3
    · exact h.ne g h1 h3
    · have := (h.fr.lt g h1).2; omega
  nX := fun g hx => ⟨(h.nX g hx).1, fun h1 => by
    rcases hg g h1 with h3 | h3
    · exact (h.nX g hx).2 h3
    · have := hXl g hx; omega⟩
  orp := by
    obtain ⟨x, h6, h7⟩ := h.orp
    refine ⟨x, own_keeps h6 hk (fun g hg hQ => h7 g hg (.inr (.inr hQ))), fun g hg' hx => ?_⟩
    rcases hx with hx | hx | hx
    · exact h7 g hg' (.inl hx)
    · exact h7 g hg' (.inr (.inl hx))
    · rcases hg g hx with h3 | h3
      · exact h7 g hg' (.inr (.inr h3))
      · have := (h6.lt g hg').2; omega
/-- The orphan kept. -/
theorem orphaned (h : RefC w D sets msets next F Y sv nv fv yv ov sr nr X) {x : List Int} {ov' : Value} (h1 : w.ownsRow D.B 3 1 ov' x.length (x.map (Value.int .i64))) (h2 : ∀ g, ov'.ownBlock = some g → ¬ XI X fv yv g) : RefC w D sets msets next F Y sv nv fv yv ov' sr nr X :=
  { h with orp := ⟨x, h1, h2⟩ }
/-- A store in the walk's own block. -/
theorem stored (h : RefC w D sets msets next F Y sv nv fv yv ov sr nr X) {cs : Array Value} (hb : w.heap[D.gb]? = some (.cells cs 158 (0, 0))) (j : Nat) (u : Value) : RefC (w.setCell ⟨D.gb, j, none⟩ u) D sets msets next F Y sv nv fv yv ov sr nr X :=
  h.keepsT (Keeps.of_setCell w ⟨D.gb, j, none⟩ u) (e0 := 158) (by decide) (by decide) (by decide) (by decide) (by decide) (fun b hb' => ⟨by rw [show b = D.gb from hb']; exact h.fb, cs, by rw [show b = D.gb from hb']; exact hb⟩)
end RefC
theorem RefB.facts {w : World} {D : GoP} {sv nv fv yv ov : Value} {has over : Bool} (h : RefB w D sv nv fv yv ov has over) :
    w.cell? ⟨D.gb, 0, none⟩ = some sv ∧ w.cell? ⟨D.gb, 1, none⟩ = some nv ∧ w.cell? ⟨D.gb, 2, none⟩ = some fv ∧ w.cell? ⟨D.gb, 3, none⟩ = some yv ∧ w.cell? ⟨D.gb, 4, none⟩ = some ov ∧ w.cell? ⟨D.gb, 5, none⟩ = some (.bool has) ∧ w.cell? ⟨D.gb, 6, none⟩ = some (.bool over) := by
  unfold RefB at h
  refine ⟨?_, ?_, ?_, ?_, ?_, ?_, ?_⟩ <;> rw [cell_of_row w D.gb _ _ _ _ h] <;> rfl
theorem RefB.froz {w : World} {D : GoP} {sv nv fv yv ov : Value} {has over : Bool} (h : RefB w D sv nv fv yv ov has over) (j : Nat) : w.frozen? ⟨D.gb, j, none⟩ = false := frozen_of_row _ _ j _ _ h
theorem RefB.lt {w : World} {D : GoP} {sv nv fv yv ov : Value} {has over : Bool} (h : RefB w D sv nv fv yv ov has over) : D.gb < w.heap.size := (Array.getElem?_eq_some_iff.1 h).1
theorem RefB.keeps {w w' : World} {D : GoP} {sv nv fv yv ov : Value} {has over : Bool} {Q : Nat → Prop} (h : RefB w D sv nv fv yv ov has over) (hk : Keeps Q w w') (hq : ¬ Q D.gb) : RefB w' D sv nv fv yv ov has over := (hk.block _ h.lt hq).trans h
theorem RefB.set {w : World} {D : GoP} {sv nv fv yv ov sv' nv' fv' yv' ov' u : Value} {has over has' over' : Bool} {j : Nat} (h : RefB w D sv nv fv yv ov has over) (hc : (D.cells sv nv fv yv ov has over).setIfInBounds j u = D.cells sv' nv' fv' yv' ov' has' over') : RefB (w.setCell ⟨D.gb, j, none⟩ u) D sv' nv' fv' yv' ov' has' over' := by
  have := heap_setCell_same w D.gb j _ _ u h
  rw [hc] at this
  exact this
end Go.Proofs.YthilnpfpllplaaaGreatDoor

namespace Go.Proofs.YthilnpfpllplaaaGreatDoor
open Go.RowKit Go.Maps BagP RuleP SubP

theorem row_cell {w : World} {B g k s : Nat} {row : List Int} (h : w.ownsRow B 3 1 (.slice (some ⟨g, 0, none⟩) k k) k ((row ++ List.replicate (k - s) 0).map (Value.int .i64))) (hl : row.length = s) (hs : s < k) : w.cell? ⟨g, s, none⟩ = some (.int .i64 0) := by
  rw [h.cellAt s (by simp; omega), List.getElem?_map, List.getElem?_append_right (by omega), hl, Nat.sub_self, List.getElem?_replicate, if_pos (by omega)]; rfl
/-- append of one element, the literal's address as the walk has it. -/
theorem wpList_push_at {P : Program} {w : World} {ops : Array Oper} {rest : List Oper} {o : Oper} {a : Act} {Q : Exit → Act → World → Prop} (hg : o.guard = none) (s x : Operand) (t : TypeId)
    (ho : o.op = .call { callee := .builtin .append, args := #[s, x], argTypes := #[t, t] }) {e : TypeId} {z : Value} {bytes : Nat} (hT : ElemT P t e z bytes)
    {base : Nat} {v : Value} {n : Nat} {xs : List Value} (hown : w.ownsRow base e 1 v n xs) (hs : a.eval s = v) (ad : Addr) (c : Nat) (hx : a.eval x = .slice (some ad) 1 c) (u : Value) (hc : w.cell? ad = some u) (hu : u.oneCell' = true)
    (h63 : n + 1 ≤ maxLen) (hbytes : (n + 1) * bytes ≤ 140737488355328) (hbase : base ≤ w.heap.size)
    (h : ∀ g cap w', w'.ownsRow base e 1 (.slice (some ⟨g, 0, none⟩) (n + 1) cap) (n + 1) (xs ++ [u]) → ((v = .slice (some ⟨g, 0, none⟩) n cap ∧ w.grownBy w' (some g)) ∨ (w.heap.size ≤ g ∧ w.grownBy w' none)) → g < w'.heap.size →
      wpList P ops Q rest (a.put o.dst (.slice (some ⟨g, 0, none⟩) (n + 1) cap)) w') : wpList P ops Q (o :: rest) a w := by
  refine wpList_plain hg fun K' hK' => ?_
  obtain ⟨g, cap, w', hr, h2, h3, h4⟩ := run_push3 (P := P) w t o.type hT hown ad c u hc hu h63 hbytes hbase
  unfold Oper.wp execOp
  simp only [ho, resolve, invoke, builtin, Sem.run_bind, Sem.run_pure, Result.andThen_ok, List.map_toArray, List.map_cons, List.map_nil, hs, hx, hr]
  exact hK' _ _ (h g cap w' h2 h3 h4)
theorem lit_cell_set (w : World) (p : Addr) (v u : Value) (T : TypeId) : ((w.setCell p v).alloc (.cells #[u] T)).cell? ⟨w.heap.size, 0, none⟩ = some u := by
  have hs : (w.setCell p v).heap.size = w.heap.size := by simp [World.setCell]
  have h := heap_new (w.setCell p v) (.cells #[u] T)
  rw [hs] at h
  rw [cell_of_row _ w.heap.size _ _ _ _ h]
  rfl
section steps
variable {D : GoP} {sets msets : List (List Bool)} {next : List (List Int)} {F Y : List Nat} {nv ov : Value} {sr nr : List Value} {has over : Bool} {g K n : Nat} {row : List Value} {SA FA YA : Option Addr} {sc fc yc : Nat}
/-- The set's row kept, and stored: what is then there. -/
theorem set_step {w10 w11 : World} {X : Nat → Prop} {b : List Bool} {gs g11 cap11 : Nat} {fv yv : Value} (hC : RefC w10 D sets msets next F Y (.slice SA n sc) nv fv yv ov sr nr X) (hB : RefB w10 D (.slice SA n sc) nv fv yv ov has over)
    (hrow : w10.ownsRow D.B 3 1 (.slice (some ⟨g, 0, none⟩) K K) K row) (hos : w10.ownsRow D.B 4 1 (.slice (some ⟨gs, 0, none⟩) b.length b.length) b.length (b.map Value.bool)) (hnew : ∀ u ∈ sr, u.ownBlock ≠ some gs)
    (hn : sets.length = n) (hown : w11.ownsRow D.B 139 1 (.slice (some ⟨g11, 0, none⟩) (n + 1) cap11) (n + 1) (sr ++ [.slice (some ⟨gs, 0, none⟩) b.length b.length])) (hg : w10.grownBy w11 (Value.slice SA n sc).ownBlock) (hgne : g ≠ D.gb) :
    RefC (w11.setCell ⟨D.gb, 0, none⟩ (.slice (some ⟨g11, 0, none⟩) (n + 1) cap11)) D (sets ++ [b]) msets next F Y (.slice (some ⟨g11, 0, none⟩) (n + 1) cap11) nv fv yv ov (sr ++ [.slice (some ⟨gs, 0, none⟩) b.length b.length]) nr X ∧
      RefB (w11.setCell ⟨D.gb, 0, none⟩ (.slice (some ⟨g11, 0, none⟩) (n + 1) cap11)) D (.slice (some ⟨g11, 0, none⟩) (n + 1) cap11) nv fv yv ov has over ∧
      (w11.setCell ⟨D.gb, 0, none⟩ (.slice (some ⟨g11, 0, none⟩) (n + 1) cap11)).ownsRow D.B 3 1 (.slice (some ⟨g, 0, none⟩) K K) K row ∧ w11.cell? ⟨D.gb, 0, none⟩ = some (.slice SA n sc) ∧ w11.frozen? ⟨D.gb, 0, none⟩ = false := by
  have hk := Keeps.of_grown hg
  have hC11 := hC.setted (b := b) hos (fun g' hg' u hu => by
    have e : gs = g' := by simpa [Value.ownBlock] using hg'
    rw [← e]
    exact hnew u hu) (by rw [hn]; exact hown) hk
  have hlst := hC.sets.lst
  have hB11 := hB.keeps hk (own_ne_blk hlst hB (by decide))
  have hrow11 := own_keeps hrow hk (fun g' hg' hQ => own_ne_own hrow hlst (by decide) hg' hQ)
  refine ⟨hC11.stored hB11 0 _, hB11.set rfl, own_keeps hrow11 (Keeps.of_setCell w11 _ _) (fun g' hg' e => ?_), hB11.facts.1, hB11.froz 0⟩
  have e : g' = D.gb := e
  have e2 : g = g' := by simpa [Value.ownBlock] using hg'
  exact hgne (e2.trans e)
theorem from_step {w11 w12 : World} {i g12 cap12 : Nat} {sv yv : Value} (hC : RefC w11 D sets msets next F Y sv nv (.slice FA n fc) yv ov sr nr (fun b => b = g)) (hB : RefB w11 D sv nv (.slice FA n fc) yv ov has over)
    (hrow : w11.ownsRow D.B 3 1 (.slice (some ⟨g, 0, none⟩) K K) K row) (hn : F.length = n) (hown : w12.ownsRow D.B 3 1 (.slice (some ⟨g12, 0, none⟩) (n + 1) cap12) (n + 1) ((ints F).map (Value.int .i64) ++ [.int .i64 (i : Int)])) (hk : Keeps (fun b => (Value.slice FA n fc).ownBlock = some b) w11 w12)
    (hat : (Value.slice FA n fc).ownBlock = some g12 ∨ w11.heap.size ≤ g12) (hgne : g ≠ D.gb) :
    RefC (w12.setCell ⟨D.gb, 2, none⟩ (.slice (some ⟨g12, 0, none⟩) (n + 1) cap12)) D sets msets next (F ++ [i]) Y sv nv (.slice (some ⟨g12, 0, none⟩) (n + 1) cap12) yv ov sr nr (fun b => b = g) ∧
      RefB (w12.setCell ⟨D.gb, 2, none⟩ (.slice (some ⟨g12, 0, none⟩) (n + 1) cap12)) D sv nv (.slice (some ⟨g12, 0, none⟩) (n + 1) cap12) yv ov has over ∧
      (w12.setCell ⟨D.gb, 2, none⟩ (.slice (some ⟨g12, 0, none⟩) (n + 1) cap12)).ownsRow D.B 3 1 (.slice (some ⟨g, 0, none⟩) K K) K row ∧ w12.cell? ⟨D.gb, 2, none⟩ = some (.slice FA n fc) ∧ w12.frozen? ⟨D.gb, 2, none⟩ = false := by
  have hgl := (hrow.lt g rfl).2
  have hC12 := hC.froms (i := i) (fv' := .slice (some ⟨g12, 0, none⟩) (n + 1) cap12) (by rw [hn]; exact hown) hk (fun g' hg' => by
    have e : g12 = g' := by simpa [Value.ownBlock] using hg'
    rw [← e]
    exact hat) (fun b hb => by rw [hb]; exact hgl)
  have hB12 := hB.keeps hk (own_ne_blk hC.fr hB (by decide))
  have hrow12 := own_keeps hrow hk (fun g' hg' hQ => by
    have e : g = g' := by simpa [Value.ownBlock] using hg'
    rw [← e] at hQ
    exact (hC.nX g rfl).1 hQ)
  refine ⟨hC12.stored hB12 2 _, hB12.set rfl, own_keeps hrow12 (Keeps.of_setCell w12 _ _) (fun g' hg' e => ?_), hB12.facts.2.2.1, hB12.froz 2⟩
  have e : g' = D.gb := e
  have e2 : g = g' := by simpa [Value.ownBlock] using hg'
  exact hgne (e2.trans e)
theorem by_step {w12 w13 : World} {i g13 cap13 : Nat} {sv fv : Value} (hC : RefC w12 D sets msets next F Y sv nv fv (.slice YA n yc) ov sr nr (fun b => b = g)) (hB : RefB w12 D sv nv fv (.slice YA n yc) ov has over)
    (hrow : w12.ownsRow D.B 3 1 (.slice (some ⟨g, 0, none⟩) K K) K row) (hn : Y.length = n) (hown : w13.ownsRow D.B 3 1 (.slice (some ⟨g13, 0, none⟩) (n + 1) cap13) (n + 1) ((ints Y).map (Value.int .i64) ++ [.int .i64 (i : Int)])) (hk : Keeps (fun b => (Value.slice YA n yc).ownBlock = some b) w12 w13)
    (hat : (Value.slice YA n yc).ownBlock = some g13 ∨ w12.heap.size ≤ g13) (hgne : g ≠ D.gb) :
    RefC (w13.setCell ⟨D.gb, 3, none⟩ (.slice (some ⟨g13, 0, none⟩) (n + 1) cap13)) D sets msets next F (Y ++ [i]) sv nv fv (.slice (some ⟨g13, 0, none⟩) (n + 1) cap13) ov sr nr (fun b => b = g) ∧
      RefB (w13.setCell ⟨D.gb, 3, none⟩ (.slice (some ⟨g13, 0, none⟩) (n + 1) cap13)) D sv nv fv (.slice (some ⟨g13, 0, none⟩) (n + 1) cap13) ov has over ∧
      (w13.setCell ⟨D.gb, 3, none⟩ (.slice (some ⟨g13, 0, none⟩) (n + 1) cap13)).ownsRow D.B 3 1 (.slice (some ⟨g, 0, none⟩) K K) K row ∧ w13.cell? ⟨D.gb, 3, none⟩ = some (.slice YA n yc) ∧ w13.frozen? ⟨D.gb, 3, none⟩ = false := by
  have hgl := (hrow.lt g rfl).2
  have hC13 := hC.bys (i := i) (yv' := .slice (some ⟨g13, 0, none⟩) (n + 1) cap13) (by rw [hn]; exact hown) hk (fun g' hg' => by
    have e : g13 = g' := by simpa [Value.ownBlock] using hg'
    rw [← e]
    exact hat) (fun b hb => by rw [hb]; exact hgl)
  have hB13 := hB.keeps hk (own_ne_blk hC.yr hB (by decide))
  have hrow13 := own_keeps hrow hk (fun g' hg' hQ => by
    have e : g = g' := by simpa [Value.ownBlock] using hg'
    rw [← e] at hQ
    exact (hC.nX g rfl).2 hQ)
  refine ⟨hC13.stored hB13 3 _, hB13.set rfl, own_keeps hrow13 (Keeps.of_setCell w13 _ _) (fun g' hg' e => ?_), hB13.facts.2.2.2.1, hB13.froz 3⟩
  have e : g' = D.gb := e
  have e2 : g = g' := by simpa [Value.ownBlock] using hg'
  exact hgne (e2.trans e)
end steps

end Go.Proofs.YthilnpfpllplaaaGreatDoor

namespace Go.Proofs.YthilnpfpllplaaaGreatDoor
open Go.RowKit BagP RuleP SubP

set_option maxRecDepth 100000 in
theorem empty_c (w : World) (A : Option Addr) (n c : Nat) (B : List Bool) (h : Sl w A n (B.map Value.bool)) (hn : n ≤ 9223372036854775807) :
    Calls Tryz.prog 126 #[.slice A n c] w fun e w' => e = .returned (.bool (decide (nodesOf B = []))) ∧ w = w' := by
  have hl : B.length = n := by simpa using h.1
  have HL := Lib.hid hl
  clear hl
  go_enter Tryz.func126, Tryz.ntmps126
  go_wp2_with fail
  go_loopw [3] (fun iv wl => ∃ q : Nat, q ≤ n ∧ iv = .int .i64 (q : Int) ∧ wl = w ∧ Hid (nodesTo B q = [])) (fun iv _ => n - (intOf iv).toNat)
  case atStart => exact ⟨0, Nat.zero_le _, rfl, rfl, Lib.hid rfl⟩
  case round =>
    obtain ⟨q, hq, rfl, rfl, hn0⟩ := hrel
    by_cases hlt : q < n
    · obtain ⟨b, hb⟩ : ∃ b, B[q]? = some b := ⟨_, List.getElem?_eq_getElem (by rw [HL.out]; exact hlt)⟩
      obtain ⟨ad, hA, hc⟩ := h.2 q (.bool b) (by rw [List.getElem?_map, hb]; rfl)
      subst hA
      have HBQ := Lib.hid (getD_of (d := false) hb)
      clear hb
      cases b
      · go_wp2_with fail
        exact ⟨⟨q + 1, by omega, by go_num, trivial, Lib.hid (by rw [nodesTo_succ, hn0.out, HBQ.out]; rfl)⟩, by simp [intOf]; omega⟩
      · go_wp2_with fail
        go_ret
        have hne : nodesOf B ≠ [] := fun e => by
          have := mem_nodesOf.2 (⟨by rw [HL.out]; exact hlt, HBQ.out⟩ : q < B.length ∧ B.getD q false = true)
          rw [e] at this
          cases this
        exact ⟨by rw [decide_eq_false hne]; rfl, rfl⟩
    · have hqn : q = n := by omega
      have hlt' : ¬ (q : Int) < (n : Int) := by omega
      have HE : Hid (nodesOf B = []) := Lib.hid (by unfold nodesOf; rw [HL.out, ← hqn]; exact hn0.out)
      clear hqn
      go_wp2_with fail
      go_ret
      exact ⟨by rw [decide_eq_true HE.out]; rfl, rfl⟩

theorem bytes_row (w : World) (n : Nat) (h : n ≤ maxLen) : (w.alloc (.cells (madeCells #[.int .u8 0] n) 5)).ownsRow w.heap.size 5 1 (.slice (some ⟨w.heap.size, 0, none⟩) n n) n (List.replicate n (.int .u8 0)) := by
  have := World.ownsRow_lit (base := w.heap.size) (e := 5) (size := 1) w (madeCells #[.int .u8 0] n) n (Nat.le_refl _) h (by rw [size_madeCells]; simp)
  rwa [toList_madeCells_one] at this
theorem textS_at {B : List Bool} {q : Nat} {b : Bool} (h : B[q]? = some b) : (textS B)[q]? = some (if b then 1 else 0) := by
  unfold textS
  rw [List.getElem?_map, h]
  rfl
theorem textS_len (B : List Bool) : (textS B).length = B.length := by simp [textS]

set_option maxRecDepth 100000 in
set_option maxHeartbeats 1000000 in
theorem text10_c (w : World) (A : Option Addr) (n c : Nat) (B : List Bool) (h : Sl w A n (B.map Value.bool)) (hn : n ≤ 1048576) :
    Calls Tryz.prog 124 #[.slice A n c] w fun e w' => e = .returned (.string ⟨(textS B).toArray⟩) ∧ Below w.heap.size w w' := by
  have hl : B.length = n := by simpa using h.1
  have HL := Lib.hid hl
  have HTL := Lib.hid (show (textS B).length = n by rw [textS_len, hl])
  clear hl
  have hmk := run_make_row' (P := Tryz.prog) 176 5 (.int .u8 0) 1 tBytes.und tBytes.info rfl .i64 .i64 n (by omega) (by omega)
  have hown0 := bytes_row w n (by simp only [maxLen]; omega)
  go_enter Tryz.func124, Tryz.ntmps124
  go_wp2_with fail
  clear hmk
  go_loopw [4] (fun iv wl => ∃ q : Nat, q ≤ n ∧ iv = .int .i64 (q : Int) ∧ wl.ownsRow w.heap.size 5 1 (.slice (some ⟨w.heap.size, 0, none⟩) n n) n ((fillTo (textS B) n 0 q).map bv) ∧ Hid (Below w.heap.size w wl)) (fun iv _ => n - (intOf iv).toNat)
  case atStart => exact ⟨0, Nat.zero_le _, rfl, by rw [fillTo_zero, List.map_replicate]; exact hown0, Lib.hid ((Below.refl _ _).alloc (Nat.le_refl _) _)⟩
  case round =>
    obtain ⟨q, hq, rfl, hown, hb⟩ := hrel
    clear hown0
    by_cases hlt : q < n
    · obtain ⟨b, hbq⟩ : ∃ b, B[q]? = some b := ⟨_, List.getElem?_eq_getElem (by rw [HL.out]; exact hlt)⟩
      obtain ⟨ad, hA, hc⟩ := (h.below hb.out).2 q (.bool b) (by rw [List.getElem?_map, hbq]; rfl)
      subst hA
      have hcell : wr.cell? ⟨w.heap.size, q, none⟩ = some (.int .u8 0) := by
        rw [hown.cellAt q (by omega), List.getElem?_map, fillTo_at' hlt (by rw [HTL.out]; omega)]; rfl
      have hfr := hown.frozenAt q
      have HTA := Lib.hid (textS_at hbq)
      cases b
      · have HO : Hid (wr.ownsRow w.heap.size 5 1 (.slice (some ⟨w.heap.size, 0, none⟩) n n) n ((fillTo (textS B) n 0 (q + 1)).map bv)) := Lib.hid (by
          have e := fillTo_set (z := (0 : UInt8)) hlt HTA.out
          rw [← e, if_neg (by simp), list_set_same (fillTo_at' hlt (by rw [HTL.out]; omega))]
          exact hown)
        clear hcell hfr hown hbq
        go_wp2_with fail
        exact ⟨⟨q + 1, by omega, by go_num, HO.out, hb⟩, by simp [intOf]; omega⟩
      · have hst := (hown.stored q (bv 1)).1
        have e := fillTo_set (z := (0 : UInt8)) hlt HTA.out
        rw [if_pos rfl] at e
        rw [← List.map_set, e] at hst
        have HB4 := Lib.hid (hb.out.setCell (p := ⟨w.heap.size, q, none⟩) (Nat.le_refl _) (bv 1))
        rw [show bv 1 = Value.int .u8 1 from rfl] at hst HB4
        clear hown hbq e
        go_wp2_with fail
        exact ⟨⟨q + 1, by omega, by go_num, hst, HB4⟩, by simp [intOf]; omega⟩
    · have hqn : q = n := by omega
      have hlt' : ¬ (q : Int) < (n : Int) := by omega
      rw [hqn, fillTo_all _ HTL.out] at hown
      clear hqn
      have hconv := run_own_string (P := Tryz.prog) wr 176 9 5 tBytes.und Tryz.underlying5 Tryz.underlying9 hown
      go_wp2_with fail
      go_ret
      exact ⟨rfl, hb.out⟩
theorem make_row_bools (w : World) (n : Nat) (h : n ≤ maxLen) : (w.alloc (.cells (madeCells #[.bool false] n) 4)).ownsRow w.heap.size 4 1 (.slice (some ⟨w.heap.size, 0, none⟩) n n) n (List.replicate n (.bool false)) := by
  have := World.ownsRow_lit (base := w.heap.size) (e := 4) (size := 1) w (madeCells #[.bool false] n) n (Nat.le_refl _) h (by rw [size_madeCells]; simp)
  rwa [toList_madeCells_one] at this
theorem behF_more (k N : Nat) (t : List Nat) (B : List Bool) (s u : Nat) : behF k N t s (nodesTo B (u + 1)) = behF k N t s (nodesTo B u) ++ if B.getD u false then outTo k N t s u k else [] := by
  rw [nodesTo_succ]
  cases B.getD u false
  · simp
  · simp only [if_true]
    rw [behF_snoc]

set_option maxRecDepth 100000 in
set_option maxHeartbeats 2000000 in
theorem behind_c (w : World) (k r N : Nat) (A S : Option Addr) (n c d : Nat) (t : List Nat) (B : List Bool) (s : Nat) (hT : Sl w A n ((ints t).map (Value.int .i64))) (hS : Sl w S N (B.map Value.bool)) (hk1 : 1 ≤ k) (hk4 : k ≤ 4) (hN0 : 0 < N) (hN : N ≤ 16384) (hlen : t.length = N * k) (_ : ∀ x ∈ t, x < k) :
    Calls Tryz.prog 125 #[ruleV (k : Int) (r : Int) A n c, .slice S N d, .int .i64 (s : Int)] w fun e w' => ∃ g, e = .returned (.slice (some ⟨g, 0, none⟩) N N) ∧
      w'.ownsRow w.heap.size 4 1 (.slice (some ⟨g, 0, none⟩) N N) N ((beh k N t B s).map Value.bool) ∧ Below w.heap.size w w' := by
  have hBl : B.length = N := by simpa using hS.1
  have htl : t.length = n := by simpa [ints] using hT.1
  have hb1 := (Below.refl w.heap.size w).alloc (Nat.le_refl _) (.cells #[.int .i64 (k : Int), .int .i64 (r : Int), .slice A n c] 24)
  have hr1 := RuleAt.new w (.int .i64 (k : Int)) (.int .i64 (r : Int)) (.slice A n c)
  obtain ⟨w1, hw1⟩ : ∃ w1, w.alloc (.cells #[.int .i64 (k : Int), .int .i64 (r : Int), .slice A n c] 24) = w1 := ⟨_, rfl⟩
  rw [hw1] at hb1 hr1
  have hz1 : w1.heap.size = w.heap.size + 1 := by rw [← hw1]; simp
  have hmk := run_make_row' (P := Tryz.prog) 139 4 (.bool false) 1 tBools.und tBools.info rfl .i64 .i64 N (by omega) (by omega)
  have hmk1 := hmk w1
  have hown0 := make_row_bools w1 N (by simp only [maxLen]; omega)
  have hba := (Below.refl w1.heap.size w1).alloc (Nat.le_refl _) (.cells (madeCells #[.bool false] N) 4)
  rw [← hw1] at hmk1
  have HW1 := Lib.hid hw1
  have HR1 := Lib.hid hr1
  have HB1 := Lib.hid hb1
  have HBA := Lib.hid hba
  have HO0 := Lib.hid hown0
  have HZ1 := Lib.hid hz1
  have HBL := Lib.hid hBl
  have HTL := Lib.hid htl
  have HLEN := Lib.hid hlen
  have HTT := Lib.hid hT
  have HSS := Lib.hid hS
  have hnb : n ≤ 65536 := by rw [← htl, hlen]; exact Nat.le_trans (Nat.mul_le_mul hN hk4) (by decide)
  clear hw1 hr1 hb1 hba hown0 hz1 hBl htl hlen hT hS hmk
  unfold ruleV
  go_enter Tryz.func125, Tryz.ntmps125
  go_wp2_with fail
  clear hmk1
  rw [HW1.out]
  obtain ⟨g, hg⟩ : ∃ g, w.heap.size + 1 = g := ⟨_, rfl⟩
  have HG := Lib.hid hg
  rw [hg]
  clear hg
  go_loopw [9] (fun iv wl => ∃ u : Nat, u ≤ N ∧ iv = .int .i64 (u : Int) ∧ wl.ownsRow w.heap.size 4 1 (.slice (some ⟨g, 0, none⟩) N N) N ((SubP.mark N (behF k N t s (nodesTo B u))).map Value.bool) ∧ Hid (Below w1.heap.size w1 wl)) (fun iv _ => N - (intOf iv).toNat)
  case atStart => exact ⟨0, Nat.zero_le _, rfl, by
    have h := own_base HO0.out (show w.heap.size ≤ w1.heap.size by rw [HZ1.out]; omega)
    rw [show (⟨w1.heap.size, 0, none⟩ : Addr) = ⟨g, 0, none⟩ by rw [HZ1.out, HG.out]] at h
    rw [show behF k N t s (nodesTo B 0) = [] from rfl, mark_nil, List.map_replicate]
    exact h, HBA⟩
  case round =>
    obtain ⟨u, hu, rfl, hown, hb⟩ := hrel
    by_cases hlt : u < N
    · have hlt' : (u : Int) < (N : Int) := by omega
      have hbw := HB1.out.trans (hb.out.mono HB1.out.size)
      obtain ⟨b, hbq⟩ : ∃ b, B[u]? = some b := ⟨_, List.getElem?_eq_getElem (by rw [HBL.out]; exact hlt)⟩
      obtain ⟨ad, hA, hc⟩ := (HSS.out.below hbw).2 u (.bool b) (by rw [List.getElem?_map, hbq]; rfl)
      subst hA
      have HBQ := Lib.hid (getD_of (d := false) hbq)
      clear hbq hbw
      cases b
      · have HM := Lib.hid (behF_more k N t B s u)
        go_wp2_with fail
        exact ⟨⟨u + 1, by omega, by go_num, by rw [HM.out, HBQ.out, if_neg (by simp), List.append_nil]; exact hown, hb⟩, by simp [intOf]; omega⟩
      · have HM := Lib.hid (behF_more k N t B s u)
        obtain ⟨L0, hL0⟩ : ∃ L0, behF k N t s (nodesTo B u) = L0 := ⟨_, rfl⟩
        rw [hL0] at hown HM
        clear hL0
        go_wp2_with fail
        clear hc
        go_loopw [10] (fun iv wl => ∃ q : Nat, q ≤ k ∧ iv = .int .i64 (q : Int) ∧ wl.ownsRow w.heap.size 4 1 (.slice (some ⟨g, 0, none⟩) N N) N ((SubP.mark N (L0 ++ outTo k N t s u q)).map Value.bool) ∧ Hid (Below w1.heap.size w1 wl)) (fun iv _ => k - (intOf iv).toNat)
        case atStart => exact ⟨0, Nat.zero_le _, rfl, by rw [outTo_zero, List.append_nil]; exact hown, hb⟩
        case round =>
          clear hown hb
          obtain ⟨q, hq, rfl, hown, hb⟩ := hrel
          have hrw := HR1.out.below hb.out HR1.out.lt
          obtain ⟨r0, r1, r2, _⟩ := hrw.facts
          clear hrw
          by_cases hqk : q < k
          · have hqk' : (q : Int) < (k : Int) := by omega
            have hix : u * k + q < t.length := by
              rw [HLEN.out]
              have : (u + 1) * k ≤ N * k := Nat.mul_le_mul_right k hlt
              rw [Nat.add_mul, Nat.one_mul] at this
              omega
            obtain ⟨lb, hlb⟩ : ∃ lb, t[u * k + q]? = some lb := ⟨_, List.getElem?_eq_getElem hix⟩
            have hgd : t.getD (u * k + q) 0 = lb := getD_of hlb
            have hbw := HB1.out.trans (hb.out.mono HB1.out.size)
            obtain ⟨ad2, hA2, hc2⟩ := (HTT.out.below hbw).2 (u * k + q) (.int .i64 (lb : Int)) (by rw [List.getElem?_map]; unfold ints; rw [List.getElem?_map, hlb]; rfl)
            subst hA2
            have HOS := Lib.hid (outTo_succ k N t s u q)
            rw [HTL.out] at hix
            obtain ⟨Q, hQ⟩ : ∃ Q, u * k = Q := ⟨_, rfl⟩
            have hQ' : (u : Int) * (k : Int) = (Q : Int) := by rw [← hQ]; simp
            rw [hQ] at hix hgd hc2 HOS
            have HLB0 := Lib.hid hgd
            have hVlt : (Q + q) % N < N := Nat.mod_lt _ hN0
            obtain ⟨V, hV⟩ : ∃ V, (Q + q) % N = V := ⟨_, rfl⟩
            have hV' : ((Q : Int) + (q : Int)) % (N : Int) = (V : Int) := by rw [← hV]; simp
            rw [hV] at hVlt
            rw [hV, HLB0.out] at HOS
            have hNz : ¬ ((N : Int) = 0) := by omega
            clear hlb hbw hQ hgd hV
            by_cases hls : lb = s
            · have hq1 : ((lb : Int) == (s : Int)) = true := by rw [hls]; simp
              have hlm : ((SubP.mark N (L0 ++ outTo k N t s u q)).map Value.bool).length = N := by rw [List.length_map, mark_len]
              obtain ⟨ob, hob⟩ : ∃ ob, (SubP.mark N (L0 ++ outTo k N t s u q))[V]? = some ob := ⟨_, List.getElem?_eq_getElem (by rw [mark_len]; exact hVlt)⟩
              have hcell : wr.cell? ⟨g, V, none⟩ = some (.bool ob) := by rw [hown.cellAt V (by omega), List.getElem?_map, hob]; rfl
              have hfr := hown.frozenAt V
              have hst := (hown.stored V (.bool true)).1
              rw [← List.map_set, ← mark_snoc, List.append_assoc] at hst
              have HOS2 := Lib.hid (HOS.out.trans (by rw [if_pos hls]))
              have hgw : w1.heap.size ≤ g := by rw [HZ1.out, HG.out]; exact Nat.le_refl _
              have HB4 := Lib.hid (hb.out.setCell (p := ⟨g, V, none⟩) hgw (.bool true))
              clear hls HOS hown hlm hob hgw
              go_wp2_with fail
              exact ⟨⟨q + 1, by omega, by go_num, by rw [HOS2.out]; exact hst, HB4⟩, by simp [intOf]; omega⟩
            · have hq1 : ((lb : Int) == (s : Int)) = false := by simp; omega
              have HOS2 := Lib.hid (HOS.out.trans (by rw [if_neg hls, List.append_nil]))
              clear hls HOS
              go_wp2_with fail
              exact ⟨⟨q + 1, by omega, by go_num, by rw [HOS2.out]; exact hown, hb⟩, by simp [intOf]; omega⟩
          · have hqk' : ¬ (q : Int) < (k : Int) := by omega
            have hqe : q = k := by omega
            have HO2 : Hid (wr.ownsRow w.heap.size 4 1 (.slice (some ⟨g, 0, none⟩) N N) N ((SubP.mark N (L0 ++ outTo k N t s u k)).map Value.bool)) := Lib.hid (by have h := hown; rw [hqe] at h; exact h)
            clear hqe hown
            go_wp2_with fail
            exact ⟨⟨u + 1, by omega, by go_num, by rw [HM.out, HBQ.out, if_pos rfl]; exact HO2.out, hb⟩, by simp [intOf]; omega⟩
    · have hlt' : ¬ (u : Int) < (N : Int) := by omega
      have hue : u = N := by omega
      have HO2 : Hid (wr.ownsRow w.heap.size 4 1 (.slice (some ⟨g, 0, none⟩) N N) N ((beh k N t B s).map Value.bool)) := Lib.hid (by have h := hown; rw [hue] at h; unfold beh nodesOf; rw [HBL.out]; exact h)
      have HBE := Lib.hid (HB1.out.trans (hb.out.mono HB1.out.size))
      clear hue hown
      go_wp2_with fail
      go_ret
      exact ⟨g, rfl, HO2.out, HBE.out⟩
end Go.Proofs.YthilnpfpllplaaaGreatDoor

namespace Go.Proofs.YthilnpfpllplaaaGreatDoor
open Go.RowKit Go.WideMaps Go.Maps BagP RuleP SubP

/-- An entry of a written map, put into it. -/
theorem wpList_insert_own {H : Type} {P : Program} (w : World) {ops : Array Oper} {rest : List Oper} {o : Oper} {a : Act} {Q : Exit → Act → World → Prop}
    (hg : o.guard = none) (m x v : Operand) (t : TypeId) (hop : o.op = Op.insert t m x v)
    (k e : TypeId) (K : Keyed P k) (ht : P.underlying t = some (.map k e)) (R : Value → Option (DataW H × List MemPlace)) (b n : Nat) (D : DataW H)
    (hm : a.eval m = .map (some b)) (hown : w.ownsMap P k R b n D) (hn : n < maxLen) (key val : Value) (kl : Lit) (hx : a.eval x = key) (hv : a.eval v = val) (hkey : keyOf P k key = some kl)
    (d : DataW H) (ps : List MemPlace) (hval : R val = some (d, ps))
    (hK : ∀ w', w'.ownsMap P k R b (n + 1) (D.put kl d) → w.grownBy w' (some b) → wpList P ops Q rest (a.put o.dst undef) w') :
    wpList P ops Q (o :: rest) a w := by
  refine wpList_plain hg fun K' hK' => ?_
  obtain ⟨w', hrun, r1, r2⟩ := hown.update K ht hn hkey hval
  unfold Oper.wp
  simp [execOp, hop, hm, hx, hv, hrun, Result.andThen]
  exact hK' _ _ (hK w' r1 r2)

theorem textS_key (B : List Bool) (h : B.length ≤ 1048576) : keyOf Tryz.prog 9 (.string ⟨(textS B).toArray⟩) = some (.string (textS B)) := by
  have := keyOf_string_mk Tryz.underlying9 (s := ⟨(textS B).toArray⟩) (by simp only [ByteArray.size, List.size_toArray, textS_len, maxLen]; omega)
  simpa using this

theorem relK_in {α : Type} [DecidableEq α] {key : α → List UInt8} {ok : α → Prop} {D : DataW Unit} {S : List α} (h : SubP.RelK key ok D S) {l : α} (hl : ok l) (hm : l ∈ S) : Maps.has D (.string (key l)) = true := by
  rw [(h.2 l hl).1]; exact decide_eq_true hm
theorem relK_out {α : Type} [DecidableEq α] {key : α → List UInt8} {ok : α → Prop} {D : DataW Unit} {S : List α} (h : SubP.RelK key ok D S) {l : α} (hl : ok l) (hm : l ∉ S) : Maps.has D (.string (key l)) = false := by
  rw [(h.2 l hl).1]; exact decide_eq_false hm

/-- What Go leaves. -/
def GoPost (w : World) (k r : Nat) (t : List Nat) (stop : Bool) (e : Ending) (w' : World) : Prop :=
  ∃ (gb : Nat) (sv nv fv yv ov : Value) (has over : Bool), e = .returned (.pointer (some ⟨gb, 0, none⟩)) ∧ w'.heap[gb]? = some (.cells #[sv, nv, fv, yv, ov, .bool has, .bool over] 158 (0, 0)) ∧ Below w.heap.size w w' ∧
    (∀ S, fin k (k ^ (2 * r)) t stop = .go S [] → over = false ∧ (stop = true → has = false) ∧ ∃ sr nr, RowsG 139 4 w' w.heap.size sv sr (bVs S.sets) (fun _ => False) ∧ RowsAt w' w.heap.size nv nr S.next (fun _ => False)) ∧
    (∀ x, fin k (k ^ (2 * r)) t stop = .orphan x → has = true ∧ w'.ownsRow w.heap.size 3 1 ov x.length ((ints x).map (Value.int .i64))) ∧
    (fin k (k ^ (2 * r)) t stop = .over → over = true ∧ (stop = true → has = false))

theorem GoPost.orph {w w' : World} {k r N gb : Nat} {t : List Nat} {stop : Bool} {sv nv fv yv ov : Value} {over : Bool} {x : List Nat} (hN : k ^ (2 * r) = N) (hf : fin k N t stop = .orphan x) (hg : w'.heap[gb]? = some (.cells #[sv, nv, fv, yv, ov, .bool true, .bool over] 158 (0, 0)))
    (hb : Below w.heap.size w w') (ho : w'.ownsRow w.heap.size 3 1 ov x.length ((ints x).map (Value.int .i64))) : GoPost w k r t stop (.returned (.pointer (some ⟨gb, 0, none⟩))) w' := by
  rw [← hN] at hf
  exact ⟨gb, sv, nv, fv, yv, ov, true, over, rfl, hg, hb, fun S h => (by rw [hf] at h; cases h), fun y h => (by rw [hf] at h; injection h with h; subst h; exact ⟨rfl, ho⟩), fun h => by rw [hf] at h; cases h⟩
theorem GoPost.over {w w' : World} {k r N gb : Nat} {t : List Nat} {stop : Bool} {sv nv fv yv ov : Value} {has : Bool} (hN : k ^ (2 * r) = N) (hf : fin k N t stop = .over) (hg : w'.heap[gb]? = some (.cells #[sv, nv, fv, yv, ov, .bool has, .bool true] 158 (0, 0)))
    (hb : Below w.heap.size w w') (hs : stop = true → has = false) : GoPost w k r t stop (.returned (.pointer (some ⟨gb, 0, none⟩))) w' := by
  rw [← hN] at hf
  exact ⟨gb, sv, nv, fv, yv, ov, has, true, rfl, hg, hb, fun S h => (by rw [hf] at h; cases h), fun y h => (by rw [hf] at h; cases h), fun _ => ⟨rfl, hs⟩⟩
theorem GoPost.all {w w' : World} {k r N gb : Nat} {t : List Nat} {stop : Bool} {sv nv fv yv ov : Value} {has : Bool} {S : St} {sr nr : List Value} (hN : k ^ (2 * r) = N) (hf : fin k N t stop = .go S []) (hg : w'.heap[gb]? = some (.cells #[sv, nv, fv, yv, ov, .bool has, .bool false] 158 (0, 0)))
    (hb : Below w.heap.size w w') (hs : stop = true → has = false) (h1 : RowsG 139 4 w' w.heap.size sv sr (bVs S.sets) (fun _ => False)) (h2 : RowsAt w' w.heap.size nv nr S.next (fun _ => False)) : GoPost w k r t stop (.returned (.pointer (some ⟨gb, 0, none⟩))) w' := by
  rw [← hN] at hf
  exact ⟨gb, sv, nv, fv, yv, ov, has, false, rfl, hg, hb, fun S' h => (by rw [hf] at h; injection h with h _; subst h; exact ⟨rfl, hs, sr, nr, h1, h2⟩), fun y h => (by rw [hf] at h; cases h), fun h => by rw [hf] at h; cases h⟩

set_option maxRecDepth 100000 in
set_option maxHeartbeats 8000000 in
theorem go_c (w : World) (k r : Nat) (t : List Nat) (A : Option Addr) (n c : Nat) (stop : Bool) (hT : Sl w A n ((ints t).map (Value.int .i64))) (hr : IsRule k r t) (h256 : t.length ≤ 256) :
    Calls Tryz.prog 106 #[ruleV (k : Int) (r : Int) A n c, .bool stop] w (GoPost w k r t stop) := by
  have hn : t.length = n := by simpa [ints] using hT.1
  subst hn
  have hk1 := hr.k1
  have hk4 := hr.k4
  have hND := nodes_div hr
  have hN256 : k ^ (2 * r) ≤ 256 := Nat.le_trans (Nat.le_mul_of_pos_right _ hk1) (hND.2 ▸ h256)
  have hN0 : 0 < k ^ (2 * r) := Nat.pow_pos hk1
  have hb1 := (Below.refl w.heap.size w).alloc (Nat.le_refl _) (.cells #[.int .i64 (k : Int), .int .i64 (r : Int), .slice A t.length c] 24)
  have hr1 := RuleAt.new w (.int .i64 (k : Int)) (.int .i64 (r : Int)) (.slice A t.length c)
  obtain ⟨w1, hw1⟩ : ∃ w1, w.alloc (.cells #[.int .i64 (k : Int), .int .i64 (r : Int), .slice A t.length c] 24) = w1 := ⟨_, rfl⟩
  rw [hw1] at hb1 hr1
  have HCN := Lib.hid (count_c w1 k r A t.length c hk1 hk4 hr.r3)
  obtain ⟨N, hN⟩ : ∃ N, k ^ (2 * r) = N := ⟨_, rfl⟩
  rw [hN] at HCN hN256 hN0
  unfold ruleV at HCN
  have HNN := Lib.hid hN
  have HND := Lib.hid hND
  have HW1 := Lib.hid hw1
  have HB1 := Lib.hid hb1
  have HR1 := Lib.hid hr1
  have HR := Lib.hid hr
  have HT := Lib.hid hT
  have H256 := Lib.hid h256
  clear hND hN hw1 hb1 hr1 hr hT h256
  have hmk := run_make_row' (P := Tryz.prog) 139 4 (.bool false) 1 tBools.und tBools.info rfl .i64 .i64 N (by omega) (by omega)
  unfold ruleV
  go_enter Tryz.func106, Tryz.ntmps106
  go_wp2_with fail
  rw [HW1.out]
  refine (HCN.out).mono ?_
  rintro e w2 ⟨rfl, hb2⟩
  clear HCN
  have hmk2 := hmk w2
  have hown0 := make_row_bools w2 N (by simp only [maxLen]; omega)
  have hba := (Below.refl w2.heap.size w2).alloc (Nat.le_refl _) (.cells (madeCells #[.bool false] N) 4)
  have HR2 := Lib.hid (HR1.out.below hb2 HR1.out.lt)
  have HB2 := Lib.hid (HB1.out.trans (hb2.mono HB1.out.size))
  have HO0 := Lib.hid hown0
  have HBA := Lib.hid hba
  clear hb2 hown0 hba HB1 HR1 hmk
  go_wp2_with fail
  clear hmk2
  obtain ⟨g0, hg0⟩ : ∃ g0, w2.heap.size = g0 := ⟨_, rfl⟩
  have HG0 := Lib.hid hg0
  rw [hg0]
  clear hg0
  go_loopw [7] (fun iv wl => ∃ q : Nat, q ≤ N ∧ iv = .int .i64 (q : Int) ∧ wl.ownsRow w2.heap.size 4 1 (.slice (some ⟨g0, 0, none⟩) N N) N ((fillTo (List.replicate N true) N false q).map Value.bool) ∧ Hid (Below w2.heap.size w2 wl)) (fun iv _ => N - (intOf iv).toNat)
  case atStart => exact ⟨0, Nat.zero_le _, rfl, by rw [fillTo_zero, List.map_replicate, ← HG0.out]; exact HO0.out, HBA⟩
  case round =>
    obtain ⟨q, hq, rfl, hown, hb3⟩ := hrel
    by_cases hlt : q < N
    · have hlt' : (q : Int) < (N : Int) := by omega
      have hcell : wr.cell? ⟨g0, q, none⟩ = some (.bool false) := by
        rw [hown.cellAt q (by omega), List.getElem?_map, fillTo_at' hlt (by simp; omega)]; rfl
      have hfr := hown.frozenAt q
      have hst := (hown.stored q (.bool true)).1
      rw [← List.map_set, fillTo_set hlt (by rw [List.getElem?_replicate, if_pos hlt])] at hst
      have HB4 := Lib.hid (hb3.out.setCell (p := ⟨g0, q, none⟩) (Nat.le_of_eq HG0.out) (.bool true))
      clear hown hb3
      go_wp2_with fail
      exact ⟨⟨q + 1, by omega, by go_num, hst, HB4⟩, by simp [intOf]; omega⟩
    · have hqe : q = N := by omega
      have hlt' : ¬ (q : Int) < (N : Int) := by omega
      have hown2 : wr.ownsRow w2.heap.size 4 1 (.slice (some ⟨g0, 0, none⟩) N N) N ((List.replicate N true).map Value.bool) := by
        have h := hown
        rw [hqe, fillTo_all _ (by simp)] at h
        exact h
      have HO2 := Lib.hid hown2
      have hmm := @run_makeMap Tryz.prog
      have hb3w := HB2.out.trans (hb3.out.mono HB2.out.size)
      obtain ⟨z0, hz0⟩ : ∃ z0, wr.heap.size = z0 := ⟨_, rfl⟩
      obtain ⟨wa, hwa⟩ : ∃ wa, wr.alloc (.cells #[.slice (some ⟨g0, 0, none⟩) N N] 139) = wa := ⟨_, rfl⟩
      obtain ⟨wb, hwb⟩ : ∃ wb, wa.alloc (.cells #[.int .i64 0] 3) = wb := ⟨_, rfl⟩
      obtain ⟨wc, hwc⟩ : ∃ wc, wb.alloc (.cells #[.int .i64 0] 3) = wc := ⟨_, rfl⟩
      obtain ⟨wd, hwd⟩ : ∃ wd, wc.alloc (.cells #[.slice (some ⟨z0, 0, none⟩) 1 1, .slice none 0 0, .slice (some ⟨z0 + 1, 0, none⟩) 1 1, .slice (some ⟨z0 + 1 + 1, 0, none⟩) 1 1, .slice none 0 0, .bool false, .bool false] 158) = wd := ⟨_, rfl⟩
      obtain ⟨we, hwe⟩ : ∃ we, wd.alloc (.map #[] 0) = we := ⟨_, rfl⟩
      have sa : wa.heap.size = z0 + 1 := by rw [← hwa, World.size_alloc, hz0]
      have sb : wb.heap.size = z0 + 2 := by rw [← hwb, World.size_alloc, sa]
      have sc : wc.heap.size = z0 + 3 := by rw [← hwc, World.size_alloc, sb]
      have sd : wd.heap.size = z0 + 4 := by rw [← hwd, World.size_alloc, sc]
      have ba : Below wr.heap.size wr wa := by rw [← hwa]; exact (Below.refl _ _).alloc (Nat.le_refl _) _
      have bb : Below wa.heap.size wa wb := by rw [← hwb]; exact (Below.refl _ _).alloc (Nat.le_refl _) _
      have bc : Below wb.heap.size wb wc := by rw [← hwc]; exact (Below.refl _ _).alloc (Nat.le_refl _) _
      have bd : Below wc.heap.size wc wd := by rw [← hwd]; exact (Below.refl _ _).alloc (Nat.le_refl _) _
      have be : Below wd.heap.size wd we := by rw [← hwe]; exact (Below.refl _ _).alloc (Nat.le_refl _) _
      have bce := bd.trans (be.mono bd.size)
      have bbe := bc.trans (bce.mono bc.size)
      have bae := bb.trans (bbe.mono bb.size)
      have bre := ba.trans (bae.mono ba.size)
      have la := World.ownsRow_lit (base := wr.heap.size) (e := 139) (size := 1) wr #[.slice (some ⟨g0, 0, none⟩) N N] 1 (Nat.le_refl _) (by decide) rfl
      have lb := World.ownsRow_lit (base := wa.heap.size) (e := 3) (size := 1) wa #[.int .i64 0] 1 (Nat.le_refl _) (by decide) rfl
      have lc := World.ownsRow_lit (base := wb.heap.size) (e := 3) (size := 1) wb #[.int .i64 0] 1 (Nat.le_refl _) (by decide) rfl
      rw [hwa, hz0] at la
      rw [hwb, sa] at lb
      rw [hwc, sb] at lc
      have hmp := World.ownsMap_made wd Tryz.prog 9 (plainElem (H := Unit) Tryz.prog 3)
      rw [hwe, sd] at hmp
      have hbl : wd.heap[z0 + 3]? = some (.cells #[.slice (some ⟨z0, 0, none⟩) 1 1, .slice none 0 0, .slice (some ⟨z0 + 1, 0, none⟩) 1 1, .slice (some ⟨z0 + 1 + 1, 0, none⟩) 1 1, .slice none 0 0, .bool false, .bool false] 158 (0, 0)) := by
        rw [← hwd, ← sc]; exact heap_new _ _
      have zw : w.heap.size ≤ z0 := by rw [← hz0]; exact hb3w.size
      have hzw2 : w2.heap.size ≤ z0 := by rw [← hz0]; exact hb3.out.size
      have hC0 : RefC we ⟨w, k, r, t, A, c, z0 + 3, z0 + 4, w.heap.size⟩ [List.replicate N true] [] [] [0] [0] (.slice (some ⟨z0, 0, none⟩) 1 1) (.slice none 0 0) (.slice (some ⟨z0 + 1, 0, none⟩) 1 1) (.slice (some ⟨z0 + 2, 0, none⟩) 1 1) (.slice none 0 0) [.slice (some ⟨g0, 0, none⟩) N N] [] (fun _ => False) := {
        old := hb3w.trans (bre.mono hb3w.size)
        fb := by show w.heap.size ≤ z0 + 3; omega
        rul := (HR2.out.below hb3.out HR2.out.lt).below bre (Nat.lt_of_lt_of_le HR2.out.lt hb3.out.size)
        map := ⟨_, hmp, relK_nil _ _⟩
        fm := by show w.heap.size ≤ z0 + 4; omega
        sets := ⟨own_base (own_below la (hwa ▸ bae)) zw, fun j l hj => by
          match j, hj with
          | 0, hj =>
            obtain rfl : (List.replicate N true).map Value.bool = l := Option.some.inj hj
            refine ⟨.slice (some ⟨g0, 0, none⟩) N N, rfl, ?_, fun g _ hf => hf⟩
            rw [List.length_map, List.length_replicate]
            exact own_below (own_base HO2.out HB2.out.size) bre
          | j + 1, hj => simp [bVs] at hj, fun i j v v' g hij hi hj hg => by
            match i, j, hi, hj with
            | 0, 0, _, _ => omega
            | 0, j + 1, _, hj => simp at hj
            | i + 1, _, hi, _ => simp at hi⟩
        nx := RowsAt.nil _ _ _
        fr := own_base (own_below lb bbe) (by show w.heap.size ≤ z0 + 1; omega)
        yr := own_base (own_below lc bce) (by show w.heap.size ≤ z0 + 2; omega)
        ne := fun g h1 h2 => by simp [Value.ownBlock] at h1 h2; omega
        nX := fun g hf => hf.elim
        orp := ⟨[], World.ownsRow_nil _ _ _ _, fun g hg => by simp [Value.ownBlock] at hg⟩ }
      have hB0 : RefB we ⟨w, k, r, t, A, c, z0 + 3, z0 + 4, w.heap.size⟩ (.slice (some ⟨z0, 0, none⟩) 1 1) (.slice none 0 0) (.slice (some ⟨z0 + 1, 0, none⟩) 1 1) (.slice (some ⟨z0 + 2, 0, none⟩) 1 1) (.slice none 0 0) false false := (be.block (z0 + 3) (by omega)).trans hbl
      have HTX := Lib.hid (text10_c we (some ⟨g0, 0, none⟩) N N (List.replicate N true) ((Sl.of_own HO2.out).below bre) (by omega))
      have HC0 := Lib.hid hC0
      have HB0 := Lib.hid hB0
      have HWE := Lib.hid (⟨hz0, hwa, hwb, hwc, hwd, hwe⟩ : _ ∧ _ ∧ _ ∧ _ ∧ _ ∧ _)
      clear hqe hown hown2 hC0 hB0 hmp hbl la lb lc bre bae bbe bce ba bb bc bd be hz0 hwa hwb hwc hwd hwe sa sb sc sd hb3w zw hzw2 hb3 HO2 HBA HO0 HB2 HR2
      go_wp2_with fail
      rw [HWE.out.1, HWE.out.2.1, HWE.out.2.2.1, HWE.out.2.2.2.1, HWE.out.2.2.2.2.1, HWE.out.2.2.2.2.2]
      refine (HTX.out).mono ?_
      rintro e w5 ⟨rfl, hb5⟩
      clear HTX HWE hmm
      have hC5 := HC0.out.pure hb5
      have hB5 := HB0.out.keeps (Keeps.of_pure hb5 (fun _ => False)) (fun hf => hf)
      have hkey := textS_key (List.replicate N true) (by simp; omega)
      obtain ⟨M0, hM0, hrel0⟩ := hC5.map
      have hins : ∀ (x : Int), plainElem (H := Unit) Tryz.prog 3 (.int .i64 0) = some (.lit (.int .i64 0), []) := fun _ => plainElem_int Tryz.underlying3 (WalkArith.wf_i64 (by omega))
      obtain ⟨mb, hmb⟩ : ∃ mb, z0 + 4 = mb := ⟨_, rfl⟩
      obtain ⟨gb, hgb⟩ : ∃ gb, z0 + 3 = gb := ⟨_, rfl⟩
      obtain ⟨rb, hrb⟩ : ∃ rb, w.heap.size = rb := ⟨_, rfl⟩
      have HRB := Lib.hid hrb
      rw [show z0 + 1 + 1 + 1 + 1 = mb from hmb, show z0 + 1 + 1 + 1 = gb from hgb, hrb]
      have hC6 : RefC w5 ⟨w, k, r, t, A, c, gb, mb, rb⟩ [List.replicate N true] [] [] [0] [0] (.slice (some ⟨z0, 0, none⟩) 1 1) (.slice none 0 0) (.slice (some ⟨z0 + 1, 0, none⟩) 1 1) (.slice (some ⟨z0 + 2, 0, none⟩) 1 1) (.slice none 0 0) [.slice (some ⟨g0, 0, none⟩) N N] [] (fun _ => False) := by
        rw [← hmb, ← hgb, ← hrb]; exact hC5
      have hB6 : RefB w5 ⟨w, k, r, t, A, c, gb, mb, rb⟩ (.slice (some ⟨z0, 0, none⟩) 1 1) (.slice none 0 0) (.slice (some ⟨z0 + 1, 0, none⟩) 1 1) (.slice (some ⟨z0 + 2, 0, none⟩) 1 1) (.slice none 0 0) false false := by
        rw [← hmb, ← hgb, ← hrb]; exact hB5
      rw [show ([] : List (List Bool)).length = 0 from rfl, hmb] at hM0
      clear hC5 hB5 HC0 HB0 hmb hgb hrb
      have HC6 := Lib.hid hC6
      have HB6 := Lib.hid hB6
      have HREL0 := Lib.hid hrel0
      clear hC6 hB6 hrel0 hb5
      go_wp2_with (refine wpList_insert_own _ rfl _ _ _ 175 rfl 9 3 keyLaw Tryz.underlying175 _ mb 0 M0 rfl hM0 (by decide) _ _ _ rfl rfl hkey _ [] (hins 0) ?_; intro w6 hmap6 hg6)
      have hC7 := HC6.out.mapped (b := List.replicate N true) hg6 hmap6 HREL0.out (by simp)
      have hB7 := HB6.out.keeps (Keeps.of_grown hg6) (fun e => by
        injection e with e
        have h1 := HB6.out
        unfold RefB at h1
        obtain ⟨M, ⟨es, ck, hbk, _⟩, _⟩ := HC6.out.map
        rw [show (GoP.gb ⟨w, k, r, t, A, c, gb, mb, rb⟩) = mb from e.symm] at h1
        rw [show w5.heap[mb]? = _ from hbk] at h1
        cases h1)
      rw [show ([] : List (List Bool)) ++ [List.replicate N true] = [List.replicate N true] from rfl] at hC7
      have hWd : WordsOk (init N).words [0] [0] := ⟨rfl, rfl, rfl, fun j h0 hj => by simp [init] at hj; omega⟩
      have HC7 := Lib.hid hC7
      have HB7 := Lib.hid hB7
      have HWD7 := Lib.hid hWd
      clear hC7 hB7 hWd hmap6 hg6 HREL0 hM0 hkey hins HC6 HB6
      obtain ⟨D, rfl, rfl, rfl, rfl, rfl, rfl, rfl, rfl, rfl⟩ : ∃ D : GoP, D.w0 = w ∧ D.k = k ∧ D.r = r ∧ D.t = t ∧ D.TA = A ∧ D.tc = c ∧ D.gb = gb ∧ D.mb = mb ∧ D.rb = rb := ⟨⟨w, k, r, t, A, c, gb, mb, rb⟩, rfl, rfl, rfl, rfl, rfl, rfl, rfl, rfl, rfl⟩
      have hmk := run_make_row' (P := Tryz.prog) 22 3 (.int .i64 0) 8 tInts.und tInts.info rfl .i64 .i64 D.k (by omega) (by omega)
      go_loopw [10] (fun iv wl => ∃ (i : Nat) (S : St) (F Y : List Nat) (sv nv fv yv ov : Value) (sr nr : List Value) (has : Bool), iv = .int .i64 (i : Int) ∧ i ≤ 4096 ∧ Hid (roundTo D.k N D.t stop i = .go S []) ∧ Hid (Inv N i S) ∧ Hid (WordsOk S.words F Y) ∧ Hid (stop = true → has = false) ∧
        Hid (RefC wl D S.sets S.sets S.next F Y sv nv fv yv ov sr nr (fun _ => False)) ∧ Hid (RefB wl D sv nv fv yv ov has false)) (fun iv _ => 4097 - (intOf iv).toNat)
      case atStart => exact ⟨0, init N, [0], [0], _, _, _, _, _, _, _, false, rfl, by decide, Lib.hid rfl, Lib.hid (Inv.init hN0), HWD7, Lib.hid (fun _ => rfl), HC7, HB7⟩
      case round =>
        clear HC7 HB7 HWD7
        obtain ⟨i, S, F, Y, sv, nv, fv, yv, ov, sr, nr, has, rfl, hi4, hrd, hinv, hwd, hsh, hC, hB⟩ := hrel
        have hbig := hinv.out.big
        have hle := hinv.out.le
        have hsl := hC.out.sets.lst
        have hsll : (bVs S.sets).length = S.sets.length := List.length_map ..
        rw [hsll] at hsl
        obtain ⟨SA, sc, rfl, hscl, hscm⟩ := own_slice hsl
        obtain ⟨c0, c1, c2, c3, c4, c5, c6⟩ := hB.out.facts
        obtain ⟨r0, r1, r2, _⟩ := hC.out.rul.facts
        clear hsll hsl
        by_cases hil : i < S.sets.length
        · have hil' : (i : Int) < (S.sets.length : Int) := by omega
          have hmk6 := hmk wr
          go_wp2_with fail
          clear c0 c1 c2 c3 c4 c5 c6 r0 r1 r2 hmk6
          have hCX := hC.out.mono (X' := fun b => b = wr.heap.size) (fun b hb => .inr (by rw [hb]; exact Nat.le_refl _))
          have hba := (Below.refl wr.heap.size wr).alloc (Nat.le_refl _) (.cells (madeCells #[.int .i64 0] D.k) 3)
          have hrow0 := make_row_ints wr D.k (by simp only [maxLen]; omega)
          have hCXa := hCX.pure hba
          have hBXa := hB.out.keeps (Keeps.of_pure hba (fun _ => False)) (fun hf => hf)
          have hBw : D.B ≤ wr.heap.size := hC.out.old.size
          obtain ⟨g, hg⟩ : ∃ g, wr.heap.size = g := ⟨_, rfl⟩
          rw [hg] at hCXa hrow0 hBw
          have HGR := Lib.hid hg
          have HROW0 := Lib.hid (own_base hrow0 hBw)
          have HCX := Lib.hid hCXa
          have HBX := Lib.hid hBXa
          clear hCX hba hrow0 hCXa hBXa hBw hC hB hg
          rw [HGR.out]
          go_loopw [12] (fun iv wl => ∃ (s : Nat) (S' : St) (row : List Int) (F Y : List Nat) (sv nv fv yv ov : Value) (sr nr : List Value) (has : Bool), iv = .int .i64 (s : Int) ∧ s ≤ D.k ∧ Hid (rowTo D.k N D.t stop i S s = .go S' row) ∧ Hid (WordsOk S'.words F Y) ∧ Hid (stop = true → has = false) ∧
            Hid (RefC wl D S'.sets S'.sets S'.next F Y sv nv fv yv ov sr nr (fun b => b = g)) ∧ Hid (RefB wl D sv nv fv yv ov has false) ∧
            Hid (wl.ownsRow D.B 3 1 (.slice (some ⟨g, 0, none⟩) D.k D.k) D.k ((row ++ List.replicate (D.k - s) 0).map (Value.int .i64)))) (fun iv _ => D.k - (intOf iv).toNat)
          case atStart => exact ⟨0, S, [], _, _, _, _, _, _, _, _, _, has, rfl, Nat.zero_le _, Lib.hid rfl, hwd, hsh, HCX, HBX, Lib.hid (by simpa using HROW0.out)⟩
          case round =>
            clear HROW0 HCX HBX hwd hsh has
            obtain ⟨s, S', row, F', Y', sv', nv', fv', yv', ov', sr', nr', has, rfl, hs, hrt, hwd, hsh, hC, hB, hrow⟩ := hrel
            obtain ⟨hinv', hrl, hil2, hwl⟩ := row_inv hN0 hrd.out hinv.out hil hs hrt.out
            have hsl := hC.out.sets.lst
            have hsll : (bVs S'.sets).length = S'.sets.length := List.length_map ..
            rw [hsll] at hsl
            obtain ⟨SA', sc', rfl, hscl', hscm'⟩ := own_slice hsl
            have hfr := hC.out.fr
            have hyr := hC.out.yr
            rw [hwd.out.lf, hinv'.len] at hfr
            rw [hwd.out.ly, hinv'.len] at hyr
            obtain ⟨FA, fc, rfl, _, _⟩ := own_slice hfr
            obtain ⟨YA, yc, rfl, _, _⟩ := own_slice hyr
            clear hfr hyr
            have HFL := Lib.hid (hwd.out.lf.trans hinv'.len)
            have HYL := Lib.hid (hwd.out.ly.trans hinv'.len)
            have HWLN := Lib.hid hinv'.len
            have HWL := Lib.hid hwl
            obtain ⟨c0, c1, c2, c3, c4, c5, c6⟩ := hB.out.facts
            obtain ⟨r0, r1, r2, _⟩ := hC.out.rul.facts
            clear hsll
            by_cases hsk : s < D.k
            · have hsk' : (s : Int) < (D.k : Int) := by omega
              have hbig' := hinv'.big
              obtain ⟨B, hBs⟩ : ∃ B, S'.sets[i]? = some B := ⟨_, List.getElem?_eq_getElem hil2⟩
              have hBl := hinv'.ok B (List.mem_of_getElem? hBs)
              obtain ⟨ev, hev, heo, _⟩ := hC.out.sets.el i (B.map Value.bool) (by unfold bVs; rw [List.getElem?_map, hBs]; rfl)
              rw [List.length_map, hBl] at heo
              obtain ⟨EA, ec, rfl, _, _⟩ := own_slice heo
              obtain ⟨sad, hSA, hce⟩ := (Sl.of_own hsl).2 i _ hev
              subst hSA
              have HBH := Lib.hid (fun (wz : World) (hz : Below wr.heap.size wr wz) => behind_c wz D.k D.r N D.TA EA D.t.length D.tc ec D.t B s ((HT.out.below hC.out.old).below hz) ((Sl.of_own heo).below hz) hk1 hk4 hN0 (by omega) (by rw [← HNN.out]; exact HND.out.2) HR.out.sym)
              have HF := Lib.hid (fun (wz : World) (hz : Below wr.heap.size wr wz) => (⟨cell_later hz r0, cell_later hz r1, cell_later hz r2, cell_later hz c0, cell_later hz hce⟩ : _ ∧ _ ∧ _ ∧ _ ∧ _))
              have HGD := Lib.hid (getD_of (d := []) hBs)
              have HBL := Lib.hid hBl
              have HIL2 := Lib.hid hil2
              have HINV' := Lib.hid hinv'
              have HRL := Lib.hid hrl
              have hi'' : (i : Int) < (S'.sets.length : Int) := by omega
              clear hsl hev heo hBs hBl hwl hinv' hrl
              go_wp2_with fail
              unfold ruleV at HBH
              go_region_held3 (fun wz => wz.cell? ⟨D.rb, 0, none⟩ = some (.int .i64 (D.k : Int)) ∧ wz.cell? ⟨D.rb, 1, none⟩ = some (.int .i64 (D.r : Int)) ∧ wz.cell? ⟨D.rb, 2, none⟩ = some (.slice D.TA D.t.length D.tc) ∧ wz.cell? ⟨D.gb, 0, none⟩ = some (.slice (some sad) S'.sets.length sc') ∧ wz.cell? (sad.add i) = some (.slice EA N ec))
                (first | exact HF.out _ ((Below.refl _ _).drew) | exact HF.out _ hb1)
                (first
                  | (go_simp
                     go_at_call 125
                     refine (HBH.out _ ((Below.refl _ _).drew)).mono ?_
                     rintro e w7 ⟨gs, rfl, hos, h7⟩
                     have hb1 : Below wr.heap.size wr w7 := ((Below.refl wr.heap.size wr).drew).trans h7
                     dsimp only))
              have hC7 := hC.out.pure hb1
              have hB7 := hB.out.keeps (Keeps.of_pure hb1 (fun _ => False)) (fun hf => hf)
              have hrow7 := own_below hrow.out hb1
              have hBw : D.B ≤ wr.heap.size := hC.out.old.size
              have hos7 : w7.ownsRow D.B 4 1 (.slice (some ⟨gs, 0, none⟩) N N) N ((beh D.k N D.t B s).map Value.bool) := own_base hos hBw
              have hgnew : wr.heap.size ≤ gs := (hos.lt gs rfl).1
              obtain ⟨bh, hbh⟩ : ∃ bh, beh D.k N D.t B s = bh := ⟨_, rfl⟩
              have hbhl : bh.length = N := by rw [← hbh]; exact beh_len _ _ _ _ _
              rw [hbh] at hos7
              have HEM := Lib.hid (empty_c w7 (some ⟨gs, 0, none⟩) N N bh (Sl.of_own hos7) (by omega))
              have HBE := Lib.hid (show beh D.k N D.t (S'.sets.getD i []) s = bh by rw [HGD.out]; exact hbh)
              have hglt : g < w7.heap.size := (hrow7.lt g rfl).2
              have hgB : D.B ≤ g := (hrow7.lt g rfl).1
              have HC7 := Lib.hid hC7
              have HB7 := Lib.hid hB7
              have HROW7 := Lib.hid hrow7
              have HOS7 := Lib.hid hos7
              have HGN := Lib.hid (fun (u : Value) (hu : u ∈ sr') => (hC.out.sets.not_new hgnew).2 u hu)
              have hrl := HRL.out
              clear hbh hC7 hB7 hrow7 hos7 hos HBH HF HBL HGD hC hB hrow hgnew c0 c1 c2 c3 c4 c5 c6 r0 r1 r2 hce h7
              by_cases hn : nodesOf bh = []
              · rw [decide_eq_true hn] at HEM
                have HN := Lib.hid hn
                have hcell : w7.cell? ⟨g, s, none⟩ = some (.int .i64 0) := by
                  rw [HROW7.out.cellAt s (by simp; omega), List.getElem?_map, List.getElem?_append_right (by omega), hrl, Nat.sub_self, List.getElem?_replicate, if_pos (by omega)]; rfl
                have hfr := HROW7.out.frozenAt s
                have hst := (HROW7.out.stored s (.int .i64 (-1))).1
                rw [← List.map_set, fill_next hrl hsk] at hst
                have hks := Keeps.of_setCell w7 ⟨g, s, none⟩ (.int .i64 (-1))
                have hC8 := HC7.out.keeps hks (fun b hb => ⟨hb, by rw [show b = g from hb]; exact hgB, by rw [show b = g from hb]; exact own_block HROW7.out rfl⟩)
                have hB8 := HB7.out.keeps hks (fun e => by
                  have e : D.gb = g := e
                  obtain ⟨gcs, hgcs⟩ := own_block HROW7.out rfl
                  have h1 := HB7.out
                  unfold RefB at h1
                  rw [e, hgcs] at h1
                  injection h1 with h1
                  injection h1 with _ h1
                  exact absurd h1 (by decide))
                obtain ⟨c0, c1, c2, c3, c4, c5, c6⟩ := hB8.facts
                have f5 := hB8.froz 5
                have HC8 := Lib.hid hC8
                have HB8 := Lib.hid hB8
                have HROW8 := Lib.hid hst
                clear hC8 hB8 hst hks hn HROW7 HC7 HB7 HOS7
                cases has with
                | false =>
                  cases stop with
                  | false =>
                    have hB9 := HB8.out.set (j := 5) (u := .bool true) (sv' := .slice (some sad) S'.sets.length sc') (nv' := nv') (fv' := .slice FA S'.sets.length fc) (yv' := .slice YA S'.sets.length yc) (ov' := ov') (has' := true) (over' := false) rfl
                    have hC9 := HC8.out.stored HB8.out 5 (.bool true)
                    have hrow9 := own_keeps HROW8.out (Keeps.of_setCell _ ⟨D.gb, 5, none⟩ (.bool true)) (fun g' hg' e => by
                      have e : g' = D.gb := e
                      rw [e] at hg'
                      exact own_ne_blk HROW8.out HB8.out (by decide) hg')
                    obtain ⟨w9, hw9⟩ : ∃ w9, (w7.setCell ⟨g, s, none⟩ (.int .i64 (-1))).setCell ⟨D.gb, 5, none⟩ (.bool true) = w9 := ⟨_, rfl⟩
                    rw [hw9] at hB9 hC9 hrow9
                    have hfr9 := hC9.fr
                    have hyr9 := hC9.yr
                    rw [HFL.out] at hfr9
                    rw [HYL.out] at hyr9
                    have HWO := Lib.hid (word10_c w9 D.gb S'.sets.length fc yc FA YA S'.words F' Y' hB9.facts.2.2.1 hB9.facts.2.2.2.1 (Sl.of_own hfr9) (Sl.of_own hyr9) hwd.out i HIL2.out (by omega))
                    obtain ⟨W, hW⟩ : ∃ W, S'.words.getD i [] = W := ⟨_, rfl⟩
                    rw [hW] at HWO
                    have HW := Lib.hid hW
                    have hWl : W.length ≤ 4096 := by rw [← hW]; exact HWL.out
                    have HW9 := Lib.hid hw9
                    have HC9 := Lib.hid hC9
                    have HB9 := Lib.hid hB9
                    have HROW9 := Lib.hid hrow9
                    clear hW hw9 hC9 hB9 hrow9 hfr9 hyr9 HROW8 HC8 HB8
                    go_wp2_with fail
                    refine (HEM.out).mono ?_
                    rintro e w8 ⟨rfl, rfl⟩
                    clear HEM
                    go_wp2_with fail
                    rw [HW9.out]
                    refine (HWO.out).mono ?_
                    rintro e w10 ⟨v, rfl, hvo, hb10⟩
                    clear HWO HW9 hcell hfr c0 c1 c2 c3 c4 c5 c6 f5
                    rw [List.length_map, ints_len] at hvo
                    obtain ⟨VA, vc, rfl, _, _⟩ := own_slice hvo
                    have hm1 : W.length + 1 ≤ maxLen := by simp only [maxLen]; omega
                    have hm2 : (W.length + 1) * 8 ≤ 140737488355328 := by omega
                    have hz10 := hb10.size
                    have HB11 := Lib.hid (fun (w11 : World) (hz : Below w9.heap.size w9 w11) => (⟨(HB9.out.keeps (Keeps.of_pure hz (fun _ => False)) (fun hf => hf)).facts.2.2.2.2.1, (HB9.out.keeps (Keeps.of_pure hz (fun _ => False)) (fun hf => hf)).froz 4⟩ : _ ∧ _))
                    have HG11 := Lib.hid (fun (w11 : World) (hg : w10.grownBy w11 (Value.slice VA W.length vc).ownBlock) => (hb10.grown hg hb10.size (fun j hj => (hvo.lt j hj).1) : Below w9.heap.size w9 w11))
                    go_wp2_with (at_builtin; refine wpList_push rfl _ _ _ rfl tInts hvo rfl _ 0 rfl rfl rfl hm1 hm2 hz10 ?_; intro g2 cap2 w11 hown11 hg11 hat11 hlt11; have hb11 := HG11.out w11 hg11; obtain ⟨q4, p4⟩ := HB11.out w11 hb11)
                    have e2 : (W ++ [s]).length = W.length + 1 := by simp
                    have e3 : (ints (W ++ [s])).map (Value.int .i64) = (ints W).map (Value.int .i64) ++ [Value.int .i64 (s : Int)] := by simp [ints]
                    have hown12 : w11.ownsRow D.B 3 1 (.slice (some ⟨g2, 0, none⟩) (W.length + 1) cap2) (ints (W ++ [s])).length ((ints (W ++ [s])).map (Value.int .i64)) := by
                      rw [ints_len, e2, e3]; exact own_base hown11 HC9.out.old.size
                    have hg2n : w9.heap.size ≤ g2 := (hown11.lt g2 rfl).1
                    have hB11 := HB9.out.keeps (Keeps.of_pure hb11 (fun _ => False)) (fun hf => hf)
                    have hC12 := ((HC9.out.pure hb11).orphaned hown12 (fun g' hg' hx => by
                      have e : g2 = g' := by simpa [Value.ownBlock] using hg'
                      rw [← e] at hx
                      rcases hx with hx | hx | hx
                      · have h1 : g2 = g := hx
                        have h2 := (HROW9.out.lt g rfl).2
                        omega
                      · have := (HC9.out.fr.lt g2 hx).2; omega
                      · have := (HC9.out.yr.lt g2 hx).2; omega)).stored hB11 4 (.slice (some ⟨g2, 0, none⟩) (W.length + 1) cap2)
                    have hB12 := hB11.set (j := 4) (u := .slice (some ⟨g2, 0, none⟩) (W.length + 1) cap2) (sv' := .slice (some sad) S'.sets.length sc') (nv' := nv') (fv' := .slice FA S'.sets.length fc) (yv' := .slice YA S'.sets.length yc) (ov' := .slice (some ⟨g2, 0, none⟩) (W.length + 1) cap2) (has' := true) (over' := false) rfl
                    have hk12 := Keeps.of_setCell w11 ⟨D.gb, 4, none⟩ (.slice (some ⟨g2, 0, none⟩) (W.length + 1) cap2)
                    have hrow12 := own_keeps (own_below HROW9.out hb11) hk12 (fun g' hg' e => by
                      have e : g' = D.gb := e
                      rw [e] at hg'
                      exact own_ne_blk (own_below HROW9.out hb11) hB11 (by decide) hg')
                    have hor12 := own_keeps hown12 hk12 (fun g' hg' e => by
                      have e : g' = D.gb := e
                      rw [e] at hg'
                      exact own_ne_blk hown12 hB11 (by decide) hg')
                    have HC12 := Lib.hid hC12
                    have HB12 := Lib.hid hB12
                    have HROW12 := Lib.hid hrow12
                    have HOR12 := Lib.hid hor12
                    clear hC12 hB12 hk12 hrow12 hor12 hB11 hown12 e2 e3 hown11 hg11 hat11 hlt11 hb11 q4 p4 hvo hb10 HB11 HG11 HC9 HB9 HROW9
                    have HRT := Lib.hid ((rowTo_succ hrt.out).trans (sym_none (by rw [HBE.out]; exact HN.out) rfl))
                    exact ⟨⟨s + 1, S', row ++ [-1], F', Y', _, _, _, _, _, _, _, true, by go_num, by omega, HRT, hwd, Lib.hid (fun h => by cases h), HC12, HB12, HROW12⟩, by simp [intOf]; omega⟩
                  | true =>
                    have hB9 := HB8.out.set (j := 5) (u := .bool true) (sv' := .slice (some sad) S'.sets.length sc') (nv' := nv') (fv' := .slice FA S'.sets.length fc) (yv' := .slice YA S'.sets.length yc) (ov' := ov') (has' := true) (over' := false) rfl
                    have hC9 := HC8.out.stored HB8.out 5 (.bool true)
                    have hrow9 := own_keeps HROW8.out (Keeps.of_setCell _ ⟨D.gb, 5, none⟩ (.bool true)) (fun g' hg' e => by
                      have e : g' = D.gb := e
                      rw [e] at hg'
                      exact own_ne_blk HROW8.out HB8.out (by decide) hg')
                    obtain ⟨w9, hw9⟩ : ∃ w9, (w7.setCell ⟨g, s, none⟩ (.int .i64 (-1))).setCell ⟨D.gb, 5, none⟩ (.bool true) = w9 := ⟨_, rfl⟩
                    rw [hw9] at hB9 hC9 hrow9
                    have hfr9 := hC9.fr
                    have hyr9 := hC9.yr
                    rw [HFL.out] at hfr9
                    rw [HYL.out] at hyr9
                    have HWO := Lib.hid (word10_c w9 D.gb S'.sets.length fc yc FA YA S'.words F' Y' hB9.facts.2.2.1 hB9.facts.2.2.2.1 (Sl.of_own hfr9) (Sl.of_own hyr9) hwd.out i HIL2.out (by omega))
                    obtain ⟨W, hW⟩ : ∃ W, S'.words.getD i [] = W := ⟨_, rfl⟩
                    rw [hW] at HWO
                    have HW := Lib.hid hW
                    have hWl : W.length ≤ 4096 := by rw [← hW]; exact HWL.out
                    have HW9 := Lib.hid hw9
                    have HC9 := Lib.hid hC9
                    have HB9 := Lib.hid hB9
                    have HROW9 := Lib.hid hrow9
                    clear hW hw9 hC9 hB9 hrow9 hfr9 hyr9 HROW8 HC8 HB8
                    go_wp2_with fail
                    refine (HEM.out).mono ?_
                    rintro e w8 ⟨rfl, rfl⟩
                    clear HEM
                    go_wp2_with fail
                    rw [HW9.out]
                    refine (HWO.out).mono ?_
                    rintro e w10 ⟨v, rfl, hvo, hb10⟩
                    clear HWO HW9 hcell hfr c0 c1 c2 c3 c4 c5 c6 f5
                    rw [List.length_map, ints_len] at hvo
                    obtain ⟨VA, vc, rfl, _, _⟩ := own_slice hvo
                    have hm1 : W.length + 1 ≤ maxLen := by simp only [maxLen]; omega
                    have hm2 : (W.length + 1) * 8 ≤ 140737488355328 := by omega
                    have hz10 := hb10.size
                    have HB11 := Lib.hid (fun (w11 : World) (hz : Below w9.heap.size w9 w11) => (⟨(HB9.out.keeps (Keeps.of_pure hz (fun _ => False)) (fun hf => hf)).facts.2.2.2.2.1, (HB9.out.keeps (Keeps.of_pure hz (fun _ => False)) (fun hf => hf)).froz 4⟩ : _ ∧ _))
                    have HG11 := Lib.hid (fun (w11 : World) (hg : w10.grownBy w11 (Value.slice VA W.length vc).ownBlock) => (hb10.grown hg hb10.size (fun j hj => (hvo.lt j hj).1) : Below w9.heap.size w9 w11))
                    go_wp2_with (at_builtin; refine wpList_push rfl _ _ _ rfl tInts hvo rfl _ 0 rfl rfl rfl hm1 hm2 hz10 ?_; intro g2 cap2 w11 hown11 hg11 hat11 hlt11; have hb11 := HG11.out w11 hg11; obtain ⟨q4, p4⟩ := HB11.out w11 hb11)
                    have e2 : (W ++ [s]).length = W.length + 1 := by simp
                    have e3 : (ints (W ++ [s])).map (Value.int .i64) = (ints W).map (Value.int .i64) ++ [Value.int .i64 (s : Int)] := by simp [ints]
                    have hown12 : w11.ownsRow D.B 3 1 (.slice (some ⟨g2, 0, none⟩) (W.length + 1) cap2) (ints (W ++ [s])).length ((ints (W ++ [s])).map (Value.int .i64)) := by
                      rw [ints_len, e2, e3]; exact own_base hown11 HC9.out.old.size
                    have hg2n : w9.heap.size ≤ g2 := (hown11.lt g2 rfl).1
                    have hB11 := HB9.out.keeps (Keeps.of_pure hb11 (fun _ => False)) (fun hf => hf)
                    have hC12 := ((HC9.out.pure hb11).orphaned hown12 (fun g' hg' hx => by
                      have e : g2 = g' := by simpa [Value.ownBlock] using hg'
                      rw [← e] at hx
                      rcases hx with hx | hx | hx
                      · have h1 : g2 = g := hx
                        have h2 := (HROW9.out.lt g rfl).2
                        omega
                      · have := (HC9.out.fr.lt g2 hx).2; omega
                      · have := (HC9.out.yr.lt g2 hx).2; omega)).stored hB11 4 (.slice (some ⟨g2, 0, none⟩) (W.length + 1) cap2)
                    have hB12 := hB11.set (j := 4) (u := .slice (some ⟨g2, 0, none⟩) (W.length + 1) cap2) (sv' := .slice (some sad) S'.sets.length sc') (nv' := nv') (fv' := .slice FA S'.sets.length fc) (yv' := .slice YA S'.sets.length yc) (ov' := .slice (some ⟨g2, 0, none⟩) (W.length + 1) cap2) (has' := true) (over' := false) rfl
                    have hk12 := Keeps.of_setCell w11 ⟨D.gb, 4, none⟩ (.slice (some ⟨g2, 0, none⟩) (W.length + 1) cap2)
                    have hrow12 := own_keeps (own_below HROW9.out hb11) hk12 (fun g' hg' e => by
                      have e : g' = D.gb := e
                      rw [e] at hg'
                      exact own_ne_blk (own_below HROW9.out hb11) hB11 (by decide) hg')
                    have hor12 := own_keeps hown12 hk12 (fun g' hg' e => by
                      have e : g' = D.gb := e
                      rw [e] at hg'
                      exact own_ne_blk hown12 hB11 (by decide) hg')
                    have HC12 := Lib.hid hC12
                    have HB12 := Lib.hid hB12
                    have HROW12 := Lib.hid hrow12
                    have HOR12 := Lib.hid hor12
                    clear hC12 hB12 hk12 hrow12 hor12 hB11 hown12 e2 e3 hown11 hg11 hat11 hlt11 hb11 q4 p4 hvo hb10 HB11 HG11 HC9 HB9 HROW9
                    have HFE := Lib.hid (fin_end (.inl ⟨_, rfl⟩) hrd.out hil (by omega) hsk hrt.out (sym_orph (by rw [HBE.out]; exact HN.out) rfl))
                    go_ret
                    exact GoPost.orph HNN.out HFE.out HB12.out HC12.out.old (by rw [HW.out]; have h := HOR12.out; rw [ints_len] at h; exact h)
                | true =>
                  have hstop : stop = false := by
                    cases hst : stop
                    · rfl
                    · have := hsh.out hst; cases this
                  subst hstop
                  have HRT := Lib.hid ((rowTo_succ hrt.out).trans (sym_none (by rw [HBE.out]; exact HN.out) rfl))
                  go_wp2_with fail
                  refine (HEM.out).mono ?_
                  rintro e w8 ⟨rfl, rfl⟩
                  clear HEM
                  go_wp2_with fail
                  exact ⟨⟨s + 1, S', row ++ [-1], F', Y', _, _, _, _, _, _, _, true, by go_num, by omega, HRT, hwd, hsh, HC8, HB8, HROW8⟩, by simp [intOf]; omega⟩
              · rw [decide_eq_false hn] at HEM
                have HN := Lib.hid hn
                have HTX := Lib.hid (fun (wz : World) (hz : Below w7.heap.size w7 wz) => text10_c wz (some ⟨gs, 0, none⟩) N N bh ((Sl.of_own HOS7.out).below hz) (by omega))
                have hkey := textS_key bh (by omega)
                have HBHL := Lib.hid hbhl
                clear hn hbhl
                go_wp2_with fail
                refine (HEM.out).mono ?_
                rintro e w8 ⟨rfl, rfl⟩
                clear HEM
                go_wp2_with fail
                refine (HTX.out _ (Below.refl _ _)).mono ?_
                rintro e w8 ⟨rfl, hb8⟩
                have hC8 := HC7.out.pure hb8
                have hB8 := HB7.out.keeps (Keeps.of_pure hb8 (fun _ => False)) (fun hf => hf)
                have hrow8 := own_below HROW7.out hb8
                obtain ⟨M1, hM1, hrel1⟩ := hC8.map
                have hbig' := HINV'.out.big
                by_cases hin : bh ∈ S'.sets
                · have hidx : S'.sets[S'.sets.idxOf bh]? = some bh := by rw [List.getElem?_eq_getElem (List.idxOf_lt_length_of_mem hin)]; simp
                  have HH := Lib.hid (relK_in hrel1 trivial hin)
                  have HAT := Lib.hid ((hrel1.2 bh trivial).2 _ hidx)
                  have HRT := Lib.hid ((rowTo_succ hrt.out).trans (sym_old (by rw [HBE.out]; exact HN.out) (by rw [HBE.out]; exact hin)))
                  rw [HBE.out] at HRT
                  obtain ⟨ix, hix⟩ : ∃ ix, S'.sets.idxOf bh = ix := ⟨_, rfl⟩
                  rw [hix] at HRT HAT
                  have hcell : w8.cell? ⟨g, s, none⟩ = some (.int .i64 0) := by
                    rw [hrow8.cellAt s (by simp; omega), List.getElem?_map, List.getElem?_append_right (by omega), hrl, Nat.sub_self, List.getElem?_replicate, if_pos (by omega)]; rfl
                  have hfr := hrow8.frozenAt s
                  have hst := (hrow8.stored s (.int .i64 (ix : Int))).1
                  rw [← List.map_set, fill_next hrl hsk] at hst
                  have hks := Keeps.of_setCell w8 ⟨g, s, none⟩ (.int .i64 (ix : Int))
                  have HC9 := Lib.hid (hC8.keeps hks (fun b hb => ⟨hb, by rw [show b = g from hb]; exact hgB, by rw [show b = g from hb]; exact own_block hrow8 rfl⟩))
                  have HB9 := Lib.hid (hB8.keeps hks (fun e => by
                    have e : D.gb = g := e
                    obtain ⟨gcs, hgcs⟩ := own_block hrow8 rfl
                    have h1 := hB8
                    unfold RefB at h1
                    rw [e, hgcs] at h1
                    injection h1 with h1
                    injection h1 with _ h1
                    exact absurd h1 (by decide)))
                  have HROW9 := Lib.hid hst
                  clear hC8 hB8 hrow8 hidx hin hix hrel1 hb8 hst hks HC7 HB7 HROW7 HOS7 HTX
                  go_wp2_with (at_lookup; refine wpList_lookup_own_ok_int _ rfl _ _ _ rfl 9 3 .i64 keyLaw Tryz.underlying175 Tryz.underlying3 (zeroInt _) D.mb _ M1 rfl hM1 _ _ rfl hkey ?_; intro c' hat' _; rw [HH.out]; obtain rfl : c' = (ix : Int) := by (have h := hat'.symm.trans HAT.out; injection h with h; injection h))
                  exact ⟨⟨s + 1, S', row ++ [(ix : Int)], F', Y', _, _, _, _, _, _, _, has, by go_num, by omega, HRT, hwd, hsh, HC9, HB9, HROW9⟩, by simp [intOf]; omega⟩
                · have HH := Lib.hid (relK_out hrel1 trivial hin)
                  have HIN := Lib.hid hin
                  obtain ⟨c0, c1, c2, c3, c4, c5, c6⟩ := hB8.facts
                  have f6 := hB8.froz 6
                  by_cases hfull : S'.sets.length < 4096
                  · have hlen4 : ((S'.sets.length : Int) == 4096) = false := by simp; omega
                    have HTX2 := Lib.hid (HTX.out w8 hb8)
                    have HC8 := Lib.hid hC8
                    have HB8 := Lib.hid hB8
                    have HROW8 := Lib.hid hrow8
                    have HOS8 := Lib.hid (own_below HOS7.out hb8)
                    have HFUL := Lib.hid hfull
                    clear hin hrel1 hC8 hB8 hrow8 f6 HC7 HB7 HROW7 HOS7 HTX hb8
                    go_wp2_with (at_lookup; refine wpList_lookup_own_ok_int _ rfl _ _ _ rfl 9 3 .i64 keyLaw Tryz.underlying175 Tryz.underlying3 (zeroInt _) D.mb _ M1 rfl hM1 _ _ rfl hkey ?_; intro c' hat' _; rw [HH.out])
                    refine (HTX2.out).mono ?_
                    rintro e w9 ⟨rfl, hb9⟩
                    clear HTX2 c0 c1 c2 c3 c4 c5 c6 hM1 hat'
                    have hC9 := HC8.out.pure hb9
                    have hB9 := HB8.out.keeps (Keeps.of_pure hb9 (fun _ => False)) (fun hf => hf)
                    have hrow9 := own_below HROW8.out hb9
                    have hos9 := own_below HOS8.out hb9
                    obtain ⟨M2, hM2, hrel2⟩ := hC9.map
                    have HM := Lib.hid hrel2
                    have hmbne : ¬ (some D.mb = some D.gb) := fun e => by
                      injection e with e
                      obtain ⟨es, ck, hbk, _⟩ := hM2
                      have h1 := hB9
                      unfold RefB at h1
                      rw [← e, hbk] at h1
                      cases h1
                    have hgne : g ≠ D.gb := fun e => by
                      obtain ⟨gcs, hgcs⟩ := own_block hrow9 rfl
                      have h1 := hB9
                      unfold RefB at h1
                      rw [← e, hgcs] at h1
                      injection h1 with h1
                      injection h1 with _ h1
                      exact absurd h1 (by decide)
                    have hfun := HFUL.out
                    have hm1 : S'.sets.length + 1 ≤ maxLen := by simp only [maxLen]; omega
                    have hm2 : (S'.sets.length + 1) * 24 ≤ 140737488355328 := by omega
                    have hm3 : (S'.sets.length + 1) * 8 ≤ 140737488355328 := by omega
                    have hm0 : S'.sets.length < maxLen := by simp only [maxLen]; omega
                    have hsl9 : w9.ownsRow D.B 139 1 (.slice (some sad) S'.sets.length sc') S'.sets.length sr' := by
                      have h := hC9.sets.lst
                      rw [show (bVs S'.sets).length = S'.sets.length from List.length_map ..] at h
                      exact h
                    have hfr9 := hC9.fr
                    have hyr9 := hC9.yr
                    rw [HFL.out] at hfr9
                    rw [HYL.out] at hyr9
                    have hB9s := hC9.old.size
                    -- the map's step
                    have K10' : ∀ (w10 : World), w9.grownBy w10 (some D.mb) → (RefB w10 D (.slice (some sad) S'.sets.length sc') nv' (.slice FA S'.sets.length fc) (.slice YA S'.sets.length yc) ov' has false ∧ w10.ownsRow D.B 3 1 (.slice (some ⟨g, 0, none⟩) D.k D.k) D.k ((row ++ List.replicate (D.k - s) 0).map (Value.int .i64)) ∧ w10.ownsRow D.B 4 1 (.slice (some ⟨gs, 0, none⟩) N N) N (bh.map Value.bool) ∧ w10.ownsRow D.B 139 1 (.slice (some sad) S'.sets.length sc') S'.sets.length sr' ∧ w10.cell? ⟨D.gb, 0, none⟩ = some (.slice (some sad) S'.sets.length sc') ∧ w10.frozen? ⟨D.gb, 0, none⟩ = false ∧ D.B ≤ w10.heap.size) := fun w10 hg10 => by
                      obtain ⟨es, ck, hbk, _⟩ := hM2
                      have hk := Keeps.of_grown hg10
                      have hne : ∀ {e n : Nat} {v : Value} {xs : List Value} {base : Nat}, w9.ownsRow base e 1 v n xs → w10.ownsRow base e 1 v n xs := fun ho => own_keeps ho hk (fun g' hg' e => by
                        injection e with e
                        rw [← e] at hg'
                        exact own_ne_map ho hbk hg')
                      have hB10 := hB9.keeps hk hmbne
                      exact ⟨hB10, hne hrow9, hne hos9, hne hsl9, hB10.facts.1, hB10.froz 0, Nat.le_trans hB9s hk.size⟩
                    have K10 := Lib.hid K10'
                    have HOS2 := Lib.hid (fun (wz : World) (h : wz.ownsRow D.B 4 1 (.slice (some ⟨gs, 0, none⟩) N N) N (bh.map Value.bool)) => (by rw [HBHL.out]; exact h : wz.ownsRow D.B 4 1 (.slice (some ⟨gs, 0, none⟩) bh.length bh.length) bh.length (bh.map Value.bool)))
                    have HOW2 := Lib.hid (fun (wz : World) (a b : Nat) (h : wz.ownsRow D.B 139 1 (.slice (some ⟨a, 0, none⟩) (S'.sets.length + 1) b) (S'.sets.length + 1) (sr' ++ [.slice (some ⟨gs, 0, none⟩) N N])) => (by rw [HBHL.out]; exact h : wz.ownsRow D.B 139 1 (.slice (some ⟨a, 0, none⟩) (S'.sets.length + 1) b) (S'.sets.length + 1) (sr' ++ [.slice (some ⟨gs, 0, none⟩) bh.length bh.length])))
                    have HFR := Lib.hid (fun (wz : World) (h : wz.ownsRow D.B 3 1 (.slice FA S'.sets.length fc) F'.length ((ints F').map (Value.int .i64))) => (by rw [HFL.out] at h; exact h : wz.ownsRow D.B 3 1 (.slice FA S'.sets.length fc) S'.sets.length ((ints F').map (Value.int .i64))))
                    have HYR := Lib.hid (fun (wz : World) (h : wz.ownsRow D.B 3 1 (.slice YA S'.sets.length yc) Y'.length ((ints Y').map (Value.int .i64))) => (by rw [HYL.out] at h; exact h : wz.ownsRow D.B 3 1 (.slice YA S'.sets.length yc) S'.sets.length ((ints Y').map (Value.int .i64))))
                    have HC9 := Lib.hid hC9
                    clear K10' hfr9 hyr9 hsl9 hrow9 hos9 hB9 hC9 hrel2 HC8 HB8 HROW8 HOS8 hb9 hmbne
                    go_wp2_with (first
                      | (at_mapUpdate; refine wpList_mapUpdate_own _ rfl _ _ _ 175 rfl 9 3 keyLaw Tryz.underlying175 _ D.mb S'.sets.length M2 rfl hM2 hm0 _ _ _ rfl rfl hkey _ [] (plainElem_int Tryz.underlying3 (WalkArith.wf_i64 (by omega))) ?_
                         intro w10 hmap10 hg10
                         have hC10 := HC9.out.mapped (b := bh) hg10 hmap10 HM.out HIN.out
                         obtain ⟨hB10, hrow10, hos10, hsl10, q0, p0, z10⟩ := K10.out w10 hg10)
                      | (at_builtin; refine wpList_push rfl _ _ _ rfl tBoolss hsl10 rfl _ 0 rfl rfl rfl hm1 hm2 z10 ?_
                         intro g11 cap11 w11 hown11 hg11 hat11 hlt11
                         obtain ⟨hC11, hB11, hrow11, q0', p0'⟩ := set_step hC10 hB10 hrow10 (HOS2.out w10 hos10) HGN.out rfl (HOW2.out w11 _ _ hown11) hg11 hgne
                         have q2 := hB11.facts.2.2.1
                         have p2 := hB11.froz 2
                         have hfr11 := HFR.out _ hC11.fr
                         have z11 := hC11.old.size)
                      | (at_builtin; refine wpList_push_at rfl _ _ _ rfl tInts (hfr11.alloc _) rfl ⟨w11.heap.size, 0, none⟩ 1 rfl (.int .i64 (i : Int)) (lit_cell_set w11 _ _ _ _) rfl hm1 hm3 (by rw [World.size_alloc]; exact Nat.le_succ_of_le z11) ?_
                         intro g12 cap12 w12 hown12 hor12 hlt12
                         obtain ⟨hk12, hat12⟩ := push3_keeps hor12
                         obtain ⟨hC12, hB12, hrow12, q2', p2'⟩ := from_step hC11 hB11 hrow11 HFL.out hown12 hk12 hat12 hgne
                         have q3 := hB12.facts.2.2.2.1
                         have p3 := hB12.froz 3
                         have hyr12 := HYR.out _ hC12.yr
                         have z12 := hC12.old.size)
                      | (at_builtin; refine wpList_push_at rfl _ _ _ rfl tInts (hyr12.alloc _) rfl ⟨w12.heap.size, 0, none⟩ 1 rfl (.int .i64 (s : Int)) (lit_cell_set w12 _ _ _ _) rfl hm1 hm3 (by rw [World.size_alloc]; exact Nat.le_succ_of_le z12) ?_
                         intro g13 cap13 w13 hown13 hor13 hlt13
                         obtain ⟨hk13, hat13⟩ := push3_keeps hor13
                         obtain ⟨hC13, hB13, hrow13, q3', p3'⟩ := by_step hC12 hB12 hrow12 HYL.out hown13 hk13 hat13 hgne
                         have qs := row_cell hrow13 hrl hsk
                         have ps := hrow13.frozenAt s))
                    have hst := (hrow13.stored s (.int .i64 ((S'.sets.length : Nat) : Int))).1
                    rw [← List.map_set, fill_next hrl hsk] at hst
                    have hks := Keeps.of_setCell (w13.setCell ⟨D.gb, 3, none⟩ (.slice (some ⟨g13, 0, none⟩) (S'.sets.length + 1) cap13)) ⟨g, s, none⟩ (.int .i64 ((S'.sets.length : Nat) : Int))
                    have HC14 := Lib.hid (hC13.keeps hks (fun b hb => ⟨hb, by rw [show b = g from hb]; exact hgB, by rw [show b = g from hb]; exact own_block hrow13 rfl⟩))
                    have HB14 := Lib.hid (hB13.keeps hks (fun e => hgne (show D.gb = g from e).symm))
                    have HRT := Lib.hid ((rowTo_succ hrt.out).trans (sym_new (by rw [HBE.out]; exact HN.out) (by rw [HBE.out]; exact HIN.out) HFUL.out))
                    rw [HBE.out] at HRT
                    have HWS := Lib.hid (hwd.out.snoc (i := i) (s := s) (by rw [HWLN.out]; exact HIL2.out))
                    exact ⟨⟨s + 1, ⟨S'.sets ++ [bh], S'.words ++ [S'.words.getD i [] ++ [s]], S'.next⟩, row ++ [((S'.sets.length : Nat) : Int)], F' ++ [i], Y' ++ [s], _, _, _, _, _, _, _, has, by go_num, by omega, HRT, HWS, hsh, HC14, HB14, Lib.hid hst⟩, by simp [intOf]; omega⟩
                  · have hlen4 : ((S'.sets.length : Int) == 4096) = true := by rw [show S'.sets.length = 4096 by omega]; rfl
                    have HFE := Lib.hid (fin_end (.inr rfl) hrd.out hil (by omega) hsk hrt.out (sym_full (by rw [HBE.out]; exact HN.out) (by rw [HBE.out]; exact hin) (by omega)))
                    have HB9 := Lib.hid (hB8.set (j := 6) (u := .bool true) (sv' := .slice (some sad) S'.sets.length sc') (nv' := nv') (fv' := .slice FA S'.sets.length fc) (yv' := .slice YA S'.sets.length yc) (ov' := ov') (has' := has) (over' := true) rfl)
                    have HBE9 := Lib.hid (hC8.stored hB8 6 (.bool true)).old
                    clear hin hrel1 hC8 hB8 hrow8 HC7 HB7 HROW7 HOS7 HTX hb8 hfull
                    go_wp2_with (at_lookup; refine wpList_lookup_own_ok_int _ rfl _ _ _ rfl 9 3 .i64 keyLaw Tryz.underlying175 Tryz.underlying3 (zeroInt _) D.mb _ M1 rfl hM1 _ _ rfl hkey ?_; intro c' hat' _; rw [HH.out])
                    go_ret
                    exact GoPost.over HNN.out HFE.out HB9.out HBE9.out hsh.out
            · have hsk' : ¬ (s : Int) < (D.k : Int) := by omega
              have hsD : s = D.k := by omega
              have hrt2 : rowTo D.k N D.t stop i S D.k = .go S' row := by have h := hrt.out; rw [hsD] at h; exact h
              have hrow2 : wr.ownsRow D.B 3 1 (.slice (some ⟨g, 0, none⟩) D.k D.k) row.length (row.map (Value.int .i64)) := by
                have h := hrow.out
                rw [hsD, Nat.sub_self, List.replicate_zero, List.append_nil] at h
                rw [hrl, hsD]
                exact h
              have HRS := Lib.hid (round_succ hrd.out hil hrt2)
              have HI2 := Lib.hid (show Inv N (i + 1) ⟨S'.sets, S'.words, S'.next ++ [row]⟩ from ⟨hinv'.len, hinv'.ok, hinv'.some, hinv'.nd, hinv'.big, by simp [hinv'.next], by show i + 1 ≤ S'.sets.length; omega⟩)
              have hbig2 := hinv'.big
              have hnl : S'.next.length = i := hinv'.next
              have hnx := hC.out.nx.lst
              rw [hnl] at hnx
              have HROW := Lib.hid hrow2
              have HNL := Lib.hid hnl
              have hBw : D.B ≤ wr.heap.size := hC.out.old.size
              obtain ⟨NA, nc, rfl, hnc, hnm⟩ := own_slice hnx
              have hm1 : i + 1 ≤ maxLen := by simp only [maxLen]; omega
              have hm2 : (i + 1) * 24 ≤ 140737488355328 := by omega
              have HPRE := Lib.hid (fun (w9 : World) (hk : Keeps (fun b => (Value.slice NA i nc).ownBlock = some b) wr w9) => (⟨(hB.out.keeps hk (own_ne_blk hC.out.nx.lst hB.out (by decide))).facts.2.1, (hB.out.keeps hk (own_ne_blk hC.out.nx.lst hB.out (by decide))).froz 1⟩ : _ ∧ _))
              clear hinv' hwl hrow hrow2 hnl hsD hrt2 hsl HFL HYL HWLN HWL
              go_wp2_with (at_builtin; refine wpList_push rfl _ _ _ rfl tIntss hnx rfl _ 0 rfl rfl rfl hm1 hm2 hBw ?_; intro g2 cap2 w9 hown9 hg9 hat9 hlt9; obtain ⟨d4, e4⟩ := HPRE.out w9 (Keeps.of_grown hg9))
              have hk9 := Keeps.of_grown hg9
              have hB9 := hB.out.keeps hk9 (own_ne_blk hC.out.nx.lst hB.out (by decide))
              have hC9 := (hC.out.mono (X' := fun _ => False) (fun _ hf => hf.elim)).nexted HROW.out (fun g' hg' hx => by
                have e : g = g' := by simpa [Value.ownBlock] using hg'
                rw [← e] at hx
                rcases hx with hx | hx | hx
                · exact hx
                · exact (hC.out.nX g rfl).1 hx
                · exact (hC.out.nX g rfl).2 hx) (fun g' hg' u hu => by
                have e : g = g' := by simpa [Value.ownBlock] using hg'
                rw [← e]
                exact hC.out.nx.not_X (.inl rfl) u hu) (by rw [HNL.out]; exact hown9) hk9
              have HC10 := Lib.hid (hC9.stored hB9 1 (.slice (some ⟨g2, 0, none⟩) (i + 1) cap2))
              have HB10 := Lib.hid (hB9.set (j := 1) (u := .slice (some ⟨g2, 0, none⟩) (i + 1) cap2) (sv' := .slice SA' S'.sets.length sc') (nv' := .slice (some ⟨g2, 0, none⟩) (i + 1) cap2) (fv' := .slice FA S'.sets.length fc) (yv' := .slice YA S'.sets.length yc) (ov' := ov') (has' := has) (over' := false) rfl)
              clear hown9 hg9 hat9 hlt9 hk9 hB9 hC9 HPRE hnx d4 e4
              exact ⟨⟨i + 1, _, F', Y', _, _, _, _, _, _, _, has, by go_num, by omega, HRS, HI2, hwd, hsh, HC10, HB10⟩, by simp [intOf]; omega⟩
        · have hil' : ¬ (i : Int) < (S.sets.length : Int) := by omega
          have HFG := Lib.hid (fin_go hrd.out (by omega) (by omega))
          go_wp2_with fail
          go_ret
          exact GoPost.all HNN.out HFG.out hB.out hC.out.old hsh.out hC.out.sets ((hC.out.mono (X' := fun _ => False) (fun _ hf => hf.elim)).nx.mono (fun _ hf => hf.elim))
end Go.Proofs.YthilnpfpllplaaaGreatDoor

namespace Go.Proofs.YthilnpfpllplaaaGreatDoor
open Go.RowKit BagP RuleP SubP

end Go.Proofs.YthilnpfpllplaaaGreatDoor
