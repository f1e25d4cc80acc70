/- The word by which a state was found: (*edenref10.Walked).word. Condition: the walked lists read from memory. What memory holds of the document's walk over the subsets: edenref10's Walked and its map. Plain lemmas, no program. No condition. Steps of the document's walk: what a kept set, From, By leave. Plain lemmas, no program. No condition. The document's sets of nodes: edenref10's text, empty, Behind. Condition: the sets and the rule's table read from memory. -/
import Derived.Test.YtlajiblhnkognaaDoorSubP
import Derived.Test.YtlajiblhnkognaaDoorTypes
import Derived.Test.YtlajiblhnkognaaDoorLentRR
import Derived.Test.YtlajiblhnkognaaDoorFillN
import Derived.Test.YtlajiblhnkognaaDoorSubQ
import Derived.Test.YtlajiblhnkognaaDoorRowsL
import Derived.Test.YtlajiblhnkognaaDoorStruct
import Derived.Test.YtlajiblhnkognaaDoorBag
import Derived.Test.YtlajiblhnkognaaDoorPush3
import Derived.Test.YtlajiblhnkognaaDoorOverAB
import Derived.Test.YtlajiblhnkognaaDoorTrimB
import Derived.Test.YtlajiblhnkognaaDoorPreQ
namespace Go.Proofs.YtlajiblhnkognaaDoor
open Go.RowKit BagP RuleP SubP

/-- From and By tell the words. -/
structure WordsOk (words : List (List Nat)) (F Y : List Nat) : Prop where
  lf : F.length = words.length
  ly : Y.length = words.length
  zero : words[0]? = some []
  step : ∀ j, 0 < j → j < words.length → F.getD j 0 < j ∧ words.getD j [] = words.getD (F.getD j 0) [] ++ [Y.getD j 0]
theorem WordsOk.snoc {words : List (List Nat)} {F Y : List Nat} (h : WordsOk words F Y) {i s : Nat} (hi : i < words.length) : WordsOk (words ++ [words.getD i [] ++ [s]]) (F ++ [i]) (Y ++ [s]) where
  lf := by simp [h.lf]
  ly := by simp [h.ly]
  zero := get_app h.zero
  step := fun j h0 hj => by
    have hj' : j < words.length + 1 := by simpa using hj
    rcases Nat.lt_or_ge j words.length with hl | hl
    · obtain ⟨a, b⟩ := h.step j h0 hl
      rw [getD_app (l := F) (by rw [h.lf]; exact hl), getD_app (l := words) hl, getD_app (l := Y) (by rw [h.ly]; exact hl), getD_app (l := words) (show F.getD j 0 < words.length by omega)]
      exact ⟨a, b⟩
    · obtain rfl : j = words.length := by omega
      have e1 : (F ++ [i]).getD words.length 0 = i := getD_of (by rw [← h.lf]; exact get_last F i)
      have e2 : (Y ++ [s]).getD words.length 0 = s := getD_of (by rw [← h.ly]; exact get_last Y s)
      have e3 : (words ++ [words.getD i [] ++ [s]]).getD words.length [] = words.getD i [] ++ [s] := getD_of (get_last words _)
      rw [e1, e2, e3, getD_app hi]
      exact ⟨hi, rfl⟩
theorem back_set {n q : Nat} (hq : q < n) (x : Int) (R : List Int) : (List.replicate (n - q) 0 ++ R).set (n - 1 - q) x = List.replicate (n - (q + 1)) 0 ++ (x :: R) := by
  rw [show n - q = (n - (q + 1)) + 1 by omega, List.replicate_succ', List.append_assoc, List.set_append_right _ _ (by simp; omega)]
  simp [show n - 1 - q - (n - (q + 1)) = 0 by omega]
theorem back_at {n q : Nat} (hq : q < n) (R : List Int) : (List.replicate (n - q) 0 ++ R)[n - 1 - q]? = some 0 := by
  rw [List.getElem?_append_left (by simp; omega), List.getElem?_replicate, if_pos (by omega)]
theorem take_rev {l : List Nat} {q x : Nat} (h : l[q]? = some x) : ints (l.take (q + 1)).reverse = (x : Int) :: ints (l.take q).reverse := by
  rw [List.take_add_one, h]
  simp [ints]

set_option maxRecDepth 100000 in
set_option maxHeartbeats 2000000 in
theorem word10_c (w : World) (gb m fc yc : Nat) (FA YA : Option Addr) (words : List (List Nat)) (F Y : List Nat) (c2 : w.cell? ⟨gb, 2, none⟩ = some (.slice FA m fc)) (c3 : w.cell? ⟨gb, 3, none⟩ = some (.slice YA m yc))
    (hF : Sl w FA m ((ints F).map (Value.int .i64))) (hY : Sl w YA m ((ints Y).map (Value.int .i64))) (hW : WordsOk words F Y) (i : Nat) (hi : i < m) (hm : m ≤ 4096) :
    Calls Tryd.prog 60 #[.pointer (some ⟨gb, 0, none⟩), .int .i64 (i : Int)] w (OneRow w 3 ((ints (words.getD i [])).map (Value.int .i64))) := by
  have hfl : F.length = m := by simpa [ints] using hF.1
  have hyl : Y.length = m := by simpa [ints] using hY.1
  have hwl : words.length = m := by rw [← hW.lf, hfl]
  have HW := Lib.hid hW
  have HF := Lib.hid hF
  have HY := Lib.hid hY
  have HL := Lib.hid (⟨hfl, hyl, hwl⟩ : _ ∧ _ ∧ _)
  have HC2 := Lib.hid c2
  have HC3 := Lib.hid c3
  clear hW hF hY hfl hyl hwl c2 c3
  go_enter Tryd.func60, Tryd.ntmps60
  go_wp2_with fail
  go_loopw [1, 5] (fun iv b wl => ∃ (j : Nat) (Bk : List Nat), iv = .int .i64 (j : Int) ∧ j < m ∧ Bk.length + j ≤ i ∧ wl.ownsRow w.heap.size 3 1 b Bk.length ((ints Bk).map (Value.int .i64)) ∧ Hid (words.getD i [] = words.getD j [] ++ Bk.reverse) ∧ Hid (Below w.heap.size w wl)) (fun iv _ _ => (intOf iv).toNat)
  case atStart => exact ⟨i, [], rfl, hi, by simp, World.ownsRow_nil _ _ _ _, Lib.hid (by simp), Lib.hid (Below.refl _ _)⟩
  case round =>
    obtain ⟨j, Bk, rfl, hj, hbk, hown, hwd, hb⟩ := hrel
    have d2 := cell_later hb.out HC2.out
    have d3 := cell_later hb.out HC3.out
    by_cases h0 : 0 < j
    · have h0' : (0 : Int) < (j : Int) := by omega
      obtain ⟨x, hx⟩ : ∃ x, F[j]? = some x := ⟨_, List.getElem?_eq_getElem (by rw [HL.out.1]; exact hj)⟩
      obtain ⟨y, hy⟩ : ∃ y, Y[j]? = some y := ⟨_, List.getElem?_eq_getElem (by rw [HL.out.2.1]; exact hj)⟩
      obtain ⟨fa, hFA, hcx⟩ := (HF.out.below hb.out).2 j (.int .i64 (x : Int)) (by rw [List.getElem?_map]; unfold ints; rw [List.getElem?_map, hx]; rfl)
      obtain ⟨ya, hYA, hcy⟩ := (HY.out.below hb.out).2 j (.int .i64 (y : Int)) (by rw [List.getElem?_map]; unfold ints; rw [List.getElem?_map, hy]; rfl)
      subst hFA hYA
      obtain ⟨s1, s2⟩ := HW.out.step j h0 (by rw [HL.out.2.2]; exact hj)
      rw [getD_of hx] at s1 s2
      rw [getD_of hy] at s2
      have HS2 := Lib.hid s2
      have hm1 : Bk.length + 1 ≤ maxLen := by simp only [maxLen]; omega
      have hm2 : (Bk.length + 1) * 8 ≤ 140737488355328 := by omega
      have hbs := hb.out.size
      have HFC := Lib.hid (fun (w3 : World) (hz : Below w.heap.size w w3) => (⟨cell_later hz HC2.out, (by
        obtain ⟨fa', hFA', hcx'⟩ := (HF.out.below hz).2 j (.int .i64 (x : Int)) (by rw [List.getElem?_map]; unfold ints; rw [List.getElem?_map, hx]; rfl)
        cases hFA'
        exact hcx')⟩ : w3.cell? ⟨gb, 2, none⟩ = some (.slice (some fa) m fc) ∧ w3.cell? (fa.add j) = some (.int .i64 (x : Int))))
      clear hx hy s2
      go_wp2_with (at_builtin; refine wpList_push rfl _ _ _ rfl tInts hown rfl _ 0 rfl rfl rfl hm1 hm2 hbs ?_; intro g cap w3 hown3 hg3 hat3 hlt3; have hb3 := hb.out.grown hg3 hb.out.size (fun q hq => (hown.lt q hq).1); obtain ⟨q2, q3⟩ := HFC.out w3 hb3)
      refine ⟨⟨x, Bk ++ [y], rfl, by omega, by simp; omega, ?_, Lib.hid ?_, Lib.hid hb3⟩, by simp [intOf]; omega⟩
      · have e3 : (ints (Bk ++ [y])).map (Value.int .i64) = (ints Bk).map (Value.int .i64) ++ [Value.int .i64 (y : Int)] := by simp [ints]
        rw [e3, List.length_append]
        exact hown3
      · rw [hwd.out, HS2.out]
        simp
    · obtain rfl : j = 0 := by omega
      have HWD : Hid (words.getD i [] = Bk.reverse) := Lib.hid (by rw [hwd.out, getD_of HW.out.zero]; rfl)
      obtain ⟨BA, bc, rfl, _, _⟩ := own_slice hown
      have hbl : Bk.length ≤ 4096 := by omega
      have hmk := run_make_row' (P := Tryd.prog) 22 3 (.int .i64 0) 8 tInts.und tInts.info rfl .i64 .i64 Bk.length (by omega) (by omega)
      have hmk2 := hmk wr
      have hown0 := make_row_ints wr Bk.length (by simp only [maxLen]; omega)
      have hba := (Below.refl wr.heap.size wr).alloc (Nat.le_refl _) (.cells (madeCells #[.int .i64 0] Bk.length) 3)
      have HSB := Lib.hid ((Sl.of_own hown).below hba)
      have HB := Lib.hid (hb.out.trans (hba.mono hb.out.size))
      have HNE0 : ∀ ad, BA = some ad → ¬ ad.block = wr.heap.size := fun ad h e => by have := (hown.lt ad.block (by rw [h]; rfl)).2; omega
      have hzw := hb.out.size
      have HRL := Lib.hid (show (ints Bk.reverse).length = Bk.length by rw [ints_len, List.length_reverse])
      clear hmk hba hown hb hwd hbk d2 d3 h0
      go_wp2_with fail
      clear hmk2
      obtain ⟨w4, hw4⟩ : ∃ w4, wr.alloc (.cells (madeCells #[.int .i64 0] Bk.length) 3) = w4 := ⟨_, rfl⟩
      obtain ⟨g, hg⟩ : ∃ g, wr.heap.size = g := ⟨_, rfl⟩
      rw [hw4] at hown0 HSB HB
      rw [hg] at hown0 hzw HNE0
      rw [hw4, hg]
      have HGL := Lib.hid (show g < w4.heap.size from (hown0.lt g rfl).2)
      have HNE := Lib.hid HNE0
      have HGZ := Lib.hid hg
      clear hw4 hg
      go_loopw [7] (fun iv wl => ∃ q : Nat, q ≤ Bk.length ∧ iv = .int .i64 (q : Int) ∧ wl.ownsRow w.heap.size 3 1 (.slice (some ⟨g, 0, none⟩) Bk.length Bk.length) Bk.length ((List.replicate (Bk.length - q) 0 ++ ints (Bk.take q).reverse).map (Value.int .i64)) ∧ Hid (Keeps (fun k => k = g) w4 wl)) (fun iv _ => Bk.length - (intOf iv).toNat)
      case atStart => exact ⟨0, Nat.zero_le _, rfl, by simpa [ints] using own_base hown0 hzw, Lib.hid (Keeps.refl _ _)⟩
      case round =>
        clear hown0
        obtain ⟨q, hq, rfl, hown, hk⟩ := hrel
        by_cases hlt : q < Bk.length
        · obtain ⟨x, hx⟩ : ∃ x, Bk[q]? = some x := ⟨_, List.getElem?_eq_getElem hlt⟩
          have hlt' : (q : Int) < (Bk.length : Int) := by omega
          have hgl : g < w4.heap.size := HGL.out
          obtain ⟨ba, hBA', hcx⟩ := HSB.out.2 q (.int .i64 (x : Int)) (by rw [List.getElem?_map]; unfold ints; rw [List.getElem?_map, hx]; rfl)
          subst hBA'
          have hcx' : wr.cell? (ba.add q) = some (.int .i64 (x : Int)) := hk.out.cell hcx (by rw [block_of_add]; exact HNE.out ba rfl)
          have hcell : wr.cell? ⟨g, Bk.length - 1 - q, none⟩ = some (.int .i64 0) := by
            rw [hown.cellAt (Bk.length - 1 - q) (by omega), List.getElem?_map, back_at hlt]; rfl
          have hfr := hown.frozenAt (Bk.length - 1 - q)
          have hst := (hown.stored (Bk.length - 1 - q) (.int .i64 (x : Int))).1
          rw [← List.map_set, back_set hlt, ← take_rev hx] at hst
          have HK := Lib.hid (hk.out.trans (Keeps.of_setCell wr ⟨g, Bk.length - 1 - q, none⟩ (.int .i64 (x : Int))) (fun _ _ h => h))
          obtain ⟨ix, hix⟩ : ∃ ix, Bk.length - 1 - q = ix := ⟨_, rfl⟩
          have hix' : (Bk.length : Int) - 1 - (q : Int) = (ix : Int) := by omega
          have hixl : ix < Bk.length := by omega
          rw [hix] at hcell hfr hst HK
          clear hx hix hown hk hcx hgl
          go_wp2_with fail
          exact ⟨⟨q + 1, by omega, by go_num, hst, HK⟩, by simp [intOf]; omega⟩
        · have hqe : q = Bk.length := by omega
          have hlt' : ¬ (q : Int) < (Bk.length : Int) := by omega
          have HO2 : Hid (wr.ownsRow w.heap.size 3 1 (.slice (some ⟨g, 0, none⟩) Bk.length Bk.length) Bk.length ((ints Bk.reverse).map (Value.int .i64))) := Lib.hid (by
            have h := hown
            rw [hqe, Nat.sub_self, List.replicate_zero, List.nil_append, List.take_length] at h
            exact h)
          have HBE := Lib.hid (HB.out.trans (hk.out.below HB.out.size (fun k hk => by rw [hk]; exact hzw)))
          clear hqe hown hk
          go_wp2_with fail
          go_ret
          have hwd2 : words[i]?.getD [] = Bk.reverse := by rw [← List.getD_eq_getElem?_getD]; exact HWD.out
          exact ⟨_, rfl, by rw [hwd2, List.length_map, HRL.out]; exact HO2.out, HBE.out⟩
end Go.Proofs.YtlajiblhnkognaaDoor

namespace Go.Proofs.YtlajiblhnkognaaDoor
open Go.RowKit Go.Maps BagP RuleP SubP

structure GoP where
  w0 : World
  k : Nat
  r : Nat
  t : List Nat
  TA : Option Addr
  tc : Nat
  gb : Nat
  mb : Nat
  rb : Nat
def GoP.B (D : GoP) : Nat := D.w0.heap.size
def GoP.cells (_ : GoP) (sv nv fv yv ov : Value) (has over : Bool) : Array Value := #[sv, nv, fv, yv, ov, .bool has, .bool over]
def bVs (L : List (List Bool)) : List (List Value) := L.map fun l => l.map Value.bool
/-- The number rows that may be written. -/
def XI (X : Nat → Prop) (fv yv : Value) (b : Nat) : Prop := X b ∨ fv.ownBlock = some b ∨ yv.ownBlock = some b

/-- All but the block itself. -/
structure RefC (w : World) (D : GoP) (sets msets : List (List Bool)) (next : List (List Int)) (F Y : List Nat) (sv nv fv yv ov : Value) (sr nr : List Value) (X : Nat → Prop) : Prop where
  old : Below D.B D.w0 w
  fb : D.B ≤ D.gb
  rul : RuleAt w D.rb (.int .i64 (D.k : Int)) (.int .i64 (D.r : Int)) (.slice D.TA D.t.length D.tc)
  map : ∃ M, w.ownsMap Tryd.prog 9 (plainElem (H := Unit) Tryd.prog 3) D.mb msets.length M ∧ RelK textS (fun _ => True) M msets
  fm : D.B ≤ D.mb
  sets : RowsG 53 4 w D.B sv sr (bVs sets) (fun _ => False)
  nx : RowsAt w D.B nv nr next (XI X fv yv)
  fr : w.ownsRow D.B 3 1 fv F.length ((ints F).map (Value.int .i64))
  yr : w.ownsRow D.B 3 1 yv Y.length ((ints Y).map (Value.int .i64))
  ne : ∀ g, fv.ownBlock = some g → yv.ownBlock ≠ some g
  nX : ∀ g, X g → fv.ownBlock ≠ some g ∧ yv.ownBlock ≠ some g
  orp : ∃ x : List Int, w.ownsRow D.B 3 1 ov x.length (x.map (Value.int .i64)) ∧ ∀ g, ov.ownBlock = some g → ¬ XI X fv yv g
def RefB (w : World) (D : GoP) (sv nv fv yv ov : Value) (has over : Bool) : Prop := w.heap[D.gb]? = some (.cells (D.cells sv nv fv yv ov has over) 78 (0, 0))

namespace RefC
variable {w w' : World} {D : GoP} {sets msets : List (List Bool)} {next : List (List Int)} {F Y : List Nat} {sv nv fv yv ov sv' nv' fv' yv' : Value} {sr nr : List Value} {X X' : Nat → Prop}
theorem map_keeps {Q : Nat → Prop} (h : RefC w D sets msets next F Y sv nv fv yv ov sr nr X) (hk : Keeps Q w w') (hq : ∀ b, Q b → ∃ cs e, w.heap[b]? = some (.cells cs e (0, 0))) :
    ∃ M, w'.ownsMap Tryd.prog 9 (plainElem (H := Unit) Tryd.prog 3) D.mb msets.length M ∧ RelK textS (fun _ => True) M msets := by
  obtain ⟨M, ⟨es, clock, hb, rest⟩, hr⟩ := h.map
  refine ⟨M, ⟨es, clock, (hk.block D.mb (Array.getElem?_eq_some_iff.1 hb).1 (fun hQ => ?_)).trans hb, rest⟩, hr⟩
  obtain ⟨cs, e, hc⟩ := hq _ hQ
  rw [hb] at hc
  cases hc
theorem rul_keeps {Q : Nat → Prop} (h : RefC w D sets msets next F Y sv nv fv yv ov sr nr X) (hk : Keeps Q w w') {e0 : TypeId} (he : e0 ≠ 24) (hq : ∀ b, Q b → ∃ cs, w.heap[b]? = some (.cells cs e0 (0, 0))) :
    RuleAt w' D.rb (.int .i64 (D.k : Int)) (.int .i64 (D.r : Int)) (.slice D.TA D.t.length D.tc) :=
  h.rul.keeps hk (fun hQ => by
    obtain ⟨cs, hc⟩ := hq _ hQ
    have := h.rul
    unfold RuleAt at this
    rw [this] at hc
    injection hc with hc
    injection hc with _ hc
    exact he hc.symm)
/-- Writes to blocks of one kind, none of the lists'. -/
theorem keepsT {Q : Nat → Prop} (h : RefC w D sets msets next F Y sv nv fv yv ov sr nr X) (hk : Keeps Q w w') {e0 : TypeId} (h1 : e0 ≠ 24) (h2 : e0 ≠ 53) (h3 : e0 ≠ 4) (h4 : e0 ≠ 22) (h5 : e0 ≠ 3)
    (hq : ∀ b, Q b → D.B ≤ b ∧ ∃ cs, w.heap[b]? = some (.cells cs e0 (0, 0))) : RefC w' D sets msets next F Y sv nv fv yv ov sr nr X where
  old := h.old.trans (hk.below h.old.size (fun b hb => (hq b hb).1))
  fb := h.fb
  rul := h.rul_keeps hk h1 (fun b hb => (hq b hb).2)
  map := h.map_keeps hk (fun b hb => by obtain ⟨_, cs, hc⟩ := hq b hb; exact ⟨cs, e0, hc⟩)
  fm := h.fm
  sets := h.sets.keeps hk (fun b hb => by obtain ⟨_, cs, hc⟩ := hq b hb; exact h.sets.not_lst hc h2) (fun b hb => by obtain ⟨_, cs, hc⟩ := hq b hb; exact h.sets.not_el hc h3)
  nx := h.nx.keeps hk (fun b hb => by obtain ⟨_, cs, hc⟩ := hq b hb; exact h.nx.not_lst hc h4) (fun b hb => by obtain ⟨_, cs, hc⟩ := hq b hb; exact h.nx.not_el hc h5)
  fr := own_keeps h.fr hk (fun g hg hQ => by obtain ⟨_, cs, hc⟩ := hq g hQ; exact own_ne_blk h.fr hc h5.symm hg)
  yr := own_keeps h.yr hk (fun g hg hQ => by obtain ⟨_, cs, hc⟩ := hq g hQ; exact own_ne_blk h.yr hc h5.symm hg)
  ne := h.ne
  nX := h.nX
  orp := by
    obtain ⟨x, h6, h7⟩ := h.orp
    exact ⟨x, own_keeps h6 hk (fun g hg hQ => by obtain ⟨_, cs, hc⟩ := hq g hQ; exact own_ne_blk h6 hc h5.symm hg), h7⟩
/-- Writes to the current row. -/
theorem keeps {Q : Nat → Prop} (h : RefC w D sets msets next F Y sv nv fv yv ov sr nr X) (hk : Keeps Q w w') (hq : ∀ b, Q b → X b ∧ D.B ≤ b ∧ ∃ cs, w.heap[b]? = some (.cells cs 3 (0, 0))) : RefC w' D sets msets next F Y sv nv fv yv ov sr nr X where
  old := h.old.trans (hk.below h.old.size (fun b hb => (hq b hb).2.1))
  fb := h.fb
  rul := h.rul_keeps hk (e0 := 3) (by decide) (fun b hb => (hq b hb).2.2)
  map := h.map_keeps hk (fun b hb => by obtain ⟨_, _, cs, hc⟩ := hq b hb; exact ⟨cs, _, hc⟩)
  fm := h.fm
  sets := h.sets.keeps hk (fun b hb => by obtain ⟨_, _, cs, hc⟩ := hq b hb; exact h.sets.not_lst hc (by decide)) (fun b hb => by obtain ⟨_, _, cs, hc⟩ := hq b hb; exact h.sets.not_el hc (by decide))
  nx := h.nx.keeps hk (fun b hb => by obtain ⟨_, _, cs, hc⟩ := hq b hb; exact h.nx.not_lst hc (by decide)) (fun b hb => h.nx.not_X (.inl (hq b hb).1))
  fr := own_keeps h.fr hk (fun g hg hQ => (h.nX g (hq g hQ).1).1 hg)
  yr := own_keeps h.yr hk (fun g hg hQ => (h.nX g (hq g hQ).1).2 hg)
  ne := h.ne
  nX := h.nX
  orp := by
    obtain ⟨x, h6, h7⟩ := h.orp
    exact ⟨x, own_keeps h6 hk (fun g hg hQ => h7 g hg (.inl (hq g hQ).1)), h7⟩
theorem pure (h : RefC w D sets msets next F Y sv nv fv yv ov sr nr X) (hb : Below w.heap.size w w') : RefC w' D sets msets next F Y sv nv fv yv ov sr nr X :=
  h.keeps (Keeps.of_pure hb (fun _ => False)) (fun _ hf => hf.elim)
/-- Another current row: a new one, or none. -/
theorem mono (h : RefC w D sets msets next F Y sv nv fv yv ov sr nr X) (hx : ∀ b, X' b → X b ∨ w.heap.size ≤ b) : RefC w D sets msets next F Y sv nv fv yv ov sr nr X' where
  old := h.old
  fb := h.fb
  rul := h.rul
  map := h.map
  fm := h.fm
  sets := h.sets
  nx := h.nx.mono (fun b hb => by
    rcases hb with hb | hb
    · exact (hx b hb).imp .inl id
    · exact .inl (.inr hb))
  fr := h.fr
  yr := h.yr
  ne := h.ne
  nX := fun g hg => by
    rcases hx g hg with h1 | h1
    · exact h.nX g h1
    · exact ⟨fun e => by have := (h.fr.lt g e).2; omega, fun e => by have := (h.yr.lt g e).2; omega⟩
  orp := by
    obtain ⟨x, h6, h7⟩ := h.orp
    refine ⟨x, h6, fun g hg hx' => ?_⟩
    rcases hx' with hb | hb
    · rcases hx g hb with h1 | h1
      · exact h7 g hg (.inl h1)
      · have := (h6.lt g hg).2; omega
    · exact h7 g hg (.inr hb)
/-- A set told to the map. -/
theorem mapped (h : RefC w D sets msets next F Y sv nv fv yv ov sr nr X) {M : DataW Unit} {b : List Bool} (hg : w.grownBy w' (some D.mb)) (hm : w'.ownsMap Tryd.prog 9 (plainElem (H := Unit) Tryd.prog 3) D.mb (msets.length + 1) (M.put (.string (textS b)) (.lit (.int .i64 (msets.length : Int)))))
    (hr : RelK textS (fun _ => True) M msets) (hn : b ∉ msets) : RefC w' D sets (msets ++ [b]) next F Y sv nv fv yv ov sr nr X := by
  have hk := Keeps.of_grown hg
  obtain ⟨_, ⟨es, clock, hb, _⟩, _⟩ := h.map
  have hne : ∀ {e n : Nat} {v : Value} {xs : List Value} {base : Nat}, w.ownsRow base e 1 v n xs → ∀ g, v.ownBlock = some g → ¬ (some D.mb = some g) := fun ho g hg e => by
    injection e with e
    rw [← e] at hg
    exact own_ne_map ho hb hg
  exact {
    old := h.old.trans (hk.below h.old.size (fun b hb => by injection hb with hb; rw [← hb]; exact h.fm))
    fb := h.fb
    rul := h.rul.keeps hk (fun e => by
      have := h.rul
      unfold RuleAt at this
      injection e with e
      rw [← e, hb] at this
      cases this)
    map := ⟨_, by rw [List.length_append]; exact hm, relK_snoc (fun a b _ _ h => textS_inj a b h) hr trivial hn⟩
    fm := h.fm
    sets := h.sets.keeps hk (fun b hb hg => hne h.sets.lst b hg hb) (fun b hb v hv hg => by obtain ⟨l, _, h2, _⟩ := h.sets.mem hv; exact hne h2 b hg hb)
    nx := h.nx.keeps hk (fun b hb hg => hne h.nx.lst b hg hb) (fun b hb v hv hg => by obtain ⟨l, _, h2, _⟩ := h.nx.mem hv; exact hne h2 b hg hb)
    fr := own_keeps h.fr hk (fun g hg hQ => hne h.fr g hg hQ)
    yr := own_keeps h.yr hk (fun g hg hQ => hne h.yr g hg hQ)
    ne := h.ne
    nX := h.nX
    orp := by
      obtain ⟨x, h6, h7⟩ := h.orp
      exact ⟨x, own_keeps h6 hk (fun g hg hQ => hne h6 g hg hQ), h7⟩ }
theorem row_ne {w : World} {base e e' n n' : Nat} {v u : Value} {xs ys : List Value} (h1 : w.ownsRow base e 1 v n xs) (h2 : w.ownsRow base e' 1 u n' ys) (he : e ≠ e') : ∀ g, v.ownBlock = some g → ¬ (u.ownBlock = some g) := fun g hg hg' => own_ne_own h1 h2 he hg hg'
/-- A set kept behind the others. -/
theorem setted (h : RefC w D sets msets next F Y sv nv fv yv ov sr nr X) {b : List Bool} {v : Value} (hv : w.ownsRow D.B 4 1 v b.length (b.map Value.bool)) (hnew : ∀ g, v.ownBlock = some g → ∀ u ∈ sr, u.ownBlock ≠ some g)
    (hl : w'.ownsRow D.B 53 1 sv' (sets.length + 1) (sr ++ [v])) (hk : Keeps (fun b => sv.ownBlock = some b) w w') : RefC w' D (sets ++ [b]) msets next F Y sv' nv fv yv ov (sr ++ [v]) nr X where
  old := h.old.trans (hk.below h.old.size (fun b hb => (h.sets.lst.lt b hb).1))
  fb := h.fb
  rul := h.rul.keeps hk (fun hQ => own_ne_blk h.sets.lst h.rul (by decide) hQ)
  map := h.map_keeps hk (fun b hb => by obtain ⟨cs, hc⟩ := own_block h.sets.lst hb; exact ⟨cs, _, hc⟩)
  fm := h.fm
  sets := by
    have hl' : (bVs sets).length = sets.length := by unfold bVs; rw [List.length_map]
    have := RowsG.put (by decide) h.sets (l := b.map Value.bool) (v := v) (lv' := sv') (w' := w') (by rw [List.length_map]; exact hv) (fun _ _ hf => hf) hnew (by rw [hl']; exact hl) hk
    unfold bVs at *
    rw [List.map_append]
    exact this
  nx := h.nx.keeps hk (fun b hb hg => row_ne h.nx.lst h.sets.lst (by decide) b hg hb) (fun b hb v hv hg => by obtain ⟨l, _, h2, _⟩ := h.nx.mem hv; exact row_ne h2 h.sets.lst (by decide) b hg hb)
  fr := own_keeps h.fr hk (fun g hg hQ => row_ne h.fr h.sets.lst (by decide) g hg hQ)
  yr := own_keeps h.yr hk (fun g hg hQ => row_ne h.yr h.sets.lst (by decide) g hg hQ)
  ne := h.ne
  nX := h.nX
  orp := by
    obtain ⟨x, h6, h7⟩ := h.orp
    exact ⟨x, own_keeps h6 hk (fun g hg hQ => row_ne h6 h.sets.lst (by decide) g hg hQ), h7⟩
/-- A row kept behind the others. -/
theorem nexted (h : RefC w D sets msets next F Y sv nv fv yv ov sr nr X) {x : List Int} {v : Value} (hv : w.ownsRow D.B 3 1 v x.length (x.map (Value.int .i64))) (hX : ∀ g, v.ownBlock = some g → ¬ XI X fv yv g) (hnew : ∀ g, v.ownBlock = some g → ∀ u ∈ nr, u.ownBlock ≠ some g)
    (hl : w'.ownsRow D.B 22 1 nv' (next.length + 1) (nr ++ [v])) (hk : Keeps (fun b => nv.ownBlock = some b) w w') : RefC w' D sets msets (next ++ [x]) F Y sv nv' fv yv ov sr (nr ++ [v]) X where
  old := h.old.trans (hk.below h.old.size (fun b hb => (h.nx.lst.lt b hb).1))
  fb := h.fb
  rul := h.rul.keeps hk (fun hQ => own_ne_blk h.nx.lst h.rul (by decide) hQ)
  map := h.map_keeps hk (fun b hb => by obtain ⟨cs, hc⟩ := own_block h.nx.lst hb; exact ⟨cs, _, hc⟩)
  fm := h.fm
  sets := h.sets.keeps hk (fun b hb hg => row_ne h.sets.lst h.nx.lst (by decide) b hg hb) (fun b hb v hv hg => by obtain ⟨l, _, h2, _⟩ := h.sets.mem hv; exact row_ne h2 h.nx.lst (by decide) b hg hb)
  nx := h.nx.put hv hX hnew hl hk
  fr := own_keeps h.fr hk (fun g hg hQ => row_ne h.fr h.nx.lst (by decide) g hg hQ)
  yr := own_keeps h.yr hk (fun g hg hQ => row_ne h.yr h.nx.lst (by decide) g hg hQ)
  ne := h.ne
  nX := h.nX
  orp := by
    obtain ⟨x, h6, h7⟩ := h.orp
    exact ⟨x, own_keeps h6 hk (fun g hg hQ => row_ne h6 h.nx.lst (by decide) g hg hQ), h7⟩
/-- A number kept behind From's. -/
theorem froms (h : RefC w D sets msets next F Y sv nv fv yv ov sr nr X) {i : Nat} (hl : w'.ownsRow D.B 3 1 fv' (F.length + 1) ((ints F).map (Value.int .i64) ++ [.int .i64 (i : Int)])) (hk : Keeps (fun b => fv.ownBlock = some b) w w') (hg : ∀ g, fv'.ownBlock = some g → fv.ownBlock = some g ∨ w.heap.size ≤ g) (hXl : ∀ b, X b → b < w.heap.size) :
    RefC w' D sets msets next (F ++ [i]) Y sv nv fv' yv ov sr nr X where
  old := h.old.trans (hk.below h.old.size (fun b hb => (h.fr.lt b hb).1))
  fb := h.fb
  rul := h.rul.keeps hk (fun hQ => own_ne_blk h.fr h.rul (by decide) hQ)
  map := h.map_keeps hk (fun b hb => by obtain ⟨cs, hc⟩ := own_block h.fr hb; exact ⟨cs, _, hc⟩)
  fm := h.fm
  sets := h.sets.keeps hk (fun b hb hg => row_ne h.sets.lst h.fr (by decide) b hg hb) (fun b hb v hv hg => by obtain ⟨l, _, h2, _⟩ := h.sets.mem hv; exact row_ne h2 h.fr (by decide) b hg hb)
  nx := (h.nx.mono (X' := XI X fv' yv) (fun b hb => by
    rcases hb with hb | hb | hb
    · exact .inl (.inl hb)
    · exact (hg b hb).imp (fun h => .inr (.inl h)) id
    · exact .inl (.inr (.inr hb)))).keeps hk (fun b hb hg => row_ne h.nx.lst h.fr (by decide) b hg hb) (fun b hb => h.nx.not_X (.inr (.inl hb)))
  fr := by
    have e : (ints (F ++ [i])).map (Value.int .i64) = (ints F).map (Value.int .i64) ++ [.int .i64 (i : Int)] := by simp [ints]
    rw [e, List.length_append]
    exact hl
  yr := own_keeps h.yr hk (fun g hg hQ => h.ne g hQ hg)
  ne := fun g h1 h2 => by
    rcases hg g h1 with h3 | h3
    · exact h.ne g h3 h2
    · have := (h.yr.lt g h2).2; omega
  nX := fun g hx => ⟨fun h1 => by
    rcases hg g h1 with h3 | h3
    · exact (h.nX g hx).1 h3
    · have := hXl g hx; omega, (h.nX g hx).2⟩
  orp := by
    obtain ⟨x, h6, h7⟩ := h.orp
    refine ⟨x, own_keeps h6 hk (fun g hg hQ => h7 g hg (.inr (.inl hQ))), fun g hg' hx => ?_⟩
    rcases hx with hx | hx | hx
    · exact h7 g hg' (.inl hx)
    · rcases hg g hx with h3 | h3
      · exact h7 g hg' (.inr (.inl h3))
      · have := (h6.lt g hg').2; omega
    · exact h7 g hg' (.inr (.inr hx))
/-- A number kept behind By's. -/
theorem bys (h : RefC w D sets msets next F Y sv nv fv yv ov sr nr X) {i : Nat} (hl : w'.ownsRow D.B 3 1 yv' (Y.length + 1) ((ints Y).map (Value.int .i64) ++ [.int .i64 (i : Int)])) (hk : Keeps (fun b => yv.ownBlock = some b) w w') (hg : ∀ g, yv'.ownBlock = some g → yv.ownBlock = some g ∨ w.heap.size ≤ g) (hXl : ∀ b, X b → b < w.heap.size) :
    RefC w' D sets msets next F (Y ++ [i]) sv nv fv yv' ov sr nr X where
  old := h.old.trans (hk.below h.old.size (fun b hb => (h.yr.lt b hb).1))
  fb := h.fb
  rul := h.rul.keeps hk (fun hQ => own_ne_blk h.yr h.rul (by decide) hQ)
  map := h.map_keeps hk (fun b hb => by obtain ⟨cs, hc⟩ := own_block h.yr hb; exact ⟨cs, _, hc⟩)
  fm := h.fm
  sets := h.sets.keeps hk (fun b hb hg => row_ne h.sets.lst h.yr (by decide) b hg hb) (fun b hb v hv hg => by obtain ⟨l, _, h2, _⟩ := h.sets.mem hv; exact row_ne h2 h.yr (by decide) b hg hb)
  nx := (h.nx.mono (X' := XI X fv yv') (fun b hb => by
    rcases hb with hb | hb | hb
    · exact .inl (.inl hb)
    · exact .inl (.inr (.inl hb))
    · exact (hg b hb).imp (fun h => .inr (.inr h)) id)).keeps hk (fun b hb hg => row_ne h.nx.lst h.yr (by decide) b hg hb) (fun b hb => h.nx.not_X (.inr (.inr hb)))
  fr := own_keeps h.fr hk (fun g hg hQ => h.ne g hg hQ)
  yr := by
    have e : (ints (Y ++ [i])).map (Value.int .i64) = (ints Y).map (Value.int .i64) ++ [.int .i64 (i : Int)] := by simp [ints]
    rw [e, List.length_append]
    exact hl
  ne := fun g h1 h2 => by
    rcases hg g h2 with h3 | h3
    · exact h.ne g h1 h3
    · have := (h.fr.lt g h1).2; omega
  nX := fun g hx => ⟨(h.nX g hx).1, fun h1 => by
    rcases hg g h1 with h3 | h3
    · exact (h.nX g hx).2 h3
    · have := hXl g hx; omega⟩
  orp := by
    obtain ⟨x, h6, h7⟩ := h.orp
    refine ⟨x, own_keeps h6 hk (fun g hg hQ => h7 g hg (.inr (.inr hQ))), fun g hg' hx => ?_⟩
    rcases hx with hx | hx | hx
    · exact h7 g hg' (.inl hx)
    · exact h7 g hg' (.inr (.inl hx))
    · rcases hg g hx with h3 | h3
      · exact h7 g hg' (.inr (.inr h3))
      · have := (h6.lt g hg').2; omega
/-- The orphan kept. -/
theorem orphaned (h : RefC w D sets msets next F Y sv nv fv yv ov sr nr X) {x : List Int} {ov' : Value} (h1 : w.ownsRow D.B 3 1 ov' x.length (x.map (Value.int .i64))) (h2 : ∀ g, ov'.ownBlock = some g → ¬ XI X fv yv g) : RefC w D sets msets next F Y sv nv fv yv ov' sr nr X :=
  { h with orp := ⟨x, h1, h2⟩ }
/-- A store in the walk's own block. -/
theorem stored (h : RefC w D sets msets next F Y sv nv fv yv ov sr nr X) {cs : Array Value} (hb : w.heap[D.gb]? = some (.cells cs 78 (0, 0))) (j : Nat) (u : Value) : RefC (w.setCell ⟨D.gb, j, none⟩ u) D sets msets next F Y sv nv fv yv ov sr nr X :=
  h.keepsT (Keeps.of_setCell w ⟨D.gb, j, none⟩ u) (e0 := 78) (by decide) (by decide) (by decide) (by decide) (by decide) (fun b hb' => ⟨by rw [show b = D.gb from hb']; exact h.fb, cs, by rw [show b = D.gb from hb']; exact hb⟩)
end RefC
theorem RefB.facts {w : World} {D : GoP} {sv nv fv yv ov : Value} {has over : Bool} (h : RefB w D sv nv fv yv ov has over) :
    w.cell? ⟨D.gb, 0, none⟩ = some sv ∧ w.cell? ⟨D.gb, 1, none⟩ = some nv ∧ w.cell? ⟨D.gb, 2, none⟩ = some fv ∧ w.cell? ⟨D.gb, 3, none⟩ = some yv ∧ w.cell? ⟨D.gb, 4, none⟩ = some ov ∧ w.cell? ⟨D.gb, 5, none⟩ = some (.bool has) ∧ w.cell? ⟨D.gb, 6, none⟩ = some (.bool over) := by
  unfold RefB at h
  refine ⟨?_, ?_, ?_, ?_, ?_, ?_, ?_⟩ <;> rw [cell_of_row w D.gb _ _ _ _ h] <;> rfl
theorem RefB.froz {w : World} {D : GoP} {sv nv fv yv ov : Value} {has over : Bool} (h : RefB w D sv nv fv yv ov has over) (j : Nat) : w.frozen? ⟨D.gb, j, none⟩ = false := frozen_of_row _ _ j _ _ h
theorem RefB.lt {w : World} {D : GoP} {sv nv fv yv ov : Value} {has over : Bool} (h : RefB w D sv nv fv yv ov has over) : D.gb < w.heap.size := (Array.getElem?_eq_some_iff.1 h).1
theorem RefB.keeps {w w' : World} {D : GoP} {sv nv fv yv ov : Value} {has over : Bool} {Q : Nat → Prop} (h : RefB w D sv nv fv yv ov has over) (hk : Keeps Q w w') (hq : ¬ Q D.gb) : RefB w' D sv nv fv yv ov has over := (hk.block _ h.lt hq).trans h
theorem RefB.set {w : World} {D : GoP} {sv nv fv yv ov sv' nv' fv' yv' ov' u : Value} {has over has' over' : Bool} {j : Nat} (h : RefB w D sv nv fv yv ov has over) (hc : (D.cells sv nv fv yv ov has over).setIfInBounds j u = D.cells sv' nv' fv' yv' ov' has' over') : RefB (w.setCell ⟨D.gb, j, none⟩ u) D sv' nv' fv' yv' ov' has' over' := by
  have := heap_setCell_same w D.gb j _ _ u h
  rw [hc] at this
  exact this
end Go.Proofs.YtlajiblhnkognaaDoor

namespace Go.Proofs.YtlajiblhnkognaaDoor
open Go.RowKit Go.Maps BagP RuleP SubP

theorem row_cell {w : World} {B g k s : Nat} {row : List Int} (h : w.ownsRow B 3 1 (.slice (some ⟨g, 0, none⟩) k k) k ((row ++ List.replicate (k - s) 0).map (Value.int .i64))) (hl : row.length = s) (hs : s < k) : w.cell? ⟨g, s, none⟩ = some (.int .i64 0) := by
  rw [h.cellAt s (by simp; omega), List.getElem?_map, List.getElem?_append_right (by omega), hl, Nat.sub_self, List.getElem?_replicate, if_pos (by omega)]; rfl
/-- append of one element, the literal's address as the walk has it. -/
theorem wpList_push_at {P : Program} {w : World} {ops : Array Oper} {rest : List Oper} {o : Oper} {a : Act} {Q : Exit → Act → World → Prop} (hg : o.guard = none) (s x : Operand) (t : TypeId)
    (ho : o.op = .call { callee := .builtin .append, args := #[s, x], argTypes := #[t, t] }) {e : TypeId} {z : Value} {bytes : Nat} (hT : ElemT P t e z bytes)
    {base : Nat} {v : Value} {n : Nat} {xs : List Value} (hown : w.ownsRow base e 1 v n xs) (hs : a.eval s = v) (ad : Addr) (c : Nat) (hx : a.eval x = .slice (some ad) 1 c) (u : Value) (hc : w.cell? ad = some u) (hu : u.oneCell' = true)
    (h63 : n + 1 ≤ maxLen) (hbytes : (n + 1) * bytes ≤ 140737488355328) (hbase : base ≤ w.heap.size)
    (h : ∀ g cap w', w'.ownsRow base e 1 (.slice (some ⟨g, 0, none⟩) (n + 1) cap) (n + 1) (xs ++ [u]) → ((v = .slice (some ⟨g, 0, none⟩) n cap ∧ w.grownBy w' (some g)) ∨ (w.heap.size ≤ g ∧ w.grownBy w' none)) → g < w'.heap.size →
      wpList P ops Q rest (a.put o.dst (.slice (some ⟨g, 0, none⟩) (n + 1) cap)) w') : wpList P ops Q (o :: rest) a w := by
  refine wpList_plain hg fun K' hK' => ?_
  obtain ⟨g, cap, w', hr, h2, h3, h4⟩ := run_push3 (P := P) w t o.type hT hown ad c u hc hu h63 hbytes hbase
  unfold Oper.wp execOp
  simp only [ho, resolve, invoke, builtin, Sem.run_bind, Sem.run_pure, Result.andThen_ok, List.map_toArray, List.map_cons, List.map_nil, hs, hx, hr]
  exact hK' _ _ (h g cap w' h2 h3 h4)
theorem lit_cell_set (w : World) (p : Addr) (v u : Value) (T : TypeId) : ((w.setCell p v).alloc (.cells #[u] T)).cell? ⟨w.heap.size, 0, none⟩ = some u := by
  have hs : (w.setCell p v).heap.size = w.heap.size := by simp [World.setCell]
  have h := heap_new (w.setCell p v) (.cells #[u] T)
  rw [hs] at h
  rw [cell_of_row _ w.heap.size _ _ _ _ h]
  rfl
section steps
variable {D : GoP} {sets msets : List (List Bool)} {next : List (List Int)} {F Y : List Nat} {nv ov : Value} {sr nr : List Value} {has over : Bool} {g K n : Nat} {row : List Value} {SA FA YA : Option Addr} {sc fc yc : Nat}
/-- The set's row kept, and stored: what is then there. -/
theorem set_step {w10 w11 : World} {X : Nat → Prop} {b : List Bool} {gs g11 cap11 : Nat} {fv yv : Value} (hC : RefC w10 D sets msets next F Y (.slice SA n sc) nv fv yv ov sr nr X) (hB : RefB w10 D (.slice SA n sc) nv fv yv ov has over)
    (hrow : w10.ownsRow D.B 3 1 (.slice (some ⟨g, 0, none⟩) K K) K row) (hos : w10.ownsRow D.B 4 1 (.slice (some ⟨gs, 0, none⟩) b.length b.length) b.length (b.map Value.bool)) (hnew : ∀ u ∈ sr, u.ownBlock ≠ some gs)
    (hn : sets.length = n) (hown : w11.ownsRow D.B 53 1 (.slice (some ⟨g11, 0, none⟩) (n + 1) cap11) (n + 1) (sr ++ [.slice (some ⟨gs, 0, none⟩) b.length b.length])) (hg : w10.grownBy w11 (Value.slice SA n sc).ownBlock) (hgne : g ≠ D.gb) :
    RefC (w11.setCell ⟨D.gb, 0, none⟩ (.slice (some ⟨g11, 0, none⟩) (n + 1) cap11)) D (sets ++ [b]) msets next F Y (.slice (some ⟨g11, 0, none⟩) (n + 1) cap11) nv fv yv ov (sr ++ [.slice (some ⟨gs, 0, none⟩) b.length b.length]) nr X ∧
      RefB (w11.setCell ⟨D.gb, 0, none⟩ (.slice (some ⟨g11, 0, none⟩) (n + 1) cap11)) D (.slice (some ⟨g11, 0, none⟩) (n + 1) cap11) nv fv yv ov has over ∧
      (w11.setCell ⟨D.gb, 0, none⟩ (.slice (some ⟨g11, 0, none⟩) (n + 1) cap11)).ownsRow D.B 3 1 (.slice (some ⟨g, 0, none⟩) K K) K row ∧ w11.cell? ⟨D.gb, 0, none⟩ = some (.slice SA n sc) ∧ w11.frozen? ⟨D.gb, 0, none⟩ = false := by
  have hk := Keeps.of_grown hg
  have hC11 := hC.setted (b := b) hos (fun g' hg' u hu => by
    have e : gs = g' := by simpa [Value.ownBlock] using hg'
    rw [← e]
    exact hnew u hu) (by rw [hn]; exact hown) hk
  have hlst := hC.sets.lst
  have hB11 := hB.keeps hk (own_ne_blk hlst hB (by decide))
  have hrow11 := own_keeps hrow hk (fun g' hg' hQ => own_ne_own hrow hlst (by decide) hg' hQ)
  refine ⟨hC11.stored hB11 0 _, hB11.set rfl, own_keeps hrow11 (Keeps.of_setCell w11 _ _) (fun g' hg' e => ?_), hB11.facts.1, hB11.froz 0⟩
  have e : g' = D.gb := e
  have e2 : g = g' := by simpa [Value.ownBlock] using hg'
  exact hgne (e2.trans e)
theorem from_step {w11 w12 : World} {i g12 cap12 : Nat} {sv yv : Value} (hC : RefC w11 D sets msets next F Y sv nv (.slice FA n fc) yv ov sr nr (fun b => b = g)) (hB : RefB w11 D sv nv (.slice FA n fc) yv ov has over)
    (hrow : w11.ownsRow D.B 3 1 (.slice (some ⟨g, 0, none⟩) K K) K row) (hn : F.length = n) (hown : w12.ownsRow D.B 3 1 (.slice (some ⟨g12, 0, none⟩) (n + 1) cap12) (n + 1) ((ints F).map (Value.int .i64) ++ [.int .i64 (i : Int)])) (hk : Keeps (fun b => (Value.slice FA n fc).ownBlock = some b) w11 w12)
    (hat : (Value.slice FA n fc).ownBlock = some g12 ∨ w11.heap.size ≤ g12) (hgne : g ≠ D.gb) :
    RefC (w12.setCell ⟨D.gb, 2, none⟩ (.slice (some ⟨g12, 0, none⟩) (n + 1) cap12)) D sets msets next (F ++ [i]) Y sv nv (.slice (some ⟨g12, 0, none⟩) (n + 1) cap12) yv ov sr nr (fun b => b = g) ∧
      RefB (w12.setCell ⟨D.gb, 2, none⟩ (.slice (some ⟨g12, 0, none⟩) (n + 1) cap12)) D sv nv (.slice (some ⟨g12, 0, none⟩) (n + 1) cap12) yv ov has over ∧
      (w12.setCell ⟨D.gb, 2, none⟩ (.slice (some ⟨g12, 0, none⟩) (n + 1) cap12)).ownsRow D.B 3 1 (.slice (some ⟨g, 0, none⟩) K K) K row ∧ w12.cell? ⟨D.gb, 2, none⟩ = some (.slice FA n fc) ∧ w12.frozen? ⟨D.gb, 2, none⟩ = false := by
  have hgl := (hrow.lt g rfl).2
  have hC12 := hC.froms (i := i) (fv' := .slice (some ⟨g12, 0, none⟩) (n + 1) cap12) (by rw [hn]; exact hown) hk (fun g' hg' => by
    have e : g12 = g' := by simpa [Value.ownBlock] using hg'
    rw [← e]
    exact hat) (fun b hb => by rw [hb]; exact hgl)
  have hB12 := hB.keeps hk (own_ne_blk hC.fr hB (by decide))
  have hrow12 := own_keeps hrow hk (fun g' hg' hQ => by
    have e : g = g' := by simpa [Value.ownBlock] using hg'
    rw [← e] at hQ
    exact (hC.nX g rfl).1 hQ)
  refine ⟨hC12.stored hB12 2 _, hB12.set rfl, own_keeps hrow12 (Keeps.of_setCell w12 _ _) (fun g' hg' e => ?_), hB12.facts.2.2.1, hB12.froz 2⟩
  have e : g' = D.gb := e
  have e2 : g = g' := by simpa [Value.ownBlock] using hg'
  exact hgne (e2.trans e)
theorem by_step {w12 w13 : World} {i g13 cap13 : Nat} {sv fv : Value} (hC : RefC w12 D sets msets next F Y sv nv fv (.slice YA n yc) ov sr nr (fun b => b = g)) (hB : RefB w12 D sv nv fv (.slice YA n yc) ov has over)
    (hrow : w12.ownsRow D.B 3 1 (.slice (some ⟨g, 0, none⟩) K K) K row) (hn : Y.length = n) (hown : w13.ownsRow D.B 3 1 (.slice (some ⟨g13, 0, none⟩) (n + 1) cap13) (n + 1) ((ints Y).map (Value.int .i64) ++ [.int .i64 (i : Int)])) (hk : Keeps (fun b => (Value.slice YA n yc).ownBlock = some b) w12 w13)
    (hat : (Value.slice YA n yc).ownBlock = some g13 ∨ w12.heap.size ≤ g13) (hgne : g ≠ D.gb) :
    RefC (w13.setCell ⟨D.gb, 3, none⟩ (.slice (some ⟨g13, 0, none⟩) (n + 1) cap13)) D sets msets next F (Y ++ [i]) sv nv fv (.slice (some ⟨g13, 0, none⟩) (n + 1) cap13) ov sr nr (fun b => b = g) ∧
      RefB (w13.setCell ⟨D.gb, 3, none⟩ (.slice (some ⟨g13, 0, none⟩) (n + 1) cap13)) D sv nv fv (.slice (some ⟨g13, 0, none⟩) (n + 1) cap13) ov has over ∧
      (w13.setCell ⟨D.gb, 3, none⟩ (.slice (some ⟨g13, 0, none⟩) (n + 1) cap13)).ownsRow D.B 3 1 (.slice (some ⟨g, 0, none⟩) K K) K row ∧ w13.cell? ⟨D.gb, 3, none⟩ = some (.slice YA n yc) ∧ w13.frozen? ⟨D.gb, 3, none⟩ = false := by
  have hgl := (hrow.lt g rfl).2
  have hC13 := hC.bys (i := i) (yv' := .slice (some ⟨g13, 0, none⟩) (n + 1) cap13) (by rw [hn]; exact hown) hk (fun g' hg' => by
    have e : g13 = g' := by simpa [Value.ownBlock] using hg'
    rw [← e]
    exact hat) (fun b hb => by rw [hb]; exact hgl)
  have hB13 := hB.keeps hk (own_ne_blk hC.yr hB (by decide))
  have hrow13 := own_keeps hrow hk (fun g' hg' hQ => by
    have e : g = g' := by simpa [Value.ownBlock] using hg'
    rw [← e] at hQ
    exact (hC.nX g rfl).2 hQ)
  refine ⟨hC13.stored hB13 3 _, hB13.set rfl, own_keeps hrow13 (Keeps.of_setCell w13 _ _) (fun g' hg' e => ?_), hB13.facts.2.2.2.1, hB13.froz 3⟩
  have e : g' = D.gb := e
  have e2 : g = g' := by simpa [Value.ownBlock] using hg'
  exact hgne (e2.trans e)
end steps

end Go.Proofs.YtlajiblhnkognaaDoor

namespace Go.Proofs.YtlajiblhnkognaaDoor
open Go.RowKit BagP RuleP SubP

set_option maxRecDepth 100000 in
theorem empty_c (w : World) (A : Option Addr) (n c : Nat) (B : List Bool) (h : Sl w A n (B.map Value.bool)) (hn : n ≤ 9223372036854775807) :
    Calls Tryd.prog 59 #[.slice A n c] w fun e w' => e = .returned (.bool (decide (nodesOf B = []))) ∧ w = w' := by
  have hl : B.length = n := by simpa using h.1
  have HL := Lib.hid hl
  clear hl
  go_enter Tryd.func59, Tryd.ntmps59
  go_wp2_with fail
  go_loopw [3] (fun iv wl => ∃ q : Nat, q ≤ n ∧ iv = .int .i64 (q : Int) ∧ wl = w ∧ Hid (nodesTo B q = [])) (fun iv _ => n - (intOf iv).toNat)
  case atStart => exact ⟨0, Nat.zero_le _, rfl, rfl, Lib.hid rfl⟩
  case round =>
    obtain ⟨q, hq, rfl, rfl, hn0⟩ := hrel
    by_cases hlt : q < n
    · obtain ⟨b, hb⟩ : ∃ b, B[q]? = some b := ⟨_, List.getElem?_eq_getElem (by rw [HL.out]; exact hlt)⟩
      obtain ⟨ad, hA, hc⟩ := h.2 q (.bool b) (by rw [List.getElem?_map, hb]; rfl)
      subst hA
      have HBQ := Lib.hid (getD_of (d := false) hb)
      clear hb
      cases b
      · go_wp2_with fail
        exact ⟨⟨q + 1, by omega, by go_num, trivial, Lib.hid (by rw [nodesTo_succ, hn0.out, HBQ.out]; rfl)⟩, by simp [intOf]; omega⟩
      · go_wp2_with fail
        go_ret
        have hne : nodesOf B ≠ [] := fun e => by
          have := mem_nodesOf.2 (⟨by rw [HL.out]; exact hlt, HBQ.out⟩ : q < B.length ∧ B.getD q false = true)
          rw [e] at this
          cases this
        exact ⟨by rw [decide_eq_false hne]; rfl, rfl⟩
    · have hqn : q = n := by omega
      have hlt' : ¬ (q : Int) < (n : Int) := by omega
      have HE : Hid (nodesOf B = []) := Lib.hid (by unfold nodesOf; rw [HL.out, ← hqn]; exact hn0.out)
      clear hqn
      go_wp2_with fail
      go_ret
      exact ⟨by rw [decide_eq_true HE.out]; rfl, rfl⟩

theorem bytes_row (w : World) (n : Nat) (h : n ≤ maxLen) : (w.alloc (.cells (madeCells #[.int .u8 0] n) 5)).ownsRow w.heap.size 5 1 (.slice (some ⟨w.heap.size, 0, none⟩) n n) n (List.replicate n (.int .u8 0)) := by
  have := World.ownsRow_lit (base := w.heap.size) (e := 5) (size := 1) w (madeCells #[.int .u8 0] n) n (Nat.le_refl _) h (by rw [size_madeCells]; simp)
  rwa [toList_madeCells_one] at this
theorem textS_at {B : List Bool} {q : Nat} {b : Bool} (h : B[q]? = some b) : (textS B)[q]? = some (if b then 1 else 0) := by
  unfold textS
  rw [List.getElem?_map, h]
  rfl
theorem textS_len (B : List Bool) : (textS B).length = B.length := by simp [textS]

set_option maxRecDepth 100000 in
set_option maxHeartbeats 1000000 in
theorem text10_c (w : World) (A : Option Addr) (n c : Nat) (B : List Bool) (h : Sl w A n (B.map Value.bool)) (hn : n ≤ 1048576) :
    Calls Tryd.prog 58 #[.slice A n c] w fun e w' => e = .returned (.string ⟨(textS B).toArray⟩) ∧ Below w.heap.size w w' := by
  have hl : B.length = n := by simpa using h.1
  have HL := Lib.hid hl
  have HTL := Lib.hid (show (textS B).length = n by rw [textS_len, hl])
  clear hl
  have hmk := run_make_row' (P := Tryd.prog) 158 5 (.int .u8 0) 1 tBytes.und tBytes.info rfl .i64 .i64 n (by omega) (by omega)
  have hown0 := bytes_row w n (by simp only [maxLen]; omega)
  go_enter Tryd.func58, Tryd.ntmps58
  go_wp2_with fail
  clear hmk
  go_loopw [4] (fun iv wl => ∃ q : Nat, q ≤ n ∧ iv = .int .i64 (q : Int) ∧ wl.ownsRow w.heap.size 5 1 (.slice (some ⟨w.heap.size, 0, none⟩) n n) n ((fillTo (textS B) n 0 q).map bv) ∧ Hid (Below w.heap.size w wl)) (fun iv _ => n - (intOf iv).toNat)
  case atStart => exact ⟨0, Nat.zero_le _, rfl, by rw [fillTo_zero, List.map_replicate]; exact hown0, Lib.hid ((Below.refl _ _).alloc (Nat.le_refl _) _)⟩
  case round =>
    obtain ⟨q, hq, rfl, hown, hb⟩ := hrel
    clear hown0
    by_cases hlt : q < n
    · obtain ⟨b, hbq⟩ : ∃ b, B[q]? = some b := ⟨_, List.getElem?_eq_getElem (by rw [HL.out]; exact hlt)⟩
      obtain ⟨ad, hA, hc⟩ := (h.below hb.out).2 q (.bool b) (by rw [List.getElem?_map, hbq]; rfl)
      subst hA
      have hcell : wr.cell? ⟨w.heap.size, q, none⟩ = some (.int .u8 0) := by
        rw [hown.cellAt q (by omega), List.getElem?_map, fillTo_at' hlt (by rw [HTL.out]; omega)]; rfl
      have hfr := hown.frozenAt q
      have HTA := Lib.hid (textS_at hbq)
      cases b
      · have HO : Hid (wr.ownsRow w.heap.size 5 1 (.slice (some ⟨w.heap.size, 0, none⟩) n n) n ((fillTo (textS B) n 0 (q + 1)).map bv)) := Lib.hid (by
          have e := fillTo_set (z := (0 : UInt8)) hlt HTA.out
          rw [← e, if_neg (by simp), list_set_same (fillTo_at' hlt (by rw [HTL.out]; omega))]
          exact hown)
        clear hcell hfr hown hbq
        go_wp2_with fail
        exact ⟨⟨q + 1, by omega, by go_num, HO.out, hb⟩, by simp [intOf]; omega⟩
      · have hst := (hown.stored q (bv 1)).1
        have e := fillTo_set (z := (0 : UInt8)) hlt HTA.out
        rw [if_pos rfl] at e
        rw [← List.map_set, e] at hst
        have HB4 := Lib.hid (hb.out.setCell (p := ⟨w.heap.size, q, none⟩) (Nat.le_refl _) (bv 1))
        rw [show bv 1 = Value.int .u8 1 from rfl] at hst HB4
        clear hown hbq e
        go_wp2_with fail
        exact ⟨⟨q + 1, by omega, by go_num, hst, HB4⟩, by simp [intOf]; omega⟩
    · have hqn : q = n := by omega
      have hlt' : ¬ (q : Int) < (n : Int) := by omega
      rw [hqn, fillTo_all _ HTL.out] at hown
      clear hqn
      have hconv := run_own_string (P := Tryd.prog) wr 158 9 5 tBytes.und Tryd.underlying5 Tryd.underlying9 hown
      go_wp2_with fail
      go_ret
      exact ⟨rfl, hb.out⟩
theorem make_row_bools (w : World) (n : Nat) (h : n ≤ maxLen) : (w.alloc (.cells (madeCells #[.bool false] n) 4)).ownsRow w.heap.size 4 1 (.slice (some ⟨w.heap.size, 0, none⟩) n n) n (List.replicate n (.bool false)) := by
  have := World.ownsRow_lit (base := w.heap.size) (e := 4) (size := 1) w (madeCells #[.bool false] n) n (Nat.le_refl _) h (by rw [size_madeCells]; simp)
  rwa [toList_madeCells_one] at this
theorem behF_more (k N : Nat) (t : List Nat) (B : List Bool) (s u : Nat) : behF k N t s (nodesTo B (u + 1)) = behF k N t s (nodesTo B u) ++ if B.getD u false then outTo k N t s u k else [] := by
  rw [nodesTo_succ]
  cases B.getD u false
  · simp
  · simp only [if_true]
    rw [behF_snoc]

set_option maxRecDepth 100000 in
set_option maxHeartbeats 2000000 in
theorem behind_c (w : World) (k r N : Nat) (A S : Option Addr) (n c d : Nat) (t : List Nat) (B : List Bool) (s : Nat) (hT : Sl w A n ((ints t).map (Value.int .i64))) (hS : Sl w S N (B.map Value.bool)) (hk1 : 1 ≤ k) (hk4 : k ≤ 4) (hN0 : 0 < N) (hN : N ≤ 16384) (hlen : t.length = N * k) (htk : ∀ x ∈ t, x < k) :
    Calls Tryd.prog 22 #[ruleV (k : Int) (r : Int) A n c, .slice S N d, .int .i64 (s : Int)] w fun e w' => ∃ g, e = .returned (.slice (some ⟨g, 0, none⟩) N N) ∧
      w'.ownsRow w.heap.size 4 1 (.slice (some ⟨g, 0, none⟩) N N) N ((beh k N t B s).map Value.bool) ∧ Below w.heap.size w w' := by
  have hBl : B.length = N := by simpa using hS.1
  have htl : t.length = n := by simpa [ints] using hT.1
  have hb1 := (Below.refl w.heap.size w).alloc (Nat.le_refl _) (.cells #[.int .i64 (k : Int), .int .i64 (r : Int), .slice A n c] 24)
  have hr1 := RuleAt.new w (.int .i64 (k : Int)) (.int .i64 (r : Int)) (.slice A n c)
  obtain ⟨w1, hw1⟩ : ∃ w1, w.alloc (.cells #[.int .i64 (k : Int), .int .i64 (r : Int), .slice A n c] 24) = w1 := ⟨_, rfl⟩
  rw [hw1] at hb1 hr1
  have hz1 : w1.heap.size = w.heap.size + 1 := by rw [← hw1]; simp
  have hmk := run_make_row' (P := Tryd.prog) 53 4 (.bool false) 1 tBools.und tBools.info rfl .i64 .i64 N (by omega) (by omega)
  have hmk1 := hmk w1
  have hown0 := make_row_bools w1 N (by simp only [maxLen]; omega)
  have hba := (Below.refl w1.heap.size w1).alloc (Nat.le_refl _) (.cells (madeCells #[.bool false] N) 4)
  rw [← hw1] at hmk1
  have HW1 := Lib.hid hw1
  have HR1 := Lib.hid hr1
  have HB1 := Lib.hid hb1
  have HBA := Lib.hid hba
  have HO0 := Lib.hid hown0
  have HZ1 := Lib.hid hz1
  have HBL := Lib.hid hBl
  have HTL := Lib.hid htl
  have HLEN := Lib.hid hlen
  have HTT := Lib.hid hT
  have HSS := Lib.hid hS
  have hnb : n ≤ 65536 := by rw [← htl, hlen]; exact Nat.le_trans (Nat.mul_le_mul hN hk4) (by decide)
  clear hw1 hr1 hb1 hba hown0 hz1 hBl htl hlen hT hS hmk
  unfold ruleV
  go_enter Tryd.func22, Tryd.ntmps22
  go_wp2_with fail
  clear hmk1
  rw [HW1.out]
  obtain ⟨g, hg⟩ : ∃ g, w.heap.size + 1 = g := ⟨_, rfl⟩
  have HG := Lib.hid hg
  rw [hg]
  clear hg
  go_loopw [9] (fun iv wl => ∃ u : Nat, u ≤ N ∧ iv = .int .i64 (u : Int) ∧ wl.ownsRow w.heap.size 4 1 (.slice (some ⟨g, 0, none⟩) N N) N ((SubP.mark N (behF k N t s (nodesTo B u))).map Value.bool) ∧ Hid (Below w1.heap.size w1 wl)) (fun iv _ => N - (intOf iv).toNat)
  case atStart => exact ⟨0, Nat.zero_le _, rfl, by
    have h := own_base HO0.out (show w.heap.size ≤ w1.heap.size by rw [HZ1.out]; omega)
    rw [show (⟨w1.heap.size, 0, none⟩ : Addr) = ⟨g, 0, none⟩ by rw [HZ1.out, HG.out]] at h
    rw [show behF k N t s (nodesTo B 0) = [] from rfl, mark_nil, List.map_replicate]
    exact h, HBA⟩
  case round =>
    obtain ⟨u, hu, rfl, hown, hb⟩ := hrel
    by_cases hlt : u < N
    · have hlt' : (u : Int) < (N : Int) := by omega
      have hbw := HB1.out.trans (hb.out.mono HB1.out.size)
      obtain ⟨b, hbq⟩ : ∃ b, B[u]? = some b := ⟨_, List.getElem?_eq_getElem (by rw [HBL.out]; exact hlt)⟩
      obtain ⟨ad, hA, hc⟩ := (HSS.out.below hbw).2 u (.bool b) (by rw [List.getElem?_map, hbq]; rfl)
      subst hA
      have HBQ := Lib.hid (getD_of (d := false) hbq)
      clear hbq hbw
      cases b
      · have HM := Lib.hid (behF_more k N t B s u)
        go_wp2_with fail
        exact ⟨⟨u + 1, by omega, by go_num, by rw [HM.out, HBQ.out, if_neg (by simp), List.append_nil]; exact hown, hb⟩, by simp [intOf]; omega⟩
      · have HM := Lib.hid (behF_more k N t B s u)
        obtain ⟨L0, hL0⟩ : ∃ L0, behF k N t s (nodesTo B u) = L0 := ⟨_, rfl⟩
        rw [hL0] at hown HM
        clear hL0
        go_wp2_with fail
        clear hc
        go_loopw [10] (fun iv wl => ∃ q : Nat, q ≤ k ∧ iv = .int .i64 (q : Int) ∧ wl.ownsRow w.heap.size 4 1 (.slice (some ⟨g, 0, none⟩) N N) N ((SubP.mark N (L0 ++ outTo k N t s u q)).map Value.bool) ∧ Hid (Below w1.heap.size w1 wl)) (fun iv _ => k - (intOf iv).toNat)
        case atStart => exact ⟨0, Nat.zero_le _, rfl, by rw [outTo_zero, List.append_nil]; exact hown, hb⟩
        case round =>
          clear hown hb
          obtain ⟨q, hq, rfl, hown, hb⟩ := hrel
          have hrw := HR1.out.below hb.out HR1.out.lt
          obtain ⟨r0, r1, r2, _⟩ := hrw.facts
          clear hrw
          by_cases hqk : q < k
          · have hqk' : (q : Int) < (k : Int) := by omega
            have hix : u * k + q < t.length := by
              rw [HLEN.out]
              have : (u + 1) * k ≤ N * k := Nat.mul_le_mul_right k hlt
              rw [Nat.add_mul, Nat.one_mul] at this
              omega
            obtain ⟨lb, hlb⟩ : ∃ lb, t[u * k + q]? = some lb := ⟨_, List.getElem?_eq_getElem hix⟩
            have hgd : t.getD (u * k + q) 0 = lb := getD_of hlb
            have hbw := HB1.out.trans (hb.out.mono HB1.out.size)
            obtain ⟨ad2, hA2, hc2⟩ := (HTT.out.below hbw).2 (u * k + q) (.int .i64 (lb : Int)) (by rw [List.getElem?_map]; unfold ints; rw [List.getElem?_map, hlb]; rfl)
            subst hA2
            have HOS := Lib.hid (outTo_succ k N t s u q)
            rw [HTL.out] at hix
            obtain ⟨Q, hQ⟩ : ∃ Q, u * k = Q := ⟨_, rfl⟩
            have hQ' : (u : Int) * (k : Int) = (Q : Int) := by rw [← hQ]; simp
            rw [hQ] at hix hgd hc2 HOS
            have HLB0 := Lib.hid hgd
            have hVlt : (Q + q) % N < N := Nat.mod_lt _ hN0
            obtain ⟨V, hV⟩ : ∃ V, (Q + q) % N = V := ⟨_, rfl⟩
            have hV' : ((Q : Int) + (q : Int)) % (N : Int) = (V : Int) := by rw [← hV]; simp
            rw [hV] at hVlt
            rw [hV, HLB0.out] at HOS
            have hNz : ¬ ((N : Int) = 0) := by omega
            clear hlb hbw hQ hgd hV
            by_cases hls : lb = s
            · have hq1 : ((lb : Int) == (s : Int)) = true := by rw [hls]; simp
              have hlm : ((SubP.mark N (L0 ++ outTo k N t s u q)).map Value.bool).length = N := by rw [List.length_map, mark_len]
              obtain ⟨ob, hob⟩ : ∃ ob, (SubP.mark N (L0 ++ outTo k N t s u q))[V]? = some ob := ⟨_, List.getElem?_eq_getElem (by rw [mark_len]; exact hVlt)⟩
              have hcell : wr.cell? ⟨g, V, none⟩ = some (.bool ob) := by rw [hown.cellAt V (by omega), List.getElem?_map, hob]; rfl
              have hfr := hown.frozenAt V
              have hst := (hown.stored V (.bool true)).1
              rw [← List.map_set, ← mark_snoc, List.append_assoc] at hst
              have HOS2 := Lib.hid (HOS.out.trans (by rw [if_pos hls]))
              have hgw : w1.heap.size ≤ g := by rw [HZ1.out, HG.out]; exact Nat.le_refl _
              have HB4 := Lib.hid (hb.out.setCell (p := ⟨g, V, none⟩) hgw (.bool true))
              clear hls HOS hown hlm hob hgw
              go_wp2_with fail
              exact ⟨⟨q + 1, by omega, by go_num, by rw [HOS2.out]; exact hst, HB4⟩, by simp [intOf]; omega⟩
            · have hq1 : ((lb : Int) == (s : Int)) = false := by simp; omega
              have HOS2 := Lib.hid (HOS.out.trans (by rw [if_neg hls, List.append_nil]))
              clear hls HOS
              go_wp2_with fail
              exact ⟨⟨q + 1, by omega, by go_num, by rw [HOS2.out]; exact hown, hb⟩, by simp [intOf]; omega⟩
          · have hqk' : ¬ (q : Int) < (k : Int) := by omega
            have hqe : q = k := by omega
            have HO2 : Hid (wr.ownsRow w.heap.size 4 1 (.slice (some ⟨g, 0, none⟩) N N) N ((SubP.mark N (L0 ++ outTo k N t s u k)).map Value.bool)) := Lib.hid (by have h := hown; rw [hqe] at h; exact h)
            clear hqe hown
            go_wp2_with fail
            exact ⟨⟨u + 1, by omega, by go_num, by rw [HM.out, HBQ.out, if_pos rfl]; exact HO2.out, hb⟩, by simp [intOf]; omega⟩
    · have hlt' : ¬ (u : Int) < (N : Int) := by omega
      have hue : u = N := by omega
      have HO2 : Hid (wr.ownsRow w.heap.size 4 1 (.slice (some ⟨g, 0, none⟩) N N) N ((beh k N t B s).map Value.bool)) := Lib.hid (by have h := hown; rw [hue] at h; unfold beh nodesOf; rw [HBL.out]; exact h)
      have HBE := Lib.hid (HB1.out.trans (hb.out.mono HB1.out.size))
      clear hue hown
      go_wp2_with fail
      go_ret
      exact ⟨g, rfl, HO2.out, HBE.out⟩
end Go.Proofs.YtlajiblhnkognaaDoor
