/- image.of, the walk: the least automaton of a rule, or the error told further. Condition: the table reads from memory; the error variables hold what E says. image.wrong, image.Least, image.Has: any rule, any word. Condition: the lists read from memory; the error variables hold what E says. image.Has, the walk: any rule, any word. Condition: the lists read from memory; the error variables hold what E says. What image.Has answers of a small rule: whether the word has a preimage. Plain, over ofF and hasF. No condition. The fixed answers of image.Has that the statements of chapter 11 ask first. Plain, over hasF. No condition. Automata, as plain lists: with one more symbol no fewer words and at most k times as many; the words in order, by their numbers. No program. No condition. -/
import Derived.Test.YthilnpfpllplaaaGreatDoorS6
import Derived.Test.YthilnpfpllplaaaGreatDoorS21
import Derived.Test.YthilnpfpllplaaaGreatDoorS23
namespace Go.Proofs.YthilnpfpllplaaaGreatDoor
open Go.RowKit BagP RuleP SubP

def sImage : ByteArray := ⟨#[105, 109, 97, 103, 101]⟩
/-- What image.of answers. -/
noncomputable def ofF (at' : Int) (K R : Int) (T : List Int) : Int × List (List Int) × Option Tale :=
  match (walkF K R T).2.2.2 with
  | some tl => (0, [], some (tl.1, (sImage, at') :: tl.2))
  | none => (K, leastA K.toNat (walkF K R T).2.1, none)
theorem ofF_bad {at' K R : Int} {T : List Int} {tl : Tale} (h : walkF K R T = (0, [], [], some tl)) : ofF at' K R T = (0, [], some (tl.1, (sImage, at') :: tl.2)) := by unfold ofF; rw [h]
theorem ofF_good {at' : Int} {k r : Nat} {t : List Nat} {S : St} (hr : IsRule k r t) (h256 : t.length ≤ 256) (h : fin k (k ^ (2 * r)) t false = .go S []) : ofF at' (k : Int) (r : Int) (ints t) = ((k : Int), leastA k S.next, none) := by
  unfold ofF; rw [walkF_good hr h256 h, Int.toNat_natCast]

set_option maxRecDepth 100000 in
set_option maxHeartbeats 1000000 in
theorem of_bad (w : World) (E : Nat → Addr) (hE : Errs w E) (hEt : ErrT w) (hA : Apart12 E) (hB : ErrBlk w E) (at' K R : Int) (A : Option Addr) (n c : Nat) (T : List Int) (hT : Sl w A n (T.map (Value.int .i64))) (hm : n ≤ 9223372036854775807) (tl : Tale) (h : walkF K R T = (0, [], [], some tl)) :
    Calls Tryz.prog 37 #[.int .i64 at', ruleV K R A n c] w fun e w' => ∃ v, e = .returned (.tuple #[autoV 0 (.slice none 0 0), v]) ∧ ErrV w' E (some (tl.1, (sImage, at') :: tl.2)) v ∧ Below w.heap.size w w' := by
  have hb1 := (Below.refl w.heap.size w).alloc (Nat.le_refl _) (.cells #[.int .i64 K, .int .i64 R, .slice A n c] 24)
  have hb2 := hb1.alloc (by simp) (.cells #[.int .i64 0, .slice none 0 0] 50)
  obtain ⟨w2, hw2⟩ : ∃ w2, (w.alloc (.cells #[.int .i64 K, .int .i64 R, .slice A n c] 24)).alloc (.cells #[.int .i64 0, .slice none 0 0] 50) = w2 := ⟨_, rfl⟩
  rw [hw2] at hb2
  have ha2 : AutoAt w2 (w.heap.size + 1) (.int .i64 0) (.slice none 0 0) := by
    unfold AutoAt
    rw [← hw2]
    have := heap_new (w.alloc (.cells #[.int .i64 K, .int .i64 R, .slice A n c] 24)) (.cells #[.int .i64 0, .slice none 0 0] 50)
    simpa using this
  have hwk := walk_u w2 E (hE.below hb2) (hEt.below hb2) hA (hB.below hb2) K R A n c T (hT.below hb2) hm
  rw [h] at hwk
  unfold ruleV autoV at hwk
  have HWK := Lib.hid hwk
  have HW2 := Lib.hid hw2
  have HA2 := Lib.hid ha2
  have HB2 := Lib.hid hb2
  clear hwk hw2 ha2 hb1 hb2 hE hEt hA hB hT h
  unfold ruleV
  go_enter Tryz.func37, Tryz.ntmps37
  go_wp2_with fail
  rw [HW2.out]
  refine (HWK.out).mono ?_
  rintro e w3 ⟨C, cc, rows, v, rfl, _, hv, hb3⟩
  have hv3 : ErrIs w3 E tl.1 tl.2 v := hv
  obtain ⟨u, p, rfl⟩ := hv3.iface
  have hb34 := (Below.refl w3.heap.size w3).alloc (Nat.le_refl _) (.cells #[.int .i64 0, .slice C 0 cc] 50)
  have hv4 := hv.below hb34
  obtain ⟨w4, hw4⟩ : ∃ w4, w3.alloc (.cells #[.int .i64 0, .slice C 0 cc] 50) = w4 := ⟨_, rfl⟩
  rw [hw4] at hb34 hv4
  have HU := Lib.hid (under_c w4 E sImage at' (some tl) _ hv4)
  have HW4 := Lib.hid hw4
  have hb24 := hb3.trans (hb34.mono hb3.size)
  have HB4 := Lib.hid (HB2.out.trans (hb24.mono HB2.out.size))
  have HA4 := Lib.hid (HA2.out.below hb24 (Array.getElem?_eq_some_iff.1 HA2.out).1)
  clear HWK hv3 hv hv4 hb34 hb24 hw4 hb3
  go_wp2_with fail
  rw [show w3.alloc (.cells #[.int .i64 0, .slice C 0 cc] 50) = w4 from HW4.out]
  refine (HU.out).mono ?_
  rintro e w5 ⟨v5, rfl, hv5, hb5⟩
  clear HU
  have ha5 := HA4.out.below hb5 (Array.getElem?_eq_some_iff.1 HA4.out).1
  obtain ⟨d0, d1, f0, f1⟩ := AutoAt.facts ha5
  have HA6 := Lib.hid (AutoAt.set2 ha5 (.int .i64 0) (.slice none 0 0))
  have hb6 := HB4.out.trans (hb5.mono HB4.out.size)
  have HV : Hid (ErrV ((w5.setCell ⟨w.heap.size + 1, 0, none⟩ (.int .i64 0)).setCell ⟨w.heap.size + 1, 1, none⟩ (.slice none 0 0)) E (some (tl.1, (sImage, at') :: tl.2)) v5) := Lib.hid (
    ErrIs.keeps' ((Keeps.of_setCell w5 ⟨w.heap.size + 1, 0, none⟩ (.int .i64 0)).trans (Keeps.of_setCell _ ⟨w.heap.size + 1, 1, none⟩ (.slice none 0 0)) (fun _ _ h => h)) (fun k cs hk e => by
      have ha5' : w5.heap[w.heap.size + 1]? = _ := ha5
      rw [show k = w.heap.size + 1 from hk, ha5'] at e
      injection e with e
      injection e with _ e
      exact absurd e (by decide)) hv5)
  have HBE := Lib.hid ((hb6.setCell (p := ⟨w.heap.size + 1, 0, none⟩) (Nat.le_succ _) (.int .i64 0)).setCell (p := ⟨w.heap.size + 1, 1, none⟩) (Nat.le_succ _) (.slice none 0 0))
  clear hv5 hb5 hb6 ha5
  go_wp2_with fail
  obtain ⟨d0, d1, _, _⟩ := HA6.out.facts
  exact bodyPost_ret (v := .tuple #[autoV 0 (.slice none 0 0), v5]) (by simp [results, Tryz.results37, go_sem, autoV, d0, d1]) rfl ⟨_, rfl, HV.out, HBE.out⟩

set_option maxRecDepth 100000 in
set_option maxHeartbeats 1000000 in
theorem of_good (w : World) (E : Nat → Addr) (hE : Errs w E) (hEt : ErrT w) (hA : Apart12 E) (hB : ErrBlk w E) (at' : Int) (k r : Nat) (A : Option Addr) (n c : Nat) (t : List Nat) (hT : Sl w A n ((ints t).map (Value.int .i64))) (hm : n ≤ 9223372036854775807) (hr : IsRule k r t) (h256 : t.length ≤ 256) (S : St) (h : fin k (k ^ (2 * r)) t false = .go S []) :
    Calls Tryz.prog 37 #[.int .i64 at', ruleV (k : Int) (r : Int) A n c] w fun e w' => ∃ nv nr, e = .returned (.tuple #[autoV (k : Int) nv, .nilIface]) ∧ RowsAt w' w.heap.size nv nr (leastA k S.next) (fun _ => False) ∧ Below w.heap.size w w' := by
  have hb1 := (Below.refl w.heap.size w).alloc (Nat.le_refl _) (.cells #[.int .i64 (k : Int), .int .i64 (r : Int), .slice A n c] 24)
  have hb2 := hb1.alloc (by simp) (.cells #[.int .i64 0, .slice none 0 0] 50)
  obtain ⟨w2, hw2⟩ : ∃ w2, (w.alloc (.cells #[.int .i64 (k : Int), .int .i64 (r : Int), .slice A n c] 24)).alloc (.cells #[.int .i64 0, .slice none 0 0] 50) = w2 := ⟨_, rfl⟩
  rw [hw2] at hb2
  have ha2 : AutoAt w2 (w.heap.size + 1) (.int .i64 0) (.slice none 0 0) := by
    unfold AutoAt
    rw [← hw2]
    have := heap_new (w.alloc (.cells #[.int .i64 (k : Int), .int .i64 (r : Int), .slice A n c] 24)) (.cells #[.int .i64 0, .slice none 0 0] 50)
    simpa using this
  have hwk := walk_u w2 E (hE.below hb2) (hEt.below hb2) hA (hB.below hb2) (k : Int) (r : Int) A n c (ints t) (hT.below hb2) hm
  rw [walkF_good hr h256 h] at hwk
  dsimp only at hwk
  unfold ruleV autoV at hwk
  have hN : 0 < k ^ (2 * r) := Nat.pow_pos hr.k1
  have hro := fin_rows hN h
  have hbg := (fin_ok hN h).2
  have hnl := (fin_inv hN h).2.1
  have HWK := Lib.hid hwk
  have HW2 := Lib.hid hw2
  have HA2 := Lib.hid ha2
  have HB2 := Lib.hid hb2
  have HAU := Lib.hid hro.auto
  have HBG := Lib.hid (show S.next.length ≤ 4096 by omega)
  have HK := Lib.hid (⟨hr.k1, hr.k4⟩ : _ ∧ _)
  clear hwk hw2 ha2 hb1 hb2 hE hEt hA hB hT h hro hbg hnl hr hN
  unfold ruleV
  go_enter Tryz.func37, Tryz.ntmps37
  go_wp2_with fail
  rw [HW2.out]
  refine (HWK.out).mono ?_
  rintro e w3 ⟨C, cc, rows, v, rfl, hR, hv, hb3⟩
  obtain rfl : v = .nilIface := hv
  have hb34 := (Below.refl w3.heap.size w3).alloc (Nat.le_refl _) (.cells #[.int .i64 (k : Int), .slice C S.next.length cc] 50)
  obtain ⟨w4, hw4⟩ : ∃ w4, w3.alloc (.cells #[.int .i64 (k : Int), .slice C S.next.length cc] 50) = w4 := ⟨_, rfl⟩
  rw [hw4] at hb34
  have hls := least_c w4 k S.next.length cc C S.next rfl HAU.out (hR.list.keep hb34) HK.out.1 HK.out.2 HBG.out
  unfold autoV at hls
  have HLS := Lib.hid hls
  have HW4 := Lib.hid hw4
  have hb24 := hb3.trans (hb34.mono hb3.size)
  have HB4 := Lib.hid (HB2.out.trans (hb24.mono HB2.out.size))
  have HA4 := Lib.hid (HA2.out.below hb24 (Array.getElem?_eq_some_iff.1 HA2.out).1)
  clear HWK hb34 hb24 hw4 hb3 hls hR
  go_wp2_with fail
  rw [show w3.alloc (.cells #[.int .i64 (k : Int), .slice C S.next.length cc] 50) = w4 from HW4.out]
  refine (HLS.out).mono ?_
  rintro e w5 ⟨nv, nr, rfl, hR5, hb5⟩
  clear HLS
  obtain ⟨NB, nb, rfl, _, _⟩ := own_slice hR5.lst
  have ha5 := HA4.out.below hb5 (Array.getElem?_eq_some_iff.1 HA4.out).1
  obtain ⟨d0, d1, f0, f1⟩ := AutoAt.facts ha5
  obtain ⟨m, hm'⟩ : ∃ m, (leastA k S.next).length = m := ⟨_, rfl⟩
  rw [hm'] at hR5
  rw [hm']
  have HA6 := Lib.hid (AutoAt.set2 ha5 (.int .i64 (k : Int)) (.slice NB m nb))
  have hb6 := HB4.out.trans (hb5.mono HB4.out.size)
  have hblk : ∀ b, b = (⟨w.heap.size + 1, 0, none⟩ : Addr).block → w5.heap[b]? = some (.cells #[.int .i64 0, .slice none 0 0] 50 (0, 0)) := fun b e => by rw [show b = w.heap.size + 1 from e]; exact ha5
  have HN6 := Lib.hid ((hR5.base HB4.out.size).keeps ((Keeps.of_setCell w5 ⟨w.heap.size + 1, 0, none⟩ (.int .i64 (k : Int))).trans (Keeps.of_setCell _ ⟨w.heap.size + 1, 1, none⟩ (.slice NB m nb)) (fun _ _ h => h))
    (fun b hb => hR5.not_lst (hblk b hb) (by decide)) (fun b hb => hR5.not_el (hblk b hb) (by decide)))
  have HBE := Lib.hid ((hb6.setCell (p := ⟨w.heap.size + 1, 0, none⟩) (Nat.le_succ _) (.int .i64 (k : Int))).setCell (p := ⟨w.heap.size + 1, 1, none⟩) (Nat.le_succ _) (.slice NB m nb))
  clear hR5 hb5 hb6 ha5 hblk hm'
  go_wp2_with fail
  obtain ⟨d0, d1, _, _⟩ := HA6.out.facts
  exact bodyPost_ret (v := .tuple #[autoV (k : Int) (.slice NB m nb), .nilIface]) (by simp [results, Tryz.results37, go_sem, autoV, d0, d1]) rfl ⟨_, nr, rfl, HN6.out, HBE.out⟩

theorem of_u (w : World) (E : Nat → Addr) (hE : Errs w E) (hEt : ErrT w) (hA : Apart12 E) (hB : ErrBlk w E) (at' K R : Int) (A : Option Addr) (n c : Nat) (T : List Int) (hT : Sl w A n (T.map (Value.int .i64))) (hm : n ≤ 9223372036854775807) :
    Calls Tryz.prog 37 #[.int .i64 at', ruleV K R A n c] w fun e w' => ∃ (C : Option Addr) (cc : Nat) (rows : List Value) (v : Value), e = .returned (.tuple #[autoV (ofF at' K R T).1 (.slice C (ofF at' K R T).2.1.length cc), v]) ∧
      RowsAt w' w.heap.size (.slice C (ofF at' K R T).2.1.length cc) rows (ofF at' K R T).2.1 (fun _ => False) ∧ ErrV w' E (ofF at' K R T).2.2 v ∧ Below w.heap.size w w' := by
  have hbad : ∀ tl, walkF K R T = (0, [], [], some tl) → Calls Tryz.prog 37 #[.int .i64 at', ruleV K R A n c] w fun e w' => ∃ (C : Option Addr) (cc : Nat) (rows : List Value) (v : Value), e = .returned (.tuple #[autoV (ofF at' K R T).1 (.slice C (ofF at' K R T).2.1.length cc), v]) ∧
      RowsAt w' w.heap.size (.slice C (ofF at' K R T).2.1.length cc) rows (ofF at' K R T).2.1 (fun _ => False) ∧ ErrV w' E (ofF at' K R T).2.2 v ∧ Below w.heap.size w w' := fun tl h => by
    rw [ofF_bad h]
    refine (of_bad w E hE hEt hA hB at' K R A n c T hT hm tl h).mono ?_
    rintro e w' ⟨v, rfl, hv, hb⟩
    exact ⟨none, 0, [], v, rfl, RowsAt.nil _ _ _, hv, hb⟩
  rcases walkF_cases K R T with ⟨tl, h⟩ | ⟨k, r, t, S, rfl, rfl, rfl, hr, hl, h⟩ | ⟨k, r, t, rfl, rfl, rfl, hr, hl, h⟩
  · exact hbad _ (walkF_bad h)
  · rw [ofF_good hr hl h]
    refine (of_good w E hE hEt hA hB at' k r A n c t hT hm hr hl S h).mono ?_
    rintro e w' ⟨nv, nr, rfl, hR, hb⟩
    obtain ⟨C, cc, rfl, _, _⟩ := own_slice hR.lst
    exact ⟨C, cc, nr, _, rfl, hR, rfl, hb⟩
  · exact hbad (4, [(sSubset, 0)]) (by rw [walkF_good hr hl h])
end Go.Proofs.YthilnpfpllplaaaGreatDoor

namespace Go.Proofs.YthilnpfpllplaaaGreatDoor
open Go.RowKit BagP RuleP SubP

theorem imageWrong_c (w : World) (E : Nat → Addr) (hE : Errs w E) (at' : Int) (n : Nat) (h1 : 1 ≤ n) (h2 : n ≤ 11) :
    Calls Tryz.prog 38 #[.int .i64 at', .int .i64 (n : Int)] w fun e w' => e = .returned (errV w.heap.size) ∧ ErrIs w' E n [(sImage, at')] (errV w.heap.size) ∧ Below w.heap.size w w' := by
  have HE := Lib.hid hE
  clear hE
  go_enter Tryz.func38, Tryz.ntmps38
  go_wp2_with fail
  refine (new_c w E HE.out sImage at' n h1 h2).mono ?_
  rintro e w' ⟨rfl, rfl⟩
  go_wp2_with fail
  go_ret
  exact ⟨rfl, ⟨w.heap.size, _, rfl, heap_new _ _, rfl⟩, (Below.refl _ _).alloc (Nat.le_refl _) _⟩

/-- Writes to a struct's block leave an error as it is. -/
theorem errV_keepsA {w w' : World} {E : Nat → Addr} {t : Option Tale} {v : Value} {O : Nat → Prop} (hk : Keeps O w w') (ho : ∀ k (cs : Array Value), O k → w.heap[k]? ≠ some (Obj.cells cs 90 (0, 0))) (h : ErrV w E t v) : ErrV w' E t v := by
  cases t with
  | none => exact h
  | some t => exact ErrIs.keeps' hk ho h

set_option maxRecDepth 100000 in
set_option maxHeartbeats 1000000 in
theorem leastU_c (w : World) (E : Nat → Addr) (hE : Errs w E) (hEt : ErrT w) (hA : Apart12 E) (hB : ErrBlk w E) (K R : Int) (A : Option Addr) (n c : Nat) (T : List Int) (hT : Sl w A n (T.map (Value.int .i64))) (hm : n ≤ 9223372036854775807) :
    Calls Tryz.prog 20 #[ruleV K R A n c] w fun e w' => ∃ (C : Option Addr) (cc : Nat) (rows : List Value) (v : Value), e = .returned (.tuple #[autoV (ofF 0 K R T).1 (.slice C (ofF 0 K R T).2.1.length cc), v]) ∧
      RowsAt w' w.heap.size (.slice C (ofF 0 K R T).2.1.length cc) rows (ofF 0 K R T).2.1 (fun _ => False) ∧ ErrV w' E (ofF 0 K R T).2.2 v ∧ Below w.heap.size w w' := by
  have hb1 := (Below.refl w.heap.size w).alloc (Nat.le_refl _) (.cells #[.int .i64 K, .int .i64 R, .slice A n c] 24)
  have hb2 := hb1.alloc (by simp) (.cells #[.int .i64 0, .slice none 0 0] 50)
  obtain ⟨w2, hw2⟩ : ∃ w2, (w.alloc (.cells #[.int .i64 K, .int .i64 R, .slice A n c] 24)).alloc (.cells #[.int .i64 0, .slice none 0 0] 50) = w2 := ⟨_, rfl⟩
  rw [hw2] at hb2
  have ha2 : AutoAt w2 (w.heap.size + 1) (.int .i64 0) (.slice none 0 0) := by
    unfold AutoAt
    rw [← hw2]
    have := heap_new (w.alloc (.cells #[.int .i64 K, .int .i64 R, .slice A n c] 24)) (.cells #[.int .i64 0, .slice none 0 0] 50)
    simpa using this
  have hof := of_u w2 E (hE.below hb2) (hEt.below hb2) hA (hB.below hb2) 0 K R A n c T (hT.below hb2) hm
  obtain ⟨q, hq⟩ : ∃ q, ofF 0 K R T = q := ⟨_, rfl⟩
  rw [hq] at hof
  rw [hq]
  obtain ⟨kk, L, tt⟩ := q
  dsimp only at hof
  dsimp only
  unfold ruleV autoV at hof
  have HOF := Lib.hid hof
  have HW2 := Lib.hid hw2
  have HA2 := Lib.hid ha2
  have HB2 := Lib.hid hb2
  clear hof hw2 ha2 hb1 hb2 hE hEt hA hB hT hq
  unfold ruleV
  go_enter Tryz.func20, Tryz.ntmps20
  go_wp2_with fail
  rw [HW2.out]
  refine (HOF.out).mono ?_
  rintro e w5 ⟨C, cc, rows, v, rfl, hR5, hv5, hb5⟩
  clear HOF
  obtain ⟨m, hm'⟩ : ∃ m, L.length = m := ⟨_, rfl⟩
  rw [hm'] at hR5
  rw [hm']
  have HM := Lib.hid hm'
  have ha5 := HA2.out.below hb5 (Array.getElem?_eq_some_iff.1 HA2.out).1
  obtain ⟨d0, d1, f0, f1⟩ := AutoAt.facts ha5
  have HA6 := Lib.hid (AutoAt.set2 ha5 (.int .i64 kk) (.slice C m cc))
  have hb6 := HB2.out.trans (hb5.mono HB2.out.size)
  have hblk : ∀ b, b = (⟨w.heap.size + 1, 0, none⟩ : Addr).block → w5.heap[b]? = some (.cells #[.int .i64 0, .slice none 0 0] 50 (0, 0)) := fun b e => by rw [show b = w.heap.size + 1 from e]; exact ha5
  have hkk := (Keeps.of_setCell w5 ⟨w.heap.size + 1, 0, none⟩ (.int .i64 kk)).trans (Keeps.of_setCell _ ⟨w.heap.size + 1, 1, none⟩ (.slice C m cc)) (fun _ _ h => h)
  have HN6 := Lib.hid ((hR5.base HB2.out.size).keeps hkk
    (fun b hb => hR5.not_lst (hblk b hb) (by decide)) (fun b hb => hR5.not_el (hblk b hb) (by decide)))
  have HV := Lib.hid (errV_keepsA hkk (fun b cs hb e => by
    rw [hblk b hb] at e
    injection e with e
    injection e with _ e
    exact absurd e (by decide)) hv5)
  have HBE := Lib.hid ((hb6.setCell (p := ⟨w.heap.size + 1, 0, none⟩) (Nat.le_succ _) (.int .i64 kk)).setCell (p := ⟨w.heap.size + 1, 1, none⟩) (Nat.le_succ _) (.slice C m cc))
  clear hR5 hv5 hb5 hb6 ha5 hblk hm' hkk
  go_wp2_with fail
  obtain ⟨d0, d1, _, _⟩ := HA6.out.facts
  refine bodyPost_ret (v := .tuple #[autoV kk (.slice C m cc), v]) (by simp [results, Tryz.results20, go_sem, autoV, d0, d1]) rfl ⟨C, cc, rows, v, ?_⟩
  rw [HM.out]
  exact ⟨rfl, HN6.out, HV.out, HBE.out⟩

/-- What image.Has answers. -/
noncomputable def hasF (K R : Int) (T ws : List Int) : Bool × Option Tale :=
  match (ofF 0 K R T).2.2 with
  | some tl => (false, some tl)
  | none => if 4096 < ws.length then (false, some (4, [(sImage, 1)])) else
    match odd K ws with
    | some i => (false, some (2, [(sImage, (i : Int))]))
    | none => ((runA (ofF 0 K R T).2.1 0 (ws.map Int.toNat)).isSome, none)
theorem hasF_bad {K R : Int} {T ws : List Int} {tl : Tale} {kk : Int} {L : List (List Int)} (h : ofF 0 K R T = (kk, L, some tl)) : hasF K R T ws = (false, some tl) := by unfold hasF; rw [h]
theorem hasF_long {K R : Int} {T ws : List Int} {kk : Int} {L : List (List Int)} (h : ofF 0 K R T = (kk, L, none)) (hl : 4096 < ws.length) : hasF K R T ws = (false, some (4, [(sImage, 1)])) := by unfold hasF; rw [h]; dsimp only; rw [if_pos hl]
theorem hasF_odd {K R : Int} {T ws : List Int} {kk : Int} {L : List (List Int)} (h : ofF 0 K R T = (kk, L, none)) (hl : ¬ 4096 < ws.length) {i : Nat} (ho : odd K ws = some i) : hasF K R T ws = (false, some (2, [(sImage, (i : Int))])) := by unfold hasF; rw [h]; dsimp only; rw [if_neg hl, ho]
theorem hasF_run {K R : Int} {T ws : List Int} {kk : Int} {L : List (List Int)} (h : ofF 0 K R T = (kk, L, none)) (hl : ¬ 4096 < ws.length) (ho : odd K ws = none) : hasF K R T ws = ((runA L 0 (ws.map Int.toNat)).isSome, none) := by unfold hasF; rw [h]; dsimp only; rw [if_neg hl, ho]
/-- The first symbol out of range. -/
theorem odd_first {k : Int} {ws : List Int} {i : Nat} {x : Int} (h : ∀ y ∈ ws.take i, 0 ≤ y ∧ y < k) (hx : ws[i]? = some x) (hb : x < 0 ∨ k ≤ x) : odd k ws = some i := by
  obtain ⟨h1, h2⟩ := List.getElem?_eq_some_iff.1 hx
  unfold odd
  rw [List.findIdx?_eq_some_iff_getElem]
  refine ⟨h1, by rw [h2]; exact decide_eq_true hb, fun j hj => ?_⟩
  have := h ws[j] (List.mem_take_iff_getElem.2 ⟨j, by omega, rfl⟩)
  simp
  omega
theorem odd_all {k : Int} {ws : List Int} (h : ∀ y ∈ ws, 0 ≤ y ∧ y < k) : odd k ws = none := by
  unfold odd
  rw [List.findIdx?_eq_none_iff]
  intro y hy
  have := h y hy
  simp
  omega
/-- The state behind some symbols, or none. -/
def StAt (L : List (List Int)) (vs : List Int) (st : Int) : Prop := (runA L 0 (vs.map Int.toNat) = none ∧ st = -1) ∨ ∃ q : Nat, runA L 0 (vs.map Int.toNat) = some q ∧ st = (q : Int) ∧ q < L.length
theorem StAt.snoc {k : Nat} {L : List (List Int)} (hA : IsAuto k L) {vs : List Int} {q s : Nat} (h : runA L 0 (vs.map Int.toNat) = some q) (hq : q < L.length) (hs : s < k) : StAt L (vs ++ [(s : Int)]) (nxt L q s) := by
  have e : runA L 0 ((vs ++ [(s : Int)]).map Int.toNat) = if nxt L q s < 0 then none else some (nxt L q s).toNat := by
    rw [List.map_append, runA_app, h, Option.bind_some, List.map_cons, List.map_nil, Int.toNat_natCast, runA_cons]
    rfl
  rcases (hA.at_ hq hs).2 with h1 | ⟨j, h1, h2⟩
  · exact .inl ⟨by rw [e, h1]; rfl, h1⟩
  · exact .inr ⟨j, by rw [e, h1, if_neg (by omega), Int.toNat_natCast], h1, h2⟩
theorem StAt.stay {L : List (List Int)} {vs : List Int} {x : Int} (h : runA L 0 (vs.map Int.toNat) = none) : StAt L (vs ++ [x]) (-1) := .inl ⟨by rw [List.map_append, runA_app, h]; rfl, rfl⟩
theorem StAt.some_iff {L : List (List Int)} {vs : List Int} {st : Int} (h : StAt L vs st) : decide (0 ≤ st) = (runA L 0 (vs.map Int.toNat)).isSome := by
  rcases h with ⟨h1, rfl⟩ | ⟨q, h1, rfl, _⟩
  · rw [h1]; rfl
  · rw [h1]; exact decide_eq_true (by omega)
end Go.Proofs.YthilnpfpllplaaaGreatDoor

namespace Go.Proofs.YthilnpfpllplaaaGreatDoor
open Go.RowKit BagP RuleP SubP

theorem ofF_cases (at' K R : Int) (T : List Int) : (∃ tl, ofF at' K R T = (0, [], some tl)) ∨ (∃ (k r : Nat) (t : List Nat) (S : St), K = (k : Int) ∧ R = (r : Int) ∧ T = ints t ∧ IsRule k r t ∧ t.length ≤ 256 ∧ fin k (k ^ (2 * r)) t false = .go S [] ∧ ofF at' K R T = (K, leastA k S.next, none) ∧ IsAuto k (leastA k S.next)) := by
  rcases walkF_cases K R T with ⟨tl, h⟩ | ⟨k, r, t, S, rfl, rfl, rfl, hr, hl, h⟩ | ⟨k, r, t, rfl, rfl, rfl, hr, hl, h⟩
  · exact .inl ⟨_, ofF_bad (walkF_bad h)⟩
  · exact .inr ⟨k, r, t, S, rfl, rfl, rfl, hr, hl, h, ofF_good hr hl h, least_auto (fin_rows (Nat.pow_pos hr.k1) h).auto⟩
  · exact .inl ⟨_, ofF_bad (tl := (4, [(sSubset, 0)])) (by rw [walkF_good hr hl h])⟩

set_option maxRecDepth 100000 in
set_option maxHeartbeats 1000000 in
theorem has_u (w : World) (E : Nat → Addr) (hE : Errs w E) (hEt : ErrT w) (hA : Apart12 E) (hB : ErrBlk w E) (K R : Int) (A : Option Addr) (n c : Nat) (T : List Int) (hT : Sl w A n (T.map (Value.int .i64))) (hm : n ≤ 9223372036854775807)
    (B : Option Addr) (m d : Nat) (W : List Int) (hW : Sl w B m (W.map (Value.int .i64))) (hm2 : m ≤ 9223372036854775807) :
    Calls Tryz.prog 12 #[ruleV K R A n c, .slice B m d] w fun e w' => ∃ v, e = .returned (.tuple #[.bool (hasF K R T W).1, v]) ∧ ErrV w' E (hasF K R T W).2 v ∧ Below w.heap.size w w' := by
  have hb1 := (Below.refl w.heap.size w).alloc (Nat.le_refl _) (.cells #[.int .i64 K, .int .i64 R, .slice A n c] 24)
  obtain ⟨w1, hw1⟩ : ∃ w1, w.alloc (.cells #[.int .i64 K, .int .i64 R, .slice A n c] 24) = w1 := ⟨_, rfl⟩
  rw [hw1] at hb1
  have hr1 : RuleAt w1 w.heap.size (.int .i64 K) (.int .i64 R) (.slice A n c) := by rw [← hw1]; exact RuleAt.new w _ _ _
  have hof := of_u w1 E (hE.below hb1) (hEt.below hb1) hA (hB.below hb1) 0 K R A n c T (hT.below hb1) hm
  have hlw : W.length = m := by simpa using hW.1
  have HER := Lib.hid (fun (wz : World) (hz : Below w.heap.size w wz) => hE.below hz)
  have HWS := Lib.hid (fun (wz : World) (hz : Below w.heap.size w wz) => hW.below hz)
  have HW1 := Lib.hid hw1
  have HB1 := Lib.hid hb1
  have HR1 := Lib.hid hr1
  have HLW := Lib.hid hlw
  clear hw1 hb1 hr1 hE hEt hA hB hT hW hlw
  rcases ofF_cases 0 K R T with ⟨tl, h⟩ | ⟨k, r, t, S, rfl, rfl, rfl, hr, hl, hS, h, hau⟩
  · rw [h] at hof
    rw [hasF_bad h]
    dsimp only at hof
    dsimp only
    unfold ruleV autoV at hof
    have HOF := Lib.hid hof
    clear hof h
    unfold ruleV
    go_enter Tryz.func12, Tryz.ntmps12
    go_wp2_with fail
    rw [HW1.out]
    refine (HOF.out).mono ?_
    rintro e w3 ⟨C, cc, rows, v, rfl, _, hv, hb3⟩
    have hv3 : ErrIs w3 E tl.1 tl.2 v := hv
    obtain ⟨u, p, rfl⟩ := hv3.iface
    have hb34 := (Below.refl w3.heap.size w3).alloc (Nat.le_refl _) (.cells #[.int .i64 0, .slice C 0 cc] 50)
    have HV4 := Lib.hid (hv.below hb34)
    have HB4 := Lib.hid (HB1.out.trans ((hb3.trans (hb34.mono hb3.size)).mono HB1.out.size))
    clear HOF hv3 hv hb34 hb3
    go_wp2_with fail
    go_ret2
    exact ⟨_, rfl, HV4.out, HB4.out⟩
  · rw [h] at hof
    obtain ⟨L, hL⟩ : ∃ L, leastA k S.next = L := ⟨_, rfl⟩
    rw [hL] at hof h hau
    dsimp only at hof
    unfold ruleV autoV at hof
    have HOF := Lib.hid hof
    have HO := Lib.hid h
    have HAU := Lib.hid hau
    obtain ⟨bb, tt, hp⟩ : ∃ bb tt, hasF (k : Int) (r : Int) (ints t) W = (bb, tt) := ⟨_, _, rfl⟩
    rw [hp]
    dsimp only
    have HP := Lib.hid hp
    clear hof h hau hL hS hr hl hp
    unfold ruleV
    go_enter Tryz.func12, Tryz.ntmps12
    go_wp2_with fail
    rw [HW1.out]
    refine (HOF.out).mono ?_
    rintro e w3 ⟨C, cc, rows, v, rfl, hR, hv, hb3⟩
    obtain rfl : v = .nilIface := hv
    have hb34 := (Below.refl w3.heap.size w3).alloc (Nat.le_refl _) (.cells #[.int .i64 (k : Int), .slice C L.length cc] 50)
    have ha4 := heap_new w3 (.cells #[.int .i64 (k : Int), .slice C L.length cc] 50)
    obtain ⟨w4, hw4⟩ : ∃ w4, w3.alloc (.cells #[.int .i64 (k : Int), .slice C L.length cc] 50) = w4 := ⟨_, rfl⟩
    rw [hw4] at hb34 ha4
    have ha4 : AutoAt w4 w3.heap.size (.int .i64 (k : Int)) (.slice C L.length cc) := ha4
    have hb14 := hb3.trans (hb34.mono hb3.size)
    have hb4 := HB1.out.trans (hb14.mono HB1.out.size)
    have hr4 := HR1.out.below hb14 HR1.out.lt
    obtain ⟨a0, a1, _, _⟩ := ha4.facts
    obtain ⟨r0, r1, r2, _⟩ := hr4.facts
    have HLI := Lib.hid (hR.list.keep hb34)
    have HSW := Lib.hid (HWS.out w4 hb4)
    have HW4 := Lib.hid hw4
    have HB4 := Lib.hid hb4
    have HE4 := Lib.hid (HER.out w4 hb4)
    clear HOF hR hb34 ha4 hw4 hb14 hb4 hr4 hb3
    by_cases hlong : 4096 < W.length
    · obtain ⟨rfl, rfl⟩ : bb = false ∧ tt = some (4, [(sImage, 1)]) := by
        have h := HP.out
        rw [hasF_long HO.out hlong] at h
        exact ⟨(Prod.mk.inj h).1.symm, (Prod.mk.inj h).2.symm⟩
      have hlong' : (m : Int) > 4096 := by have := HLW.out; omega
      have HWR := Lib.hid (imageWrong_c w4 E HE4.out 1 4 (by omega) (by omega))
      clear hlong
      go_wp2_with fail
      rw [show w3.alloc (.cells #[.int .i64 (k : Int), .slice C L.length cc] 50) = w4 from HW4.out]
      refine (HWR.out).mono ?_
      rintro e w5 ⟨rfl, hv5, hb5⟩
      go_wp2_with fail
      go_ret2
      exact ⟨_, rfl, hv5, HB4.out.trans (hb5.mono HB4.out.size)⟩
    · have hlong' : ¬ (m : Int) > 4096 := by have := HLW.out; omega
      have HLG := Lib.hid hlong
      clear hlong
      go_wp2_with fail
      rw [show w3.alloc (.cells #[.int .i64 (k : Int), .slice C L.length cc] 50) = w4 from HW4.out]
      go_loopw [8, 25] (fun sv jv wl => ∃ (j : Nat) (st : Int), jv = .int .i64 (j : Int) ∧ sv = .int .i64 st ∧ j ≤ m ∧ Hid (∀ y ∈ W.take j, 0 ≤ y ∧ y < (k : Int)) ∧ Hid (StAt L (W.take j) st) ∧ Hid (wl = w4)) (fun _ jv _ => m - (intOf jv).toNat)
      case atStart => exact ⟨0, 0, rfl, rfl, Nat.zero_le _, Lib.hid (fun y hy => by simp at hy), Lib.hid (.inr ⟨0, rfl, rfl, HAU.out.pos⟩), Lib.hid rfl⟩
      case round =>
        obtain ⟨j, st, rfl, rfl, hj, hok, hst, hwe⟩ := hrel
        obtain rfl := hwe.out
        by_cases hjl : j < m
        · have hjl' : (j : Int) < (m : Int) := by omega
          have hj0 : (0 : Int) ≤ (j : Int) := by omega
          obtain ⟨adb, x, rfl, hx, hcx⟩ := HSW.out.int_ hjl
          have htk : W.take (j + 1) = W.take j ++ [x] := by rw [List.take_add_one, hx]; rfl
          by_cases hbad : x < 0 ∨ (k : Int) ≤ x
          · obtain ⟨rfl, rfl⟩ : bb = false ∧ tt = some (2, [(sImage, (j : Int))]) := by
              have h := HP.out
              rw [hasF_odd HO.out HLG.out (odd_first hok.out hx hbad)] at h
              exact ⟨(Prod.mk.inj h).1.symm, (Prod.mk.inj h).2.symm⟩
            have HWR := Lib.hid (imageWrong_c wr E HE4.out (j : Int) 2 (by omega) (by omega))
            clear htk hok hst hx
            rcases Int.lt_or_le x 0 with h0 | h0
            · clear hbad
              go_wp2_with fail
              refine (HWR.out).mono ?_
              rintro e w5 ⟨rfl, hv5, hb5⟩
              go_wp2_with fail
              go_ret2
              exact ⟨_, rfl, hv5, HB4.out.trans (hb5.mono HB4.out.size)⟩
            · have h0' : ¬ x < 0 := by omega
              have hxk : (k : Int) ≤ x := by omega
              have hxk' : x ≥ (k : Int) := by omega
              clear hbad
              go_wp2_with fail
              refine (HWR.out).mono ?_
              rintro e w5 ⟨rfl, hv5, hb5⟩
              go_wp2_with fail
              go_ret2
              exact ⟨_, rfl, hv5, HB4.out.trans (hb5.mono HB4.out.size)⟩
          · obtain ⟨s, rfl⟩ : ∃ s : Nat, x = (s : Int) := ⟨x.toNat, by omega⟩
            have hsk : s < k := by omega
            have h0' : ¬ (s : Int) < 0 := by omega
            have hs0 : (0 : Int) ≤ (s : Int) := by omega
            have hxk' : ¬ (k : Int) ≤ (s : Int) := by omega
            have hsk' : (s : Int) < (k : Int) := by omega
            have HOK := Lib.hid (show ∀ y ∈ W.take (j + 1), 0 ≤ y ∧ y < (k : Int) from fun y hy => by
              rw [htk] at hy
              rcases List.mem_append.1 hy with h | h
              · exact hok.out y h
              · rw [List.mem_singleton.1 h]; omega)
            rcases hst.out with ⟨h1, rfl⟩ | ⟨q, h1, rfl, hq⟩
            · have HST := Lib.hid (show StAt L (W.take (j + 1)) (-1) by rw [htk]; exact StAt.stay h1)
              clear htk hok hst hx h1 hbad
              go_wp2_with fail
              exact ⟨⟨j + 1, -1, by go_num, rfl, by omega, HOK, HST, Lib.hid (by first | rfl | trivial)⟩, by simp [intOf]; omega⟩
            · have HST := Lib.hid (show StAt L (W.take (j + 1)) (nxt L q s) by rw [htk]; exact StAt.snoc HAU.out h1 hq hsk)
              obtain ⟨adn, l, P, pc, rfl, hl, hcl, _, hsl⟩ := HLI.out.at_ hq
              have hlk : l.length = k := HAU.out.len l (List.mem_of_getElem? hl)
              rw [hlk] at hcl hsl
              obtain ⟨adp, y, rfl, hy, hcy⟩ := hsl.int_ hsk
              have hny : nxt L q s = y := by
                unfold nxt
                rw [List.getD_eq_getElem?_getD (l := L), hl, Option.getD_some, List.getD_eq_getElem?_getD, hy]; rfl
              rw [hny] at HST
              have hq0 : (0 : Int) ≤ (q : Int) := by omega
              have hq' : (q : Int) < (L.length : Int) := by omega
              clear htk hok hst hx h1 hbad hl hlk hsl hy hny
              go_wp2_with fail
              exact ⟨⟨j + 1, y, by go_num, rfl, by omega, HOK, HST, Lib.hid (by first | rfl | trivial)⟩, by simp [intOf]; omega⟩
        · have hjl' : ¬ (j : Int) < (m : Int) := by omega
          obtain rfl : m = j := by omega
          have hok' := hok.out
          have hst' := hst.out
          rw [List.take_of_length_le (by rw [HLW.out]; exact Nat.le_refl _)] at hok' hst'
          obtain ⟨rfl, rfl⟩ : bb = decide (0 ≤ st) ∧ tt = none := by
            have h := HP.out
            rw [hasF_run HO.out HLG.out (odd_all hok')] at h
            exact ⟨(hst'.some_iff.trans (Prod.mk.inj h).1).symm, (Prod.mk.inj h).2.symm⟩
          clear hok' hst' hok hst
          go_wp2_with fail
          go_ret2
          exact ⟨_, rfl, rfl, HB4.out⟩
end Go.Proofs.YthilnpfpllplaaaGreatDoor

namespace Go.Proofs.YthilnpfpllplaaaGreatDoor
open Go.RowKit BagP RuleP SubP

theorem hasF_good {k r : Nat} {t : List Nat} {S : St} (hr : IsRule k r t) (h256 : t.length ≤ 256) (h : fin k (k ^ (2 * r)) t false = .go S []) {v : List Nat} (hv : ∀ x ∈ v, x < k) (hl : v.length ≤ 4096) :
    hasF (k : Int) (r : Int) (ints t) (ints v) = (!(before k r t v).isEmpty, none) := by
  have hro := fin_rows (Nat.pow_pos hr.k1) h
  rw [hasF_run (ofF_good hr h256 h) (by rw [ints_len]; omega) (odd_ints hv), toNat_ints]
  suffices hs : (runA (leastA k S.next) 0 v).isSome = !(before k r t v).isEmpty by rw [hs]
  have h1 : (runA (leastA k S.next) 0 v).isSome = (runA S.next 0 v).isSome := least_eqv hro.auto v hv
  have h2 := hro.has hr.k1 hv
  rw [h1]
  cases hb : before k r t v with
  | nil =>
    have h3 : ¬ (runA S.next 0 v).isSome = true := fun e => h2.1 e hb
    simpa using h3
  | cons a l =>
    have h3 : (runA S.next 0 v).isSome = true := h2.2 (by rw [hb]; simp)
    rw [h3]; rfl
theorem ofF_ok (at' K R : Int) (T : List Int) (hi : TaleOk (walkF K R T).2.2.2) : TaleOk (ofF at' K R T).2.2 := by
  unfold ofF
  cases h : (walkF K R T).2.2.2 with
  | none => intro x hx; cases hx
  | some tl =>
    rw [h] at hi
    exact under_ok (op := sImage) (i := at') hi
end Go.Proofs.YthilnpfpllplaaaGreatDoor

namespace Go.Proofs.YthilnpfpllplaaaGreatDoor
open Go.RowKit BagP RuleP SubP

theorem aw_rule : IsRule 2 1 [0, 1, 1, 1, 0, 1, 1, 0] := ⟨by decide, by decide, by decide, by decide, by decide⟩
theorem aw_fin : ∃ S, fin 2 (2 ^ (2 * 1)) [0, 1, 1, 1, 0, 1, 1, 0] false = .go S [] := by
  rcases h : roundTo 2 4 [0, 1, 1, 1, 0, 1, 1, 0] false 16 with ⟨S, row⟩ | x | _
  · have e : (match roundTo 2 4 [0, 1, 1, 1, 0, 1, 1, 0] false 16 with | .go S row => decide (row = [] ∧ S.sets.length ≤ 16) | _ => false) = true := by decide +kernel
    rw [h] at e
    have e' := of_decide_eq_true e
    rw [e'.1] at h
    exact ⟨_, fin_go h e'.2 (by decide)⟩
  · have e : (match roundTo 2 4 [0, 1, 1, 1, 0, 1, 1, 0] false 16 with | .orphan _ => true | _ => false) = false := by decide +kernel
    rw [h] at e
    cases e
  · have e : (match roundTo 2 4 [0, 1, 1, 1, 0, 1, 1, 0] false 16 with | .over => true | _ => false) = false := by decide +kernel
    rw [h] at e
    cases e
theorem aw_has : hasF 2 1 [0, 1, 1, 1, 0, 1, 1, 0] [0, 1, 0, 1, 1] = (true, none) := by
  obtain ⟨S, hS⟩ := aw_fin
  have h := hasF_good aw_rule (by decide) hS (v := [0, 1, 0, 1, 1]) (by decide) (by decide)
  have e : (before 2 1 [0, 1, 1, 1, 0, 1, 1, 0] [0, 1, 0, 1, 1]).isEmpty = false := by decide +kernel
  rw [e] at h
  exact h
theorem aw_not : hasF 2 1 [0, 1, 1, 1, 0, 1, 1, 0] [0, 1, 0, 1, 0] = (false, none) := by
  obtain ⟨S, hS⟩ := aw_fin
  have h := hasF_good aw_rule (by decide) hS (v := [0, 1, 0, 1, 0]) (by decide) (by decide)
  have e : (before 2 1 [0, 1, 1, 1, 0, 1, 1, 0] [0, 1, 0, 1, 0]).isEmpty = true := by decide +kernel
  rw [e] at h
  exact h
end Go.Proofs.YthilnpfpllplaaaGreatDoor

namespace Go.Proofs.YthilnpfpllplaaaGreatDoor
namespace RuleP

theorem dot_low : ∀ (V U : List Nat), V.length = U.length → (∀ x ∈ U, 1 ≤ x) → V.sum ≤ dot V U
  | [], U, _, _ => by rw [dot_nil]; exact Nat.le_refl _
  | a :: V, [], h, _ => by simp at h
  | a :: V, b :: U, h, hU => by
    have h1 := dot_low V U (by simpa using h) (fun x hx => hU x (by simp [hx]))
    have h2 : a * 1 ≤ a * b := Nat.mul_le_mul_left a (hU b (by simp))
    rw [dot, List.sum_cons]
    omega
theorem dot_high {k : Nat} : ∀ (V U : List Nat), (∀ x ∈ U, x ≤ k) → dot V U ≤ k * V.sum
  | [], U, _ => by rw [dot_nil]; exact Nat.zero_le _
  | a :: V, [], _ => by rw [dot]; exact Nat.zero_le _; simp
  | a :: V, b :: U, hU => by
    have h1 := dot_high V U (fun x hx => hU x (by simp [hx]))
    have h2 : a * b ≤ a * k := Nat.mul_le_mul_left a (hU b (by simp))
    rw [dot, List.sum_cons, Nat.mul_add, Nat.mul_comm k a]
    omega
theorem rowB_ones {n : Nat} : ∀ (r : List Int), (∀ x ∈ r, x = -1 ∨ ∃ j : Nat, x = (j : Int) ∧ j < n) → rowB (List.replicate n 1) r ≤ r.length ∧ ((∃ x ∈ r, ¬ x < 0) → 1 ≤ rowB (List.replicate n 1) r) := by
  intro r
  rw [rowB_sum (k := 0)]
  induction r with
  | nil => intro _; exact ⟨Nat.le_refl _, fun ⟨x, hx, _⟩ => by simp at hx⟩
  | cons t r ih =>
    intro hr
    obtain ⟨h1, h2⟩ := ih (fun x hx => hr x (by simp [hx]))
    rw [List.map_cons, List.sum_cons, List.length_cons]
    rcases hr t (by simp) with h | ⟨j, rfl, hj⟩
    · rw [if_pos (by omega)]
      refine ⟨by omega, fun ⟨x, hx, hx0⟩ => ?_⟩
      rcases List.mem_cons.1 hx with rfl | hx
      · omega
      · have := h2 ⟨x, hx, hx0⟩
        omega
    · have e : (List.replicate n 1).getD ((j : Int)).toNat 0 = 1 := by
        show (List.replicate n 1).getD j 0 = 1
        rw [List.getD_eq_getElem?_getD, List.getElem?_replicate, if_pos hj]
        rfl
      rw [if_neg (by omega), e]
      exact ⟨by omega, fun _ => by omega⟩
def Live (k : Nat) (F : List (List Int)) : Prop := ∀ i, i < F.length → ∃ c, c < k ∧ ¬ nxt F i c < 0
theorem ways_one {k : Nat} {F : List (List Int)} (hA : IsAuto k F) : (∀ x ∈ waysB F 1, x ≤ k) ∧ (Live k F → ∀ x ∈ waysB F 1, 1 ≤ x) := by
  have key : ∀ x ∈ waysB F 1, ∃ i, i < F.length ∧ x = rowB (List.replicate F.length 1) (F.getD i []) := by
    intro x hx
    obtain ⟨i, hi⟩ := List.getElem?_of_mem hx
    have hil : i < F.length := by have := (List.getElem?_eq_some_iff.1 hi).1; rwa [waysB_len] at this
    refine ⟨i, hil, ?_⟩
    have h1 : (stepB F (waysB F 0))[i]? = some x := hi
    unfold stepB at h1
    rw [List.getElem?_map, (hA.row hil).2] at h1
    exact (Option.some.inj h1).symm
  constructor
  · intro x hx
    obtain ⟨i, hi, rfl⟩ := key x hx
    have hr := hA.row hi
    have := (rowB_ones (n := F.length) (F.getD i []) (hA.ok _ (List.mem_of_getElem? hr.2))).1
    rw [hr.1] at this
    exact this
  · intro hL x hx
    obtain ⟨i, hi, rfl⟩ := key x hx
    have hr := hA.row hi
    obtain ⟨c, hc, h0⟩ := hL i hi
    exact (rowB_ones (n := F.length) (F.getD i []) (hA.ok _ (List.mem_of_getElem? hr.2))).2 ⟨_, List.mem_of_getElem? (hA.at_ hi hc).1, h0⟩
theorem ways_next {k : Nat} {F : List (List Int)} (hA : IsAuto k F) (n : Nat) : (waysV F (n + 1)).sum = dot (waysV F n) (waysB F 1) := by
  have h1 := ways_dot hA (n + 1) 0
  have h2 := ways_dot hA n 1
  rw [show n + 1 + 0 = n + 1 from rfl] at h1
  rw [h2, ← h1]
  exact (dot_one _ _ (waysV_len F (n + 1))).symm
theorem ways_up {k : Nat} {F : List (List Int)} (hA : IsAuto k F) (hL : Live k F) (n : Nat) : (waysV F n).sum ≤ (waysV F (n + 1)).sum ∧ (waysV F (n + 1)).sum ≤ k * (waysV F n).sum := by
  rw [ways_next hA n]
  exact ⟨dot_low _ _ (by rw [waysV_len, waysB_len]) ((ways_one hA).2 hL), dot_high _ _ (ways_one hA).1⟩
theorem least_live {k : Nat} {L : List (List Int)} (hA : IsAuto k L) (hL : Live k L) : Live k (leastA k L) := fun i hi => by
  have h := least_done hA (eqB_ok k L) (Nat.le_refl _)
  have hs := h.st hi
  obtain ⟨c, hc, h0⟩ := hL _ hs
  refine ⟨c, hc, ?_⟩
  rcases h.at_ hA hi hc with ⟨h1, _⟩ | ⟨_, q, h2, _⟩
  · exact absurd h1 h0
  · show ¬ nxt (leastA k L) i c < 0
    have : nxt (leastA k L) i c = (q : Int) := h2
    omega

/-! ### the words in order -/
theorem range_mul {α : Type} (f : Nat → α) (m : Nat) : ∀ k : Nat, (List.range (k * m)).map f = (List.range k).flatMap fun c => (List.range m).map fun j => f (c * m + j)
  | 0 => by rw [Nat.zero_mul]; rfl
  | k + 1 => by
    rw [Nat.succ_mul, List.range_add, List.map_append, range_mul f m k, List.range_succ, List.flatMap_append, List.flatMap_cons, List.flatMap_nil, List.append_nil, List.map_map]
    rfl
theorem digB_head {k : Nat} (hk : 0 < k) : ∀ (n c j : Nat), c < k → j < k ^ n → digB k (n + 1) (c * k ^ n + j) = c :: digB k n j
  | 0, c, j, hc, hj => by
    simp at hj
    subst hj
    show digB k 0 _ ++ [(c * k ^ 0 + 0) % k] = [c]
    rw [Nat.pow_zero, Nat.mul_one, Nat.add_zero, Nat.mod_eq_of_lt hc]
    rfl
  | n + 1, c, j, hc, hj => by
    have h1 : j / k < k ^ n := by
      rw [Nat.pow_succ] at hj
      exact Nat.div_lt_of_lt_mul (by rw [Nat.mul_comm]; exact hj)
    have e1 : (c * k ^ (n + 1) + j) / k = c * k ^ n + j / k := by
      rw [Nat.pow_succ, ← Nat.mul_assoc, Nat.add_comm, Nat.add_mul_div_right _ _ hk, Nat.add_comm]
    have e2 : (c * k ^ (n + 1) + j) % k = j % k := by
      rw [Nat.pow_succ, ← Nat.mul_assoc, Nat.add_comm, Nat.add_mul_mod_self_right]
    show digB k (n + 1) ((c * k ^ (n + 1) + j) / k) ++ [(c * k ^ (n + 1) + j) % k] = c :: (digB k n (j / k) ++ [j % k])
    rw [e1, e2, digB_head hk n c (j / k) hc h1]
    rfl
theorem allW_dig {k : Nat} (hk : 0 < k) : ∀ n, (List.range (k ^ n)).map (digB k n) = allW k n
  | 0 => rfl
  | n + 1 => by
    rw [Nat.pow_succ, Nat.mul_comm, range_mul, allW]
    rw [List.flatMap_def, List.flatMap_def]
    refine congrArg List.flatten (List.map_congr_left fun c hc => ?_)
    rw [← allW_dig hk n, List.map_map]
    exact List.map_congr_left fun j hj => digB_head hk n c j (List.mem_range.1 hc) (List.mem_range.1 hj)
/-- How many of the first m words run. -/
def runsTo (p : List Nat → Bool) (k n m : Nat) : Nat := (List.range m).countP fun i => p (digB k n i)
theorem runsTo_succ (p : List Nat → Bool) (k n m : Nat) : runsTo p k n (m + 1) = runsTo p k n m + if p (digB k n m) = true then 1 else 0 := by
  unfold runsTo
  rw [List.range_succ, List.countP_append]
  simp [List.countP_cons]
theorem runsTo_le (p : List Nat → Bool) (k n m : Nat) : runsTo p k n m ≤ m := by
  unfold runsTo
  have := List.countP_le_length (p := fun i => p (digB k n i)) (l := List.range m)
  rwa [List.length_range] at this
theorem runsTo_all {k : Nat} (hk : 0 < k) (p : List Nat → Bool) (n : Nat) : runsTo p k n (k ^ n) = (allW k n).countP p := by
  rw [← allW_dig hk n, List.countP_map]
  rfl
end RuleP
end Go.Proofs.YthilnpfpllplaaaGreatDoor
