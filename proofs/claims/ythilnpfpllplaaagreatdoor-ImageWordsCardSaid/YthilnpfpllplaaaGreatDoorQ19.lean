/- image.of, the walk: the least automaton of a rule, or the error told further. Condition: the table reads from memory; the error variables hold what E says. image.wrong, image.Least, image.Has: any rule, any word. Condition: the lists read from memory; the error variables hold what E says. image.Has, the walk: any rule, any word. Condition: the lists read from memory; the error variables hold what E says. What image.Has answers of a small rule: whether the word has a preimage. Plain, over ofF and hasF. No condition. The fixed answers of image.Has that the statements of chapter 11 ask first. Plain, over hasF. No condition. Numbers in memory: what nat.norm, nat.From, nat.Add return. Condition: the limbs read from memory. -/
import Derived.IntWalk
import Derived.Test.YthilnpfpllplaaaGreatDoorQ1
import Derived.Test.YthilnpfpllplaaaGreatDoorQ17
import Derived.Test.YthilnpfpllplaaaGreatDoorQ18
namespace Go.Proofs.YthilnpfpllplaaaGreatDoor
open Go.RowKit BagP RuleP SubP

def sImage : ByteArray := ⟨#[105, 109, 97, 103, 101]⟩
/-- What image.of answers. -/
noncomputable def ofF (at' : Int) (K R : Int) (T : List Int) : Int × List (List Int) × Option Tale :=
  match (walkF K R T).2.2.2 with
  | some tl => (0, [], some (tl.1, (sImage, at') :: tl.2))
  | none => (K, leastA K.toNat (walkF K R T).2.1, none)
theorem ofF_bad {at' K R : Int} {T : List Int} {tl : Tale} (h : walkF K R T = (0, [], [], some tl)) : ofF at' K R T = (0, [], some (tl.1, (sImage, at') :: tl.2)) := by unfold ofF; rw [h]
theorem ofF_good {at' : Int} {k r : Nat} {t : List Nat} {S : St} (hr : IsRule k r t) (h256 : t.length ≤ 256) (h : fin k (k ^ (2 * r)) t false = .go S []) : ofF at' (k : Int) (r : Int) (ints t) = ((k : Int), leastA k S.next, none) := by
  unfold ofF; rw [walkF_good hr h256 h, Int.toNat_natCast]

set_option maxRecDepth 100000 in
set_option maxHeartbeats 1000000 in
theorem of_bad (w : World) (E : Nat → Addr) (hE : Errs w E) (hEt : ErrT w) (hA : Apart12 E) (hB : ErrBlk w E) (at' K R : Int) (A : Option Addr) (n c : Nat) (T : List Int) (hT : Sl w A n (T.map (Value.int .i64))) (hm : n ≤ 9223372036854775807) (tl : Tale) (h : walkF K R T = (0, [], [], some tl)) :
    Calls Tryz.prog 37 #[.int .i64 at', ruleV K R A n c] w fun e w' => ∃ v, e = .returned (.tuple #[autoV 0 (.slice none 0 0), v]) ∧ ErrV w' E (some (tl.1, (sImage, at') :: tl.2)) v ∧ Below w.heap.size w w' := by
  have hb1 := (Below.refl w.heap.size w).alloc (Nat.le_refl _) (.cells #[.int .i64 K, .int .i64 R, .slice A n c] 24)
  have hb2 := hb1.alloc (by simp) (.cells #[.int .i64 0, .slice none 0 0] 50)
  obtain ⟨w2, hw2⟩ : ∃ w2, (w.alloc (.cells #[.int .i64 K, .int .i64 R, .slice A n c] 24)).alloc (.cells #[.int .i64 0, .slice none 0 0] 50) = w2 := ⟨_, rfl⟩
  rw [hw2] at hb2
  have ha2 : AutoAt w2 (w.heap.size + 1) (.int .i64 0) (.slice none 0 0) := by
    unfold AutoAt
    rw [← hw2]
    have := heap_new (w.alloc (.cells #[.int .i64 K, .int .i64 R, .slice A n c] 24)) (.cells #[.int .i64 0, .slice none 0 0] 50)
    simpa using this
  have hwk := walk_u w2 E (hE.below hb2) (hEt.below hb2) hA (hB.below hb2) K R A n c T (hT.below hb2) hm
  rw [h] at hwk
  unfold ruleV autoV at hwk
  have HWK := Lib.hid hwk
  have HW2 := Lib.hid hw2
  have HA2 := Lib.hid ha2
  have HB2 := Lib.hid hb2
  clear hwk hw2 ha2 hb1 hb2 hE hEt hA hB hT h
  unfold ruleV
  go_enter Tryz.func37, Tryz.ntmps37
  go_wp2_with fail
  rw [HW2.out]
  refine (HWK.out).mono ?_
  rintro e w3 ⟨C, cc, rows, v, rfl, _, hv, hb3⟩
  have hv3 : ErrIs w3 E tl.1 tl.2 v := hv
  obtain ⟨u, p, rfl⟩ := hv3.iface
  have hb34 := (Below.refl w3.heap.size w3).alloc (Nat.le_refl _) (.cells #[.int .i64 0, .slice C 0 cc] 50)
  have hv4 := hv.below hb34
  obtain ⟨w4, hw4⟩ : ∃ w4, w3.alloc (.cells #[.int .i64 0, .slice C 0 cc] 50) = w4 := ⟨_, rfl⟩
  rw [hw4] at hb34 hv4
  have HU := Lib.hid (under_c w4 E sImage at' (some tl) _ hv4)
  have HW4 := Lib.hid hw4
  have hb24 := hb3.trans (hb34.mono hb3.size)
  have HB4 := Lib.hid (HB2.out.trans (hb24.mono HB2.out.size))
  have HA4 := Lib.hid (HA2.out.below hb24 (Array.getElem?_eq_some_iff.1 HA2.out).1)
  clear HWK hv3 hv hv4 hb34 hb24 hw4 hb3
  go_wp2_with fail
  rw [show w3.alloc (.cells #[.int .i64 0, .slice C 0 cc] 50) = w4 from HW4.out]
  refine (HU.out).mono ?_
  rintro e w5 ⟨v5, rfl, hv5, hb5⟩
  clear HU
  have ha5 := HA4.out.below hb5 (Array.getElem?_eq_some_iff.1 HA4.out).1
  obtain ⟨d0, d1, f0, f1⟩ := AutoAt.facts ha5
  have HA6 := Lib.hid (AutoAt.set2 ha5 (.int .i64 0) (.slice none 0 0))
  have hb6 := HB4.out.trans (hb5.mono HB4.out.size)
  have HV : Hid (ErrV ((w5.setCell ⟨w.heap.size + 1, 0, none⟩ (.int .i64 0)).setCell ⟨w.heap.size + 1, 1, none⟩ (.slice none 0 0)) E (some (tl.1, (sImage, at') :: tl.2)) v5) := Lib.hid (
    ErrIs.keeps' ((Keeps.of_setCell w5 ⟨w.heap.size + 1, 0, none⟩ (.int .i64 0)).trans (Keeps.of_setCell _ ⟨w.heap.size + 1, 1, none⟩ (.slice none 0 0)) (fun _ _ h => h)) (fun k cs hk e => by
      have ha5' : w5.heap[w.heap.size + 1]? = _ := ha5
      rw [show k = w.heap.size + 1 from hk, ha5'] at e
      injection e with e
      injection e with _ e
      exact absurd e (by decide)) hv5)
  have HBE := Lib.hid ((hb6.setCell (p := ⟨w.heap.size + 1, 0, none⟩) (Nat.le_succ _) (.int .i64 0)).setCell (p := ⟨w.heap.size + 1, 1, none⟩) (Nat.le_succ _) (.slice none 0 0))
  clear hv5 hb5 hb6 ha5
  go_wp2_with fail
  obtain ⟨d0, d1, _, _⟩ := HA6.out.facts
  exact bodyPost_ret (v := .tuple #[autoV 0 (.slice none 0 0), v5]) (by simp [results, Tryz.results37, go_sem, autoV, d0, d1]) rfl ⟨_, rfl, HV.out, HBE.out⟩

set_option maxRecDepth 100000 in
set_option maxHeartbeats 1000000 in
theorem of_good (w : World) (E : Nat → Addr) (hE : Errs w E) (hEt : ErrT w) (hA : Apart12 E) (hB : ErrBlk w E) (at' : Int) (k r : Nat) (A : Option Addr) (n c : Nat) (t : List Nat) (hT : Sl w A n ((ints t).map (Value.int .i64))) (hm : n ≤ 9223372036854775807) (hr : IsRule k r t) (h256 : t.length ≤ 256) (S : St) (h : fin k (k ^ (2 * r)) t false = .go S []) :
    Calls Tryz.prog 37 #[.int .i64 at', ruleV (k : Int) (r : Int) A n c] w fun e w' => ∃ nv nr, e = .returned (.tuple #[autoV (k : Int) nv, .nilIface]) ∧ RowsAt w' w.heap.size nv nr (leastA k S.next) (fun _ => False) ∧ Below w.heap.size w w' := by
  have hb1 := (Below.refl w.heap.size w).alloc (Nat.le_refl _) (.cells #[.int .i64 (k : Int), .int .i64 (r : Int), .slice A n c] 24)
  have hb2 := hb1.alloc (by simp) (.cells #[.int .i64 0, .slice none 0 0] 50)
  obtain ⟨w2, hw2⟩ : ∃ w2, (w.alloc (.cells #[.int .i64 (k : Int), .int .i64 (r : Int), .slice A n c] 24)).alloc (.cells #[.int .i64 0, .slice none 0 0] 50) = w2 := ⟨_, rfl⟩
  rw [hw2] at hb2
  have ha2 : AutoAt w2 (w.heap.size + 1) (.int .i64 0) (.slice none 0 0) := by
    unfold AutoAt
    rw [← hw2]
    have := heap_new (w.alloc (.cells #[.int .i64 (k : Int), .int .i64 (r : Int), .slice A n c] 24)) (.cells #[.int .i64 0, .slice none 0 0] 50)
    simpa using this
  have hwk := walk_u w2 E (hE.below hb2) (hEt.below hb2) hA (hB.below hb2) (k : Int) (r : Int) A n c (ints t) (hT.below hb2) hm
  rw [walkF_good hr h256 h] at hwk
  dsimp only at hwk
  unfold ruleV autoV at hwk
  have hN : 0 < k ^ (2 * r) := Nat.pow_pos hr.k1
  have hro := fin_rows hN h
  have hbg := (fin_ok hN h).2
  have hnl := (fin_inv hN h).2.1
  have HWK := Lib.hid hwk
  have HW2 := Lib.hid hw2
  have HA2 := Lib.hid ha2
  have HB2 := Lib.hid hb2
  have HAU := Lib.hid hro.auto
  have HBG := Lib.hid (show S.next.length ≤ 4096 by omega)
  have HK := Lib.hid (⟨hr.k1, hr.k4⟩ : _ ∧ _)
  clear hwk hw2 ha2 hb1 hb2 hE hEt hA hB hT h hro hbg hnl hr hN
  unfold ruleV
  go_enter Tryz.func37, Tryz.ntmps37
  go_wp2_with fail
  rw [HW2.out]
  refine (HWK.out).mono ?_
  rintro e w3 ⟨C, cc, rows, v, rfl, hR, hv, hb3⟩
  obtain rfl : v = .nilIface := hv
  have hb34 := (Below.refl w3.heap.size w3).alloc (Nat.le_refl _) (.cells #[.int .i64 (k : Int), .slice C S.next.length cc] 50)
  obtain ⟨w4, hw4⟩ : ∃ w4, w3.alloc (.cells #[.int .i64 (k : Int), .slice C S.next.length cc] 50) = w4 := ⟨_, rfl⟩
  rw [hw4] at hb34
  have hls := least_c w4 k S.next.length cc C S.next rfl HAU.out (hR.list.keep hb34) HK.out.1 HK.out.2 HBG.out
  unfold autoV at hls
  have HLS := Lib.hid hls
  have HW4 := Lib.hid hw4
  have hb24 := hb3.trans (hb34.mono hb3.size)
  have HB4 := Lib.hid (HB2.out.trans (hb24.mono HB2.out.size))
  have HA4 := Lib.hid (HA2.out.below hb24 (Array.getElem?_eq_some_iff.1 HA2.out).1)
  clear HWK hb34 hb24 hw4 hb3 hls hR
  go_wp2_with fail
  rw [show w3.alloc (.cells #[.int .i64 (k : Int), .slice C S.next.length cc] 50) = w4 from HW4.out]
  refine (HLS.out).mono ?_
  rintro e w5 ⟨nv, nr, rfl, hR5, hb5⟩
  clear HLS
  obtain ⟨NB, nb, rfl, _, _⟩ := own_slice hR5.lst
  have ha5 := HA4.out.below hb5 (Array.getElem?_eq_some_iff.1 HA4.out).1
  obtain ⟨d0, d1, f0, f1⟩ := AutoAt.facts ha5
  obtain ⟨m, hm'⟩ : ∃ m, (leastA k S.next).length = m := ⟨_, rfl⟩
  rw [hm'] at hR5
  rw [hm']
  have HA6 := Lib.hid (AutoAt.set2 ha5 (.int .i64 (k : Int)) (.slice NB m nb))
  have hb6 := HB4.out.trans (hb5.mono HB4.out.size)
  have hblk : ∀ b, b = (⟨w.heap.size + 1, 0, none⟩ : Addr).block → w5.heap[b]? = some (.cells #[.int .i64 0, .slice none 0 0] 50 (0, 0)) := fun b e => by rw [show b = w.heap.size + 1 from e]; exact ha5
  have HN6 := Lib.hid ((hR5.base HB4.out.size).keeps ((Keeps.of_setCell w5 ⟨w.heap.size + 1, 0, none⟩ (.int .i64 (k : Int))).trans (Keeps.of_setCell _ ⟨w.heap.size + 1, 1, none⟩ (.slice NB m nb)) (fun _ _ h => h))
    (fun b hb => hR5.not_lst (hblk b hb) (by decide)) (fun b hb => hR5.not_el (hblk b hb) (by decide)))
  have HBE := Lib.hid ((hb6.setCell (p := ⟨w.heap.size + 1, 0, none⟩) (Nat.le_succ _) (.int .i64 (k : Int))).setCell (p := ⟨w.heap.size + 1, 1, none⟩) (Nat.le_succ _) (.slice NB m nb))
  clear hR5 hb5 hb6 ha5 hblk hm'
  go_wp2_with fail
  obtain ⟨d0, d1, _, _⟩ := HA6.out.facts
  exact bodyPost_ret (v := .tuple #[autoV (k : Int) (.slice NB m nb), .nilIface]) (by simp [results, Tryz.results37, go_sem, autoV, d0, d1]) rfl ⟨_, nr, rfl, HN6.out, HBE.out⟩

theorem of_u (w : World) (E : Nat → Addr) (hE : Errs w E) (hEt : ErrT w) (hA : Apart12 E) (hB : ErrBlk w E) (at' K R : Int) (A : Option Addr) (n c : Nat) (T : List Int) (hT : Sl w A n (T.map (Value.int .i64))) (hm : n ≤ 9223372036854775807) :
    Calls Tryz.prog 37 #[.int .i64 at', ruleV K R A n c] w fun e w' => ∃ (C : Option Addr) (cc : Nat) (rows : List Value) (v : Value), e = .returned (.tuple #[autoV (ofF at' K R T).1 (.slice C (ofF at' K R T).2.1.length cc), v]) ∧
      RowsAt w' w.heap.size (.slice C (ofF at' K R T).2.1.length cc) rows (ofF at' K R T).2.1 (fun _ => False) ∧ ErrV w' E (ofF at' K R T).2.2 v ∧ Below w.heap.size w w' := by
  have hbad : ∀ tl, walkF K R T = (0, [], [], some tl) → Calls Tryz.prog 37 #[.int .i64 at', ruleV K R A n c] w fun e w' => ∃ (C : Option Addr) (cc : Nat) (rows : List Value) (v : Value), e = .returned (.tuple #[autoV (ofF at' K R T).1 (.slice C (ofF at' K R T).2.1.length cc), v]) ∧
      RowsAt w' w.heap.size (.slice C (ofF at' K R T).2.1.length cc) rows (ofF at' K R T).2.1 (fun _ => False) ∧ ErrV w' E (ofF at' K R T).2.2 v ∧ Below w.heap.size w w' := fun tl h => by
    rw [ofF_bad h]
    refine (of_bad w E hE hEt hA hB at' K R A n c T hT hm tl h).mono ?_
    rintro e w' ⟨v, rfl, hv, hb⟩
    exact ⟨none, 0, [], v, rfl, RowsAt.nil _ _ _, hv, hb⟩
  rcases walkF_cases K R T with ⟨tl, h⟩ | ⟨k, r, t, S, rfl, rfl, rfl, hr, hl, h⟩ | ⟨k, r, t, rfl, rfl, rfl, hr, hl, h⟩
  · exact hbad _ (walkF_bad h)
  · rw [ofF_good hr hl h]
    refine (of_good w E hE hEt hA hB at' k r A n c t hT hm hr hl S h).mono ?_
    rintro e w' ⟨nv, nr, rfl, hR, hb⟩
    obtain ⟨C, cc, rfl, _, _⟩ := own_slice hR.lst
    exact ⟨C, cc, nr, _, rfl, hR, rfl, hb⟩
  · exact hbad (4, [(sSubset, 0)]) (by rw [walkF_good hr hl h])
end Go.Proofs.YthilnpfpllplaaaGreatDoor

namespace Go.Proofs.YthilnpfpllplaaaGreatDoor
open Go.RowKit BagP RuleP SubP

theorem imageWrong_c (w : World) (E : Nat → Addr) (hE : Errs w E) (at' : Int) (n : Nat) (h1 : 1 ≤ n) (h2 : n ≤ 11) :
    Calls Tryz.prog 38 #[.int .i64 at', .int .i64 (n : Int)] w fun e w' => e = .returned (errV w.heap.size) ∧ ErrIs w' E n [(sImage, at')] (errV w.heap.size) ∧ Below w.heap.size w w' := by
  have HE := Lib.hid hE
  clear hE
  go_enter Tryz.func38, Tryz.ntmps38
  go_wp2_with fail
  refine (new_c w E HE.out sImage at' n h1 h2).mono ?_
  rintro e w' ⟨rfl, rfl⟩
  go_wp2_with fail
  go_ret
  exact ⟨rfl, ⟨w.heap.size, _, rfl, heap_new _ _, rfl⟩, (Below.refl _ _).alloc (Nat.le_refl _) _⟩

/-- Writes to a struct's block leave an error as it is. -/
theorem errV_keepsA {w w' : World} {E : Nat → Addr} {t : Option Tale} {v : Value} {O : Nat → Prop} (hk : Keeps O w w') (ho : ∀ k (cs : Array Value), O k → w.heap[k]? ≠ some (Obj.cells cs 90 (0, 0))) (h : ErrV w E t v) : ErrV w' E t v := by
  cases t with
  | none => exact h
  | some t => exact ErrIs.keeps' hk ho h

set_option maxRecDepth 100000 in
set_option maxHeartbeats 1000000 in
theorem leastU_c (w : World) (E : Nat → Addr) (hE : Errs w E) (hEt : ErrT w) (hA : Apart12 E) (hB : ErrBlk w E) (K R : Int) (A : Option Addr) (n c : Nat) (T : List Int) (hT : Sl w A n (T.map (Value.int .i64))) (hm : n ≤ 9223372036854775807) :
    Calls Tryz.prog 20 #[ruleV K R A n c] w fun e w' => ∃ (C : Option Addr) (cc : Nat) (rows : List Value) (v : Value), e = .returned (.tuple #[autoV (ofF 0 K R T).1 (.slice C (ofF 0 K R T).2.1.length cc), v]) ∧
      RowsAt w' w.heap.size (.slice C (ofF 0 K R T).2.1.length cc) rows (ofF 0 K R T).2.1 (fun _ => False) ∧ ErrV w' E (ofF 0 K R T).2.2 v ∧ Below w.heap.size w w' := by
  have hb1 := (Below.refl w.heap.size w).alloc (Nat.le_refl _) (.cells #[.int .i64 K, .int .i64 R, .slice A n c] 24)
  have hb2 := hb1.alloc (by simp) (.cells #[.int .i64 0, .slice none 0 0] 50)
  obtain ⟨w2, hw2⟩ : ∃ w2, (w.alloc (.cells #[.int .i64 K, .int .i64 R, .slice A n c] 24)).alloc (.cells #[.int .i64 0, .slice none 0 0] 50) = w2 := ⟨_, rfl⟩
  rw [hw2] at hb2
  have ha2 : AutoAt w2 (w.heap.size + 1) (.int .i64 0) (.slice none 0 0) := by
    unfold AutoAt
    rw [← hw2]
    have := heap_new (w.alloc (.cells #[.int .i64 K, .int .i64 R, .slice A n c] 24)) (.cells #[.int .i64 0, .slice none 0 0] 50)
    simpa using this
  have hof := of_u w2 E (hE.below hb2) (hEt.below hb2) hA (hB.below hb2) 0 K R A n c T (hT.below hb2) hm
  obtain ⟨q, hq⟩ : ∃ q, ofF 0 K R T = q := ⟨_, rfl⟩
  rw [hq] at hof
  rw [hq]
  obtain ⟨kk, L, tt⟩ := q
  dsimp only at hof
  dsimp only
  unfold ruleV autoV at hof
  have HOF := Lib.hid hof
  have HW2 := Lib.hid hw2
  have HA2 := Lib.hid ha2
  have HB2 := Lib.hid hb2
  clear hof hw2 ha2 hb1 hb2 hE hEt hA hB hT hq
  unfold ruleV
  go_enter Tryz.func20, Tryz.ntmps20
  go_wp2_with fail
  rw [HW2.out]
  refine (HOF.out).mono ?_
  rintro e w5 ⟨C, cc, rows, v, rfl, hR5, hv5, hb5⟩
  clear HOF
  obtain ⟨m, hm'⟩ : ∃ m, L.length = m := ⟨_, rfl⟩
  rw [hm'] at hR5
  rw [hm']
  have HM := Lib.hid hm'
  have ha5 := HA2.out.below hb5 (Array.getElem?_eq_some_iff.1 HA2.out).1
  obtain ⟨d0, d1, f0, f1⟩ := AutoAt.facts ha5
  have HA6 := Lib.hid (AutoAt.set2 ha5 (.int .i64 kk) (.slice C m cc))
  have hb6 := HB2.out.trans (hb5.mono HB2.out.size)
  have hblk : ∀ b, b = (⟨w.heap.size + 1, 0, none⟩ : Addr).block → w5.heap[b]? = some (.cells #[.int .i64 0, .slice none 0 0] 50 (0, 0)) := fun b e => by rw [show b = w.heap.size + 1 from e]; exact ha5
  have hkk := (Keeps.of_setCell w5 ⟨w.heap.size + 1, 0, none⟩ (.int .i64 kk)).trans (Keeps.of_setCell _ ⟨w.heap.size + 1, 1, none⟩ (.slice C m cc)) (fun _ _ h => h)
  have HN6 := Lib.hid ((hR5.base HB2.out.size).keeps hkk
    (fun b hb => hR5.not_lst (hblk b hb) (by decide)) (fun b hb => hR5.not_el (hblk b hb) (by decide)))
  have HV := Lib.hid (errV_keepsA hkk (fun b cs hb e => by
    rw [hblk b hb] at e
    injection e with e
    injection e with _ e
    exact absurd e (by decide)) hv5)
  have HBE := Lib.hid ((hb6.setCell (p := ⟨w.heap.size + 1, 0, none⟩) (Nat.le_succ _) (.int .i64 kk)).setCell (p := ⟨w.heap.size + 1, 1, none⟩) (Nat.le_succ _) (.slice C m cc))
  clear hR5 hv5 hb5 hb6 ha5 hblk hm' hkk
  go_wp2_with fail
  obtain ⟨d0, d1, _, _⟩ := HA6.out.facts
  refine bodyPost_ret (v := .tuple #[autoV kk (.slice C m cc), v]) (by simp [results, Tryz.results20, go_sem, autoV, d0, d1]) rfl ⟨C, cc, rows, v, ?_⟩
  rw [HM.out]
  exact ⟨rfl, HN6.out, HV.out, HBE.out⟩

/-- What image.Has answers. -/
noncomputable def hasF (K R : Int) (T ws : List Int) : Bool × Option Tale :=
  match (ofF 0 K R T).2.2 with
  | some tl => (false, some tl)
  | none => if 4096 < ws.length then (false, some (4, [(sImage, 1)])) else
    match odd K ws with
    | some i => (false, some (2, [(sImage, (i : Int))]))
    | none => ((runA (ofF 0 K R T).2.1 0 (ws.map Int.toNat)).isSome, none)
theorem hasF_bad {K R : Int} {T ws : List Int} {tl : Tale} {kk : Int} {L : List (List Int)} (h : ofF 0 K R T = (kk, L, some tl)) : hasF K R T ws = (false, some tl) := by unfold hasF; rw [h]
theorem hasF_long {K R : Int} {T ws : List Int} {kk : Int} {L : List (List Int)} (h : ofF 0 K R T = (kk, L, none)) (hl : 4096 < ws.length) : hasF K R T ws = (false, some (4, [(sImage, 1)])) := by unfold hasF; rw [h]; dsimp only; rw [if_pos hl]
theorem hasF_odd {K R : Int} {T ws : List Int} {kk : Int} {L : List (List Int)} (h : ofF 0 K R T = (kk, L, none)) (hl : ¬ 4096 < ws.length) {i : Nat} (ho : odd K ws = some i) : hasF K R T ws = (false, some (2, [(sImage, (i : Int))])) := by unfold hasF; rw [h]; dsimp only; rw [if_neg hl, ho]
theorem hasF_run {K R : Int} {T ws : List Int} {kk : Int} {L : List (List Int)} (h : ofF 0 K R T = (kk, L, none)) (hl : ¬ 4096 < ws.length) (ho : odd K ws = none) : hasF K R T ws = ((runA L 0 (ws.map Int.toNat)).isSome, none) := by unfold hasF; rw [h]; dsimp only; rw [if_neg hl, ho]
/-- The first symbol out of range. -/
theorem odd_first {k : Int} {ws : List Int} {i : Nat} {x : Int} (h : ∀ y ∈ ws.take i, 0 ≤ y ∧ y < k) (hx : ws[i]? = some x) (hb : x < 0 ∨ k ≤ x) : odd k ws = some i := by
  obtain ⟨h1, h2⟩ := List.getElem?_eq_some_iff.1 hx
  unfold odd
  rw [List.findIdx?_eq_some_iff_getElem]
  refine ⟨h1, by rw [h2]; exact decide_eq_true hb, fun j hj => ?_⟩
  have := h ws[j] (List.mem_take_iff_getElem.2 ⟨j, by omega, rfl⟩)
  simp
  omega
theorem odd_all {k : Int} {ws : List Int} (h : ∀ y ∈ ws, 0 ≤ y ∧ y < k) : odd k ws = none := by
  unfold odd
  rw [List.findIdx?_eq_none_iff]
  intro y hy
  have := h y hy
  simp
  omega
/-- The state behind some symbols, or none. -/
def StAt (L : List (List Int)) (vs : List Int) (st : Int) : Prop := (runA L 0 (vs.map Int.toNat) = none ∧ st = -1) ∨ ∃ q : Nat, runA L 0 (vs.map Int.toNat) = some q ∧ st = (q : Int) ∧ q < L.length
theorem StAt.snoc {k : Nat} {L : List (List Int)} (hA : IsAuto k L) {vs : List Int} {q s : Nat} (h : runA L 0 (vs.map Int.toNat) = some q) (hq : q < L.length) (hs : s < k) : StAt L (vs ++ [(s : Int)]) (nxt L q s) := by
  have e : runA L 0 ((vs ++ [(s : Int)]).map Int.toNat) = if nxt L q s < 0 then none else some (nxt L q s).toNat := by
    rw [List.map_append, runA_app, h, Option.bind_some, List.map_cons, List.map_nil, Int.toNat_natCast, runA_cons]
    rfl
  rcases (hA.at_ hq hs).2 with h1 | ⟨j, h1, h2⟩
  · exact .inl ⟨by rw [e, h1]; rfl, h1⟩
  · exact .inr ⟨j, by rw [e, h1, if_neg (by omega), Int.toNat_natCast], h1, h2⟩
theorem StAt.stay {L : List (List Int)} {vs : List Int} {x : Int} (h : runA L 0 (vs.map Int.toNat) = none) : StAt L (vs ++ [x]) (-1) := .inl ⟨by rw [List.map_append, runA_app, h]; rfl, rfl⟩
theorem StAt.some_iff {L : List (List Int)} {vs : List Int} {st : Int} (h : StAt L vs st) : decide (0 ≤ st) = (runA L 0 (vs.map Int.toNat)).isSome := by
  rcases h with ⟨h1, rfl⟩ | ⟨q, h1, rfl, _⟩
  · rw [h1]; rfl
  · rw [h1]; exact decide_eq_true (by omega)
end Go.Proofs.YthilnpfpllplaaaGreatDoor

namespace Go.Proofs.YthilnpfpllplaaaGreatDoor
open Go.RowKit BagP RuleP SubP

theorem ofF_cases (at' K R : Int) (T : List Int) : (∃ tl, ofF at' K R T = (0, [], some tl)) ∨ (∃ (k r : Nat) (t : List Nat) (S : St), K = (k : Int) ∧ R = (r : Int) ∧ T = ints t ∧ IsRule k r t ∧ t.length ≤ 256 ∧ fin k (k ^ (2 * r)) t false = .go S [] ∧ ofF at' K R T = (K, leastA k S.next, none) ∧ IsAuto k (leastA k S.next)) := by
  rcases walkF_cases K R T with ⟨tl, h⟩ | ⟨k, r, t, S, rfl, rfl, rfl, hr, hl, h⟩ | ⟨k, r, t, rfl, rfl, rfl, hr, hl, h⟩
  · exact .inl ⟨_, ofF_bad (walkF_bad h)⟩
  · exact .inr ⟨k, r, t, S, rfl, rfl, rfl, hr, hl, h, ofF_good hr hl h, least_auto (fin_rows (Nat.pow_pos hr.k1) h).auto⟩
  · exact .inl ⟨_, ofF_bad (tl := (4, [(sSubset, 0)])) (by rw [walkF_good hr hl h])⟩

set_option maxRecDepth 100000 in
set_option maxHeartbeats 1000000 in
theorem has_u (w : World) (E : Nat → Addr) (hE : Errs w E) (hEt : ErrT w) (hA : Apart12 E) (hB : ErrBlk w E) (K R : Int) (A : Option Addr) (n c : Nat) (T : List Int) (hT : Sl w A n (T.map (Value.int .i64))) (hm : n ≤ 9223372036854775807)
    (B : Option Addr) (m d : Nat) (W : List Int) (hW : Sl w B m (W.map (Value.int .i64))) (hm2 : m ≤ 9223372036854775807) :
    Calls Tryz.prog 12 #[ruleV K R A n c, .slice B m d] w fun e w' => ∃ v, e = .returned (.tuple #[.bool (hasF K R T W).1, v]) ∧ ErrV w' E (hasF K R T W).2 v ∧ Below w.heap.size w w' := by
  have hb1 := (Below.refl w.heap.size w).alloc (Nat.le_refl _) (.cells #[.int .i64 K, .int .i64 R, .slice A n c] 24)
  obtain ⟨w1, hw1⟩ : ∃ w1, w.alloc (.cells #[.int .i64 K, .int .i64 R, .slice A n c] 24) = w1 := ⟨_, rfl⟩
  rw [hw1] at hb1
  have hr1 : RuleAt w1 w.heap.size (.int .i64 K) (.int .i64 R) (.slice A n c) := by rw [← hw1]; exact RuleAt.new w _ _ _
  have hof := of_u w1 E (hE.below hb1) (hEt.below hb1) hA (hB.below hb1) 0 K R A n c T (hT.below hb1) hm
  have hlw : W.length = m := by simpa using hW.1
  have HER := Lib.hid (fun (wz : World) (hz : Below w.heap.size w wz) => hE.below hz)
  have HWS := Lib.hid (fun (wz : World) (hz : Below w.heap.size w wz) => hW.below hz)
  have HW1 := Lib.hid hw1
  have HB1 := Lib.hid hb1
  have HR1 := Lib.hid hr1
  have HLW := Lib.hid hlw
  clear hw1 hb1 hr1 hE hEt hA hB hT hW hlw
  rcases ofF_cases 0 K R T with ⟨tl, h⟩ | ⟨k, r, t, S, rfl, rfl, rfl, hr, hl, hS, h, hau⟩
  · rw [h] at hof
    rw [hasF_bad h]
    dsimp only at hof
    dsimp only
    unfold ruleV autoV at hof
    have HOF := Lib.hid hof
    clear hof h
    unfold ruleV
    go_enter Tryz.func12, Tryz.ntmps12
    go_wp2_with fail
    rw [HW1.out]
    refine (HOF.out).mono ?_
    rintro e w3 ⟨C, cc, rows, v, rfl, _, hv, hb3⟩
    have hv3 : ErrIs w3 E tl.1 tl.2 v := hv
    obtain ⟨u, p, rfl⟩ := hv3.iface
    have hb34 := (Below.refl w3.heap.size w3).alloc (Nat.le_refl _) (.cells #[.int .i64 0, .slice C 0 cc] 50)
    have HV4 := Lib.hid (hv.below hb34)
    have HB4 := Lib.hid (HB1.out.trans ((hb3.trans (hb34.mono hb3.size)).mono HB1.out.size))
    clear HOF hv3 hv hb34 hb3
    go_wp2_with fail
    go_ret2
    exact ⟨_, rfl, HV4.out, HB4.out⟩
  · rw [h] at hof
    obtain ⟨L, hL⟩ : ∃ L, leastA k S.next = L := ⟨_, rfl⟩
    rw [hL] at hof h hau
    dsimp only at hof
    unfold ruleV autoV at hof
    have HOF := Lib.hid hof
    have HO := Lib.hid h
    have HAU := Lib.hid hau
    obtain ⟨bb, tt, hp⟩ : ∃ bb tt, hasF (k : Int) (r : Int) (ints t) W = (bb, tt) := ⟨_, _, rfl⟩
    rw [hp]
    dsimp only
    have HP := Lib.hid hp
    clear hof h hau hL hS hr hl hp
    unfold ruleV
    go_enter Tryz.func12, Tryz.ntmps12
    go_wp2_with fail
    rw [HW1.out]
    refine (HOF.out).mono ?_
    rintro e w3 ⟨C, cc, rows, v, rfl, hR, hv, hb3⟩
    obtain rfl : v = .nilIface := hv
    have hb34 := (Below.refl w3.heap.size w3).alloc (Nat.le_refl _) (.cells #[.int .i64 (k : Int), .slice C L.length cc] 50)
    have ha4 := heap_new w3 (.cells #[.int .i64 (k : Int), .slice C L.length cc] 50)
    obtain ⟨w4, hw4⟩ : ∃ w4, w3.alloc (.cells #[.int .i64 (k : Int), .slice C L.length cc] 50) = w4 := ⟨_, rfl⟩
    rw [hw4] at hb34 ha4
    have ha4 : AutoAt w4 w3.heap.size (.int .i64 (k : Int)) (.slice C L.length cc) := ha4
    have hb14 := hb3.trans (hb34.mono hb3.size)
    have hb4 := HB1.out.trans (hb14.mono HB1.out.size)
    have hr4 := HR1.out.below hb14 HR1.out.lt
    obtain ⟨a0, a1, _, _⟩ := ha4.facts
    obtain ⟨r0, r1, r2, _⟩ := hr4.facts
    have HLI := Lib.hid (hR.list.keep hb34)
    have HSW := Lib.hid (HWS.out w4 hb4)
    have HW4 := Lib.hid hw4
    have HB4 := Lib.hid hb4
    have HE4 := Lib.hid (HER.out w4 hb4)
    clear HOF hR hb34 ha4 hw4 hb14 hb4 hr4 hb3
    by_cases hlong : 4096 < W.length
    · obtain ⟨rfl, rfl⟩ : bb = false ∧ tt = some (4, [(sImage, 1)]) := by
        have h := HP.out
        rw [hasF_long HO.out hlong] at h
        exact ⟨(Prod.mk.inj h).1.symm, (Prod.mk.inj h).2.symm⟩
      have hlong' : (m : Int) > 4096 := by have := HLW.out; omega
      have HWR := Lib.hid (imageWrong_c w4 E HE4.out 1 4 (by omega) (by omega))
      clear hlong
      go_wp2_with fail
      rw [show w3.alloc (.cells #[.int .i64 (k : Int), .slice C L.length cc] 50) = w4 from HW4.out]
      refine (HWR.out).mono ?_
      rintro e w5 ⟨rfl, hv5, hb5⟩
      go_wp2_with fail
      go_ret2
      exact ⟨_, rfl, hv5, HB4.out.trans (hb5.mono HB4.out.size)⟩
    · have hlong' : ¬ (m : Int) > 4096 := by have := HLW.out; omega
      have HLG := Lib.hid hlong
      clear hlong
      go_wp2_with fail
      rw [show w3.alloc (.cells #[.int .i64 (k : Int), .slice C L.length cc] 50) = w4 from HW4.out]
      go_loopw [8, 25] (fun sv jv wl => ∃ (j : Nat) (st : Int), jv = .int .i64 (j : Int) ∧ sv = .int .i64 st ∧ j ≤ m ∧ Hid (∀ y ∈ W.take j, 0 ≤ y ∧ y < (k : Int)) ∧ Hid (StAt L (W.take j) st) ∧ Hid (wl = w4)) (fun _ jv _ => m - (intOf jv).toNat)
      case atStart => exact ⟨0, 0, rfl, rfl, Nat.zero_le _, Lib.hid (fun y hy => by simp at hy), Lib.hid (.inr ⟨0, rfl, rfl, HAU.out.pos⟩), Lib.hid rfl⟩
      case round =>
        obtain ⟨j, st, rfl, rfl, hj, hok, hst, hwe⟩ := hrel
        obtain rfl := hwe.out
        by_cases hjl : j < m
        · have hjl' : (j : Int) < (m : Int) := by omega
          have hj0 : (0 : Int) ≤ (j : Int) := by omega
          obtain ⟨adb, x, rfl, hx, hcx⟩ := HSW.out.int_ hjl
          have htk : W.take (j + 1) = W.take j ++ [x] := by rw [List.take_add_one, hx]; rfl
          by_cases hbad : x < 0 ∨ (k : Int) ≤ x
          · obtain ⟨rfl, rfl⟩ : bb = false ∧ tt = some (2, [(sImage, (j : Int))]) := by
              have h := HP.out
              rw [hasF_odd HO.out HLG.out (odd_first hok.out hx hbad)] at h
              exact ⟨(Prod.mk.inj h).1.symm, (Prod.mk.inj h).2.symm⟩
            have HWR := Lib.hid (imageWrong_c wr E HE4.out (j : Int) 2 (by omega) (by omega))
            clear htk hok hst hx
            rcases Int.lt_or_le x 0 with h0 | h0
            · clear hbad
              go_wp2_with fail
              refine (HWR.out).mono ?_
              rintro e w5 ⟨rfl, hv5, hb5⟩
              go_wp2_with fail
              go_ret2
              exact ⟨_, rfl, hv5, HB4.out.trans (hb5.mono HB4.out.size)⟩
            · have h0' : ¬ x < 0 := by omega
              have hxk : (k : Int) ≤ x := by omega
              have hxk' : x ≥ (k : Int) := by omega
              clear hbad
              go_wp2_with fail
              refine (HWR.out).mono ?_
              rintro e w5 ⟨rfl, hv5, hb5⟩
              go_wp2_with fail
              go_ret2
              exact ⟨_, rfl, hv5, HB4.out.trans (hb5.mono HB4.out.size)⟩
          · obtain ⟨s, rfl⟩ : ∃ s : Nat, x = (s : Int) := ⟨x.toNat, by omega⟩
            have hsk : s < k := by omega
            have h0' : ¬ (s : Int) < 0 := by omega
            have hs0 : (0 : Int) ≤ (s : Int) := by omega
            have hxk' : ¬ (k : Int) ≤ (s : Int) := by omega
            have hsk' : (s : Int) < (k : Int) := by omega
            have HOK := Lib.hid (show ∀ y ∈ W.take (j + 1), 0 ≤ y ∧ y < (k : Int) from fun y hy => by
              rw [htk] at hy
              rcases List.mem_append.1 hy with h | h
              · exact hok.out y h
              · rw [List.mem_singleton.1 h]; omega)
            rcases hst.out with ⟨h1, rfl⟩ | ⟨q, h1, rfl, hq⟩
            · have HST := Lib.hid (show StAt L (W.take (j + 1)) (-1) by rw [htk]; exact StAt.stay h1)
              clear htk hok hst hx h1 hbad
              go_wp2_with fail
              exact ⟨⟨j + 1, -1, by go_num, rfl, by omega, HOK, HST, Lib.hid (by first | rfl | trivial)⟩, by simp [intOf]; omega⟩
            · have HST := Lib.hid (show StAt L (W.take (j + 1)) (nxt L q s) by rw [htk]; exact StAt.snoc HAU.out h1 hq hsk)
              obtain ⟨adn, l, P, pc, rfl, hl, hcl, _, hsl⟩ := HLI.out.at_ hq
              have hlk : l.length = k := HAU.out.len l (List.mem_of_getElem? hl)
              rw [hlk] at hcl hsl
              obtain ⟨adp, y, rfl, hy, hcy⟩ := hsl.int_ hsk
              have hny : nxt L q s = y := by
                unfold nxt
                rw [List.getD_eq_getElem?_getD (l := L), hl, Option.getD_some, List.getD_eq_getElem?_getD, hy]; rfl
              rw [hny] at HST
              have hq0 : (0 : Int) ≤ (q : Int) := by omega
              have hq' : (q : Int) < (L.length : Int) := by omega
              clear htk hok hst hx h1 hbad hl hlk hsl hy hny
              go_wp2_with fail
              exact ⟨⟨j + 1, y, by go_num, rfl, by omega, HOK, HST, Lib.hid (by first | rfl | trivial)⟩, by simp [intOf]; omega⟩
        · have hjl' : ¬ (j : Int) < (m : Int) := by omega
          obtain rfl : m = j := by omega
          have hok' := hok.out
          have hst' := hst.out
          rw [List.take_of_length_le (by rw [HLW.out]; exact Nat.le_refl _)] at hok' hst'
          obtain ⟨rfl, rfl⟩ : bb = decide (0 ≤ st) ∧ tt = none := by
            have h := HP.out
            rw [hasF_run HO.out HLG.out (odd_all hok')] at h
            exact ⟨(hst'.some_iff.trans (Prod.mk.inj h).1).symm, (Prod.mk.inj h).2.symm⟩
          clear hok' hst' hok hst
          go_wp2_with fail
          go_ret2
          exact ⟨_, rfl, rfl, HB4.out⟩
end Go.Proofs.YthilnpfpllplaaaGreatDoor

namespace Go.Proofs.YthilnpfpllplaaaGreatDoor
open Go.RowKit BagP RuleP SubP

theorem hasF_good {k r : Nat} {t : List Nat} {S : St} (hr : IsRule k r t) (h256 : t.length ≤ 256) (h : fin k (k ^ (2 * r)) t false = .go S []) {v : List Nat} (hv : ∀ x ∈ v, x < k) (hl : v.length ≤ 4096) :
    hasF (k : Int) (r : Int) (ints t) (ints v) = (!(before k r t v).isEmpty, none) := by
  have hro := fin_rows (Nat.pow_pos hr.k1) h
  rw [hasF_run (ofF_good hr h256 h) (by rw [ints_len]; omega) (odd_ints hv), toNat_ints]
  suffices hs : (runA (leastA k S.next) 0 v).isSome = !(before k r t v).isEmpty by rw [hs]
  have h1 : (runA (leastA k S.next) 0 v).isSome = (runA S.next 0 v).isSome := least_eqv hro.auto v hv
  have h2 := hro.has hr.k1 hv
  rw [h1]
  cases hb : before k r t v with
  | nil =>
    have h3 : ¬ (runA S.next 0 v).isSome = true := fun e => h2.1 e hb
    simpa using h3
  | cons a l =>
    have h3 : (runA S.next 0 v).isSome = true := h2.2 (by rw [hb]; simp)
    rw [h3]; rfl
theorem ofF_ok (at' K R : Int) (T : List Int) (hi : TaleOk (walkF K R T).2.2.2) : TaleOk (ofF at' K R T).2.2 := by
  unfold ofF
  cases h : (walkF K R T).2.2.2 with
  | none => intro x hx; cases hx
  | some tl =>
    rw [h] at hi
    exact under_ok (op := sImage) (i := at') hi
end Go.Proofs.YthilnpfpllplaaaGreatDoor

namespace Go.Proofs.YthilnpfpllplaaaGreatDoor
open Go.RowKit BagP RuleP SubP

theorem aw_rule : IsRule 2 1 [0, 1, 1, 1, 0, 1, 1, 0] := ⟨by decide, by decide, by decide, by decide, by decide⟩
theorem aw_fin : ∃ S, fin 2 (2 ^ (2 * 1)) [0, 1, 1, 1, 0, 1, 1, 0] false = .go S [] := by
  rcases h : roundTo 2 4 [0, 1, 1, 1, 0, 1, 1, 0] false 16 with ⟨S, row⟩ | x | _
  · have e : (match roundTo 2 4 [0, 1, 1, 1, 0, 1, 1, 0] false 16 with | .go S row => decide (row = [] ∧ S.sets.length ≤ 16) | _ => false) = true := by decide +kernel
    rw [h] at e
    have e' := of_decide_eq_true e
    rw [e'.1] at h
    exact ⟨_, fin_go h e'.2 (by decide)⟩
  · have e : (match roundTo 2 4 [0, 1, 1, 1, 0, 1, 1, 0] false 16 with | .orphan _ => true | _ => false) = false := by decide +kernel
    rw [h] at e
    cases e
  · have e : (match roundTo 2 4 [0, 1, 1, 1, 0, 1, 1, 0] false 16 with | .over => true | _ => false) = false := by decide +kernel
    rw [h] at e
    cases e
theorem aw_has : hasF 2 1 [0, 1, 1, 1, 0, 1, 1, 0] [0, 1, 0, 1, 1] = (true, none) := by
  obtain ⟨S, hS⟩ := aw_fin
  have h := hasF_good aw_rule (by decide) hS (v := [0, 1, 0, 1, 1]) (by decide) (by decide)
  have e : (before 2 1 [0, 1, 1, 1, 0, 1, 1, 0] [0, 1, 0, 1, 1]).isEmpty = false := by decide +kernel
  rw [e] at h
  exact h
theorem aw_not : hasF 2 1 [0, 1, 1, 1, 0, 1, 1, 0] [0, 1, 0, 1, 0] = (false, none) := by
  obtain ⟨S, hS⟩ := aw_fin
  have h := hasF_good aw_rule (by decide) hS (v := [0, 1, 0, 1, 0]) (by decide) (by decide)
  have e : (before 2 1 [0, 1, 1, 1, 0, 1, 1, 0] [0, 1, 0, 1, 0]).isEmpty = true := by decide +kernel
  rw [e] at h
  exact h
end Go.Proofs.YthilnpfpllplaaaGreatDoor

namespace Go.Proofs.YthilnpfpllplaaaGreatDoor
open Go.RowKit NatP

def wv (x : Nat) : Value := .int .u32 (x : Int)
abbrev W32 : Nat := 4294967296
def limbs (v : Nat) : List Nat := digs W32 v
def val (l : List Nat) : Nat := valB W32 l
theorem w32 : 2 ≤ W32 := by decide
theorem val_limbs (v : Nat) : val (limbs v) = v := val_digs w32 v
theorem ok_limbs (v : Nat) : OkB W32 (limbs v) := ok_digs w32 v
theorem limbs_len {xs : List Nat} (h : OkB W32 xs) : (limbs (val xs)).length ≤ xs.length := length_digs_le w32 h
theorem limbs_take {xs : List Nat} (h : OkB W32 xs) {m : Nat} (hm : m ≤ xs.length) (hz : ∀ j x, m ≤ j → xs[j]? = some x → x = 0) (hl : ∀ x, 0 < m → xs[m - 1]? = some x → x ≠ 0) : xs.take m = limbs (val xs) ∧ m = (limbs (val xs)).length := by
  have e := cut_eq w32 h hm hz hl
  refine ⟨e, ?_⟩
  unfold limbs val
  rw [← e, List.length_take, Nat.min_eq_left hm]

theorem own_take {w : World} {base e n c m : Nat} {A : Option Addr} {xs : List Value} (h : w.ownsRow base e 1 (.slice A n c) n xs) (hm : m ≤ n) : w.ownsRow base e 1 (.slice A m c) m (xs.take m) := by
  have hl : xs.length = n := by simpa using h.1
  refine ⟨by simp; omega, ?_⟩
  rcases h.2 with ⟨hv, hn⟩ | ⟨g, cap, cur, hv, hb, hg, hnc, hcm, hsz, htake⟩
  · injection hv with h1 h2 h3
    subst h1 h3 hn
    exact .inl ⟨by rw [show m = 0 from by omega], by omega⟩
  · injection hv with h1 h2 h3
    subst h1 h3
    refine .inr ⟨g, c, cur, rfl, hb, hg, by omega, hcm, hsz, ?_⟩
    rw [← htake, List.take_take]
    congr 1
    omega
theorem sl_take {w : World} {A : Option Addr} {n m : Nat} {xs : List Value} (h : Sl w A n xs) (hm : m ≤ n) : Sl w A m (xs.take m) := by
  refine ⟨by simp; have := h.1; omega, fun k v hv => ?_⟩
  rw [List.getElem?_take] at hv
  split at hv
  · exact h.2 k v hv
  · cases hv

set_option maxHeartbeats 400000 in
theorem norm_c (w : World) (A : Option Addr) (n c : Nat) (xs : List Nat) (h : Sl w A n (xs.map wv)) (ho : OkB W32 xs) (hc : n ≤ c) (hm : c ≤ maxLen) :
    Calls Tryz.prog 63 #[.slice A n c] w fun e w' => e = .returned (.slice A (limbs (val xs)).length c) ∧ w = w' := by
  unfold maxLen at hm
  have hl : xs.length = n := by simpa using h.1
  have HL := Lib.hid hl
  clear hl
  go_enter Tryz.func63, Tryz.ntmps63
  go_wp2_with fail
  go_loop [0] (fun a => ∃ m : Nat, m ≤ n ∧ a = .slice A m c ∧ ∀ (j x : Nat), m ≤ j → xs[j]? = some x → x = 0) (fun a => match a with | .slice _ k _ => k | _ => 0)
  case atStart => exact ⟨n, Nat.le_refl _, rfl, fun j x hj hx => by rw [List.getElem?_eq_none (by rw [HL.out]; exact hj)] at hx; cases hx⟩
  case round =>
    obtain ⟨m, hmn, rfl, hz⟩ := hrel
    have HZ := Lib.hid hz
    clear hz
    cases m with
    | zero =>
      have e := limbs_take ho (Nat.zero_le _) HZ.out (fun x h0 => absurd h0 (by omega))
      have E := Lib.hid e.2
      clear e
      go_wp2_with fail
      go_ret
      exact ⟨by rw [← E.out]; rfl, rfl⟩
    | succ k =>
      obtain ⟨ad, x, rfl, hxk, hcx⟩ := h.word_ (show k < n by omega)
      have HX := Lib.hid hxk
      clear hxk
      by_cases hx0 : x = 0
      · subst hx0
        have t : (((0 : Nat) : Int) == 0) = true := rfl
        go_wp2_with fail
        refine ⟨⟨k, by omega, rfl, fun j x hj hx => ?_⟩, Nat.lt_succ_self k⟩
        rcases Nat.lt_or_ge k j with hjk | hjk
        · exact HZ.out j x hjk hx
        · obtain rfl : j = k := by omega
          rw [HX.out] at hx
          exact (Option.some.inj hx).symm
      · have t : ((x : Int) == 0) = false := by simp; exact hx0
        have e := limbs_take ho (m := k + 1) (by rw [HL.out]; omega) HZ.out (fun y _ hy => by
          rw [Nat.add_sub_cancel, HX.out] at hy
          rw [← Option.some.inj hy]
          exact hx0)
        have E := Lib.hid e.2
        clear e hx0
        go_wp2_with fail
        go_ret
        exact ⟨by rw [← E.out]; rfl, rfl⟩

end Go.Proofs.YthilnpfpllplaaaGreatDoor
