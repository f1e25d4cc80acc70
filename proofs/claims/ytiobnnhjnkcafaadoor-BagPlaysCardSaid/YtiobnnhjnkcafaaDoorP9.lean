/- The document's bag: Put. Condition: at most 1048576 numbers, that read from memory. The document's bag: Put by any bag or none. Condition: at most 1048576 numbers, that read from memory. The document's bag: Find. Condition: at most 1048576 numbers, that read from memory. The document's bag: Find by any bag or none; is an error bad? Condition: at most 1048576 numbers, that read from memory. -/
import Derived.Test.YtiobnnhjnkcafaaDoorP7
import Derived.Test.YtiobnnhjnkcafaaDoorP8
namespace Go.Proofs.YtiobnnhjnkcafaaDoor
open Go.RowKit Go.WideMaps Go.Maps BagP RuleP

/-- v, ok := m[k] with a text key. -/
theorem lookB_run {w : World} {mb N : Nat} {D : DataW Unit} (hmap : w.ownsMap Tryd.prog 9 (plainElem (H := Unit) Tryd.prog 3) mb N D) (l : List UInt8) (hkey : keyOf Tryd.prog 9 (.string ⟨l.toArray⟩) = some (.string l)) (r : Bool) (hr : Maps.has D (.string l) = r) :
    ∃ c : Int, D.atKey (.string l) (.lit (.int .i64 0)) = .lit (.int .i64 c) ∧ (Instr.lookup 45 (.map (some mb)) (.string ⟨l.toArray⟩) true).run Tryd.prog w = .ok (.tuple #[.int .i64 c, .bool r]) w := by
  subst hr
  obtain ⟨v, ps, hrun, hv⟩ := hmap.look_ok keyLaw Tryd.underlying45 (zeroInt w) (plainElem_int Tryd.underlying3 (by decide)) hkey
  obtain ⟨c, rfl, hc, _⟩ := plainElem_int_inv Tryd.underlying3 hv
  exact ⟨c, congrArg Prod.fst hc, hrun⟩
/-- An answer of three: a number, whether it is new, an error or none. -/
def Ans3 (w : World) (t : Option Tale) (a : Int) (f : Bool) (Q : World → Prop) (e : Ending) (w' : World) : Prop :=
  ∃ (N : Nat) (A1 : Option Addr) (n1 c1 : Nat) (A2 : Option Addr) (n2 c2 : Nat), e = .returned (.tuple #[.int .i64 a, .bool f, .agg #[.int .i64 (N : Int), .slice A1 n1 c1, .slice A2 n2 c2]]) ∧ WantB w' w.heap.size t (.agg #[.int .i64 (N : Int), .slice A1 n1 c1, .slice A2 n2 c2]) ∧ Q w'

set_option maxRecDepth 100000 in
set_option maxHeartbeats 1000000 in
theorem rput_nil (w : World) (A : Option Addr) (m c : Nat) : Calls Tryd.prog 19 #[.pointer none, .slice A m c] w (Ans3 w (some (11, [(BagR.bagS, 0)])) 0 false fun w' => Below w.heap.size w w') := by
  have hw0 := WantAt.new w (.int .i64 0) (.slice none 0 0) (.slice none 0 0)
  have hb0 := (Below.refl w.heap.size w).alloc (Nat.le_refl _) (.cells #[.int .i64 0, .slice none 0 0, .slice none 0 0] 33)
  have HN := Lib.hid (newB_c (w.alloc (.cells #[.int .i64 0, .slice none 0 0, .slice none 0 0] 33)) sBag 0 11)
  go_enter Tryd.func19, Tryd.ntmps19
  go_wp2_with fail
  refine (HN.out).mono ?_
  rintro e w1 ⟨A1, n1, c1, A2, n2, c2, rfl, hu, hb1⟩
  have hw1 := hw0.below hb1 (by simp)
  have hu2 := hu.set3 (g := w.heap.size) (by simp) (.int .i64 11) (.slice A1 n1 c1) (.slice A2 n2 c2)
  have hb2 := below_set3 (hb0.trans (hb1.mono (by simp))) (Nat.le_refl _) (.int .i64 11) (.slice A1 n1 c1) (.slice A2 n2 c2)
  obtain ⟨d0, d1, d2, f0, f1, f2⟩ := hw1.facts
  have HU := Lib.hid (hu2.base (base' := w.heap.size) (by simp))
  have HB := Lib.hid hb2
  clear hu hu2 hb1 hb2 hw1 hw0 hb0
  go_wp2_with fail
  exact bodyPost_ret (v := .tuple #[.int .i64 0, .bool false, .agg #[.int .i64 11, .slice A1 n1 c1, .slice A2 n2 c2]]) (by simp [results, Tryd.results19, go_sem, d0, d1, d2]) rfl ⟨11, A1, n1, c1, A2, n2, c2, rfl, HU.out, HB.out⟩

set_option maxRecDepth 100000 in
set_option maxHeartbeats 1000000 in
theorem rput_bad {w : World} {bb mb : Nat} {sv : Value} {rows : List Value} {D : DataW Unit} {n : Nat} {L : List (List Nat)} {O : Nat → Prop} (hB : RBagAt w bb mb sv rows D n L O) (A : Option Addr) (m c : Nat) (xs : List Int) (h : Sl w A m (xs.map (Value.int .i64))) (hm : m ≤ 1048576) (i : Nat) (hi : outI n xs = (i : Int)) :
    Calls Tryd.prog 19 #[.pointer (some ⟨bb, 0, none⟩), .slice A m c] w (Ans3 w (some (3, [(BagR.bagS, (i : Int))])) 0 false fun w' => Below w.heap.size w w') := by
  have hw0 := WantAt.new w (.int .i64 0) (.slice none 0 0) (.slice none 0 0)
  have hb0 := (Below.refl w.heap.size w).alloc (Nat.le_refl _) (.cells #[.int .i64 0, .slice none 0 0, .slice none 0 0] 33)
  obtain ⟨c0, _, _, _⟩ := blk_cells (hB.keeps (Keeps.of_pure hb0 (fun _ => False)) (fun _ _ h => h)).blk
  have ho := rout_c (w.alloc (.cells #[.int .i64 0, .slice none 0 0, .slice none 0 0] 33)) bb n c0 A m c xs (h.below hb0) hm
  rw [hi] at ho
  have HO := Lib.hid ho
  have hineg : (0 : Int) ≤ (i : Int) := by omega
  clear ho hi hB h c0
  go_enter Tryd.func19, Tryd.ntmps19
  go_wp2_with fail
  refine (HO.out).mono ?_
  rintro e w0 ⟨rfl, hbo⟩
  have hw0' := hw0.below hbo (by simp)
  have hb0' := hb0.trans (hbo.mono (by simp))
  have hz0 : w.heap.size < w0.heap.size := hw0'.lt
  have HN := Lib.hid (newB_c w0 sBag (i : Int) 3)
  clear hw0 hb0 hbo HO
  go_wp2_with fail
  refine (HN.out).mono ?_
  rintro e w1 ⟨A1, n1, c1, A2, n2, c2, rfl, hu, hb1⟩
  have hw1 := hw0'.below hb1 hw0'.lt
  have hu2 := hu.set3 (g := w.heap.size) (by omega) (.int .i64 3) (.slice A1 n1 c1) (.slice A2 n2 c2)
  have hb2 := below_set3 (hb0'.trans (hb1.mono (by omega))) (Nat.le_refl _) (.int .i64 3) (.slice A1 n1 c1) (.slice A2 n2 c2)
  obtain ⟨d0, d1, d2, f0, f1, f2⟩ := hw1.facts
  have HU := Lib.hid (hu2.base (base' := w.heap.size) (by omega))
  have HB := Lib.hid hb2
  clear hu hu2 hb1 hb2 hw1 hw0' hb0'
  go_wp2_with fail
  exact bodyPost_ret (v := .tuple #[.int .i64 0, .bool false, .agg #[.int .i64 3, .slice A1 n1 c1, .slice A2 n2 c2]]) (by simp [results, Tryd.results19, go_sem, d0, d1, d2]) rfl ⟨3, A1, n1, c1, A2, n2, c2, rfl, HU.out, HB.out⟩

set_option maxRecDepth 100000 in
set_option maxHeartbeats 4000000 in
theorem rput_x {w : World} {bb mb : Nat} {sv : Value} {rows : List Value} {D : DataW Unit} {n : Nat} {L : List (List Nat)} {O : Nat → Prop} (hB : RBagAt w bb mb sv rows D n L O) (A : Option Addr) (m c : Nat) (xs : List Int) (h : Sl w A m (xs.map (Value.int .i64))) (hm : m ≤ 1048576) (hout : outI n xs = -1)
    (l : List Nat) (hl : BagR.dedTo (xs.mergeSort fun x y => decide (x ≤ y)) m = ints l) (hok : okB2 l) (hll : l.length ≤ 8192) (hO : ∀ k, O k → k < w.heap.size) :
    Calls Tryd.prog 19 #[.pointer (some ⟨bb, 0, none⟩), .slice A m c] w (Ans3 w (BagR.putL L l).1.2.2 (BagR.putL L l).1.1 (BagR.putL L l).1.2.1 fun w' => RBagIs w' (.pointer (some ⟨bb, 0, none⟩)) n (BagR.putL L l).2 (fun k => O k ∨ w.heap.size ≤ k) ∧ Keeps O w w' ∧ ((BagR.putL L l).1.2.2 ≠ none → Below w.heap.size w w')) := by
  have hw0 := WantAt.new w (.int .i64 0) (.slice none 0 0) (.slice none 0 0)
  have hb0 := (Below.refl w.heap.size w).alloc (Nat.le_refl _) (.cells #[.int .i64 0, .slice none 0 0, .slice none 0 0] 33)
  obtain ⟨SA, sc, rfl, _, _⟩ := own_slice hB.own
  have hB0 := hB.keeps (Keeps.of_pure hb0 (fun _ => False)) (fun _ _ h => h)
  obtain ⟨c0, _, _, _⟩ := blk_cells hB0.blk
  have ho := rout_c (w.alloc (.cells #[.int .i64 0, .slice none 0 0, .slice none 0 0] 33)) bb n c0 A m c xs (h.below hb0) hm
  rw [hout] at ho
  have HO := Lib.hid ho
  have HH := Lib.hid (h.below hb0)
  have HL := Lib.hid hl
  have HOO := Lib.hid hO
  clear hO
  have HB00 := Lib.hid hB0
  clear ho hout h c0 hl hB0
  go_enter Tryd.func19, Tryd.ntmps19
  go_wp2_with fail
  refine (HO.out).mono ?_
  rintro e w0 ⟨rfl, hbo⟩
  have hw1 := hw0.below hbo (by simp)
  have HS := Lib.hid (rset_c w0 A m c xs (HH.out.below hbo) hm)
  have hB1 := HB00.out.keeps (Keeps.of_pure hbo (fun _ => False)) (fun _ _ h => h)
  have hb1 := hb0.trans (hbo.mono (by simp))
  have HB1 := Lib.hid hB1
  clear HO HH HB00 hw0 hbo hb0 hB1
  go_wp2_with fail
  refine (HS.out).mono ?_
  rintro e w2 ⟨v, ys, rfl, rfl, hr2, hb2⟩
  rw [HL.out] at hr2
  have hr2 : w2.ownsRow w0.heap.size 3 1 v l.length (iR l) := by
    have e1 : ((ints l).map (Value.int .i64)).length = l.length := by simp [ints]
    rw [e1] at hr2
    exact hr2
  obtain ⟨C, cc, rfl, _, _⟩ := own_slice hr2
  have hw2 := hw1.below hb2 hw1.lt
  have hB2 := HB1.out.keeps (Keeps.of_pure hb2 (fun _ => False)) (fun _ _ h => h)
  have hbb2 := hb1.trans (hb2.mono hb1.size)
  have hz : w.heap.size < w0.heap.size := hw1.lt
  obtain ⟨e0, e1, e2, f1⟩ := blk_cells hB2.blk
  have HW2 := Lib.hid hw2
  have HB2 := Lib.hid hB2
  have HBB2 := Lib.hid hbb2
  have HR2 := Lib.hid hr2
  have HOK := Lib.hid hok
  have HKEY := Lib.hid (keyB2_of l hll)
  have HLL := Lib.hid hll
  have HZ := Lib.hid hz
  have HZ2 := Lib.hid hb2.size
  have hl2 : l.length ≤ 1048576 := by omega
  clear HS HB1 hw1 hb1 hb2 hB2 hbb2 hr2 hok hll hw2
  go_wp2_with fail
  by_cases hin : l ∈ L
  · obtain ⟨i, hi⟩ := List.getElem?_of_mem hin
    have HH := Lib.hid (relB_in HB2.out.rel HOK.out hin)
    have HAT := Lib.hid ((HB2.out.rel.2 l HOK.out).2 i hi)
    have HPL : Hid (BagR.putL L l = ((i, false, none), L)) := Lib.hid (by unfold BagR.putL; rw [if_pos hin, idx_nodup HB2.out.nd hi])
    clear hin hi
    go_region_held3 (fun wz => wz.cell? ⟨bb, 2, none⟩ = some (.map (some mb)))
      (first | exact e2 | exact cell_later ((Below.refl _ _).drew) e2 | exact cell_later hbk e2)
      (first
        | (go_simp
           go_at_call 41
           refine (rkey_c _ _ l.length _ l ((Sl.of_own HR2.out).below ((Below.refl _ _).drew)) HOK.out hl2).mono ?_
           rintro e w3 ⟨rfl, b3⟩
           have hbk : Below w2.heap.size w2 w3 := ((Below.refl w2.heap.size w2).drew).trans b3
           obtain ⟨c', hc', hlk⟩ := lookB_run (HB2.out.keeps (Keeps.of_pure hbk (fun _ => False)) (fun _ _ h => h)).map (bytesN l) HKEY.out true HH.out
           have HC := Lib.hid hc'
           clear hc'
           dsimp only))
    obtain rfl : c' = (i : Int) := by
      have := HC.out.symm.trans HAT.out
      injection this with this
      injection this
    have hw3 := HW2.out.below hbk HW2.out.lt
    obtain ⟨d0, d1, d2, f0, f1', f2⟩ := hw3.facts
    have HB3 := Lib.hid ((HB2.out.keeps (Keeps.of_pure hbk (fun _ => False)) (fun _ _ h => h)).keeps (keeps_set3 w3 w.heap.size (.int .i64 0) (.slice none 0 0) (.slice none 0 0)) (fun k h1 h2 => by have := HOO.out k h1; omega))
    have HBW := Lib.hid (below_set3 (HBB2.out.trans (hbk.mono HBB2.out.size)) (Nat.le_refl _) (.int .i64 0) (.slice none 0 0) (.slice none 0 0))
    go_wp2_with fail
    rw [HPL.out]
    exact bodyPost_ret (v := .tuple #[.int .i64 (i : Int), .bool false, .agg #[.int .i64 0, .slice none 0 0, .slice none 0 0]]) (by simp [results, Tryd.results19, go_sem, d0, d1, d2]) rfl ⟨0, none, 0, 0, none, 0, 0, rfl, WantB.zero _ _, RBagIs.mono ⟨_, _, _, _, _, rfl, HB3.out⟩ (fun k h => .inl h), Keeps.of_pure HBW.out O, fun _ => HBW.out⟩
  · have HH := Lib.hid (relB_out HB2.out.rel HOK.out hin)
    have HBIG := Lib.hid HB2.out.big
    by_cases hf : 4096 ≤ L.length
    · have HPL : Hid (BagR.putL L l = ((0, false, some (4, [(BagR.bagS, 0)])), L)) := Lib.hid (by unfold BagR.putL; rw [if_neg hin, if_pos hf])
      have hf' : (4096 : Int) ≤ (L.length : Int) := by omega
      clear hin hf
      go_region_held3 (fun wz => wz.cell? ⟨bb, 2, none⟩ = some (.map (some mb)))
        (first | exact e2 | exact cell_later ((Below.refl _ _).drew) e2 | exact cell_later hbk e2)
        (first
          | (go_simp
             go_at_call 41
             refine (rkey_c _ _ l.length _ l ((Sl.of_own HR2.out).below ((Below.refl _ _).drew)) HOK.out hl2).mono ?_
             rintro e w3 ⟨rfl, b3⟩
             have hbk : Below w2.heap.size w2 w3 := ((Below.refl w2.heap.size w2).drew).trans b3
             obtain ⟨c', hc', hlk⟩ := lookB_run (HB2.out.keeps (Keeps.of_pure hbk (fun _ => False)) (fun _ _ h => h)).map (bytesN l) HKEY.out false HH.out
             clear hc'
             dsimp only))
      have e1' := cell_later hbk e1
      have hw3 := HW2.out.below hbk HW2.out.lt
      have HBK := Lib.hid hbk
      have HN := Lib.hid (newB_c w3 sBag 0 4)
      have hz3 : w.heap.size < w3.heap.size := hw3.lt
      clear hbk hlk
      go_wp2_with fail
      refine (HN.out).mono ?_
      rintro e w4 ⟨A1, n1, c1, A2, n2, c2, rfl, hu, hb4⟩
      have hw4 := hw3.below hb4 hw3.lt
      obtain ⟨d0, d1, d2, f0, f1', f2⟩ := hw4.facts
      have HU := Lib.hid ((hu.set3 (g := w.heap.size) (by omega) (.int .i64 4) (.slice A1 n1 c1) (.slice A2 n2 c2)).base (base' := w.heap.size) (by omega))
      have HB3 := Lib.hid (((HB2.out.keeps (Keeps.of_pure HBK.out (fun _ => False)) (fun _ _ h => h)).keeps (Keeps.of_pure hb4 (fun _ => False)) (fun _ _ h => h)).keeps (keeps_set3 w4 w.heap.size (.int .i64 4) (.slice A1 n1 c1) (.slice A2 n2 c2)) (fun k h1 h2 => by have := HOO.out k h1; omega))
      have HBW := Lib.hid (below_set3 ((HBB2.out.trans (HBK.out.mono HBB2.out.size)).trans (hb4.mono (by omega))) (Nat.le_refl _) (.int .i64 4) (.slice A1 n1 c1) (.slice A2 n2 c2))
      clear hu hb4 hw4 hw3
      go_wp2_with fail
      rw [HPL.out]
      exact bodyPost_ret (v := .tuple #[.int .i64 0, .bool false, .agg #[.int .i64 4, .slice A1 n1 c1, .slice A2 n2 c2]]) (by simp [results, Tryd.results19, go_sem, d0, d1, d2]) rfl ⟨4, A1, n1, c1, A2, n2, c2, rfl, HU.out, RBagIs.mono ⟨_, _, _, _, _, rfl, HB3.out⟩ (fun k h => .inl h), Keeps.of_pure HBW.out O, fun _ => HBW.out⟩
    · have HPL : Hid (BagR.putL L l = ((L.length, true, none), L ++ [l])) := Lib.hid (by unfold BagR.putL; rw [if_neg hin, if_neg hf])
      have hf' : ¬ (4096 : Int) ≤ (L.length : Int) := by omega
      have HIN := Lib.hid hin
      have HF := Lib.hid hf
      clear hin hf
      go_region_held3 (fun wz => wz.cell? ⟨bb, 2, none⟩ = some (.map (some mb)))
        (first | exact e2 | exact cell_later ((Below.refl _ _).drew) e2 | exact cell_later hbk e2)
        (first
          | (go_simp
             go_at_call 41
             refine (rkey_c _ _ l.length _ l ((Sl.of_own HR2.out).below ((Below.refl _ _).drew)) HOK.out hl2).mono ?_
             rintro e w3 ⟨rfl, b3⟩
             have hbk : Below w2.heap.size w2 w3 := ((Below.refl w2.heap.size w2).drew).trans b3
             obtain ⟨c', hc', hlk⟩ := lookB_run (HB2.out.keeps (Keeps.of_pure hbk (fun _ => False)) (fun _ _ h => h)).map (bytesN l) HKEY.out false HH.out
             clear hc'
             dsimp only))
      have g1 := cell_later hbk e1
      have g2 := cell_later hbk e2
      have HB3 := Lib.hid (HB2.out.keeps (Keeps.of_pure hbk (fun _ => False)) (fun _ _ h => h))
      have HR3 := Lib.hid (own_below HR2.out hbk)
      have HW3 := Lib.hid (HW2.out.below hbk HW2.out.lt)
      have HBB3 := Lib.hid (HBB2.out.trans (hbk.mono HBB2.out.size))
      have HZ3 := Lib.hid hbk.size
      clear hbk hlk b3 e0 e1 e2
      go_wp2_with fail
      have HM0 := Lib.hid (show L.length < maxLen by have := HBIG.out; simp only [maxLen]; omega)
      have HPE := Lib.hid (plainElem_int (H := Unit) Tryd.underlying3 (WalkArith.wf_i64 (show IntKind.i64.min ≤ (L.length : Int) ∧ (L.length : Int) ≤ IntKind.i64.max by have := HBIG.out; simp [IntKind.min, IntKind.max, IntKind.bits, IntKind.signed]; omega)))
      have HNE : Hid (bb ≠ mb) := Lib.hid (fun e => by
        obtain ⟨es, ck, hm', _⟩ := HB3.out.map
        have := HB3.out.blk
        rw [e, hm'] at this
        cases this)
      go_region_held3 (fun wz => wz.cell? ⟨bb, 2, none⟩ = some (.map (some mb)) ∧ wz.cell? ⟨bb, 1, none⟩ = some (.slice SA L.length sc))
        (first | exact ⟨g2, g1⟩ | exact ⟨cell_later ((Below.refl _ _).drew) g2, cell_later ((Below.refl _ _).drew) g1⟩ | exact ⟨cell_later hbk4 g2, cell_later hbk4 g1⟩ | exact ⟨z2, z1⟩)
        (first
          | (go_simp
             go_at_call 41
             refine (rkey_c _ _ l.length _ l ((Sl.of_own HR3.out).below ((Below.refl _ _).drew)) HOK.out hl2).mono ?_
             rintro e w4 ⟨rfl, b4⟩
             have hbk4 : Below w3.heap.size w3 w4 := ((Below.refl w3.heap.size w3).drew).trans b4
             obtain ⟨w5, hmu, hmap5, hg5⟩ := (HB3.out.keeps (Keeps.of_pure hbk4 (fun _ => False)) (fun _ _ h => h)).map.update keyLaw Tryd.underlying45 HM0.out HKEY.out HPE.out
             have hk5 := (Keeps.of_pure hbk4 (fun k => k = mb)).trans ((Keeps.of_grown hg5).mono (fun k _ e => (Option.some.inj e).symm)) (fun _ _ h => h)
             have hblk5 := (hk5.block bb HB3.out.ltb HNE.out).trans HB3.out.blk
             obtain ⟨_, z1, z2, zf⟩ := blk_cells hblk5
             dsimp only))
      have hfb : L.length < 4096 := by have := HF.out; omega
      have hs5 := own_keeps HB3.out.own hk5 (fun g' hg' e => by
        obtain ⟨es, ck, hm', _⟩ := HB3.out.map
        subst e
        exact own_ne_map HB3.out.own hm' hg')
      have HBL5 := Lib.hid hblk5
      have HLT5 := Lib.hid (Array.getElem?_eq_some_iff.1 hblk5).1
      have HW5 := Lib.hid (HW3.out.keeps hk5 (fun e => by have := HOO.out _ HB3.out.fm; omega))
      have HNS : Hid (¬ (Value.slice SA L.length sc).ownBlock = some w.heap.size) := Lib.hid (fun e => by have := HOO.out _ (HB3.out.fs _ e); omega)
      have HNB : Hid (¬ w.heap.size = (⟨bb, 1, none⟩ : Addr).block) := Lib.hid (fun e => by have := HOO.out _ HB3.out.fb; have e : w.heap.size = bb := e; omega)
      have HK5 := Lib.hid hk5
      have HM5 := Lib.hid hmap5
      clear hk5 hmap5 hg5 hmu hbk4 b4 g1 g2 hblk5 HPE HM0
      go_wp2_with (at_builtin; refine wpList_push rfl _ _ _ rfl tIntss hs5 rfl _ 0 rfl rfl rfl (by simp only [maxLen]; omega) (by omega) (Nat.zero_le _) ?_; intro g cap w6 hown6 hg6 hat6 hlt6; have hblk6 := (hg6.block bb HLT5.out (fun e => own_ne_blk hs5 HBL5.out (by decide) e.symm)).trans HBL5.out; obtain ⟨y0, y1, y2, yf⟩ := blk_cells hblk6; obtain ⟨d0, d1, d2, f0, f1', f2⟩ := ((HW5.out.keeps (Keeps.of_grown hg6) HNS.out).keeps (Keeps.of_setCell w6 ⟨bb, 1, none⟩ (.slice (some ⟨g, 0, none⟩) (L.length + 1) cap)) HNB.out).facts)
      have hend := rput_end HB3.out HOK.out HLL.out (H := w0.heap.size) (by have := HZ2.out; have := HZ3.out; omega) HR3.out HIN.out hfb HK5.out HM5.out hown6 (Keeps.of_grown hg6) (hat6.imp id Nat.le_of_lt)
      have he1 := hend.1.keeps (keeps_set3 _ w.heap.size (.int .i64 0) (.slice none 0 0) (.slice none 0 0)) (fun k h1 h2 => by
        rcases h1 with h1 | h1
        · have := HOO.out k h1; omega
        · have := HZ.out; omega)
      have he2 := ((Keeps.of_pure HBB3.out O).trans hend.2 (fun _ _ h => h)).trans (keeps_set3 (w6.setCell ⟨bb, 1, none⟩ (.slice (some ⟨g, 0, none⟩) (L.length + 1) cap)) w.heap.size (.int .i64 0) (.slice none 0 0) (.slice none 0 0)) (fun k h1 h2 => by omega)
      have HE1 := Lib.hid (he1.mono (O' := fun k => O k ∨ w.heap.size ≤ k) (fun k h1 => by
        rcases h1 with h1 | h1
        · exact .inl h1
        · have := HZ.out; exact .inr (by omega)))
      have HE2 := Lib.hid he2
      rw [HPL.out]
      exact bodyPost_ret (v := .tuple #[.int .i64 (L.length : Int), .bool true, .agg #[.int .i64 0, .slice none 0 0, .slice none 0 0]]) (by simp [results, Tryd.results19, go_sem, d0, d1, d2]) rfl ⟨0, none, 0, 0, none, 0, 0, rfl, WantB.zero _ _, HE1.out, HE2.out, fun h => absurd rfl h⟩
end Go.Proofs.YtiobnnhjnkcafaaDoor

namespace Go.Proofs.YtiobnnhjnkcafaaDoor
open Go.RowKit Go.WideMaps Go.Maps BagP RuleP

theorem putL_map {n : Nat} {S : List (List Nat)} (hS : ∀ l ∈ S, BagR.Good n l) {l : List Nat} (hl : BagR.Good n l) : BagR.putL (S.map (BagR.getN n)) (BagR.getN n l) = ((BagR.putL S l).1, (BagR.putL S l).2.map (BagR.getN n)) := by
  have hm := BagR.mem_sets hS hl
  have hi := BagR.idx_sets hS hl
  unfold BagR.putL
  rw [hi, List.length_map]
  by_cases h : l ∈ S
  · rw [if_pos (hm.2 h), if_pos h]
  · rw [if_neg (fun h' => h (hm.1 h')), if_neg h]
    split
    · rfl
    · rw [List.map_append]; rfl
theorem getN_len (n : Nat) (l : List Nat) : (BagR.getN n l).length ≤ n := by
  unfold BagR.getN
  exact Nat.le_trans (List.length_filter_le _ _) (by simp)
theorem sort_rise (xs : List Int) : (xs.mergeSort fun x y => decide (x ≤ y)).Pairwise (· ≤ ·) :=
  (List.pairwise_mergeSort (le := fun x y => decide (x ≤ y)) (fun a b c h1 h2 => decide_eq_true (Int.le_trans (of_decide_eq_true h1) (of_decide_eq_true h2))) (fun a b => by
    rcases Int.le_total a b with h | h
    · simp [h]
    · simp [h]) xs).imp fun h => of_decide_eq_true h
theorem ded_set {n : Nat} {xs : List Int} (hx : ∀ x ∈ xs, 0 ≤ x ∧ x < (n : Int)) : BagR.dedTo (xs.mergeSort fun x y => decide (x ≤ y)) xs.length = ints (BagR.getN n (bitsOf n xs)) := by
  have h := BagR.set_eq hx (sort_rise xs) (fun x => List.mem_mergeSort)
  rw [List.length_mergeSort] at h
  exact h
theorem rputO_c (w : World) (p : Value) (o : BagD) (O : Nat → Prop) (hB : RBagO w p o O) (hO : ∀ k, O k → k < w.heap.size) (A : Option Addr) (m c : Nat) (xs : List Int) (hm : m ≤ 1048576) (h : Sl w A m (xs.map (Value.int .i64))) :
    Calls Tryd.prog 19 #[p, .slice A m c] w (Ans3 w (putO o xs).1.2.2 (putO o xs).1.1 (putO o xs).1.2.1 fun w' => RBagO w' p (putO o xs).2 (fun k => O k ∨ w.heap.size ≤ k) ∧ Keeps O w w' ∧ ((putO o xs).1.2.2 ≠ none → Below w.heap.size w w')) := by
  cases o with
  | none =>
    obtain rfl : p = .pointer none := hB
    refine (rput_nil w A m c).mono ?_
    rintro e w' ⟨N, A1, n1, c1, A2, n2, c2, h1, h2, h3⟩
    exact ⟨N, A1, n1, c1, A2, n2, c2, h1, h2, rfl, Keeps.of_pure h3 O, fun _ => h3⟩
  | some x =>
    obtain ⟨n, S⟩ := x
    obtain ⟨hb, hg⟩ := hB
    have hg' := hg.putF xs
    have hl : xs.length = m := by simpa using h.1
    simp only [putO]
    cases ho : BagR.outB n xs with
    | some i =>
      have e1 : BagR.putF n S xs = ((0, false, some (3, [(BagR.bagS, (i : Int))])), S) := by unfold BagR.putF; rw [ho]
      rw [e1]
      obtain ⟨bb, mb, sv, rows, D, rfl, hb'⟩ := hb
      refine (rput_bad hb' A m c xs h hm i (by unfold outI; rw [ho])).mono ?_
      rintro e w' ⟨N, A1, n1, c1, A2, n2, c2, h1, h2, h3⟩
      exact ⟨N, A1, n1, c1, A2, n2, c2, h1, h2, ⟨RBagIs.mono (RBagIs.below ⟨bb, mb, sv, rows, D, rfl, hb'⟩ h3) (fun k h => .inl h), hg⟩, Keeps.of_pure h3 O, fun _ => h3⟩
    | none =>
      have hx := BagR.out_none ho
      have e1 : BagR.putF n S xs = BagR.putL S (bitsOf n xs) := by unfold BagR.putF; rw [ho]
      rw [e1] at hg' ⊢
      obtain ⟨bb, mb, sv, rows, D, rfl, hb'⟩ := hb
      have hd := ded_set hx
      rw [hl] at hd
      have hnn := hb'.nn
      refine (rput_x hb' A m c xs h hm (by unfold outI; rw [ho]) (BagR.getN n (bitsOf n xs)) hd (fun x hx => by have := BagR.getN_lt x hx; omega) (by have := getN_len n (bitsOf n xs); omega) hO).mono ?_
      rintro e w' ⟨N, A1, n1, c1, A2, n2, c2, h1, h2, h3, h4, h5⟩
      rw [putL_map hg.good (BagR.good_bits hx)] at h1 h2 h3 h5
      exact ⟨N, A1, n1, c1, A2, n2, c2, h1, h2, ⟨h3, hg'⟩, h4, h5⟩
end Go.Proofs.YtiobnnhjnkcafaaDoor

namespace Go.Proofs.YtiobnnhjnkcafaaDoor
open Go.RowKit Go.WideMaps Go.Maps BagP RuleP

set_option maxRecDepth 100000 in
set_option maxHeartbeats 1000000 in
theorem rfind_nil (w : World) (A : Option Addr) (m c : Nat) : Calls Tryd.prog 21 #[.pointer none, .slice A m c] w (Ans2 w (some (11, [(BagR.bagS, 0)])) fun v _ => v = .int .i64 0) := by
  have hw0 := WantAt.new w (.int .i64 0) (.slice none 0 0) (.slice none 0 0)
  have hb0 := (Below.refl w.heap.size w).alloc (Nat.le_refl _) (.cells #[.int .i64 0, .slice none 0 0, .slice none 0 0] 33)
  have HN := Lib.hid (newB_c (w.alloc (.cells #[.int .i64 0, .slice none 0 0, .slice none 0 0] 33)) sBag 0 11)
  go_enter Tryd.func21, Tryd.ntmps21
  go_wp2_with fail
  refine (HN.out).mono ?_
  rintro e w1 ⟨A1, n1, c1, A2, n2, c2, rfl, hu, hb1⟩
  have hw1 := hw0.below hb1 (by simp)
  have hu2 := hu.set3 (g := w.heap.size) (by simp) (.int .i64 11) (.slice A1 n1 c1) (.slice A2 n2 c2)
  have hb2 := below_set3 (hb0.trans (hb1.mono (by simp))) (Nat.le_refl _) (.int .i64 11) (.slice A1 n1 c1) (.slice A2 n2 c2)
  obtain ⟨d0, d1, d2, f0, f1, f2⟩ := hw1.facts
  have HU := Lib.hid (hu2.base (base' := w.heap.size) (by simp))
  have HB := Lib.hid hb2
  clear hu hu2 hb1 hb2 hw1 hw0 hb0
  go_wp2_with fail
  exact bodyPost_ret (v := .tuple #[.int .i64 0, .agg #[.int .i64 11, .slice A1 n1 c1, .slice A2 n2 c2]]) (by simp [results, Tryd.results21, go_sem, d0, d1, d2]) rfl ⟨_, 11, A1, n1, c1, A2, n2, c2, rfl, HU.out, rfl, HB.out⟩

set_option maxRecDepth 100000 in
set_option maxHeartbeats 1000000 in
theorem rfind_bad {w : World} {bb mb : Nat} {sv : Value} {rows : List Value} {D : DataW Unit} {n : Nat} {L : List (List Nat)} {O : Nat → Prop} (hB : RBagAt w bb mb sv rows D n L O) (A : Option Addr) (m c : Nat) (xs : List Int) (h : Sl w A m (xs.map (Value.int .i64))) (hm : m ≤ 1048576) (i : Nat) (hi : outI n xs = (i : Int)) :
    Calls Tryd.prog 21 #[.pointer (some ⟨bb, 0, none⟩), .slice A m c] w (Ans2 w (some (3, [(BagR.bagS, (i : Int))])) fun v _ => v = .int .i64 0) := by
  have hw0 := WantAt.new w (.int .i64 0) (.slice none 0 0) (.slice none 0 0)
  have hb0 := (Below.refl w.heap.size w).alloc (Nat.le_refl _) (.cells #[.int .i64 0, .slice none 0 0, .slice none 0 0] 33)
  obtain ⟨c0, _, _, _⟩ := blk_cells (hB.keeps (Keeps.of_pure hb0 (fun _ => False)) (fun _ _ h => h)).blk
  have ho := rout_c (w.alloc (.cells #[.int .i64 0, .slice none 0 0, .slice none 0 0] 33)) bb n c0 A m c xs (h.below hb0) hm
  rw [hi] at ho
  have HO := Lib.hid ho
  have hineg : (0 : Int) ≤ (i : Int) := by omega
  clear ho hi hB h c0
  go_enter Tryd.func21, Tryd.ntmps21
  go_wp2_with fail
  refine (HO.out).mono ?_
  rintro e w0 ⟨rfl, hbo⟩
  have hw0' := hw0.below hbo (by simp)
  have hb0' := hb0.trans (hbo.mono (by simp))
  have hz0 : w.heap.size < w0.heap.size := hw0'.lt
  have HN := Lib.hid (newB_c w0 sBag (i : Int) 3)
  clear hw0 hb0 hbo HO
  go_wp2_with fail
  refine (HN.out).mono ?_
  rintro e w1 ⟨A1, n1, c1, A2, n2, c2, rfl, hu, hb1⟩
  have hw1 := hw0'.below hb1 hw0'.lt
  have hu2 := hu.set3 (g := w.heap.size) (by omega) (.int .i64 3) (.slice A1 n1 c1) (.slice A2 n2 c2)
  have hb2 := below_set3 (hb0'.trans (hb1.mono (by omega))) (Nat.le_refl _) (.int .i64 3) (.slice A1 n1 c1) (.slice A2 n2 c2)
  obtain ⟨d0, d1, d2, f0, f1, f2⟩ := hw1.facts
  have HU := Lib.hid (hu2.base (base' := w.heap.size) (by omega))
  have HB := Lib.hid hb2
  clear hu hu2 hb1 hb2 hw1 hw0' hb0'
  go_wp2_with fail
  exact bodyPost_ret (v := .tuple #[.int .i64 0, .agg #[.int .i64 3, .slice A1 n1 c1, .slice A2 n2 c2]]) (by simp [results, Tryd.results21, go_sem, d0, d1, d2]) rfl ⟨_, 3, A1, n1, c1, A2, n2, c2, rfl, HU.out, rfl, HB.out⟩

set_option maxRecDepth 100000 in
set_option maxHeartbeats 4000000 in
theorem rfind_x {w : World} {bb mb : Nat} {sv : Value} {rows : List Value} {D : DataW Unit} {n : Nat} {L : List (List Nat)} {O : Nat → Prop} (hB : RBagAt w bb mb sv rows D n L O) (A : Option Addr) (m c : Nat) (xs : List Int) (h : Sl w A m (xs.map (Value.int .i64))) (hm : m ≤ 1048576) (hout : outI n xs = -1)
    (l : List Nat) (hl : BagR.dedTo (xs.mergeSort fun x y => decide (x ≤ y)) m = ints l) (hok : okB2 l) (hll : l.length ≤ 8192) :
    Calls Tryd.prog 21 #[.pointer (some ⟨bb, 0, none⟩), .slice A m c] w (Ans2 w none fun v _ => v = .int .i64 (findI L l)) := by
  have hw0 := WantAt.new w (.int .i64 0) (.slice none 0 0) (.slice none 0 0)
  have hb0 := (Below.refl w.heap.size w).alloc (Nat.le_refl _) (.cells #[.int .i64 0, .slice none 0 0, .slice none 0 0] 33)
  have hB0 := hB.keeps (Keeps.of_pure hb0 (fun _ => False)) (fun _ _ h => h)
  obtain ⟨c0, _, _, _⟩ := blk_cells hB0.blk
  have ho := rout_c (w.alloc (.cells #[.int .i64 0, .slice none 0 0, .slice none 0 0] 33)) bb n c0 A m c xs (h.below hb0) hm
  rw [hout] at ho
  have HO := Lib.hid ho
  have HH0 := Lib.hid (h.below hb0)
  have HB00 := Lib.hid hB0
  have HCV := Lib.hid (fun (w2 : World) (v : Value) (hr2 : w2.ownsRow w2.heap.size 3 1 v ((BagR.dedTo (xs.mergeSort fun x y => decide (x ≤ y)) m).map (Value.int .i64)).length ((BagR.dedTo (xs.mergeSort fun x y => decide (x ≤ y)) m).map (Value.int .i64))) => hl)
  have HLE := Lib.hid hl
  clear ho hout h c0 hB0 hl HCV
  go_enter Tryd.func21, Tryd.ntmps21
  go_wp2_with fail
  refine (HO.out).mono ?_
  rintro e w0 ⟨rfl, hbo⟩
  have HW1 := Lib.hid (hw0.below hbo (by simp))
  have HH := Lib.hid (HH0.out.below hbo)
  have HB1 := Lib.hid (HB00.out.keeps (Keeps.of_pure hbo (fun _ => False)) (fun _ _ h => h))
  have HBB := Lib.hid (hb0.trans (hbo.mono (by simp)))
  have HCV := Lib.hid (fun (w2 : World) (v : Value) (hr2 : w2.ownsRow w0.heap.size 3 1 v ((BagR.dedTo (xs.mergeSort fun x y => decide (x ≤ y)) m).map (Value.int .i64)).length ((BagR.dedTo (xs.mergeSort fun x y => decide (x ≤ y)) m).map (Value.int .i64))) => (by
    rw [HLE.out] at hr2
    have e1 : ((ints l).map (Value.int .i64)).length = l.length := by simp [ints]
    rw [e1] at hr2
    exact hr2 : w2.ownsRow w0.heap.size 3 1 v l.length (iR l)))
  have HOK := Lib.hid hok
  have HKEY := Lib.hid (keyB2_of l hll)
  have hl2 : l.length ≤ 1048576 := by omega
  obtain ⟨_, _, c2', _⟩ := blk_cells HB1.out.blk
  clear HO HH0 HB00 hw0 hbo hb0 hok hll
  go_wp2_with fail
  by_cases hin : l ∈ L
  · obtain ⟨i, hi⟩ := List.getElem?_of_mem hin
    have HHAS := Lib.hid (relB_in HB1.out.rel HOK.out hin)
    have HAT := Lib.hid ((HB1.out.rel.2 l HOK.out).2 i hi)
    have HFI : Hid (findI L l = (i : Int)) := Lib.hid (by unfold findI; rw [if_pos hin, idx_nodup HB1.out.nd hi])
    clear hin hi
    go_region_held3 (fun wz => wz.cell? ⟨bb, 2, none⟩ = some (.map (some mb)))
      (first | exact c2' | exact cell_later ((Below.refl _ _).drew) c2' | exact cell_later hbk c2' | exact cell_later hbk2 c2')
      (first
        | (go_simp
           go_at_call 41
           refine (rkey_c _ C l.length cc l (Sl.of_own hr3) HOK.out hl2).mono ?_
           rintro e w3 ⟨rfl, b3⟩
           have hbk2 : Below w0.heap.size w0 w3 := hbk.trans (b3.mono hbk.size)
           obtain ⟨c', hc', hlk⟩ := lookB_run (HB1.out.keeps (Keeps.of_pure hbk2 (fun _ => False)) (fun _ _ h => h)).map (bytesN l) HKEY.out true HHAS.out
           have HC := Lib.hid hc'
           clear hc'
           dsimp only)
        | (go_simp
           go_at_call 40
           refine (rset_c _ A m c xs (HH.out.below ((Below.refl _ _).drew)) hm).mono ?_
           rintro e w2 ⟨v, ys, rfl, rfl, hr2, hb2⟩
           have hbk : Below w0.heap.size w0 w2 := ((Below.refl w0.heap.size w0).drew).trans hb2
           have hr3 : w2.ownsRow w0.heap.size 3 1 v l.length (iR l) := HCV.out w2 v hr2
           obtain ⟨C, cc, rfl, _, _⟩ := own_slice hr3
           dsimp only))
    obtain rfl : c' = (i : Int) := by
      have := HC.out.symm.trans HAT.out
      injection this with this
      injection this
    have hw3 := HW1.out.below hbk2 HW1.out.lt
    obtain ⟨d0, d1, d2, f0, f1', f2⟩ := hw3.facts
    have HBW := Lib.hid (below_set3 (HBB.out.trans (hbk2.mono HBB.out.size)) (Nat.le_refl _) (.int .i64 0) (.slice none 0 0) (.slice none 0 0))
    clear hbk hbk2 hr2 hr3 hb2 b3 hlk hw3
    go_wp2_with fail
    rw [HFI.out]
    exact bodyPost_ret (v := .tuple #[.int .i64 (i : Int), .agg #[.int .i64 0, .slice none 0 0, .slice none 0 0]]) (by simp [results, Tryd.results21, go_sem, d0, d1, d2]) rfl ⟨_, 0, none, 0, 0, none, 0, 0, rfl, WantB.zero _ _, rfl, HBW.out⟩
  · have HHAS := Lib.hid (relB_out HB1.out.rel HOK.out hin)
    have HFI : Hid (findI L l = -1) := Lib.hid (by unfold findI; rw [if_neg hin])
    clear hin
    go_region_held3 (fun wz => wz.cell? ⟨bb, 2, none⟩ = some (.map (some mb)))
      (first | exact c2' | exact cell_later ((Below.refl _ _).drew) c2' | exact cell_later hbk c2' | exact cell_later hbk2 c2')
      (first
        | (go_simp
           go_at_call 41
           refine (rkey_c _ C l.length cc l (Sl.of_own hr3) HOK.out hl2).mono ?_
           rintro e w3 ⟨rfl, b3⟩
           have hbk2 : Below w0.heap.size w0 w3 := hbk.trans (b3.mono hbk.size)
           obtain ⟨c', hc', hlk⟩ := lookB_run (HB1.out.keeps (Keeps.of_pure hbk2 (fun _ => False)) (fun _ _ h => h)).map (bytesN l) HKEY.out false HHAS.out
           have HC := Lib.hid hc'
           clear hc'
           dsimp only)
        | (go_simp
           go_at_call 40
           refine (rset_c _ A m c xs (HH.out.below ((Below.refl _ _).drew)) hm).mono ?_
           rintro e w2 ⟨v, ys, rfl, rfl, hr2, hb2⟩
           have hbk : Below w0.heap.size w0 w2 := ((Below.refl w0.heap.size w0).drew).trans hb2
           have hr3 : w2.ownsRow w0.heap.size 3 1 v l.length (iR l) := HCV.out w2 v hr2
           obtain ⟨C, cc, rfl, _, _⟩ := own_slice hr3
           dsimp only))
    have hw3 := HW1.out.below hbk2 HW1.out.lt
    obtain ⟨d0, d1, d2, f0, f1', f2⟩ := hw3.facts
    have HBW := Lib.hid (below_set3 (HBB.out.trans (hbk2.mono HBB.out.size)) (Nat.le_refl _) (.int .i64 0) (.slice none 0 0) (.slice none 0 0))
    clear hbk hbk2 hr2 hr3 hb2 b3 hlk hw3
    go_wp2_with fail
    rw [HFI.out]
    exact bodyPost_ret (v := .tuple #[.int .i64 (-1), .agg #[.int .i64 0, .slice none 0 0, .slice none 0 0]]) (by simp [results, Tryd.results21, go_sem, d0, d1, d2]) rfl ⟨_, 0, none, 0, 0, none, 0, 0, rfl, WantB.zero _ _, rfl, HBW.out⟩
end Go.Proofs.YtiobnnhjnkcafaaDoor

namespace Go.Proofs.YtiobnnhjnkcafaaDoor
open Go.RowKit Go.WideMaps Go.Maps BagP RuleP

theorem errBad2_c (w : World) (N : Nat) (A1 : Option Addr) (n1 c1 : Nat) (A2 : Option Addr) (n2 c2 : Nat) :
    Calls Tryd.prog 45 #[.agg #[.int .i64 (N : Int), .slice A1 n1 c1, .slice A2 n2 c2]] w fun e w' => e = .returned (.bool (decide (N ≠ 0))) ∧ Below w.heap.size w w' := by
  have hd : ((N : Int) != 0) = decide (N ≠ 0) := by
    by_cases h : N = 0
    · subst h; rfl
    · rw [decide_eq_true h]; simp; exact h
  go_enter Tryd.func45, Tryd.ntmps45
  go_wp2_with fail
  go_ret
  exact ⟨by first | rfl | rw [hd] | simp, (Below.refl _ _).alloc (Nat.le_refl _) _⟩
theorem findI_map {n : Nat} {S : List (List Nat)} (hS : ∀ l ∈ S, BagR.Good n l) {l : List Nat} (hl : BagR.Good n l) : findI (S.map (BagR.getN n)) (BagR.getN n l) = findI S l := by
  have hm := BagR.mem_sets hS hl
  have hi := BagR.idx_sets hS hl
  unfold findI
  rw [hi]
  by_cases h : l ∈ S
  · rw [if_pos (hm.2 h), if_pos h]
  · rw [if_neg (fun h' => h (hm.1 h')), if_neg h]
theorem rfindO_c (w : World) (p : Value) (o : BagD) (O : Nat → Prop) (hB : RBagO w p o O) (A : Option Addr) (m c : Nat) (xs : List Int) (hm : m ≤ 1048576) (h : Sl w A m (xs.map (Value.int .i64))) :
    Calls Tryd.prog 21 #[p, .slice A m c] w (Ans2 w (findO o xs).2 fun v _ => v = .int .i64 (findO o xs).1) := by
  cases o with
  | none =>
    obtain rfl : p = .pointer none := hB
    exact rfind_nil w A m c
  | some x =>
    obtain ⟨n, S⟩ := x
    obtain ⟨hb, hg⟩ := hB
    have hl : xs.length = m := by simpa using h.1
    simp only [findO]
    cases ho : BagR.outB n xs with
    | some i =>
      have e1 : BagR.findF n S xs = (0, some (3, [(BagR.bagS, (i : Int))])) := by unfold BagR.findF; rw [ho]
      rw [e1]
      obtain ⟨bb, mb, sv, rows, D, rfl, hb'⟩ := hb
      exact rfind_bad hb' A m c xs h hm i (by unfold outI; rw [ho])
    | none =>
      have hx := BagR.out_none ho
      have e1 : BagR.findF n S xs = (findI S (bitsOf n xs), none) := by unfold BagR.findF findI; rw [ho]
      rw [e1, ← findI_map hg.good (BagR.good_bits hx)]
      obtain ⟨bb, mb, sv, rows, D, rfl, hb'⟩ := hb
      have hd := ded_set hx
      rw [hl] at hd
      have hnn := hb'.nn
      exact rfind_x hb' A m c xs h hm (by unfold outI; rw [ho]) (BagR.getN n (bitsOf n xs)) hd (fun x hx => by have := BagR.getN_lt x hx; omega) (by have := getN_len n (bitsOf n xs); omega)
end Go.Proofs.YtiobnnhjnkcafaaDoor
