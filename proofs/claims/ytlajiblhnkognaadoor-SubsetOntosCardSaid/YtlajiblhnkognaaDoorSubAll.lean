/- The walk over the subsets: (*subset.walk).all. Condition: the rule reads from memory; the error variables hold what E says. -/
import Derived.Test.YtlajiblhnkognaaDoorSubStep
import Derived.Test.YtlajiblhnkognaaDoorSubQ
import Derived.Test.YtlajiblhnkognaaDoorFillN
import Derived.Test.YtlajiblhnkognaaDoorLentRR
namespace Go.Proofs.YtlajiblhnkognaaDoor
open Go.RowKit BagP RuleP SubP

/-- A walk not begun. -/
def Walk0 (w : World) (wb : Nat) (K R : Int) (A : Option Addr) (n c : Nat) (stop : Bool) : Prop :=
  w.heap[wb]? = some (.cells #[.int .i64 K, .int .i64 R, .slice A n c, .pointer none, .slice none 0 0, .slice none 0 0, .bool stop] 65 (0, 0))
/-- What all leaves, told by what the walk comes to. -/
def OutPost (w0 : World) (k r : Nat) (t : List Nat) (TA : Option Addr) (tc wb : Nat) (stop : Bool) (E : Nat → Addr) (e : Ending) (w' : World) : Out → Prop
  | .go S _ => ∃ (bp nv wv : Value) (nr ws : List Value), e = .returned .nilIface ∧ WalkAt w' ⟨w0, k, r, t, TA, tc, wb, bp, stop⟩ S nv wv nr ws (fun _ => False)
  | .orphan x => ∃ b, e = .returned (foundV b) ∧ FoundAt w' w0.heap.size b x ∧ Below w0.heap.size w0 w'
  | .over => ∃ b, e = .returned (errV b) ∧ ErrIs w' E 4 [(sBag, 0)] (errV b) ∧ Below w0.heap.size w0 w'
def AllPost (w0 : World) (k r : Nat) (t : List Nat) (TA : Option Addr) (tc wb : Nat) (stop : Bool) (E : Nat → Addr) (e : Ending) (w' : World) : Prop :=
  OutPost w0 k r t TA tc wb stop E e w' (fin k (k ^ (2 * r)) t stop)

theorem FoundAt.set {w : World} {B B' b g s : Nat} {x : List Nat} {u : Value} (h : FoundAt w B b x) (hg : g < B) (hB : B' ≤ B) : FoundAt (w.setCell ⟨g, s, none⟩ u) B' b x := by
  obtain ⟨xv, h1, h2, h3⟩ := h
  refine ⟨xv, (Below.heap_setCell _ _ _ _ (by simp; omega)).trans h1, own_base (own_keeps h2 (Keeps.of_setCell _ _ _) (fun g' hg' e => by
    have e' : g' = g := e
    have := (h2.lt g' hg').1
    omega)) hB, by omega⟩
/-- What a step leaves, told by the walk. -/
theorem step_sym {w w' : World} {D : WalkP} {S : St} {E : Nat → Addr} {i s : Nat} {nv wv : Value} {nr ws : List Value} {X : Nat → Prop} {e : Ending} (h : WalkAt w D S nv wv nr ws X) (hp : StepPost w D S E i s nv wv nr ws X e w') (row : List Int) :
    (∃ S' x wv' ws', sym D.k D.N D.t D.stop i S row s = .go S' (row ++ [x]) ∧ e = .returned (.tuple #[.int .i64 x, .nilIface]) ∧ WalkAt w' D S' nv wv' nr ws' X ∧ Keeps (WalkAt.Foot w D nv wv) w w') ∨
    (∃ x b, sym D.k D.N D.t D.stop i S row s = .orphan x ∧ e = .returned (.tuple #[.int .i64 0, foundV b]) ∧ FoundAt w' w.heap.size b x ∧ Below w.heap.size w w') ∨
    (∃ b, sym D.k D.N D.t D.stop i S row s = .over ∧ e = .returned (.tuple #[.int .i64 0, errV b]) ∧ ErrIs w' E 4 [(sBag, 0)] (errV b) ∧ Below w.heap.size w w') := by
  obtain ⟨p1, p2, p3, p4, p5⟩ := hp
  by_cases hn : nodesOf (beh D.k D.N D.t (S.sets.getD i []) s) = []
  · cases hs : D.stop
    · obtain ⟨a, b⟩ := p1 hn hs
      exact .inl ⟨S, -1, wv, ws, sym_none hn rfl, a, h.pure b, Keeps.of_pure b _⟩
    · obtain ⟨b, h1, h2, h3⟩ := p2 hn hs
      exact .inr (.inl ⟨_, b, sym_orph hn rfl, h1, h2, h3⟩)
  · by_cases hm : beh D.k D.N D.t (S.sets.getD i []) s ∈ S.sets
    · obtain ⟨a, b⟩ := p3 hn hm
      exact .inl ⟨S, _, wv, ws, sym_old hn hm, a, h.pure b, Keeps.of_pure b _⟩
    · rcases Nat.lt_or_ge S.sets.length 4096 with hl | hl
      · obtain ⟨wv', ws', a, b, c⟩ := p5 hn hm hl
        exact .inl ⟨_, _, wv', ws', sym_new hn hm hl, a, b, c⟩
      · obtain ⟨b, h1, h2, h3⟩ := p4 hn hm hl
        exact .inr (.inr ⟨b, sym_full hn hm hl, h1, h2, h3⟩)
variable {w : World} {E : Nat → Addr}
theorem AllPost.go {w0 w' : World} {k r N : Nat} {t : List Nat} {TA : Option Addr} {tc wb : Nat} {stop : Bool} {S : St} {row : List Int} {bp nv wv : Value} {nr ws : List Value} (hN : k ^ (2 * r) = N) (hf : fin k N t stop = .go S row)
    (hw : WalkAt w' ⟨w0, k, r, t, TA, tc, wb, bp, stop⟩ S nv wv nr ws (fun _ => False)) : AllPost w0 k r t TA tc wb stop E (.returned .nilIface) w' := by
  show OutPost w0 k r t TA tc wb stop E _ w' (fin k (k ^ (2 * r)) t stop)
  rw [hN, hf]
  exact ⟨bp, nv, wv, nr, ws, rfl, hw⟩
theorem AllPost.orph {w0 w' : World} {k r N : Nat} {t : List Nat} {TA : Option Addr} {tc wb : Nat} {stop : Bool} {x : List Nat} {b : Nat} (hN : k ^ (2 * r) = N) (hf : fin k N t stop = .orphan x)
    (h1 : FoundAt w' w0.heap.size b x) (h2 : Below w0.heap.size w0 w') : AllPost w0 k r t TA tc wb stop E (.returned (foundV b)) w' := by
  show OutPost w0 k r t TA tc wb stop E _ w' (fin k (k ^ (2 * r)) t stop)
  rw [hN, hf]
  exact ⟨b, rfl, h1, h2⟩
theorem AllPost.full {w0 w' : World} {k r N : Nat} {t : List Nat} {TA : Option Addr} {tc wb : Nat} {stop : Bool} {b : Nat} (hN : k ^ (2 * r) = N) (hf : fin k N t stop = .over)
    (h1 : ErrIs w' E 4 [(sBag, 0)] (errV b)) (h2 : Below w0.heap.size w0 w') : AllPost w0 k r t TA tc wb stop E (.returned (errV b)) w' := by
  show OutPost w0 k r t TA tc wb stop E _ w' (fin k (k ^ (2 * r)) t stop)
  rw [hN, hf]
  exact ⟨b, rfl, h1, h2⟩

set_option maxRecDepth 100000 in
set_option maxHeartbeats 4000000 in
theorem all_c (w0 : World) (k r : Nat) (t : List Nat) (TA : Option Addr) (tc wb : Nat) (stop : Bool) (hw : Walk0 w wb (k : Int) (r : Int) TA t.length tc stop) (hr : IsRule k r t) (h256 : t.length ≤ 256) (hT : Sl w0 TA t.length ((ints t).map (Value.int .i64))) (hb : Below w0.heap.size w0 w) (hwb : w0.heap.size ≤ wb) (hE : Errs w0 E) :
    Calls Tryd.prog 28 #[.pointer (some ⟨wb, 0, none⟩)] w (AllPost w0 k r t TA tc wb stop E) := by
  have hE1 := hE.below hb
  have hT1 := hT.below hb
  have hwlt : wb < w.heap.size := (Array.getElem?_eq_some_iff.1 hw).1
  have hND := overNodes_c w E hE1 (k : Int) (r : Int) TA t.length tc (ints t) hT1 (by omega)
  rw [smallO_rule hr h256] at hND
  simp only [if_true] at hND
  have hnn : nodesN (k : Int) (r : Int) = k ^ (2 * r) := by simp [nodesN]
  rw [hnn] at hND
  have hk1 := hr.k1
  have hk4 := hr.k4
  have hN256 : k ^ (2 * r) ≤ 256 := by
    have h1 := (nodes_div hr).2
    exact Nat.le_trans (Nat.le_mul_of_pos_right _ hk1) (h1 ▸ h256)
  have hN0 : 0 < k ^ (2 * r) := Nat.pow_pos hk1
  obtain ⟨N, hN⟩ : ∃ N, k ^ (2 * r) = N := ⟨_, rfl⟩
  rw [hN] at hND hN256 hN0
  have HNN := Lib.hid hN
  have HND := Lib.hid hND
  unfold ruleV at HND
  have HW := Lib.hid hw
  have HR := Lib.hid hr
  have H256 := Lib.hid h256
  have HT := Lib.hid hT
  have HB := Lib.hid hb
  have HE := Lib.hid hE
  have HWB := Lib.hid hwb
  have HF := Lib.hid (fun (wz : World) (c0 c1 c2 c3 c4 c5 c6 : Value) (h : wz.heap[wb]? = some (.cells #[c0, c1, c2, c3, c4, c5, c6] 65 (0, 0))) =>
    (⟨by rw [cell_of_row wz wb _ _ _ _ h]; rfl, by rw [cell_of_row wz wb _ _ _ _ h]; rfl, by rw [cell_of_row wz wb _ _ _ _ h]; rfl, by rw [cell_of_row wz wb _ _ _ _ h]; rfl, by rw [cell_of_row wz wb _ _ _ _ h]; rfl, by rw [cell_of_row wz wb _ _ _ _ h]; rfl, by rw [cell_of_row wz wb _ _ _ _ h]; rfl, frozen_of_row _ _ 3 _ _ h, frozen_of_row _ _ 5 _ _ h⟩ :
      wz.cell? ⟨wb, 0, none⟩ = some c0 ∧ wz.cell? ⟨wb, 1, none⟩ = some c1 ∧ wz.cell? ⟨wb, 2, none⟩ = some c2 ∧ wz.cell? ⟨wb, 3, none⟩ = some c3 ∧ wz.cell? ⟨wb, 4, none⟩ = some c4 ∧ wz.cell? ⟨wb, 5, none⟩ = some c5 ∧ wz.cell? ⟨wb, 6, none⟩ = some c6 ∧ wz.frozen? ⟨wb, 3, none⟩ = false ∧ wz.frozen? ⟨wb, 5, none⟩ = false))
  obtain ⟨c0, c1, c2, c3, c4, c5, c6, f3, f5⟩ := HF.out w _ _ _ _ _ _ _ hw
  clear hND hnn hw hr h256 hT hb hE hwb hE1 hT1 hN
  go_enter Tryd.func28, Tryd.ntmps28
  go_wp2_with fail
  refine (HND.out).mono ?_
  rintro e w1 ⟨v, rfl, hv, hb1⟩
  obtain rfl : v = .nilIface := hv
  clear HND c0 c1 c2 c3 c4 c5 c6 f3 f5
  have hw1 : Walk0 w1 wb (k : Int) (r : Int) TA t.length tc stop := (hb1.block _ hwlt).trans HW.out
  go_wp2_with fail
  refine (newBag_c w1 N (by omega)).mono ?_
  rintro e w2 ⟨rfl, hbag2, hb2⟩
  have hw2 : Walk0 w2 wb (k : Int) (r : Int) TA t.length tc stop := (hb2.block _ (Nat.lt_of_lt_of_le hwlt hb1.size)).trans hw1
  obtain ⟨c0, c1, c2, c3, c4, c5, c6, f3, f5⟩ := HF.out w2 _ _ _ _ _ _ _ hw2
  have hmk := run_make_row' (P := Tryd.prog) 22 3 (.int .i64 0) 8 tInts.und tInts.info rfl .i64 .i64 N (by omega) (by omega)
  obtain ⟨bp, hbp⟩ : ∃ bp, Value.pointer (some ⟨w1.heap.size + 1, 0, none⟩) = bp := ⟨_, rfl⟩
  have hbA := HB.out.trans (hb1.mono HB.out.size)
  have hbB := hbA.trans (hb2.mono hbA.size)
  have hbC := hbB.setCell (p := ⟨wb, 3, none⟩) HWB.out bp
  have hbag2 := hbag2.bt (B := w0.heap.size) (fun b hb => Nat.le_trans hbA.size hb)
  have hsc := Keeps.of_setCell w2 ⟨wb, 3, none⟩ bp
  rw [hbp] at hbag2
  have hbag3 := hbag2.keeps hsc (fun b hb h => by
    rw [show b = wb from hb] at h
    exact notBT_blk hw2 (by decide) h.1)
  have hw3 : (w2.setCell ⟨wb, 3, none⟩ bp).heap[wb]? = some (.cells #[.int .i64 (k : Int), .int .i64 (r : Int), .slice TA t.length tc, bp, .slice none 0 0, .slice none 0 0, .bool stop] 65 (0, 0)) := heap_setCell_same w2 wb 3 _ _ bp hw2
  obtain ⟨w3, hw3e⟩ : ∃ w3, w2.setCell ⟨wb, 3, none⟩ bp = w3 := ⟨_, rfl⟩
  have HW3 := Lib.hid hw3e
  have HBP := Lib.hid hbp
  rw [hw3e] at hbC hbag3 hw3
  have hmk3 := hmk w3
  rw [← hw3e, ← hbp] at hmk3
  clear hw3e hsc hbag2 hw1 hw2 hb1 hb2 hbA hbB hmk hbp c0 c1 c2 c4 c5 c6
  have hown0 := make_row_ints w3 N (by simp only [maxLen]; omega)
  have hz3 : w3.heap.size = w2.heap.size := by rw [← HW3.out]; simp
  rw [hz3] at hown0
  have hbb3 : Below w2.heap.size w3 (w3.alloc (.cells (madeCells #[.int .i64 0] N) 3)) := (Below.refl _ _).alloc (by omega) _
  have HOW0 := Lib.hid hown0
  have HBB3 := Lib.hid hbb3
  have HZ3 := Lib.hid hz3
  clear hz3 hbb3
  have HBT3 := Lib.hid hbag3
  have HC3 := Lib.hid hbC
  have HH3 := Lib.hid hw3
  have hlr : (ints (List.range N)).length = N := by rw [ints_len, List.length_range]
  have HLR := Lib.hid hlr
  clear hown0 hbag3 hbC hw3 hlr
  go_wp2_with fail
  clear hmk3 c3 f3 f5
  go_loopw [41] (fun iv wl => ∃ q : Nat, q ≤ N ∧ iv = .int .i64 (q : Int) ∧ wl.ownsRow w2.heap.size 3 1 (.slice (some ⟨w2.heap.size, 0, none⟩) N N) N ((fillTo (ints (List.range N)) N 0 q).map (Value.int .i64)) ∧ Hid (Below w2.heap.size w3 wl)) (fun iv _ => N - (intOf iv).toNat)
  case atStart => exact ⟨0, Nat.zero_le _, rfl, by rw [fillTo_zero, List.map_replicate, HBP.out, HW3.out]; exact HOW0.out, by rw [HBP.out, HW3.out]; exact HBB3⟩
  case round =>
    obtain ⟨q, hq, rfl, hown, hb3⟩ := hrel
    by_cases hlt : q < N
    · have hlen : ((fillTo (ints (List.range N)) N 0 q).map (Value.int .i64)).length = N := by rw [List.length_map, fillTo_len hq HLR.out]
      have hcell : wr.cell? ⟨w2.heap.size, q, none⟩ = some (.int .i64 0) := by
        rw [hown.cellAt q (by omega), List.getElem?_map, fillTo_at' hlt (by rw [HLR.out]; omega)]; rfl
      have hfr := hown.frozenAt q
      have hst := (hown.stored q (.int .i64 (q : Int))).1
      rw [← List.map_set, fillTo_set hlt (by unfold ints; rw [List.getElem?_map, List.getElem?_range hlt]; rfl)] at hst
      have HB4 := Lib.hid (hb3.out.setCell (p := ⟨w2.heap.size, q, none⟩) (Nat.le_refl _) (.int .i64 (q : Int)))
      clear hlen hown hb3
      go_wp2_with fail
      exact ⟨⟨q + 1, by omega, by go_num, hst, HB4⟩, by simp [intOf]; omega⟩
    · have hqN : q = N := by omega
      rw [hqN] at hown
      have hlt' : ¬ (q : Int) < (N : Int) := by omega
      clear hqN
      rw [fillTo_all _ HLR.out] at hown
      have hb3' : Below w3.heap.size w3 wr := by rw [HZ3.out]; exact hb3.out
      have hb4 := HC3.out.trans (hb3'.mono HC3.out.size)
      have hbag4 := HBT3.out.below hb3'
      have hw4 : wr.heap[wb]? = some (.cells #[.int .i64 (k : Int), .int .i64 (r : Int), .slice TA t.length tc, bp, .slice none 0 0, .slice none 0 0, .bool stop] 65 (0, 0)) := (hb3'.block _ (Array.getElem?_eq_some_iff.1 HH3.out).1).trans HH3.out
      have hPT := putT_c hbag4 hb4.size (some ⟨w2.heap.size, 0, none⟩) N N (ints (List.range N)) (by omega) (Sl.of_own hown) (ints_range (fun v hv => List.mem_range.1 hv)) (.inr (by simp))
      have hbits : bitsOf N (ints (List.range N)) = wordsOf N (List.replicate N true) := bits_same (fun v hv => List.mem_range.1 hv) (nodes_range (by simp)) (fun v => by rw [mem_all, List.mem_range])
      rw [addS_new (by simp), List.nil_append, decide_eq_false (by simp), hbits, show List.idxOf (wordsOf N (List.replicate N true)) [wordsOf N (List.replicate N true)] = 0 by simp] at hPT
      simp only [Bool.not_false] at hPT
      obtain ⟨c0, c1, c2, c3, c4, c5, c6, f3, f5⟩ := HF.out wr _ _ _ _ _ _ _ hw4
      have HPT := Lib.hid hPT
      have HB4 := Lib.hid hb4
      have HW4 := Lib.hid hw4
      clear hPT hbits hb3' hb4 hw4 hbag4 hown hb3 HBT3 HC3 HH3 HBB3 HOW0 HLR
      go_wp2_with fail
      refine (HPT.out).mono ?_
      rintro e w5 ⟨rfl, hbag5, hk5⟩
      clear HPT c0 c1 c2 c3 c4 c5 c6 f3 f5
      have hb5 := HB4.out.trans (hk5.below HB4.out.size (fun _ h => h.2))
      have hw5 : w5.heap[wb]? = some (.cells #[.int .i64 (k : Int), .int .i64 (r : Int), .slice TA t.length tc, bp, .slice none 0 0, .slice none 0 0, .bool stop] 65 (0, 0)) := (hk5.block _ (Array.getElem?_eq_some_iff.1 HW4.out).1 (fun h => notBT_blk HW4.out (by decide) h.1)).trans HW4.out
      have hba := (Below.refl w5.heap.size w5).alloc (Nat.le_refl _) (.cells #[.slice none 0 0] 22)
      have hwA : (w5.alloc (.cells #[.slice none 0 0] 22)).heap[wb]? = some (.cells #[.int .i64 (k : Int), .int .i64 (r : Int), .slice TA t.length tc, bp, .slice none 0 0, .slice none 0 0, .bool stop] 65 (0, 0)) := (hba.block _ (Array.getElem?_eq_some_iff.1 hw5).1).trans hw5
      have hlit := World.ownsRow_lit (base := w5.heap.size) (e := 22) (size := 1) w5 #[.slice none 0 0] 1 (Nat.le_refl _) (by decide) rfl
      have hD0 : WalkAt ((w5.alloc (.cells #[.slice none 0 0] 22)).setCell ⟨wb, 5, none⟩ (.slice (some ⟨w5.heap.size, 0, none⟩) 1 1)) ⟨w0, k, r, t, TA, tc, wb, bp, stop⟩ (init N) (.slice none 0 0) (.slice (some ⟨w5.heap.size, 0, none⟩) 1 1) [] [.slice none 0 0] (fun _ => False) :=
        WalkAt.setW (D := ⟨w0, k, r, t, TA, tc, wb, bp, stop⟩) (S := init N) (nv := .slice none 0 0) (wv := .slice (some ⟨w5.heap.size, 0, none⟩) 1 1) (nr := []) (wr := [.slice none 0 0]) hwA rfl (hb5.trans (hba.mono hb5.size)) HWB.out (by rw [show WalkP.N ⟨w0, k, r, t, TA, tc, wb, bp, stop⟩ = N from HNN.out]; exact hbag5.below hba) (RowsAt.nil _ _ _)
          (RowsAt.mk' (own_base hlit hb5.size) (fun j l hj => by
            match j, hj with
            | 0, hj =>
              simp [init, ints] at hj
              subst hj
              exact ⟨.slice none 0 0, rfl, World.ownsRow_nil _ _ _ _, fun g hg => by simp [Value.ownBlock] at hg⟩
            | j + 1, hj => simp [init] at hj) (fun i j v v' g hij hi hj hg => by
            match i, hi with
            | 0, hi => simp at hi; subst hi; simp [Value.ownBlock] at hg
            | i + 1, hi => simp at hi)) (fun g hg => by simp [Value.ownBlock] at hg)
      obtain ⟨c0, c1, c2, c3, c4, c5, c6, f3, f5⟩ := HF.out _ _ _ _ _ _ _ _ hwA
      have HD0 := Lib.hid hD0
      clear hD0 hlit hwA hba hw5 hb5 hk5 hbag5 HB4 HW4
      go_wp2_with fail
      obtain ⟨D, rfl, rfl, rfl, rfl, rfl, rfl, rfl, rfl, rfl⟩ : ∃ D : WalkP, D.w0 = w0 ∧ D.k = k ∧ D.r = r ∧ D.t = t ∧ D.TA = TA ∧ D.tc = tc ∧ D.wb = wb ∧ D.bp = bp ∧ D.stop = stop := ⟨⟨w0, k, r, t, TA, tc, wb, bp, stop⟩, rfl, rfl, rfl, rfl, rfl, rfl, rfl, rfl, rfl⟩
      have HOK : Hid (WalkOk D) := Lib.hid ⟨HR.out, H256.out, HT.out⟩
      have hDN : D.N = N := HNN.out
      subst hDN
      clear c0 c1 c2 c3 c4 c5 c6 f3 f5
      have hmk := run_make_row' (P := Tryd.prog) 22 3 (.int .i64 0) 8 tInts.und tInts.info rfl .i64 .i64 D.k (by omega) (by omega)
      go_loopw [10] (fun iv wl => ∃ (i : Nat) (S : St) (nv wv : Value) (nr ws : List Value), iv = .int .i64 (i : Int) ∧ i ≤ 4096 ∧ Hid (roundTo D.k D.N D.t D.stop i = .go S []) ∧ Hid (Inv D.N i S) ∧ Hid (WalkAt wl D S nv wv nr ws (fun _ => False))) (fun iv _ => 4097 - (intOf iv).toNat)
      case atStart => exact ⟨0, init D.N, _, _, _, _, rfl, by decide, Lib.hid rfl, Lib.hid (Inv.init hN0), Lib.hid HD0.out⟩
      case round =>
        obtain ⟨i, S, nv, wv, nr, ws, rfl, hi4, hrd, hinv, hwk⟩ := hrel
        clear HD0
        obtain ⟨c0, c1, c2, c3, c4, c5, c6, f4, f5⟩ := hwk.out.facts
        have HLEN := Lib.hid (Len_c hwk.out.bag)
        have hbig := hinv.out.big
        have hle := hinv.out.le
        have hsl : (S.sets.map (wordsOf D.N)).length = S.sets.length := List.length_map ..
        rw [hsl] at HLEN
        clear hsl
        go_wp2_with fail
        refine (HLEN.out).mono ?_
        rintro e w6 ⟨rfl, rfl⟩
        clear HLEN
        by_cases hil : i < S.sets.length
        · have hil' : (i : Int) < (S.sets.length : Int) := by omega
          have hmk6 := hmk wr
          go_wp2_with fail
          clear c0 c1 c2 c3 c4 c5 c6 f4 f5 hmk6
          have hwX := hwk.out.mono (X' := fun b => b = wr.heap.size) (fun b hb => .inr (by rw [hb]; exact Nat.le_refl _))
          have hba := (Below.refl wr.heap.size wr).alloc (Nat.le_refl _) (.cells (madeCells #[.int .i64 0] D.k) 3)
          have hrow0 := make_row_ints wr D.k (by simp only [maxLen]; omega)
          have hwXa := hwX.pure hba
          have hBw : D.B ≤ wr.heap.size := hwk.out.old.size
          obtain ⟨g, hg⟩ : ∃ g, wr.heap.size = g := ⟨_, rfl⟩
          rw [hg] at hwXa hrow0 hBw
          have HGR := Lib.hid hg
          have HROW0 := Lib.hid (own_base hrow0 hBw)
          have HWX := Lib.hid hwXa
          have HBG := Lib.hid hBw
          clear hwX hba hrow0 hwXa hBw hwk hg
          rw [HGR.out]
          go_loopw [83] (fun iv wl => ∃ (s : Nat) (S' : St) (row : List Int) (nv wv : Value) (nr ws : List Value), iv = .int .i64 (s : Int) ∧ s ≤ D.k ∧ Hid (rowTo D.k D.N D.t D.stop i S s = .go S' row) ∧ Hid (WalkAt wl D S' nv wv nr ws (fun b => b = g)) ∧
            wl.ownsRow D.B 3 1 (.slice (some ⟨g, 0, none⟩) D.k D.k) D.k ((row ++ List.replicate (D.k - s) 0).map (Value.int .i64))) (fun iv _ => D.k - (intOf iv).toNat)
          case atStart => exact ⟨0, S, [], _, _, _, _, rfl, Nat.zero_le _, Lib.hid rfl, HWX, by simpa using HROW0.out⟩
          case round =>
            clear HROW0 HWX
            obtain ⟨s, S', row, nv, wv, nr, ws, rfl, hs, hrt, hwk, hrow⟩ := hrel
            obtain ⟨hinv', hrl, hil2, hwl⟩ := row_inv hN0 hrd.out hinv.out hil hs hrt.out
            by_cases hsk : s < D.k
            · have hsk' : (s : Int) < (D.k : Int) := by omega
              have hglt : g < wr.heap.size := (hrow.lt g rfl).2
              have hgB := (hrow.lt g rfl).1
              have HSC := Lib.hid (step_c hwk.out HOK.out (HE.out.below hwk.out.old) hinv' (fun b hb => by rw [hb]; exact hglt) hil2 hsk hwl)
              have HROW := Lib.hid hrow
              clear hinv' hwl hrow
              go_wp2_with fail
              refine (HSC.out).mono ?_
              rintro e w7 hpost
              clear HSC
              rcases step_sym hwk.out hpost row with ⟨S2, x, wv2, ws2, hsy, rfl, hwk7, hk7⟩ | ⟨x, b, hsy, rfl, hf7, hb7⟩ | ⟨b, hsy, rfl, he7, hb7⟩
              · have hrow7 := hwk.out.keeps_int HROW.out hk7
                have hcell : w7.cell? ⟨g, s, none⟩ = some (.int .i64 0) := by
                  rw [hrow7.cellAt s (by simp; omega), List.getElem?_map, List.getElem?_append_right (by omega), hrl, Nat.sub_self, List.getElem?_replicate, if_pos (by omega)]; rfl
                have hfr := hrow7.frozenAt s
                have hst := (hrow7.stored s (.int .i64 x)).1
                rw [← List.map_set, fill_next hrl hsk] at hst
                have HWK := Lib.hid (hwk7.keeps (Keeps.of_setCell w7 ⟨g, s, none⟩ (.int .i64 x)) (fun b hb => ⟨hb, by rw [show b = g from hb]; exact hgB, by rw [show b = g from hb]; exact own_block hrow7 rfl⟩))
                have HRT := Lib.hid ((rowTo_succ hrt.out).trans hsy)
                clear hpost hsy hwk7 hk7 hrow7 HROW
                go_wp2_with fail
                exact ⟨⟨s + 1, S2, row ++ [x], _, _, _, _, by go_num, by omega, HRT, HWK, hst⟩, by simp [intOf]; omega⟩
              · have hrow7 := own_below HROW.out hb7
                have hcell : w7.cell? ⟨g, s, none⟩ = some (.int .i64 0) := by
                  rw [hrow7.cellAt s (by simp; omega), List.getElem?_map, List.getElem?_append_right (by omega), hrl, Nat.sub_self, List.getElem?_replicate, if_pos (by omega)]; rfl
                have hfr := hrow7.frozenAt s
                have HF7 := Lib.hid (hf7.set (s := s) (u := .int .i64 0) hglt hwk.out.old.size)
                have HBE := Lib.hid ((hwk.out.old.trans (hb7.mono hwk.out.old.size)).setCell (p := ⟨g, s, none⟩) hgB (.int .i64 0))
                have HFE := Lib.hid (fin_end (.inl ⟨x, rfl⟩) hrd.out hil (by omega) hsk hrt.out hsy)
                clear hpost hsy hf7 hb7 hrow7 HROW
                unfold foundV
                go_wp2_with fail
                go_ret
                exact AllPost.orph HNN.out HFE.out HF7.out HBE.out
              · have hrow7 := own_below HROW.out hb7
                have hcell : w7.cell? ⟨g, s, none⟩ = some (.int .i64 0) := by
                  rw [hrow7.cellAt s (by simp; omega), List.getElem?_map, List.getElem?_append_right (by omega), hrl, Nat.sub_self, List.getElem?_replicate, if_pos (by omega)]; rfl
                have hfr := hrow7.frozenAt s
                obtain ⟨gcs, hgcs⟩ := own_block hrow7 rfl
                have HF7 := Lib.hid (ErrIs.keeps' (Keeps.of_setCell w7 ⟨g, s, none⟩ (.int .i64 0)) (fun k cs hk e => by
                  rw [show k = g from hk, hgcs] at e
                  injection e with e
                  injection e with _ e
                  exact absurd e (by decide)) he7)
                have HBE := Lib.hid ((hwk.out.old.trans (hb7.mono hwk.out.old.size)).setCell (p := ⟨g, s, none⟩) hgB (.int .i64 0))
                have HFE := Lib.hid (fin_end (.inr rfl) hrd.out hil (by omega) hsk hrt.out hsy)
                clear hpost hsy he7 hb7 hrow7 HROW hgcs
                unfold errV
                go_wp2_with fail
                go_ret
                exact AllPost.full HNN.out HFE.out HF7.out HBE.out
            · have hsk' : ¬ (s : Int) < (D.k : Int) := by omega
              have hsD : s = D.k := by omega
              have hrt2 : rowTo D.k D.N D.t D.stop i S D.k = .go S' row := by have h := hrt.out; rw [hsD] at h; exact h
              have hrow2 : wr.ownsRow D.B 3 1 (.slice (some ⟨g, 0, none⟩) D.k D.k) row.length (row.map (Value.int .i64)) := by
                rw [hsD, Nat.sub_self, List.replicate_zero, List.append_nil] at hrow
                rw [hrl, hsD]
                exact hrow
              have HRS := Lib.hid (round_succ hrd.out hil hrt2)
              have hI2 : Inv D.N (i + 1) ⟨S'.sets, S'.words, S'.next ++ [row]⟩ := ⟨hinv'.len, hinv'.ok, hinv'.some, hinv'.nd, hinv'.big, by simp [hinv'.next], by show i + 1 ≤ S'.sets.length; omega⟩
              have HI2 := Lib.hid hI2
              have hbig2 := hinv'.big
              have hnl : S'.next.length = i := hinv'.next
              have hnx := hwk.out.nx.lst
              rw [hnl] at hnx
              obtain ⟨c0, c1, c2, c3, c4, c5, c6, f4, f5⟩ := hwk.out.facts
              have HROW := Lib.hid hrow2
              have HNL := Lib.hid hnl
              have hBw : D.B ≤ wr.heap.size := hwk.out.old.size
              obtain ⟨NA, nc, rfl, hnc, hnm⟩ := own_slice hnx
              have hm1 : i + 1 ≤ maxLen := by simp only [maxLen]; omega
              have hm2 : (i + 1) * 24 ≤ 140737488355328 := by omega
              have HPRE := Lib.hid (fun (w9 : World) (hk : Keeps (fun b => (Value.slice NA i nc).ownBlock = some b) wr w9) => hwk.out.nexted_pre hk)
              clear hinv' hwl hrow hrow2 hI2 hnl hsD hrt2
              go_wp2_with (at_builtin; refine wpList_push rfl _ _ _ rfl tIntss hnx rfl _ 0 rfl rfl rfl hm1 hm2 hBw ?_; intro g2 cap2 w9 hown9 hg9 hat9 hlt9; obtain ⟨d4, e4, z9⟩ := HPRE.out w9 (Keeps.of_grown hg9))
              have hg9' : ∀ g', (Value.slice (some ⟨g2, 0, none⟩) (i + 1) cap2).ownBlock = some g' → (Value.slice NA i nc).ownBlock = some g' ∨ wr.heap.size ≤ g' := fun g' h => by
                have e : g2 = g' := by simpa [Value.ownBlock] using h
                subst e
                exact hat9.imp id (fun h => Nat.le_of_lt h)
              have HWE := Lib.hid ((hwk.out.mono (X' := fun _ => False) (fun _ hf => hf.elim)).nexted HROW.out (fun _ _ hf => hf) (fun g' hg' u hu => by
                have e : g = g' := by simpa [Value.ownBlock] using hg'
                subst e
                exact hwk.out.nx.not_X rfl u hu) (by rw [HNL.out]; exact hown9) (Keeps.of_grown hg9) hg9')
              clear hown9 hg9 hat9 hlt9 hg9' HPRE
              exact ⟨⟨i + 1, _, _, _, _, _, by go_num, by omega, HRS, HI2, HWE⟩, by simp [intOf]; omega⟩
        · have hil' : ¬ (i : Int) < (S.sets.length : Int) := by omega
          have HFG := Lib.hid (fin_go hrd.out (by omega) (by omega))
          go_wp2_with fail
          go_ret
          exact AllPost.go HNN.out HFG.out hwk.out
end Go.Proofs.YtlajiblhnkognaaDoor
