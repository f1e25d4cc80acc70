/- The walk over the subsets: (*subset.walk).all. Condition: the rule reads from memory; the error variables hold what E says. errors.Is of an error that is another: false; errors.Unwrap of a Fault; errors.As at an *api.Fault that misses nothing. Condition: the errors' own memory. The walk's error as subset tells it: subset.told; the walk of what is no small rule. Condition: the error variables hold what E says. The automaton of the subsets: subset.Walk. Condition: the rule's table reads from memory; the error variables hold what E says. errors.As at a *subset.found: the hit, and the miss. After the kit's worked proof of errors.As at a concrete target. Condition: the variable that As reads, the target's cell. errors.As at a *subset.found, along Faults: false. Condition: the error reads from memory. Whether every word has a preimage: subset.Onto. Condition: the rule's table reads from memory; the error variables hold what E says. -/
import Derived.LaidEql
import Derived.Stop.Asserts
import Derived.RowKitTokens
import Derived.Test.YtibplgpolmplpaaGreatDoorX2
import Derived.Test.YtibplgpolmplpaaGreatDoorX7
import Derived.Test.YtibplgpolmplpaaGreatDoorX11
import Derived.Test.YtibplgpolmplpaaGreatDoorX20
namespace Go.Proofs.YtibplgpolmplpaaGreatDoor
open Go.RowKit BagP RuleP SubP

/-- A walk not begun. -/
def Walk0 (w : World) (wb : Nat) (K R : Int) (A : Option Addr) (n c : Nat) (stop : Bool) : Prop :=
  w.heap[wb]? = some (.cells #[.int .i64 K, .int .i64 R, .slice A n c, .pointer none, .slice none 0 0, .slice none 0 0, .bool stop] 68 (0, 0))
/-- What all leaves, told by what the walk comes to. -/
def OutPost (w0 : World) (k r : Nat) (t : List Nat) (TA : Option Addr) (tc wb : Nat) (stop : Bool) (E : Nat → Addr) (e : Ending) (w' : World) : Out → Prop
  | .go S _ => ∃ (bp nv wv : Value) (nr ws : List Value), e = .returned .nilIface ∧ WalkAt w' ⟨w0, k, r, t, TA, tc, wb, bp, stop⟩ S nv wv nr ws (fun _ => False)
  | .orphan x => ∃ b, e = .returned (foundV b) ∧ FoundAt w' w0.heap.size b x ∧ Below w0.heap.size w0 w'
  | .over => ∃ b, e = .returned (errV b) ∧ ErrIs w' E 4 [(sBag, 0)] (errV b) ∧ Below w0.heap.size w0 w'
def AllPost (w0 : World) (k r : Nat) (t : List Nat) (TA : Option Addr) (tc wb : Nat) (stop : Bool) (E : Nat → Addr) (e : Ending) (w' : World) : Prop :=
  OutPost w0 k r t TA tc wb stop E e w' (fin k (k ^ (2 * r)) t stop)

theorem FoundAt.set {w : World} {B B' b g s : Nat} {x : List Nat} {u : Value} (h : FoundAt w B b x) (hg : g < B) (hB : B' ≤ B) : FoundAt (w.setCell ⟨g, s, none⟩ u) B' b x := by
  obtain ⟨xv, h1, h2, h3⟩ := h
  refine ⟨xv, (Below.heap_setCell _ _ _ _ (by simp; omega)).trans h1, own_base (own_keeps h2 (Keeps.of_setCell _ _ _) (fun g' hg' e => by
    have e' : g' = g := e
    have := (h2.lt g' hg').1
    omega)) hB, by omega⟩
/-- What a step leaves, told by the walk. -/
theorem step_sym {w w' : World} {D : WalkP} {S : St} {E : Nat → Addr} {i s : Nat} {nv wv : Value} {nr ws : List Value} {X : Nat → Prop} {e : Ending} (h : WalkAt w D S nv wv nr ws X) (hp : StepPost w D S E i s nv wv nr ws X e w') (row : List Int) :
    (∃ S' x wv' ws', sym D.k D.N D.t D.stop i S row s = .go S' (row ++ [x]) ∧ e = .returned (.tuple #[.int .i64 x, .nilIface]) ∧ WalkAt w' D S' nv wv' nr ws' X ∧ Keeps (WalkAt.Foot w D nv wv) w w') ∨
    (∃ x b, sym D.k D.N D.t D.stop i S row s = .orphan x ∧ e = .returned (.tuple #[.int .i64 0, foundV b]) ∧ FoundAt w' w.heap.size b x ∧ Below w.heap.size w w') ∨
    (∃ b, sym D.k D.N D.t D.stop i S row s = .over ∧ e = .returned (.tuple #[.int .i64 0, errV b]) ∧ ErrIs w' E 4 [(sBag, 0)] (errV b) ∧ Below w.heap.size w w') := by
  obtain ⟨p1, p2, p3, p4, p5⟩ := hp
  by_cases hn : nodesOf (beh D.k D.N D.t (S.sets.getD i []) s) = []
  · cases hs : D.stop
    · obtain ⟨a, b⟩ := p1 hn hs
      exact .inl ⟨S, -1, wv, ws, sym_none hn rfl, a, h.pure b, Keeps.of_pure b _⟩
    · obtain ⟨b, h1, h2, h3⟩ := p2 hn hs
      exact .inr (.inl ⟨_, b, sym_orph hn rfl, h1, h2, h3⟩)
  · by_cases hm : beh D.k D.N D.t (S.sets.getD i []) s ∈ S.sets
    · obtain ⟨a, b⟩ := p3 hn hm
      exact .inl ⟨S, _, wv, ws, sym_old hn hm, a, h.pure b, Keeps.of_pure b _⟩
    · rcases Nat.lt_or_ge S.sets.length 4096 with hl | hl
      · obtain ⟨wv', ws', a, b, c⟩ := p5 hn hm hl
        exact .inl ⟨_, _, wv', ws', sym_new hn hm hl, a, b, c⟩
      · obtain ⟨b, h1, h2, h3⟩ := p4 hn hm hl
        exact .inr (.inr ⟨b, sym_full hn hm hl, h1, h2, h3⟩)
variable {w : World} {E : Nat → Addr}
theorem AllPost.go {w0 w' : World} {k r N : Nat} {t : List Nat} {TA : Option Addr} {tc wb : Nat} {stop : Bool} {S : St} {row : List Int} {bp nv wv : Value} {nr ws : List Value} (hN : k ^ (2 * r) = N) (hf : fin k N t stop = .go S row)
    (hw : WalkAt w' ⟨w0, k, r, t, TA, tc, wb, bp, stop⟩ S nv wv nr ws (fun _ => False)) : AllPost w0 k r t TA tc wb stop E (.returned .nilIface) w' := by
  show OutPost w0 k r t TA tc wb stop E _ w' (fin k (k ^ (2 * r)) t stop)
  rw [hN, hf]
  exact ⟨bp, nv, wv, nr, ws, rfl, hw⟩
theorem AllPost.orph {w0 w' : World} {k r N : Nat} {t : List Nat} {TA : Option Addr} {tc wb : Nat} {stop : Bool} {x : List Nat} {b : Nat} (hN : k ^ (2 * r) = N) (hf : fin k N t stop = .orphan x)
    (h1 : FoundAt w' w0.heap.size b x) (h2 : Below w0.heap.size w0 w') : AllPost w0 k r t TA tc wb stop E (.returned (foundV b)) w' := by
  show OutPost w0 k r t TA tc wb stop E _ w' (fin k (k ^ (2 * r)) t stop)
  rw [hN, hf]
  exact ⟨b, rfl, h1, h2⟩
theorem AllPost.full {w0 w' : World} {k r N : Nat} {t : List Nat} {TA : Option Addr} {tc wb : Nat} {stop : Bool} {b : Nat} (hN : k ^ (2 * r) = N) (hf : fin k N t stop = .over)
    (h1 : ErrIs w' E 4 [(sBag, 0)] (errV b)) (h2 : Below w0.heap.size w0 w') : AllPost w0 k r t TA tc wb stop E (.returned (errV b)) w' := by
  show OutPost w0 k r t TA tc wb stop E _ w' (fin k (k ^ (2 * r)) t stop)
  rw [hN, hf]
  exact ⟨b, rfl, h1, h2⟩

set_option maxRecDepth 100000 in
set_option maxHeartbeats 4000000 in
theorem all_c (w0 : World) (k r : Nat) (t : List Nat) (TA : Option Addr) (tc wb : Nat) (stop : Bool) (hw : Walk0 w wb (k : Int) (r : Int) TA t.length tc stop) (hr : IsRule k r t) (h256 : t.length ≤ 256) (hT : Sl w0 TA t.length ((ints t).map (Value.int .i64))) (hb : Below w0.heap.size w0 w) (hwb : w0.heap.size ≤ wb) (hE : Errs w0 E) :
    Calls Tryz.prog 31 #[.pointer (some ⟨wb, 0, none⟩)] w (AllPost w0 k r t TA tc wb stop E) := by
  have hE1 := hE.below hb
  have hT1 := hT.below hb
  have hwlt : wb < w.heap.size := (Array.getElem?_eq_some_iff.1 hw).1
  have hND := overNodes_c w E hE1 (k : Int) (r : Int) TA t.length tc (ints t) hT1 (by omega)
  rw [smallO_rule hr h256] at hND
  simp only [if_true] at hND
  have hnn : nodesN (k : Int) (r : Int) = k ^ (2 * r) := by simp [nodesN]
  rw [hnn] at hND
  have hk1 := hr.k1
  have hk4 := hr.k4
  have hN256 : k ^ (2 * r) ≤ 256 := by
    have h1 := (nodes_div hr).2
    exact Nat.le_trans (Nat.le_mul_of_pos_right _ hk1) (h1 ▸ h256)
  have hN0 : 0 < k ^ (2 * r) := Nat.pow_pos hk1
  obtain ⟨N, hN⟩ : ∃ N, k ^ (2 * r) = N := ⟨_, rfl⟩
  rw [hN] at hND hN256 hN0
  have HNN := Lib.hid hN
  have HND := Lib.hid hND
  unfold ruleV at HND
  have HW := Lib.hid hw
  have HR := Lib.hid hr
  have H256 := Lib.hid h256
  have HT := Lib.hid hT
  have HB := Lib.hid hb
  have HE := Lib.hid hE
  have HWB := Lib.hid hwb
  have HF := Lib.hid (fun (wz : World) (c0 c1 c2 c3 c4 c5 c6 : Value) (h : wz.heap[wb]? = some (.cells #[c0, c1, c2, c3, c4, c5, c6] 68 (0, 0))) =>
    (⟨by rw [cell_of_row wz wb _ _ _ _ h]; rfl, by rw [cell_of_row wz wb _ _ _ _ h]; rfl, by rw [cell_of_row wz wb _ _ _ _ h]; rfl, by rw [cell_of_row wz wb _ _ _ _ h]; rfl, by rw [cell_of_row wz wb _ _ _ _ h]; rfl, by rw [cell_of_row wz wb _ _ _ _ h]; rfl, by rw [cell_of_row wz wb _ _ _ _ h]; rfl, frozen_of_row _ _ 3 _ _ h, frozen_of_row _ _ 5 _ _ h⟩ :
      wz.cell? ⟨wb, 0, none⟩ = some c0 ∧ wz.cell? ⟨wb, 1, none⟩ = some c1 ∧ wz.cell? ⟨wb, 2, none⟩ = some c2 ∧ wz.cell? ⟨wb, 3, none⟩ = some c3 ∧ wz.cell? ⟨wb, 4, none⟩ = some c4 ∧ wz.cell? ⟨wb, 5, none⟩ = some c5 ∧ wz.cell? ⟨wb, 6, none⟩ = some c6 ∧ wz.frozen? ⟨wb, 3, none⟩ = false ∧ wz.frozen? ⟨wb, 5, none⟩ = false))
  obtain ⟨c0, c1, c2, c3, c4, c5, c6, f3, f5⟩ := HF.out w _ _ _ _ _ _ _ hw
  clear hND hnn hw hr h256 hT hb hE hwb hE1 hT1 hN
  go_enter Tryz.func31, Tryz.ntmps31
  go_wp2_with fail
  refine (HND.out).mono ?_
  rintro e w1 ⟨v, rfl, hv, hb1⟩
  obtain rfl : v = .nilIface := hv
  clear HND c0 c1 c2 c3 c4 c5 c6 f3 f5
  have hw1 : Walk0 w1 wb (k : Int) (r : Int) TA t.length tc stop := (hb1.block _ hwlt).trans HW.out
  go_wp2_with fail
  refine (newBag_c w1 N (by omega)).mono ?_
  rintro e w2 ⟨rfl, hbag2, hb2⟩
  have hw2 : Walk0 w2 wb (k : Int) (r : Int) TA t.length tc stop := (hb2.block _ (Nat.lt_of_lt_of_le hwlt hb1.size)).trans hw1
  obtain ⟨c0, c1, c2, c3, c4, c5, c6, f3, f5⟩ := HF.out w2 _ _ _ _ _ _ _ hw2
  have hmk := run_make_row' (P := Tryz.prog) 22 3 (.int .i64 0) 8 tInts.und tInts.info rfl .i64 .i64 N (by omega) (by omega)
  obtain ⟨bp, hbp⟩ : ∃ bp, Value.pointer (some ⟨w1.heap.size + 1, 0, none⟩) = bp := ⟨_, rfl⟩
  have hbA := HB.out.trans (hb1.mono HB.out.size)
  have hbB := hbA.trans (hb2.mono hbA.size)
  have hbC := hbB.setCell (p := ⟨wb, 3, none⟩) HWB.out bp
  have hbag2 := hbag2.bt (B := w0.heap.size) (fun b hb => Nat.le_trans hbA.size hb)
  have hsc := Keeps.of_setCell w2 ⟨wb, 3, none⟩ bp
  rw [hbp] at hbag2
  have hbag3 := hbag2.keeps hsc (fun b hb h => by
    rw [show b = wb from hb] at h
    exact notBT_blk hw2 (by decide) h.1)
  have hw3 : (w2.setCell ⟨wb, 3, none⟩ bp).heap[wb]? = some (.cells #[.int .i64 (k : Int), .int .i64 (r : Int), .slice TA t.length tc, bp, .slice none 0 0, .slice none 0 0, .bool stop] 68 (0, 0)) := heap_setCell_same w2 wb 3 _ _ bp hw2
  obtain ⟨w3, hw3e⟩ : ∃ w3, w2.setCell ⟨wb, 3, none⟩ bp = w3 := ⟨_, rfl⟩
  have HW3 := Lib.hid hw3e
  have HBP := Lib.hid hbp
  rw [hw3e] at hbC hbag3 hw3
  have hmk3 := hmk w3
  rw [← hw3e, ← hbp] at hmk3
  clear hw3e hsc hbag2 hw1 hw2 hb1 hb2 hbA hbB hmk hbp c0 c1 c2 c4 c5 c6
  have hown0 := make_row_ints w3 N (by simp only [maxLen]; omega)
  have hz3 : w3.heap.size = w2.heap.size := by rw [← HW3.out]; simp
  rw [hz3] at hown0
  have hbb3 : Below w2.heap.size w3 (w3.alloc (.cells (madeCells #[.int .i64 0] N) 3)) := (Below.refl _ _).alloc (by omega) _
  have HOW0 := Lib.hid hown0
  have HBB3 := Lib.hid hbb3
  have HZ3 := Lib.hid hz3
  clear hz3 hbb3
  have HBT3 := Lib.hid hbag3
  have HC3 := Lib.hid hbC
  have HH3 := Lib.hid hw3
  have hlr : (ints (List.range N)).length = N := by rw [ints_len, List.length_range]
  have HLR := Lib.hid hlr
  clear hown0 hbag3 hbC hw3 hlr
  go_wp2_with fail
  clear hmk3 c3 f3 f5
  go_loopw [41] (fun iv wl => ∃ q : Nat, q ≤ N ∧ iv = .int .i64 (q : Int) ∧ wl.ownsRow w2.heap.size 3 1 (.slice (some ⟨w2.heap.size, 0, none⟩) N N) N ((fillTo (ints (List.range N)) N 0 q).map (Value.int .i64)) ∧ Hid (Below w2.heap.size w3 wl)) (fun iv _ => N - (intOf iv).toNat)
  case atStart => exact ⟨0, Nat.zero_le _, rfl, by rw [fillTo_zero, List.map_replicate, HBP.out, HW3.out]; exact HOW0.out, by rw [HBP.out, HW3.out]; exact HBB3⟩
  case round =>
    obtain ⟨q, hq, rfl, hown, hb3⟩ := hrel
    by_cases hlt : q < N
    · have hlen : ((fillTo (ints (List.range N)) N 0 q).map (Value.int .i64)).length = N := by rw [List.length_map, fillTo_len hq HLR.out]
      have hcell : wr.cell? ⟨w2.heap.size, q, none⟩ = some (.int .i64 0) := by
        rw [hown.cellAt q (by omega), List.getElem?_map, fillTo_at' hlt (by rw [HLR.out]; omega)]; rfl
      have hfr := hown.frozenAt q
      have hst := (hown.stored q (.int .i64 (q : Int))).1
      rw [← List.map_set, fillTo_set hlt (by unfold ints; rw [List.getElem?_map, List.getElem?_range hlt]; rfl)] at hst
      have HB4 := Lib.hid (hb3.out.setCell (p := ⟨w2.heap.size, q, none⟩) (Nat.le_refl _) (.int .i64 (q : Int)))
      clear hlen hown hb3
      go_wp2_with fail
      exact ⟨⟨q + 1, by omega, by go_num, hst, HB4⟩, by simp [intOf]; omega⟩
    · have hqN : q = N := by omega
      rw [hqN] at hown
      have hlt' : ¬ (q : Int) < (N : Int) := by omega
      clear hqN
      rw [fillTo_all _ HLR.out] at hown
      have hb3' : Below w3.heap.size w3 wr := by rw [HZ3.out]; exact hb3.out
      have hb4 := HC3.out.trans (hb3'.mono HC3.out.size)
      have hbag4 := HBT3.out.below hb3'
      have hw4 : wr.heap[wb]? = some (.cells #[.int .i64 (k : Int), .int .i64 (r : Int), .slice TA t.length tc, bp, .slice none 0 0, .slice none 0 0, .bool stop] 68 (0, 0)) := (hb3'.block _ (Array.getElem?_eq_some_iff.1 HH3.out).1).trans HH3.out
      have hPT := putT_c hbag4 hb4.size (some ⟨w2.heap.size, 0, none⟩) N N (ints (List.range N)) (by omega) (Sl.of_own hown) (ints_range (fun v hv => List.mem_range.1 hv)) (.inr (by simp))
      have hbits : bitsOf N (ints (List.range N)) = wordsOf N (List.replicate N true) := bits_same (fun v hv => List.mem_range.1 hv) (nodes_range (by simp)) (fun v => by rw [mem_all, List.mem_range])
      rw [addS_new (by simp), List.nil_append, decide_eq_false (by simp), hbits, show List.idxOf (wordsOf N (List.replicate N true)) [wordsOf N (List.replicate N true)] = 0 by simp] at hPT
      simp only [Bool.not_false] at hPT
      obtain ⟨c0, c1, c2, c3, c4, c5, c6, f3, f5⟩ := HF.out wr _ _ _ _ _ _ _ hw4
      have HPT := Lib.hid hPT
      have HB4 := Lib.hid hb4
      have HW4 := Lib.hid hw4
      clear hPT hbits hb3' hb4 hw4 hbag4 hown hb3 HBT3 HC3 HH3 HBB3 HOW0 HLR
      go_wp2_with fail
      refine (HPT.out).mono ?_
      rintro e w5 ⟨rfl, hbag5, hk5⟩
      clear HPT c0 c1 c2 c3 c4 c5 c6 f3 f5
      have hb5 := HB4.out.trans (hk5.below HB4.out.size (fun _ h => h.2))
      have hw5 : w5.heap[wb]? = some (.cells #[.int .i64 (k : Int), .int .i64 (r : Int), .slice TA t.length tc, bp, .slice none 0 0, .slice none 0 0, .bool stop] 68 (0, 0)) := (hk5.block _ (Array.getElem?_eq_some_iff.1 HW4.out).1 (fun h => notBT_blk HW4.out (by decide) h.1)).trans HW4.out
      have hba := (Below.refl w5.heap.size w5).alloc (Nat.le_refl _) (.cells #[.slice none 0 0] 22)
      have hwA : (w5.alloc (.cells #[.slice none 0 0] 22)).heap[wb]? = some (.cells #[.int .i64 (k : Int), .int .i64 (r : Int), .slice TA t.length tc, bp, .slice none 0 0, .slice none 0 0, .bool stop] 68 (0, 0)) := (hba.block _ (Array.getElem?_eq_some_iff.1 hw5).1).trans hw5
      have hlit := World.ownsRow_lit (base := w5.heap.size) (e := 22) (size := 1) w5 #[.slice none 0 0] 1 (Nat.le_refl _) (by decide) rfl
      have hD0 : WalkAt ((w5.alloc (.cells #[.slice none 0 0] 22)).setCell ⟨wb, 5, none⟩ (.slice (some ⟨w5.heap.size, 0, none⟩) 1 1)) ⟨w0, k, r, t, TA, tc, wb, bp, stop⟩ (init N) (.slice none 0 0) (.slice (some ⟨w5.heap.size, 0, none⟩) 1 1) [] [.slice none 0 0] (fun _ => False) :=
        WalkAt.setW (D := ⟨w0, k, r, t, TA, tc, wb, bp, stop⟩) (S := init N) (nv := .slice none 0 0) (wv := .slice (some ⟨w5.heap.size, 0, none⟩) 1 1) (nr := []) (wr := [.slice none 0 0]) hwA rfl (hb5.trans (hba.mono hb5.size)) HWB.out (by rw [show WalkP.N ⟨w0, k, r, t, TA, tc, wb, bp, stop⟩ = N from HNN.out]; exact hbag5.below hba) (RowsAt.nil _ _ _)
          (RowsAt.mk' (own_base hlit hb5.size) (fun j l hj => by
            match j, hj with
            | 0, hj =>
              simp [init, ints] at hj
              subst hj
              exact ⟨.slice none 0 0, rfl, World.ownsRow_nil _ _ _ _, fun g hg => by simp [Value.ownBlock] at hg⟩
            | j + 1, hj => simp [init] at hj) (fun i j v v' g hij hi hj hg => by
            match i, hi with
            | 0, hi => simp at hi; subst hi; simp [Value.ownBlock] at hg
            | i + 1, hi => simp at hi)) (fun g hg => by simp [Value.ownBlock] at hg)
      obtain ⟨c0, c1, c2, c3, c4, c5, c6, f3, f5⟩ := HF.out _ _ _ _ _ _ _ _ hwA
      have HD0 := Lib.hid hD0
      clear hD0 hlit hwA hba hw5 hb5 hk5 hbag5 HB4 HW4
      go_wp2_with fail
      obtain ⟨D, rfl, rfl, rfl, rfl, rfl, rfl, rfl, rfl, rfl⟩ : ∃ D : WalkP, D.w0 = w0 ∧ D.k = k ∧ D.r = r ∧ D.t = t ∧ D.TA = TA ∧ D.tc = tc ∧ D.wb = wb ∧ D.bp = bp ∧ D.stop = stop := ⟨⟨w0, k, r, t, TA, tc, wb, bp, stop⟩, rfl, rfl, rfl, rfl, rfl, rfl, rfl, rfl, rfl⟩
      have HOK : Hid (WalkOk D) := Lib.hid ⟨HR.out, H256.out, HT.out⟩
      have hDN : D.N = N := HNN.out
      subst hDN
      clear c0 c1 c2 c3 c4 c5 c6 f3 f5
      have hmk := run_make_row' (P := Tryz.prog) 22 3 (.int .i64 0) 8 tInts.und tInts.info rfl .i64 .i64 D.k (by omega) (by omega)
      go_loopw [10] (fun iv wl => ∃ (i : Nat) (S : St) (nv wv : Value) (nr ws : List Value), iv = .int .i64 (i : Int) ∧ i ≤ 4096 ∧ Hid (roundTo D.k D.N D.t D.stop i = .go S []) ∧ Hid (Inv D.N i S) ∧ Hid (WalkAt wl D S nv wv nr ws (fun _ => False))) (fun iv _ => 4097 - (intOf iv).toNat)
      case atStart => exact ⟨0, init D.N, _, _, _, _, rfl, by decide, Lib.hid rfl, Lib.hid (Inv.init hN0), Lib.hid HD0.out⟩
      case round =>
        obtain ⟨i, S, nv, wv, nr, ws, rfl, hi4, hrd, hinv, hwk⟩ := hrel
        clear HD0
        obtain ⟨c0, c1, c2, c3, c4, c5, c6, f4, f5⟩ := hwk.out.facts
        have HLEN := Lib.hid (Len_c hwk.out.bag)
        have hbig := hinv.out.big
        have hle := hinv.out.le
        have hsl : (S.sets.map (wordsOf D.N)).length = S.sets.length := List.length_map ..
        rw [hsl] at HLEN
        clear hsl
        go_wp2_with fail
        refine (HLEN.out).mono ?_
        rintro e w6 ⟨rfl, rfl⟩
        clear HLEN
        by_cases hil : i < S.sets.length
        · have hil' : (i : Int) < (S.sets.length : Int) := by omega
          have hmk6 := hmk wr
          go_wp2_with fail
          clear c0 c1 c2 c3 c4 c5 c6 f4 f5 hmk6
          have hwX := hwk.out.mono (X' := fun b => b = wr.heap.size) (fun b hb => .inr (by rw [hb]; exact Nat.le_refl _))
          have hba := (Below.refl wr.heap.size wr).alloc (Nat.le_refl _) (.cells (madeCells #[.int .i64 0] D.k) 3)
          have hrow0 := make_row_ints wr D.k (by simp only [maxLen]; omega)
          have hwXa := hwX.pure hba
          have hBw : D.B ≤ wr.heap.size := hwk.out.old.size
          obtain ⟨g, hg⟩ : ∃ g, wr.heap.size = g := ⟨_, rfl⟩
          rw [hg] at hwXa hrow0 hBw
          have HGR := Lib.hid hg
          have HROW0 := Lib.hid (own_base hrow0 hBw)
          have HWX := Lib.hid hwXa
          have HBG := Lib.hid hBw
          clear hwX hba hrow0 hwXa hBw hwk hg
          rw [HGR.out]
          go_loopw [83] (fun iv wl => ∃ (s : Nat) (S' : St) (row : List Int) (nv wv : Value) (nr ws : List Value), iv = .int .i64 (s : Int) ∧ s ≤ D.k ∧ Hid (rowTo D.k D.N D.t D.stop i S s = .go S' row) ∧ Hid (WalkAt wl D S' nv wv nr ws (fun b => b = g)) ∧
            wl.ownsRow D.B 3 1 (.slice (some ⟨g, 0, none⟩) D.k D.k) D.k ((row ++ List.replicate (D.k - s) 0).map (Value.int .i64))) (fun iv _ => D.k - (intOf iv).toNat)
          case atStart => exact ⟨0, S, [], _, _, _, _, rfl, Nat.zero_le _, Lib.hid rfl, HWX, by simpa using HROW0.out⟩
          case round =>
            clear HROW0 HWX
            obtain ⟨s, S', row, nv, wv, nr, ws, rfl, hs, hrt, hwk, hrow⟩ := hrel
            obtain ⟨hinv', hrl, hil2, hwl⟩ := row_inv hN0 hrd.out hinv.out hil hs hrt.out
            by_cases hsk : s < D.k
            · have hsk' : (s : Int) < (D.k : Int) := by omega
              have hglt : g < wr.heap.size := (hrow.lt g rfl).2
              have hgB := (hrow.lt g rfl).1
              have HSC := Lib.hid (step_c hwk.out HOK.out (HE.out.below hwk.out.old) hinv' (fun b hb => by rw [hb]; exact hglt) hil2 hsk hwl)
              have HROW := Lib.hid hrow
              clear hinv' hwl hrow
              go_wp2_with fail
              refine (HSC.out).mono ?_
              rintro e w7 hpost
              clear HSC
              rcases step_sym hwk.out hpost row with ⟨S2, x, wv2, ws2, hsy, rfl, hwk7, hk7⟩ | ⟨x, b, hsy, rfl, hf7, hb7⟩ | ⟨b, hsy, rfl, he7, hb7⟩
              · have hrow7 := hwk.out.keeps_int HROW.out hk7
                have hcell : w7.cell? ⟨g, s, none⟩ = some (.int .i64 0) := by
                  rw [hrow7.cellAt s (by simp; omega), List.getElem?_map, List.getElem?_append_right (by omega), hrl, Nat.sub_self, List.getElem?_replicate, if_pos (by omega)]; rfl
                have hfr := hrow7.frozenAt s
                have hst := (hrow7.stored s (.int .i64 x)).1
                rw [← List.map_set, fill_next hrl hsk] at hst
                have HWK := Lib.hid (hwk7.keeps (Keeps.of_setCell w7 ⟨g, s, none⟩ (.int .i64 x)) (fun b hb => ⟨hb, by rw [show b = g from hb]; exact hgB, by rw [show b = g from hb]; exact own_block hrow7 rfl⟩))
                have HRT := Lib.hid ((rowTo_succ hrt.out).trans hsy)
                clear hpost hsy hwk7 hk7 hrow7 HROW
                go_wp2_with fail
                exact ⟨⟨s + 1, S2, row ++ [x], _, _, _, _, by go_num, by omega, HRT, HWK, hst⟩, by simp [intOf]; omega⟩
              · have hrow7 := own_below HROW.out hb7
                have hcell : w7.cell? ⟨g, s, none⟩ = some (.int .i64 0) := by
                  rw [hrow7.cellAt s (by simp; omega), List.getElem?_map, List.getElem?_append_right (by omega), hrl, Nat.sub_self, List.getElem?_replicate, if_pos (by omega)]; rfl
                have hfr := hrow7.frozenAt s
                have HF7 := Lib.hid (hf7.set (s := s) (u := .int .i64 0) hglt hwk.out.old.size)
                have HBE := Lib.hid ((hwk.out.old.trans (hb7.mono hwk.out.old.size)).setCell (p := ⟨g, s, none⟩) hgB (.int .i64 0))
                have HFE := Lib.hid (fin_end (.inl ⟨x, rfl⟩) hrd.out hil (by omega) hsk hrt.out hsy)
                clear hpost hsy hf7 hb7 hrow7 HROW
                unfold foundV
                go_wp2_with fail
                go_ret
                exact AllPost.orph HNN.out HFE.out HF7.out HBE.out
              · have hrow7 := own_below HROW.out hb7
                have hcell : w7.cell? ⟨g, s, none⟩ = some (.int .i64 0) := by
                  rw [hrow7.cellAt s (by simp; omega), List.getElem?_map, List.getElem?_append_right (by omega), hrl, Nat.sub_self, List.getElem?_replicate, if_pos (by omega)]; rfl
                have hfr := hrow7.frozenAt s
                obtain ⟨gcs, hgcs⟩ := own_block hrow7 rfl
                have HF7 := Lib.hid (ErrIs.keeps' (Keeps.of_setCell w7 ⟨g, s, none⟩ (.int .i64 0)) (fun k cs hk e => by
                  rw [show k = g from hk, hgcs] at e
                  injection e with e
                  injection e with _ e
                  exact absurd e (by decide)) he7)
                have HBE := Lib.hid ((hwk.out.old.trans (hb7.mono hwk.out.old.size)).setCell (p := ⟨g, s, none⟩) hgB (.int .i64 0))
                have HFE := Lib.hid (fin_end (.inr rfl) hrd.out hil (by omega) hsk hrt.out hsy)
                clear hpost hsy he7 hb7 hrow7 HROW hgcs
                unfold errV
                go_wp2_with fail
                go_ret
                exact AllPost.full HNN.out HFE.out HF7.out HBE.out
            · have hsk' : ¬ (s : Int) < (D.k : Int) := by omega
              have hsD : s = D.k := by omega
              have hrt2 : rowTo D.k D.N D.t D.stop i S D.k = .go S' row := by have h := hrt.out; rw [hsD] at h; exact h
              have hrow2 : wr.ownsRow D.B 3 1 (.slice (some ⟨g, 0, none⟩) D.k D.k) row.length (row.map (Value.int .i64)) := by
                rw [hsD, Nat.sub_self, List.replicate_zero, List.append_nil] at hrow
                rw [hrl, hsD]
                exact hrow
              have HRS := Lib.hid (round_succ hrd.out hil hrt2)
              have hI2 : Inv D.N (i + 1) ⟨S'.sets, S'.words, S'.next ++ [row]⟩ := ⟨hinv'.len, hinv'.ok, hinv'.some, hinv'.nd, hinv'.big, by simp [hinv'.next], by show i + 1 ≤ S'.sets.length; omega⟩
              have HI2 := Lib.hid hI2
              have hbig2 := hinv'.big
              have hnl : S'.next.length = i := hinv'.next
              have hnx := hwk.out.nx.lst
              rw [hnl] at hnx
              obtain ⟨c0, c1, c2, c3, c4, c5, c6, f4, f5⟩ := hwk.out.facts
              have HROW := Lib.hid hrow2
              have HNL := Lib.hid hnl
              have hBw : D.B ≤ wr.heap.size := hwk.out.old.size
              obtain ⟨NA, nc, rfl, hnc, hnm⟩ := own_slice hnx
              have hm1 : i + 1 ≤ maxLen := by simp only [maxLen]; omega
              have hm2 : (i + 1) * 24 ≤ 140737488355328 := by omega
              have HPRE := Lib.hid (fun (w9 : World) (hk : Keeps (fun b => (Value.slice NA i nc).ownBlock = some b) wr w9) => hwk.out.nexted_pre hk)
              clear hinv' hwl hrow hrow2 hI2 hnl hsD hrt2
              go_wp2_with (at_builtin; refine wpList_push rfl _ _ _ rfl tIntss hnx rfl _ 0 rfl rfl rfl hm1 hm2 hBw ?_; intro g2 cap2 w9 hown9 hg9 hat9 hlt9; obtain ⟨d4, e4, z9⟩ := HPRE.out w9 (Keeps.of_grown hg9))
              have hg9' : ∀ g', (Value.slice (some ⟨g2, 0, none⟩) (i + 1) cap2).ownBlock = some g' → (Value.slice NA i nc).ownBlock = some g' ∨ wr.heap.size ≤ g' := fun g' h => by
                have e : g2 = g' := by simpa [Value.ownBlock] using h
                subst e
                exact hat9.imp id (fun h => Nat.le_of_lt h)
              have HWE := Lib.hid ((hwk.out.mono (X' := fun _ => False) (fun _ hf => hf.elim)).nexted HROW.out (fun _ _ hf => hf) (fun g' hg' u hu => by
                have e : g = g' := by simpa [Value.ownBlock] using hg'
                subst e
                exact hwk.out.nx.not_X rfl u hu) (by rw [HNL.out]; exact hown9) (Keeps.of_grown hg9) hg9')
              clear hown9 hg9 hat9 hlt9 hg9' HPRE
              exact ⟨⟨i + 1, _, _, _, _, _, by go_num, by omega, HRS, HI2, HWE⟩, by simp [intOf]; omega⟩
        · have hil' : ¬ (i : Int) < (S.sets.length : Int) := by omega
          have HFG := Lib.hid (fin_go hrd.out (by omega) (by omega))
          go_wp2_with fail
          go_ret
          exact AllPost.go HNN.out HFG.out hwk.out
end Go.Proofs.YtibplgpolmplpaaGreatDoor

namespace Go.Proofs.YtibplgpolmplpaaGreatDoor
open Go.RowKit Go.Extern.Stop Go.Stop Go.Extern

theorem noUnwrapE (v : Value) (xT : TypeId) (w : World) : (Instr.typeAssert (.iface 219 v) xT 143 true).run Tryz.prog w = .ok (.tuple #[.nilIface, .bool false]) w := run_typeAssert_lacksB Tryz.underlying143 (by kernel_rfl) (by kernel_rfl) v xT w
theorem noUnwrapsE (v : Value) (xT : TypeId) (w : World) : (Instr.typeAssert (.iface 219 v) xT 144 true).run Tryz.prog w = .ok (.tuple #[.nilIface, .bool false]) w := run_typeAssert_lacksB Tryz.underlying144 (by kernel_rfl) (by kernel_rfl) v xT w

set_option maxRecDepth 1000000 in
theorem is_chain_no (w : World) (E : Nat → Addr) (n m : Nat) (l : List (ByteArray × Int)) (v : Value) (h : ErrIs w E n l v) (hne : E n ≠ E m) {c1 c2 : Array Value} {t1 t2 : TypeId} (h1 : w.heap[(E n).block]? = some (.cells c1 t1 (0, 0))) (h2 : w.heap[(E m).block]? = some (.cells c2 t2 (0, 0))) :
    Calls Tryz.prog 37 #[v, .iface 219 (.pointer (some (E m))), .bool true] w fun e w' => e = .returned (.bool false) ∧ w = w' := by
  obtain ⟨i, hi, hcmp⟩ := Option.map_eq_some_iff.1 is_comp
  obtain ⟨j, hj, hjs⟩ := Option.map_eq_some_iff.1 is_size
  have hjz : j.size ≠ 0 := by rw [hjs]; decide
  have heq := run_eql_iface_ptr_other (P := Tryz.prog) (w := w) Tryz.underlying27 Tryz.underlying219 hi hcmp hj hjz hne h1 h2
  have nE := noIsE
  have nF := noIsF
  have uF := hasUnwrapF
  have uE := noUnwrapE
  have sE := noUnwrapsE
  have mU := methodUnwrapF
  clear h1 h2 hne hi hcmp hj hjs hjz
  go_enter Tryz.func37, Tryz.ntmps37
  go_wp2
  go_loopw [0] (fun v wl => wl = w ∧ ∃ l, ErrIs w E n l v) (fun v _ => errLen w E n v)
  case atStart => exact ⟨rfl, l, h⟩
  case round =>
    clear h
    obtain ⟨rfl, l, h⟩ := hrel
    cases l with
    | nil =>
      obtain rfl := h
      go_wp2
      go_ret
      exact ⟨rfl, rfl⟩
    | cons x l =>
      obtain ⟨op, at'⟩ := x
      have hlen0 := errLen_eq h
      obtain ⟨b, v', rfl, hb, h1⟩ := h
      have hlen := errLen_eq h1
      obtain ⟨u1, p1, rfl⟩ := h1.iface
      have hty := run_eql_iface_types (P := Tryz.prog) 131 219 (.pointer (some ⟨b, 0, none⟩)) (.pointer (some (E m))) Tryz.underlying27 (by decide) wr
      have hcell := (blk_cells hb).2.2.1
      have H1 := Lib.hid h1
      have HL := Lib.hid hlen
      have HL0 := Lib.hid hlen0
      clear h1 hb hlen hlen0
      unfold errV at *
      go_wp2
      exact ⟨⟨trivial, l, H1.out⟩, by show errLen wr E n (.iface u1 p1) < _; rw [HL.out, HL0.out]; simp⟩

set_option maxRecDepth 1000000 in
theorem errorsIsNo_c (w : World) (E : Nat → Addr) (n m : Nat) (l : List (ByteArray × Int)) (v : Value) (h : ErrIs w E n l v) (hne : E n ≠ E m) {c1 c2 : Array Value} {t1 t2 : TypeId} (h1 : w.heap[(E n).block]? = some (.cells c1 t1 (0, 0))) (h2 : w.heap[(E m).block]? = some (.cells c2 t2 (0, 0))) :
    Calls Tryz.prog 12 #[v, .iface 219 (.pointer (some (E m)))] w fun e w' => e = .returned (.bool false) ∧ w = w' := by
  have HC := Lib.hid (is_chain_no w E n m l v h hne h1 h2)
  obtain ⟨u1, p1, rfl⟩ := h.iface
  have tO := is_typeOf
  have mC := methodComparable
  have iC := is_comparable
  have hT := @run_callFunc_extern Tryz.prog 36 _ ReflectliteType.typeOf Tryz.func36 (by kernel_rfl) (by kernel_rfl) (by kernel_rfl) (by kernel_rfl)
  have hC := @run_callFunc_extern Tryz.prog 181 _ (ReflectliteType.method fun t => do Rtype.noPackHeld "Comparable" t; pure (.bool (← typeInfo t).comparable)) Tryz.func181 (by kernel_rfl) (by kernel_rfl) (by kernel_rfl) (by kernel_rfl)
  clear h h1 h2 hne
  go_enter Tryz.func12, Tryz.ntmps12
  go_wp2_with (go_at_call 37; refine (HC.out).mono ?_; rintro e w' ⟨rfl, rfl⟩)
  go_ret
  exact ⟨rfl, rfl⟩

/-- errors.Is, whatever the error's number. -/
theorem errorsIs_b (w : World) (E : Nat → Addr) (hA : Apart12 E) (hB : ErrBlk w E) (n m : Nat) (hn : 1 ≤ n ∧ n ≤ 11) (hm : 1 ≤ m ∧ m ≤ 11) (l : List (ByteArray × Int)) (v : Value) (h : ErrIs w E n l v) :
    Calls Tryz.prog 12 #[v, .iface 219 (.pointer (some (E m)))] w fun e w' => e = .returned (.bool (decide (n = m))) ∧ w = w' := by
  by_cases e : n = m
  · subst e
    rw [decide_eq_true rfl]
    exact errorsIs_c w E n l v h
  · rw [decide_eq_false e]
    obtain ⟨c1, t1, h1⟩ := hB n (.inl hn)
    obtain ⟨c2, t2, h2⟩ := hB m (.inl hm)
    exact errorsIsNo_c w E n m l v h (fun h => e (hA n m (.inl hn) (.inl hm) h)) h1 h2

end Go.Proofs.YtibplgpolmplpaaGreatDoor

namespace Go.Proofs.YtibplgpolmplpaaGreatDoor
open Go.RowKit BagP RuleP SubP

/-- Of the bag's limit: subset's own. -/
def toldT (op : ByteArray) (n : Nat) (l : List (ByteArray × Int)) : List (ByteArray × Int) := if n = 4 ∧ op = sBag then [(sSubset, 0)] else l

theorem op_same : (sBag.toList == [98, 97, 103]) = true := by rw [ByteArray.toList_eq]; rfl
theorem op_other {op : ByteArray} (h : op ≠ sBag) : (op.toList == [98, 97, 103]) = false := by
  rw [Bool.eq_false_iff]
  intro e
  have e := eq_of_beq e
  rw [ByteArray.toList_eq] at e
  refine h ?_
  obtain ⟨⟨l⟩⟩ := op
  simp only at e
  subst e
  rfl
theorem told_end {w w3 : World} {E : Nat → Addr} {n : Nat} {op : ByteArray} {i : Int} {l : List (ByteArray × Int)} {v : Value} (h : ErrIs w E n ((op, i) :: l) v) (hb : Below w.heap.size w w3) (hn : ¬ (n = 4 ∧ op = sBag)) :
    ErrIs w3 E n (toldT op n ((op, i) :: l)) v := by
  unfold toldT
  rw [if_neg hn]
  exact h.below hb

/-- errors.As finds a Fault at once. -/
theorem as_fault (w : World) (b g : Nat) (old : Value) {T : TypeId} (hT : ErrT w) (hg : w.heap[g]? = some (.cells #[old] T (0, 0))) :
    Calls Tryz.prog 32 #[errV b, .iface 132 (.pointer (some ⟨g, 0, none⟩))] w fun e w' => e = .returned (.bool true) ∧ Below g w w' ∧ w'.heap[g]? = some (.cells #[.pointer (some ⟨b, 0, none⟩)] T (0, 0)) := by
  have hlt : g < w.heap.size := (Array.getElem?_eq_some_iff.1 hg).1
  refine (as_hit ⟨b, 0, none⟩ ⟨g, 0, none⟩ old w hT (by rw [cell_of_row w g _ _ _ _ hg]; rfl) (frozen_of_row _ _ 0 _ _ hg)).mono ?_
  rintro e w' ⟨rfl, rfl⟩
  obtain ⟨w4, hw4⟩ : ∃ w4, (((w.alloc (.cells #[.pointer (some ⟨g, 0, none⟩)] 132)).alloc (.cells #[.pointer (some ⟨13, 132, none⟩), .pointer (some ⟨w.heap.size, 0, none⟩), .int .u64 150] 124)).alloc (.cells #[.pointer (some ⟨13, 132, none⟩), .pointer (some ⟨w.heap.size, 0, none⟩), .int .u64 150] 124)).alloc (.cells #[.pointer (some ⟨b, 0, none⟩)] 131) = w4 := ⟨_, rfl⟩
  have hb4 : Below w.heap.size w w4 := by
    rw [← hw4]
    exact ((((Below.refl _ _).alloc (Nat.le_refl _) _).alloc (by simp) _).alloc (by simp; omega) _).alloc (by simp; omega) _
  rw [hw4]
  have hg4 := (hb4.block g hlt).trans hg
  exact ⟨rfl, (hb4.mono (Nat.le_of_lt hlt)).setCell (p := ⟨g, 0, none⟩) (Nat.le_refl _) _, heap_setCell_same w4 g 0 _ _ _ hg4⟩

set_option maxRecDepth 100000 in
set_option maxHeartbeats 2000000 in
theorem told_c (w : World) (E : Nat → Addr) (hE : Errs w E) (hT : ErrT w) (hA : Apart12 E) (hB : ErrBlk w E) (n : Nat) (h1 : 1 ≤ n) (h2 : n ≤ 11) (op : ByteArray) (i : Int) (l : List (ByteArray × Int)) (v : Value) (h : ErrIs w E n ((op, i) :: l) v) :
    Calls Tryz.prog 33 #[v] w fun e w' => ∃ v', e = .returned v' ∧ ErrIs w' E n (toldT op n ((op, i) :: l)) v' ∧ Below w.heap.size w w' := by
  have HIS := Lib.hid (errorsIs_b w E hA hB n 4 ⟨h1, h2⟩ (by decide) _ _ h)
  have e4 := hE.e4
  have HH := Lib.hid h
  have HE := Lib.hid (fun (wz : World) (hz : Below w.heap.size w wz) => hE.below hz)
  obtain ⟨b, v', rfl, hb, _⟩ := h
  have hbl : b < w.heap.size := (Array.getElem?_eq_some_iff.1 hb).1
  by_cases h4 : n = 4
  · rw [decide_eq_true h4] at HIS
    have hb0 := (Below.refl w.heap.size w).alloc (Nat.le_refl _) (.cells #[.pointer none] 131)
    have hT0 : ErrT (w.alloc (.cells #[.pointer none] 131)) := hT.below hb0
    have HAS := Lib.hid ((as_fault (w.alloc (.cells #[.pointer none] 131)) b w.heap.size (.pointer none) hT0 (heap_new _ _)).mono fun e w' (h : _ ∧ _ ∧ _) =>
      (⟨h.1, ((Below.refl w.heap.size w).alloc (Nat.le_refl _) _).trans h.2.1, by rw [cell_of_row w' w.heap.size _ _ _ _ h.2.2]; rfl⟩ : e = .returned (.bool true) ∧ Below w.heap.size w w' ∧ w'.cell? ⟨w.heap.size, 0, none⟩ = some (.pointer (some ⟨b, 0, none⟩))))
    have HC := Lib.hid (fun (w3 : World) (hz : Below w.heap.size w w3) => cell_later hz (blk_cells hb).1)
    have HB0 := Lib.hid hb0
    by_cases hop : op = sBag
    · subst hop
      have HN := Lib.hid h4
      have hsm := op_same
      clear hE hT hA hB hb hT0 hb0 h4
      unfold errV at *
      go_enter Tryz.func33, Tryz.ntmps33
      go_wp2_with fail
      refine (HIS.out).mono ?_
      rintro e w2 ⟨rfl, rfl⟩
      go_wp2_with fail
      refine (HAS.out).mono ?_
      rintro e w3 ⟨rfl, hb3, ht3⟩
      have hc3 := HC.out w3 hb3
      have HN3 := Lib.hid (new_c w3 E (HE.out w3 hb3) sSubset 0 4 (by decide) (by decide))
      go_wp2_with fail
      refine (HN3.out).mono ?_
      rintro e w4 ⟨rfl, rfl⟩
      go_wp2_with fail
      go_ret
      refine ⟨_, rfl, ?_, hb3.alloc hb3.size _⟩
      unfold toldT
      rw [if_pos ⟨HN.out, rfl⟩, HN.out]
      exact ⟨w3.heap.size, _, rfl, heap_new _ _, rfl⟩
    · have hne := op_other hop
      have HOP := Lib.hid hop
      clear hE hT hA hB hb hT0 hb0 h4 hop
      unfold errV at *
      go_enter Tryz.func33, Tryz.ntmps33
      go_wp2_with fail
      refine (HIS.out).mono ?_
      rintro e w2 ⟨rfl, rfl⟩
      go_wp2_with fail
      refine (HAS.out).mono ?_
      rintro e w3 ⟨rfl, hb3, ht3⟩
      have hc3 := HC.out w3 hb3
      go_wp2_with fail
      go_ret
      exact ⟨_, rfl, told_end HH.out hb3 (fun h => HOP.out h.2), hb3⟩
  · rw [decide_eq_false h4] at HIS
    have HN := Lib.hid h4
    clear hE hT hA hB hb h4
    unfold errV at *
    go_enter Tryz.func33, Tryz.ntmps33
    go_wp2_with fail
    refine (HIS.out).mono ?_
    rintro e w2 ⟨rfl, rfl⟩
    go_wp2_with fail
    go_ret
    exact ⟨_, rfl, told_end HH.out (Below.refl _ _) (fun h => HN.out h.1), Below.refl _ _⟩
end Go.Proofs.YtibplgpolmplpaaGreatDoor

namespace Go.Proofs.YtibplgpolmplpaaGreatDoor
open Go.RowKit BagP RuleP SubP

/-- The block holds an automaton. -/
def AutoAt (w : World) (g : Nat) (x0 x1 : Value) : Prop := w.heap[g]? = some (.cells #[x0, x1] 33 (0, 0))
theorem AutoAt.facts {w : World} {g : Nat} {x0 x1 : Value} (h : AutoAt w g x0 x1) : w.cell? ⟨g, 0, none⟩ = some x0 ∧ w.cell? ⟨g, 1, none⟩ = some x1 ∧ w.frozen? ⟨g, 0, none⟩ = false ∧ w.frozen? ⟨g, 1, none⟩ = false :=
  ⟨by rw [cell_of_row w g _ _ _ _ h]; rfl, by rw [cell_of_row w g _ _ _ _ h]; rfl, frozen_of_row _ _ 0 _ _ h, frozen_of_row _ _ 1 _ _ h⟩
theorem AutoAt.below {w w' : World} {g B : Nat} {x0 x1 : Value} (h : AutoAt w g x0 x1) (hb : Below B w w') (hg : g < B) : AutoAt w' g x0 x1 := (hb.block g hg).trans h

end Go.Proofs.YtibplgpolmplpaaGreatDoor

namespace Go.Proofs.YtibplgpolmplpaaGreatDoor
open Go.RowKit Go.Extern.Stop Go.Stop Go.Extern

/-! ### CLOSED FACTS ON THE MODEL's ENTRIES FOR internal/reflectlite, at this program's types: 25: *p.E · 27: **p.E · 23: error · 45: reflectlite's rtype · 1: how many package-level variables the dump has -/
theorem AsF.valueOf27 (t : Addr) (w : World) : (ReflectliteValue.unpack (.iface 72 (.pointer (some t)))).run Tryz.prog w
    = .ok (.agg #[.pointer (some ⟨13, 72, none⟩), .pointer (some ⟨w.heap.size, 0, none⟩), .int .u64 150]) (w.alloc (.cells #[.pointer (some t)] 72)) := by kernel_rfl
theorem AsF.type27 (a : Addr) (w : World) : (ReflectliteValue.methodAny (ReflectliteValue.valueError "reflectlite.Value.Type" 0) (fun t _ _ _ => ReflectliteType.toType t) #[.agg #[.pointer (some ⟨13, 72, none⟩), .pointer (some a), .int .u64 150]]).run Tryz.prog w
    = .ok (.iface 138 (.agg #[.pointer (some ⟨13, 72, none⟩)])) w := by kernel_rfl
theorem AsF.methodKind (h : Value) (w : World) : (Go.method 351 138 (.agg #[h]) "Kind").run Tryz.prog w = .ok (170, h) w := by kernel_rfl
theorem AsF.kind27 (w : World) : ((ReflectliteType.abiMethod fun t => (fun a : Nat => Value.int IntKind.u8 (a : Int)) <$> Rtype.kind t) #[.pointer (some ⟨13, 72, none⟩)]).run Tryz.prog w = .ok (.int .u8 22) w := by kernel_rfl
theorem AsF.kind25 (w : World) : ((ReflectliteType.abiMethod fun t => (fun a : Nat => Value.int IntKind.u8 (a : Int)) <$> Rtype.kind t) #[.pointer (some ⟨13, 70, none⟩)]).run Tryz.prog w = .ok (.int .u8 22) w := by kernel_rfl

/-! ### THE ENTRIES THAT READ OR WRITE MEMORY: laws with a premise on the cell (after Derived/Lib/ReflectliteSlice.lean's manner: each unfolding a lemma of its own, by rfl) -/
theorem AsF.parts27 (a : Addr) (w : World) : (ReflectliteValue.parts (.agg #[.pointer (some ⟨13, 72, none⟩), .pointer (some a), .int .u64 150])).run Tryz.prog w = .ok (some (72, a, 150)) w := by kernel_rfl
/-- (Value).IsNil at the Value of a **p.E that is not nil. -/
theorem AsF.isNil27 (a p : Addr) (W : World) (ha : W.cell? a = some (.pointer (some p))) :
    (ReflectliteValue.method (ReflectliteValue.valueError "reflectlite.Value.IsNil" 0) ReflectliteValue.isNil #[.agg #[.pointer (some ⟨13, 72, none⟩), .pointer (some a), .int .u64 150]]).run Tryz.prog W = .ok (.bool false) W := by
  rw [rlm]
  simp only [Sem.run_bind, AsF.parts27, Result.andThen]
  simp [ReflectliteValue.isNil, loadVar, isAgg, underlying, Tryz.underlying72, ha, Result.andThen]

theorem AsF.methodElem (h : Value) (w : World) : (Go.method 351 138 (.agg #[h]) "Elem").run Tryz.prog w = .ok (182, .agg #[h]) w := by kernel_rfl
theorem AsF.methodImplements (h : Value) (w : World) : (Go.method 351 138 (.agg #[h]) "Implements").run Tryz.prog w = .ok (183, .agg #[h]) w := by kernel_rfl
theorem AsF.methodAssignableTo (h : Value) (w : World) : (Go.method 351 138 (.agg #[h]) "AssignableTo").run Tryz.prog w = .ok (180, .agg #[h]) w := by kernel_rfl
theorem AsF.elem27 (w : World) : (ReflectliteType.method ReflectliteType.elem #[.agg #[.pointer (some ⟨13, 72, none⟩)]]).run Tryz.prog w = .ok (.iface 138 (.agg #[.pointer (some ⟨13, 70, none⟩)])) w := by kernel_rfl
theorem AsF.implements25 (w : World) : (ReflectliteType.relation "Implements" ReflectliteType.implements_ #[.agg #[.pointer (some ⟨13, 70, none⟩)], .iface 138 (.agg #[.pointer (some ⟨13, 27, none⟩)])]).run Tryz.prog w = .ok (.bool true) w := by kernel_rfl
theorem AsF.typeOf25 (v : Value) (w : World) : (ReflectliteType.typeOf #[.iface 70 v]).run Tryz.prog w = .ok (.iface 138 (.agg #[.pointer (some ⟨13, 70, none⟩)])) w := by kernel_rfl
theorem AsF.assignable25 (w : World) : (ReflectliteType.relation "AssignableTo" ReflectliteType.assignableTo #[.agg #[.pointer (some ⟨13, 70, none⟩)], .iface 138 (.agg #[.pointer (some ⟨13, 70, none⟩)])]).run Tryz.prog w = .ok (.bool true) w := by kernel_rfl
theorem AsF.valueOf25 (e : Addr) (w : World) : (ReflectliteValue.unpack (.iface 70 (.pointer (some e)))).run Tryz.prog w
    = .ok (.agg #[.pointer (some ⟨13, 70, none⟩), .pointer (some ⟨w.heap.size, 0, none⟩), .int .u64 150]) (w.alloc (.cells #[.pointer (some e)] 70)) := by kernel_rfl

theorem AsF.elemOf27 (w : World) : (Rtype.elem? 72).run Tryz.prog w = .ok (some 70) w := by kernel_rfl
theorem AsF.mk25 (p : Addr) (w : World) : (ReflectliteValue.mk 70 p ReflectliteValue.flagAddr).run Tryz.prog w = .ok (.agg #[.pointer (some ⟨13, 70, none⟩), .pointer (some p), .int .u64 406]) w := by kernel_rfl
/-- (Value).Elem at the Value of a **p.E that is not nil: the Value of the *p.E variable that it points to, addressable. -/
theorem AsF.elemV27 (a p : Addr) (W : World) (ha : W.cell? a = some (.pointer (some p))) :
    (ReflectliteValue.method (ReflectliteValue.valueError "reflectlite.Value.Elem" 0) ReflectliteValue.elem #[.agg #[.pointer (some ⟨13, 72, none⟩), .pointer (some a), .int .u64 150]]).run Tryz.prog W
      = .ok (.agg #[.pointer (some ⟨13, 70, none⟩), .pointer (some p), .int .u64 406]) W := by
  rw [rlm]
  simp only [Sem.run_bind, AsF.parts27, Result.andThen]
  simp [ReflectliteValue.elem, loadVar, isAgg, underlying, Tryz.underlying72, ha, Result.andThen, AsF.elemOf27, AsF.mk25]
theorem AsF.parts25a (a : Addr) (w : World) : (ReflectliteValue.parts (.agg #[.pointer (some ⟨13, 70, none⟩), .pointer (some a), .int .u64 406])).run Tryz.prog w = .ok (some (70, a, 406)) w := by kernel_rfl
theorem AsF.parts25 (a : Addr) (w : World) : (ReflectliteValue.parts (.agg #[.pointer (some ⟨13, 70, none⟩), .pointer (some a), .int .u64 150])).run Tryz.prog w = .ok (some (70, a, 150)) w := by kernel_rfl
theorem AsF.direct25 (w : World) : (Rtype.directlyAssignable 70 70).run Tryz.prog w = .ok true w := by kernel_rfl
/-- (Value).Set: the *p.E variable at 'ta' gets what the Value's own variable 'b' holds. -/
theorem AsF.set25 (ta b e : Addr) (old : Value) (W : World) (hb : W.cell? b = some (.pointer (some e))) (ht : W.cell? ta = some old) (hf : W.frozen? ta = false) :
    (ReflectliteValue.set #[.agg #[.pointer (some ⟨13, 70, none⟩), .pointer (some ta), .int .u64 406], .agg #[.pointer (some ⟨13, 70, none⟩), .pointer (some b), .int .u64 150]]).run Tryz.prog W
      = .ok (.tuple #[]) (W.setCell ta (.pointer (some e))) := by
  rw [rls]
  simp only [Sem.run_bind, AsF.parts25a, AsF.parts25, Result.andThen]
  simp [ReflectliteValue.flagAddr, loadVar, isAgg, underlying, Tryz.underlying70, hb, Result.andThen, AsF.direct25, storeVar, Value.cells, storeCells, Addr.add]
  rw [run_store Tryz.prog W ta _ _ (by rfl)]
  simp [ht, hf]

set_option maxHeartbeats 4000000 in
theorem asF_hit (e t : Addr) (old : Value) (w : World) (hg : w.cell? ⟨1, 0, none⟩ = some (.iface 138 (.agg #[.pointer (some ⟨13, 27, none⟩)]))) (ht0 : w.cell? t = some old) (hf0 : w.frozen? t = false) :
    Calls Tryz.prog 32 #[.iface 70 (.pointer (some e)), .iface 72 (.pointer (some t))] w fun ev w' => ev = .returned (.bool true) ∧ w' = ((((w.alloc (.cells #[.pointer (some t)] 72)).alloc (.cells #[.pointer (some ⟨13, 72, none⟩), .pointer (some ⟨w.heap.size, 0, none⟩), .int .u64 150] 124)).alloc (.cells #[.pointer (some ⟨13, 72, none⟩), .pointer (some ⟨w.heap.size, 0, none⟩), .int .u64 150] 124)).alloc (.cells #[.pointer (some e)] 70)).setCell t (.pointer (some e)) := by
  have h6 := @run_callFunc_extern Tryz.prog 81 _ (fun args => ReflectliteValue.unpack (args.getD 0 (.tuple #[]))) Tryz.func81 (by kernel_rfl) (by kernel_rfl) (by kernel_rfl) (by kernel_rfl)
  have h7 := @run_callFunc_extern Tryz.prog 82 _ (ReflectliteValue.methodAny (ReflectliteValue.valueError "reflectlite.Value.Type" 0) (fun t _ _ _ => ReflectliteType.toType t)) Tryz.func82 (by kernel_rfl) (by kernel_rfl) (by kernel_rfl) (by kernel_rfl)
  have h8 := @run_callFunc_extern Tryz.prog 83 _ (ReflectliteValue.method (ReflectliteValue.valueError "reflectlite.Value.IsNil" 0) ReflectliteValue.isNil) Tryz.func83 (by kernel_rfl) (by kernel_rfl) (by kernel_rfl) (by kernel_rfl)
  have h27 := @run_callFunc_extern Tryz.prog 170 _ (ReflectliteType.abiMethod fun t => do pure (.int .u8 (← Rtype.kind t))) Tryz.func170 (by kernel_rfl) (by kernel_rfl) (by kernel_rfl) (by kernel_rfl)
  have h37 := @run_callFunc_extern Tryz.prog 182 _ (ReflectliteType.method ReflectliteType.elem) Tryz.func182 (by kernel_rfl) (by kernel_rfl) (by kernel_rfl) (by kernel_rfl)
  have h38 := @run_callFunc_extern Tryz.prog 183 _ (ReflectliteType.relation "Implements" ReflectliteType.implements_) Tryz.func183 (by kernel_rfl) (by kernel_rfl) (by kernel_rfl) (by kernel_rfl)
  have h10 := @run_callFunc_extern Tryz.prog 36 _ ReflectliteType.typeOf Tryz.func36 (by kernel_rfl) (by kernel_rfl) (by kernel_rfl) (by kernel_rfl)
  have h35 := @run_callFunc_extern Tryz.prog 180 _ (ReflectliteType.relation "AssignableTo" ReflectliteType.assignableTo) Tryz.func180 (by kernel_rfl) (by kernel_rfl) (by kernel_rfl) (by kernel_rfl)
  have h11 := @run_callFunc_extern Tryz.prog 119 _ (ReflectliteValue.method (ReflectliteValue.valueError "reflectlite.Value.Elem" 0) ReflectliteValue.elem) Tryz.func119 (by kernel_rfl) (by kernel_rfl) (by kernel_rfl) (by kernel_rfl)
  have h12 := @run_callFunc_extern Tryz.prog 120 _ ReflectliteValue.set Tryz.func120 (by kernel_rfl) (by kernel_rfl) (by kernel_rfl) (by kernel_rfl)
  have tO := AsF.typeOf25
  have mA := AsF.methodAssignableTo
  have a25 := AsF.assignable25
  have v25 := AsF.valueOf25
  have f6 := AsF.valueOf27
  have f7 := AsF.type27
  have mK := AsF.methodKind
  have mE := AsF.methodElem
  have mI := AsF.methodImplements
  have k27 := AsF.kind27
  have k25 := AsF.kind25
  have e27 := AsF.elem27
  have i25 := AsF.implements25
  have n8 := AsF.isNil27 ⟨w.heap.size, 0, none⟩ t ((w.alloc (.cells #[.pointer (some t)] 72)).alloc (.cells #[.pointer (some ⟨13, 72, none⟩), .pointer (some ⟨w.heap.size, 0, none⟩), .int .u64 150] 124)) (by simp)
  have hlt : 1 < w.heap.size := World.block_lt_of_cell? _ _ hg
  have hg2 : ((w.alloc (.cells #[.pointer (some t)] 72)).alloc (.cells #[.pointer (some ⟨13, 72, none⟩), .pointer (some ⟨w.heap.size, 0, none⟩), .int .u64 150] 124)).cell? ⟨1, 0, none⟩ = some (.iface 138 (.agg #[.pointer (some ⟨13, 27, none⟩)])) := by
    rw [World.cell?_alloc_lt _ _ ⟨1, 0, none⟩ (by simp <;> omega), World.cell?_alloc_lt _ _ ⟨1, 0, none⟩ hlt]; exact hg
  have htl : t.block < w.heap.size := by
    rcases Nat.lt_or_ge t.block w.heap.size with h | h
    · exact h
    · simp [World.cell?, Array.getElem?_eq_none h] at ht0
  have el := AsF.elemV27 ⟨w.heap.size, 0, none⟩ t (((w.alloc (.cells #[.pointer (some t)] 72)).alloc (.cells #[.pointer (some ⟨13, 72, none⟩), .pointer (some ⟨w.heap.size, 0, none⟩), .int .u64 150] 124)).alloc (.cells #[.pointer (some ⟨13, 72, none⟩), .pointer (some ⟨w.heap.size, 0, none⟩), .int .u64 150] 124)) (by rw [World.cell?_alloc_lt _ _ ⟨w.heap.size, 0, none⟩ (by simp; omega)]; simp)
  have st := AsF.set25 t ⟨w.heap.size + 1 + 1 + 1, 0, none⟩ e old ((((w.alloc (.cells #[.pointer (some t)] 72)).alloc (.cells #[.pointer (some ⟨13, 72, none⟩), .pointer (some ⟨w.heap.size, 0, none⟩), .int .u64 150] 124)).alloc (.cells #[.pointer (some ⟨13, 72, none⟩), .pointer (some ⟨w.heap.size, 0, none⟩), .int .u64 150] 124)).alloc (.cells #[.pointer (some e)] 70))
    (by rw [World.cell?_alloc_at _ _ _ _ (by simp)]; rfl)
    (by rw [World.cell?_alloc_lt _ _ t (by simp; omega), World.cell?_alloc_lt _ _ t (by simp; omega), World.cell?_alloc_lt _ _ t (by simp; omega), World.cell?_alloc_lt _ _ t htl]; exact ht0)
    (by rw [World.frozen?_alloc_old _ _ t (by simp; omega), World.frozen?_alloc_old _ _ t (by simp; omega), World.frozen?_alloc_old _ _ t (by simp; omega), World.frozen?_alloc_old _ _ t (Nat.ne_of_lt htl)]; exact hf0)
  go_enter Tryz.func32, Tryz.ntmps32
  go_wp2
  refine wp_loop_rounds 1 ?_
  rw [rounds_succ]
  go_wp2
  go_ret
  exact ⟨rfl, rfl⟩

end Go.Proofs.YtibplgpolmplpaaGreatDoor

namespace Go.Proofs.YtibplgpolmplpaaGreatDoor
open Go.RowKit Go.Extern.Stop Go.Stop Go.Extern

theorem AsF.typeOfFault (v : Value) (w : World) : (ReflectliteType.typeOf #[.iface 131 v]).run Tryz.prog w = .ok (.iface 138 (.agg #[.pointer (some ⟨13, 131, none⟩)])) w := by kernel_rfl
theorem AsF.notFault (w : World) : (ReflectliteType.relation "AssignableTo" ReflectliteType.assignableTo #[.agg #[.pointer (some ⟨13, 131, none⟩)], .iface 138 (.agg #[.pointer (some ⟨13, 70, none⟩)])]).run Tryz.prog w = .ok (.bool false) w := by kernel_rfl
theorem AsF.notString (w : World) : (ReflectliteType.relation "AssignableTo" ReflectliteType.assignableTo #[.agg #[.pointer (some ⟨13, 219, none⟩)], .iface 138 (.agg #[.pointer (some ⟨13, 70, none⟩)])]).run Tryz.prog w = .ok (.bool false) w := by kernel_rfl
theorem noAsE (v : Value) (xT : TypeId) (w : World) : (Instr.typeAssert (.iface 219 v) xT 181 true).run Tryz.prog w = .ok (.tuple #[.nilIface, .bool false]) w := run_typeAssert_lacksB Tryz.underlying181 (by kernel_rfl) (by kernel_rfl) v xT w
theorem noAsF (v : Value) (xT : TypeId) (w : World) : (Instr.typeAssert (.iface 131 v) xT 181 true).run Tryz.prog w = .ok (.tuple #[.nilIface, .bool false]) w := run_typeAssert_lacksB Tryz.underlying181 (by kernel_rfl) (by kernel_rfl) v xT w

set_option maxRecDepth 1000000 in
/-- Along Faults to an error variable's error: none is one. -/
theorem asF_chain (w : World) (E : Nat → Addr) (n : Nat) (l : List (ByteArray × Int)) (v t c0 c1 c2 : Value) (h : ErrIs w E n l v) :
    Calls Tryz.prog 84 #[v, t, .agg #[c0, c1, c2], .iface 138 (.agg #[.pointer (some ⟨13, 70, none⟩)])] w fun e w' => e = .returned (.bool false) ∧ Below w.heap.size w w' := by
  have h10 := @run_callFunc_extern Tryz.prog 36 _ ReflectliteType.typeOf Tryz.func36 (by kernel_rfl) (by kernel_rfl) (by kernel_rfl) (by kernel_rfl)
  have h35 := @run_callFunc_extern Tryz.prog 180 _ (ReflectliteType.relation "AssignableTo" ReflectliteType.assignableTo) Tryz.func180 (by kernel_rfl) (by kernel_rfl) (by kernel_rfl) (by kernel_rfl)
  have tF := AsF.typeOfFault
  have tE := is_typeOf
  have aF := AsF.notFault
  have aE := AsF.notString
  have mA := AsF.methodAssignableTo
  have nE := noAsE
  have nF := noAsF
  have uF := hasUnwrapF
  have uE := noUnwrapE
  have sE := noUnwrapsE
  have mU := methodUnwrapF
  go_enter Tryz.func84, Tryz.ntmps84
  go_wp2
  go_loopw [0] (fun v wl => Hid (Below w.heap.size w wl) ∧ ∃ l, ErrIs wl E n l v) (fun v wl => errLen wl E n v)
  case atStart => exact ⟨Lib.hid ((Below.refl _ _).alloc (Nat.le_refl _) _), l, h.below ((Below.refl _ _).alloc (Nat.le_refl _) _)⟩
  case round =>
    clear h
    obtain ⟨hbw, l, h⟩ := hrel
    cases l with
    | nil =>
      obtain rfl := h
      go_wp2
      go_ret
      exact ⟨rfl, hbw.out⟩
    | cons x l =>
      obtain ⟨op, at'⟩ := x
      have hlen0 := errLen_eq h
      obtain ⟨b, v', rfl, hb, h1⟩ := h
      have hlen := errLen_eq h1
      obtain ⟨u1, p1, rfl⟩ := h1.iface
      have hcell := (blk_cells hb).2.2.1
      have H1 := Lib.hid h1
      have HL := Lib.hid hlen
      have HL0 := Lib.hid hlen0
      clear h1 hb hlen hlen0
      unfold errV at *
      go_wp2
      exact ⟨⟨hbw, l, H1.out⟩, by show errLen wr E n (.iface u1 p1) < _; rw [HL.out, HL0.out]; simp⟩
set_option maxHeartbeats 4000000 in
theorem asF_miss (w : World) (E : Nat → Addr) (n : Nat) (l : List (ByteArray × Int)) (v : Value) (h : ErrIs w E n l v) (t : Addr) (hg : w.cell? ⟨1, 0, none⟩ = some (.iface 138 (.agg #[.pointer (some ⟨13, 27, none⟩)]))) :
    Calls Tryz.prog 32 #[v, .iface 72 (.pointer (some t))] w fun ev w' => ev = .returned (.bool false) ∧ Below w.heap.size w w' := by
  have h6 := @run_callFunc_extern Tryz.prog 81 _ (fun args => ReflectliteValue.unpack (args.getD 0 (.tuple #[]))) Tryz.func81 (by kernel_rfl) (by kernel_rfl) (by kernel_rfl) (by kernel_rfl)
  have h7 := @run_callFunc_extern Tryz.prog 82 _ (ReflectliteValue.methodAny (ReflectliteValue.valueError "reflectlite.Value.Type" 0) (fun t _ _ _ => ReflectliteType.toType t)) Tryz.func82 (by kernel_rfl) (by kernel_rfl) (by kernel_rfl) (by kernel_rfl)
  have h8 := @run_callFunc_extern Tryz.prog 83 _ (ReflectliteValue.method (ReflectliteValue.valueError "reflectlite.Value.IsNil" 0) ReflectliteValue.isNil) Tryz.func83 (by kernel_rfl) (by kernel_rfl) (by kernel_rfl) (by kernel_rfl)
  have h27 := @run_callFunc_extern Tryz.prog 170 _ (ReflectliteType.abiMethod fun t => do pure (.int .u8 (← Rtype.kind t))) Tryz.func170 (by kernel_rfl) (by kernel_rfl) (by kernel_rfl) (by kernel_rfl)
  have h37 := @run_callFunc_extern Tryz.prog 182 _ (ReflectliteType.method ReflectliteType.elem) Tryz.func182 (by kernel_rfl) (by kernel_rfl) (by kernel_rfl) (by kernel_rfl)
  have h38 := @run_callFunc_extern Tryz.prog 183 _ (ReflectliteType.relation "Implements" ReflectliteType.implements_) Tryz.func183 (by kernel_rfl) (by kernel_rfl) (by kernel_rfl) (by kernel_rfl)
  have h10 := @run_callFunc_extern Tryz.prog 36 _ ReflectliteType.typeOf Tryz.func36 (by kernel_rfl) (by kernel_rfl) (by kernel_rfl) (by kernel_rfl)
  have h35 := @run_callFunc_extern Tryz.prog 180 _ (ReflectliteType.relation "AssignableTo" ReflectliteType.assignableTo) Tryz.func180 (by kernel_rfl) (by kernel_rfl) (by kernel_rfl) (by kernel_rfl)
  have h11 := @run_callFunc_extern Tryz.prog 119 _ (ReflectliteValue.method (ReflectliteValue.valueError "reflectlite.Value.Elem" 0) ReflectliteValue.elem) Tryz.func119 (by kernel_rfl) (by kernel_rfl) (by kernel_rfl) (by kernel_rfl)
  have h12 := @run_callFunc_extern Tryz.prog 120 _ ReflectliteValue.set Tryz.func120 (by kernel_rfl) (by kernel_rfl) (by kernel_rfl) (by kernel_rfl)
  have tO := AsF.typeOf25
  have mA := AsF.methodAssignableTo
  have a25 := AsF.assignable25
  have v25 := AsF.valueOf25
  have f6 := AsF.valueOf27
  have f7 := AsF.type27
  have mK := AsF.methodKind
  have mE := AsF.methodElem
  have mI := AsF.methodImplements
  have k27 := AsF.kind27
  have k25 := AsF.kind25
  have e27 := AsF.elem27
  have i25 := AsF.implements25
  have n8 := AsF.isNil27 ⟨w.heap.size, 0, none⟩ t ((w.alloc (.cells #[.pointer (some t)] 72)).alloc (.cells #[.pointer (some ⟨13, 72, none⟩), .pointer (some ⟨w.heap.size, 0, none⟩), .int .u64 150] 124)) (by simp)
  have hlt : 1 < w.heap.size := World.block_lt_of_cell? _ _ hg
  have hg2 : ((w.alloc (.cells #[.pointer (some t)] 72)).alloc (.cells #[.pointer (some ⟨13, 72, none⟩), .pointer (some ⟨w.heap.size, 0, none⟩), .int .u64 150] 124)).cell? ⟨1, 0, none⟩ = some (.iface 138 (.agg #[.pointer (some ⟨13, 27, none⟩)])) := by
    rw [World.cell?_alloc_lt _ _ ⟨1, 0, none⟩ (by simp <;> omega), World.cell?_alloc_lt _ _ ⟨1, 0, none⟩ hlt]; exact hg
  obtain ⟨u1, p1, rfl⟩ := h.iface
  have hb2 := ((Below.refl w.heap.size w).alloc (Nat.le_refl _) (.cells #[.pointer (some t)] 72)).alloc (by simp) (.cells #[.pointer (some ⟨13, 72, none⟩), .pointer (some ⟨w.heap.size, 0, none⟩), .int .u64 150] 124)
  have HC := Lib.hid (fun t' => asF_chain _ E n l (.iface u1 p1) t' (.pointer (some ⟨13, 72, none⟩)) (.pointer (some ⟨w.heap.size, 0, none⟩)) (.int .u64 150) (h.below hb2))
  have HB2 := Lib.hid hb2
  clear h hb2
  go_enter Tryz.func32, Tryz.ntmps32
  go_wp2_with (go_at_call 84; refine (HC.out _).mono ?_; rintro e w' ⟨rfl, hb⟩)
  go_ret
  exact ⟨rfl, HB2.out.trans (hb.mono HB2.out.size)⟩
end Go.Proofs.YtibplgpolmplpaaGreatDoor

namespace Go.Proofs.YtibplgpolmplpaaGreatDoor
open Go.RowKit BagP RuleP SubP

/-- errors.As finds what was found at once. -/
theorem as_found (w : World) (b g : Nat) (old : Value) {T : TypeId} (hT : ErrT w) (hg : w.heap[g]? = some (.cells #[old] T (0, 0))) :
    Calls Tryz.prog 32 #[foundV b, .iface 72 (.pointer (some ⟨g, 0, none⟩))] w fun e w' => e = .returned (.bool true) ∧ Keeps (fun k => k = g) w w' ∧ w'.heap[g]? = some (.cells #[.pointer (some ⟨b, 0, none⟩)] T (0, 0)) := by
  have hlt : g < w.heap.size := (Array.getElem?_eq_some_iff.1 hg).1
  refine (asF_hit ⟨b, 0, none⟩ ⟨g, 0, none⟩ old w hT (by rw [cell_of_row w g _ _ _ _ hg]; rfl) (frozen_of_row _ _ 0 _ _ hg)).mono ?_
  rintro e w' ⟨rfl, rfl⟩
  obtain ⟨w4, hw4⟩ : ∃ w4, (((w.alloc (.cells #[.pointer (some ⟨g, 0, none⟩)] 72)).alloc (.cells #[.pointer (some ⟨13, 72, none⟩), .pointer (some ⟨w.heap.size, 0, none⟩), .int .u64 150] 124)).alloc (.cells #[.pointer (some ⟨13, 72, none⟩), .pointer (some ⟨w.heap.size, 0, none⟩), .int .u64 150] 124)).alloc (.cells #[.pointer (some ⟨b, 0, none⟩)] 70) = w4 := ⟨_, rfl⟩
  have hb4 : Below w.heap.size w w4 := by
    rw [← hw4]
    exact ((((Below.refl _ _).alloc (Nat.le_refl _) _).alloc (by simp) _).alloc (by simp; omega) _).alloc (by simp; omega) _
  rw [hw4]
  have hg4 := (hb4.block g hlt).trans hg
  exact ⟨rfl, (Keeps.of_pure hb4 _).trans (Keeps.of_setCell w4 ⟨g, 0, none⟩ _) (fun _ _ h => h), heap_setCell_same w4 g 0 _ _ _ hg4⟩

/-- What Onto of a small rule answers. -/
def OntoPost (w : World) (E : Nat → Addr) (k r : Nat) (t : List Nat) (e : Ending) (w' : World) : Prop :=
  (∀ S, fin k (k ^ (2 * r)) t true = .go S [] → e = .returned (.tuple #[.bool true, .slice none 0 0, .nilIface]) ∧ Below w.heap.size w w') ∧
  (∀ x, fin k (k ^ (2 * r)) t true = .orphan x → ∃ v, e = .returned (.tuple #[.bool false, v, .nilIface]) ∧ w'.ownsRow w.heap.size 3 1 v x.length ((ints x).map (Value.int .i64)) ∧ Below w.heap.size w w') ∧
  (fin k (k ^ (2 * r)) t true = .over → ∃ v, e = .returned (.tuple #[.bool false, .slice none 0 0, v]) ∧ ErrV w' E (some (4, [(sSubset, 0)])) v ∧ Below w.heap.size w w')

set_option maxRecDepth 100000 in
set_option maxHeartbeats 4000000 in
theorem onto_good (w : World) (E : Nat → Addr) (hE : Errs w E) (hEt : ErrT w) (hA : Apart12 E) (hB : ErrBlk w E) (k r : Nat) (A : Option Addr) (n c : Nat) (t : List Nat) (hT : Sl w A n ((ints t).map (Value.int .i64))) (hr : IsRule k r t) (h256 : t.length ≤ 256) :
    Calls Tryz.prog 9 #[ruleV (k : Int) (r : Int) A n c] w (OntoPost w E k r t) := by
  have hn : t.length = n := by simpa [ints] using hT.1
  subst hn
  have hb2 := (Below.refl w.heap.size w).alloc (Nat.le_refl _) (.cells #[.int .i64 (k : Int), .int .i64 (r : Int), .slice A t.length c] 24)
  obtain ⟨w2, hw2⟩ : ∃ w2, w.alloc (.cells #[.int .i64 (k : Int), .int .i64 (r : Int), .slice A t.length c] 24) = w2 := ⟨_, rfl⟩
  rw [hw2] at hb2
  have hz2 : w2.heap.size = w.heap.size + 1 := by rw [← hw2]; simp
  have hw0 : Walk0 (w2.alloc (.cells #[.int .i64 (k : Int), .int .i64 (r : Int), .slice A t.length c, .pointer none, .slice none 0 0, .slice none 0 0, .bool true] 68)) w2.heap.size (k : Int) (r : Int) A t.length c true := heap_new _ _
  have HAL := Lib.hid (all_c w2 k r t A c w2.heap.size true hw0 hr h256 (hT.below hb2) ((Below.refl _ _).alloc (Nat.le_refl _) _) (Nat.le_refl _) (hE.below hb2))
  have HN0 := Lib.hid (show 0 < k ^ (2 * r) from Nat.pow_pos hr.k1)
  have HER := Lib.hid (fun (wz : World) (hz : Below w.heap.size w wz) => (⟨hE.below hz, hEt.below hz, hB.below hz⟩ : _ ∧ _ ∧ _))
  have HB2 := Lib.hid hb2
  have HZ2 := Lib.hid hz2
  rw [hz2] at HAL
  have HW2 := Lib.hid hw2
  clear hb2 hw0 hE hEt hB hT hw2 hz2 hr h256
  unfold ruleV
  go_enter Tryz.func9, Tryz.ntmps9
  go_wp2_with fail
  rw [HW2.out]
  refine (HAL.out).mono ?_
  clear HAL
  rintro e w4 hp
  unfold AllPost at hp
  obtain ⟨o, ho⟩ : ∃ o, fin k (k ^ (2 * r)) t true = o := ⟨_, rfl⟩
  rw [ho] at hp
  have HO := Lib.hid ho
  cases o with
  | go S row =>
    clear ho
    obtain ⟨bp, nv, wv, nr, ws, rfl, hwk⟩ := hp
    have HB4 := Lib.hid (HB2.out.trans (Below.mono hwk.old (show w.heap.size ≤ w2.heap.size from HB2.out.size)))
    clear hwk
    go_wp2_with fail
    refine (as_nil _ _).mono ?_
    rintro e w5 ⟨rfl, rfl⟩
    go_wp2_with fail
    go_ret3
    refine ⟨fun S' _ => ⟨rfl, HB4.out.alloc HB4.out.size _⟩, fun x hx => ?_, fun hx => ?_⟩
    · rw [HO.out] at hx; cases hx
    · rw [HO.out] at hx; cases hx
  | orphan x =>
    clear ho
    obtain ⟨b, rfl, hf, hb4⟩ := hp
    obtain ⟨xv, hb0, hown, hble⟩ := hf
    have hba := (Below.refl w4.heap.size w4).alloc (Nat.le_refl _) (.cells #[.pointer none] 70)
    have hblt : b < w4.heap.size := (Array.getElem?_eq_some_iff.1 hb0).1
    have hb4' := HB2.out.trans (hb4.mono HB2.out.size)
    have hb5 := hb4'.trans (hba.mono hb4'.size)
    have HAF := Lib.hid (as_found _ b w4.heap.size (.pointer none) (HER.out _ hb5).2.1 (heap_new w4 (.cells #[.pointer none] 70)))
    have HB0 := Lib.hid ((hba.block _ hblt).trans hb0)
    have HOW := Lib.hid (own_below hown hba)
    have HOL := Lib.hid (fun g' (hg' : xv.ownBlock = some g') => (hown.lt g' hg').2)
    have HB4 := Lib.hid hb4'
    have HB5 := Lib.hid hb5
    have HZ4 := Lib.hid (show w2.heap.size ≤ w4.heap.size from hb4.size)
    clear hb0 hown hba hb4 hb4' hb5
    unfold foundV at *
    go_wp2_with fail
    refine (HAF.out).mono ?_
    rintro e w6 ⟨rfl, hk6, hg6⟩
    clear HAF
    have c0 : w6.cell? ⟨w4.heap.size, 0, none⟩ = some (.pointer (some ⟨b, 0, none⟩)) := by rw [cell_of_row w6 _ _ _ _ _ hg6]; rfl
    have hb6 : w6.heap[b]? = some (.cells #[xv] 74 (0, 0)) := (hk6.block b (Nat.lt_of_lt_of_le hblt (by rw [World.size_alloc]; exact Nat.le_succ _)) (fun h => by omega)).trans HB0.out
    have c1 : w6.cell? ⟨b, 0, none⟩ = some xv := by rw [cell_of_row w6 _ _ _ _ _ hb6]; rfl
    have HO6 := Lib.hid (own_base (own_keeps HOW.out hk6 (fun g' hg' h => by have := HOL.out g' hg'; omega)) HB2.out.size)
    have HB6 := Lib.hid (HB5.out.trans (hk6.below HB5.out.size (fun k hk => by rw [hk]; exact HB4.out.size)))
    clear hk6 hg6 hb6 HB0 HOW HOL HB5 hble hblt
    go_wp2_with fail
    go_region
    go_wp2_with fail
    go_ret3
    have hdr := (Below.refl w6.heap.size w6).drew
    refine ⟨fun S' hx => ?_, fun x' hx => ?_, fun hx => ?_⟩
    · rw [HO.out] at hx; cases hx
    · rw [HO.out] at hx
      injection hx with hx
      subst hx
      exact ⟨xv, rfl, own_below HO6.out hdr, HB6.out.trans (hdr.mono HB6.out.size)⟩
    · rw [HO.out] at hx; cases hx
  | over =>
    clear ho
    obtain ⟨b, rfl, he4, hb4⟩ := hp
    have hb4' := HB2.out.trans (hb4.mono HB2.out.size)
    have hba := (Below.refl w4.heap.size w4).alloc (Nat.le_refl _) (.cells #[.pointer none] 70)
    have hb5 := hb4'.trans (hba.mono hb4'.size)
    have HMS := Lib.hid (asF_miss _ E 4 _ _ (he4.below hba) ⟨w4.heap.size, 0, none⟩ (HER.out _ hb5).2.1)
    have HV4 := Lib.hid (he4.below hba)
    have HB5 := Lib.hid hb5
    clear he4 hb4 hb4' hba hb5
    unfold errV at *
    go_wp2_with fail
    refine (HMS.out).mono ?_
    rintro e w6 ⟨rfl, hb6⟩
    clear HMS
    have hb6' := HB5.out.trans (hb6.mono HB5.out.size)
    obtain ⟨q1, q2, q3⟩ := HER.out w6 hb6'
    have HTD := Lib.hid (told_c w6 E q1 q2 hA q3 4 (by decide) (by decide) sBag 0 [] _ (HV4.out.below hb6))
    have HB6 := Lib.hid hb6'
    clear hb6 hb6' q1 q2 q3 HV4 HB5
    unfold errV at *
    go_wp2_with fail
    refine (HTD.out).mono ?_
    rintro e w7 ⟨v7, rfl, hv7, hb7⟩
    clear HTD
    have e7 : toldT sBag 4 [(sBag, 0)] = [(sSubset, 0)] := if_pos ⟨rfl, rfl⟩
    rw [e7] at hv7
    have HV7 := Lib.hid hv7
    have HB7 := Lib.hid (HB6.out.trans (hb7.mono HB6.out.size))
    clear hv7 hb7 e7
    go_wp2_with fail
    go_ret3
    refine ⟨fun S' hx => ?_, fun x' hx => ?_, fun hx => ⟨_, rfl, HV7.out, HB7.out⟩⟩
    · rw [HO.out] at hx; cases hx
    · rw [HO.out] at hx; cases hx
end Go.Proofs.YtibplgpolmplpaaGreatDoor
