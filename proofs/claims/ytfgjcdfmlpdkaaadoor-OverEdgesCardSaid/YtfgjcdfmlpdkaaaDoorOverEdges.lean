/- The call of OverEdges: it returns true. Condition: the table reads from memory; the error variables hold what E says. -/
import Derived.Test.YtfgjcdfmlpdkaaaDoorLentR
import Derived.Test.YtfgjcdfmlpdkaaaDoorLaw8A
import Derived.Test.YtfgjcdfmlpdkaaaDoorR8B
import Derived.Test.YtfgjcdfmlpdkaaaDoorR8C
namespace Go.Proofs.YtfgjcdfmlpdkaaaDoor
open Go.RowKit RuleP

theorem edge_u (w : World) (E : Nat → Addr) (hE : Errs w E) (K R node s : Int) (A : Option Addr) (n c : Nat) (T : List Int) (hT : Sl w A n (T.map (Value.int .i64))) (hm : n ≤ 9223372036854775807) :
    Calls Tryd.prog 39 #[ruleV K R A n c, .int .i64 node, .int .i64 s] w fun e w' => ∃ v, e = .returned (.tuple #[.int .i64 (edgeV K R T node s).1, .int .i64 (edgeV K R T node s).2, v]) ∧ ErrV w' E (edgeT K R T node s) v ∧ Below w.heap.size w w' := by
  cases h : edgeT K R T node s with
  | some t =>
    refine (edge_bad w E hE K R node s A n c T hT hm t h).mono ?_
    rintro e w' ⟨v, rfl, he, hb⟩
    exact ⟨v, by rw [edgeV_bad h], he, hb⟩
  | none =>
    obtain ⟨k, r, u, q, t, rfl, rfl, rfl, rfl, rfl, hr, h256, hu, hq⟩ := edgeT_none h
    refine (edge_good w E hE k r u q A n c t hT hr h256 hu hq).mono ?_
    rintro e w' ⟨rfl, hb⟩
    exact ⟨.nilIface, by rw [edgeV_good h], rfl, hb⟩

set_option maxRecDepth 100000 in
set_option maxHeartbeats 4000000 in
theorem overEdges_c (w : World) (E : Nat → Addr) (hE : Errs w E) (hT : ErrT w) (K R node s : Int) (A : Option Addr) (n c : Nat) (T : List Int) (hS : Sl w A n (T.map (Value.int .i64))) (hn : n ≤ c) (hz : c * 8 ≤ 140737488351232) :
    Calls Tryd.prog 9 #[ruleV K R A n c, .int .i64 node, .int .i64 s] w fun e w' => e = .returned (.bool true) ∧ Below w.heap.size w w' := by
  have hb0 := (Below.refl w.heap.size w).alloc (Nat.le_refl _) (.cells #[.int .i64 K, .int .i64 R, .slice A n c] 24)
  have HE := Lib.hid (hE.below hb0)
  have hr0 := RuleAt.new w (.int .i64 K) (.int .i64 R) (.slice A n c)
  have HLR := Lib.hid (fun (wz : World) (hz' : Below w.heap.size w wz) => lentRule_c wz K R A n c _ (hS.below hz') (ints_one T) (by omega))
  unfold ruleV at *
  go_enter Tryd.func9, Tryd.ntmps9
  go_wp2_with fail
  refine (awake8_c _ E HE.out).mono ?_
  rintro e w1 ⟨rfl, b1⟩
  have hr1 := hr0.below b1 (by simp)
  have hb1 := below_box b1
  obtain ⟨r0, r1, r2, _⟩ := hr1.facts
  clear b1
  go_wp2_with fail
  refine (HLR.out w1 hb1).mono ?_
  rintro e w2 ⟨g, rfl, hg, hown, b2⟩
  have hb2 := hb1.trans (b2.mono hb1.size)
  have hr2 := hr1.below b2 hr1.lt
  have hm3 := RuleAt.new w2 (.int .i64 K) (.int .i64 R) (.slice (some ⟨g, 0, none⟩) n (n + 2))
  have hr3 := hr2.alloc (.cells #[.int .i64 K, .int .i64 R, .slice (some ⟨g, 0, none⟩) n (n + 2)] 24)
  have hb3 := hb2.alloc hb2.size (.cells #[.int .i64 K, .int .i64 R, .slice (some ⟨g, 0, none⟩) n (n + 2)] 24)
  have ho3 := hown.alloc (.cells #[.int .i64 K, .int .i64 R, .slice (some ⟨g, 0, none⟩) n (n + 2)] 24)
  obtain ⟨w3, hw3⟩ : ∃ w3, w2.alloc (.cells #[.int .i64 K, .int .i64 R, .slice (some ⟨g, 0, none⟩) n (n + 2)] 24) = w3 := ⟨_, rfl⟩
  have HW3 := Lib.hid hw3
  rw [hw3] at hm3 hr3 hb3 ho3
  have hS3 := Sl.of_own ho3
  have hA3 : Sl w3 (some ⟨g, 0, none⟩) n (T.map (Value.int .i64)) := sl_take' hS3 (by simpa using hS.1)
  have hSB := hS.below hb3
  -- what is told of every world behind this one
  have HND := Lib.hid (fun (wz : World) (hz : Below w3.heap.size w3 wz) => overNodes_c wz E (hE.below (hb3.trans (hz.mono hb3.size))) K R (some ⟨g, 0, none⟩) n (n + 2) T (hA3.below hz) (by omega))
  have HRN := Lib.hid (fun (wz : World) (hz : Below w3.heap.size w3 wz) => refNodes_c wz K R A n c T (hSB.below hz) (by omega))
  have HED := Lib.hid (fun (wz : World) (hz : Below w3.heap.size w3 wz) => edge_u wz E (hE.below (hb3.trans (hz.mono hb3.size))) K R node s (some ⟨g, 0, none⟩) n (n + 2) T (hA3.below hz) (by omega))
  have HRE := Lib.hid (fun (wz : World) (hz : Below w3.heap.size w3 wz) => refEdge_c wz K R node s A n c T (hSB.below hz) (by omega))
  have HKP := Lib.hid (fun (wz : World) (hz : Below w3.heap.size w3 wz) => keptRule_c wz K R (some ⟨g, 0, none⟩) A n (n + 2) c T (hSB.below hz) (hS3.below hz) (Nat.le_refl _) (by simp only [maxLen]; omega))
  have HIS := Lib.hid (fun (wz : World) (hz : Below w3.heap.size w3 wz) (t : Option Tale) (ht : TaleOk t) (v u : Value) (hv : ErrV wz E t v) (hu : WantV wz t u) => rawIs_c wz E (hE.below (hb3.trans (hz.mono hb3.size))) (hT.below (hb3.trans (hz.mono hb3.size))) t ht v u hv hu)
  have HF := Lib.hid (fun (wz : World) (hz : Below w3.heap.size w3 wz) => (⟨cell_later hz hr3.facts.1, cell_later hz hr3.facts.2.1, cell_later hz hr3.facts.2.2.1, cell_later hz hm3.facts.1, cell_later hz hm3.facts.2.1, cell_later hz hm3.facts.2.2.1⟩ :
    wz.cell? ⟨w.heap.size, 0, none⟩ = some (.int .i64 K) ∧ wz.cell? ⟨w.heap.size, 1, none⟩ = some (.int .i64 R) ∧ wz.cell? ⟨w.heap.size, 2, none⟩ = some (.slice A n c) ∧
    wz.cell? ⟨w2.heap.size, 0, none⟩ = some (.int .i64 K) ∧ wz.cell? ⟨w2.heap.size, 1, none⟩ = some (.int .i64 R) ∧ wz.cell? ⟨w2.heap.size, 2, none⟩ = some (.slice (some ⟨g, 0, none⟩) n (n + 2))))
  have HB3 := Lib.hid hb3
  have hlr := hr3.lt
  have hlm := hm3.lt
  clear hE hT hS hm3 hr3 hb3 ho3 hS3 hA3 hSB hr2 hb2 hown b2 hw3 hr1 hb1 HLR r0 r1 r2 hr0 hb0
  obtain ⟨EV, hEV⟩ : ∃ EV, edgeV K R T node s = EV := ⟨_, rfl⟩
  obtain ⟨NV, hNV⟩ : ∃ NV : Int, (if smallO K R T = none then (nodesN K R : Int) else 0) = NV := ⟨_, rfl⟩
  rw [hEV] at HED HRE
  rw [hNV] at HND HRN
  clear hEV hNV
  unfold ruleV at *
  obtain ⟨x0, x1, x2, y0, y1, y2⟩ := HF.out w3 (Below.refl _ _)
  go_wp2_with fail
  rw [HW3.out]
  refine (HND.out w3 (Below.refl _ _)).mono ?_
  rintro e w4 ⟨v4, rfl, he4, b4⟩
  obtain ⟨x0, x1, x2, y0, y1, y2⟩ := HF.out w4 b4
  go_wp2_with fail
  refine (HRN.out w4 b4).mono ?_
  rintro e w5 ⟨N5, A5, n5, c5, D5, m5, d5, rfl, hu5, b5⟩
  have c5' := b4.trans (b5.mono b4.size)
  have he5 := he4.below b5
  have c6 := c5'.alloc c5'.size (.cells #[.int .i64 (N5 : Int), .slice A5 n5 c5, .slice D5 m5 d5] 60)
  have b56 : Below w5.heap.size w5 (w5.alloc (.cells #[.int .i64 (N5 : Int), .slice A5 n5 c5, .slice D5 m5 d5] 60)) := (Below.refl _ _).alloc (Nat.le_refl _) _
  have he6 := he5.below b56
  have hu6 := hu5.below b56
  have hx6 := WantAt.new w5 (.int .i64 (N5 : Int)) (.slice A5 n5 c5) (.slice D5 m5 d5)
  obtain ⟨w6, hw6⟩ : ∃ w6, w5.alloc (.cells #[.int .i64 (N5 : Int), .slice A5 n5 c5, .slice D5 m5 d5] 60) = w6 := ⟨_, rfl⟩
  have HW6 := Lib.hid hw6
  rw [hw6] at c6 he6 hu6 hx6
  have hlt5 : w2.heap.size < w5.heap.size := by have := c5'.size; omega
  have hlt5' : w.heap.size < w5.heap.size := by have := c5'.size; omega
  obtain ⟨x0, x1, x2, y0, y1, y2⟩ := HF.out w6 c6
  obtain ⟨j0, j1, j2, j3, j4, j5⟩ := HF.out w5 c5'
  clear hw6 he5 hu5 b56 he4
  go_wp2_with fail
  rw [HW6.out]
  refine (HED.out w6 c6).mono ?_
  rintro e w7 ⟨v7, rfl, he7, b7⟩
  have c7 := c6.trans (b7.mono c6.size)
  obtain ⟨x0, x1, x2, y0, y1, y2⟩ := HF.out w7 c7
  go_wp2_with fail
  refine (HRE.out w7 c7).mono ?_
  rintro e w8 ⟨N8, A8, n8, c8, D8, m8, d8, rfl, hu8, b8⟩
  have c8' := c7.trans (b8.mono c7.size)
  have b68 := b7.trans (b8.mono b7.size)
  have b89 : Below w8.heap.size w8 (w8.alloc (.cells #[.int .i64 (N8 : Int), .slice A8 n8 c8, .slice D8 m8 d8] 60)) := (Below.refl _ _).alloc (Nat.le_refl _) _
  have c9 := c8'.trans (b89.mono c8'.size)
  have b69 := b68.trans (b89.mono b68.size)
  have he9 := he6.below b69
  have hu9 := hu6.below b69
  have hx9 := hx6.below b69 hx6.lt
  have he79 := (he7.below b8).below b89
  have hu89 := hu8.below b89
  have hy9 := WantAt.new w8 (.int .i64 (N8 : Int)) (.slice A8 n8 c8) (.slice D8 m8 d8)
  obtain ⟨w9, hw9⟩ : ∃ w9, w8.alloc (.cells #[.int .i64 (N8 : Int), .slice A8 n8 c8, .slice D8 m8 d8] 60) = w9 := ⟨_, rfl⟩
  have HW9 := Lib.hid hw9
  rw [hw9] at c9 he9 hu9 hx9 he79 hu89 hy9
  have HFX := Lib.hid (fun (wz : World) (hz : Below w9.heap.size w9 wz) => (⟨(hx9.below hz hx9.lt).facts, (hy9.below hz hy9.lt).facts⟩ : _ ∧ _))
  have hlt8 : w2.heap.size < w8.heap.size := by have := c8'.size; omega
  have hlt8' : w.heap.size < w8.heap.size := by have := c8'.size; omega
  have hlt8'' : w5.heap.size < w8.heap.size := by have := b68.size; have := hx6.lt; omega
  obtain ⟨x0, x1, x2, y0, y1, y2⟩ := HF.out w9 c9
  obtain ⟨z0, z1, z2, _⟩ := (hx6.below b68 hx6.lt).facts
  obtain ⟨q0, q1, q2, q3, q4, q5⟩ := HF.out w8 c8'
  have HIS1 := Lib.hid (HIS.out w9 c9 _ (smallO_ok K R T) _ _ he9 hu9.want)
  have HIS2 := Lib.hid (fun (wz : World) (hz : Below w9.heap.size w9 wz) => HIS.out wz (c9.trans (hz.mono c9.size)) _ (edgeT_ok K R T node s) _ _ (he79.below hz) (hu89.below hz).want)
  have k1 : (NV == NV) = true := by simp
  have k2 : (EV.1 == EV.1) = true := by simp
  have k3 : (EV.2 == EV.2) = true := by simp
  have HC9 := Lib.hid c9
  clear hw9 b89 c8' b68 c7 c6 c5' b69 he6 hu6 hx6 he7 hu8 b8 b7 b5 b4 c9 he9 hu9 hx9 he79 hu89 hy9
  go_wp2_with fail
  rw [HW9.out]
  refine (HIS1.out).mono ?_
  rintro e w10 ⟨rfl, b10⟩
  obtain ⟨x0, x1, x2, y0, y1, y2⟩ := HF.out w10 (HC9.out.trans (b10.mono HC9.out.size))
  obtain ⟨⟨s0, s1, s2, _⟩, ⟨t0, t1, t2, _⟩⟩ := HFX.out w10 b10
  go_wp2_with fail
  refine (HIS2.out w10 b10).mono ?_
  rintro e w11 ⟨rfl, b11⟩
  have c11 := b10.trans (b11.mono b10.size)
  have c311 := HC9.out.trans (c11.mono HC9.out.size)
  obtain ⟨x0, x1, x2, y0, y1, y2⟩ := HF.out w11 c311
  go_wp2_with fail
  refine (HKP.out w11 c311).mono ?_
  rintro e w12 ⟨rfl, b12⟩
  have c12 := c311.trans (b12.mono c311.size)
  have HBW := Lib.hid (HB3.out.trans (c12.mono HB3.out.size))
  clear b10 b11 b12 c11 c311 c12
  go_wp2_with fail
  go_ret
  exact ⟨rfl, HBW.out⟩
end Go.Proofs.YtfgjcdfmlpdkaaaDoor
