/- The call of NatAll: it returns true. Condition: its calls read from memory; the error variables hold what E says. -/
import Derived.Test.YtkghilmdoabodaaDoorPlays
import Derived.Test.YtkghilmdoabodaaDoorLentN
import Derived.Test.YtkghilmdoabodaaDoorNatRing
namespace Go.Proofs.YtkghilmdoabodaaDoor
open Go.RowKit NatP

/-- A call's numbers read from memory. -/
structure OpOk (w : World) (o : OpD) : Prop where
  hA : Num w o.A o.na o.ca o.a
  hB : Num w o.B o.nb o.cb o.b
  hX : o.X < 18446744073709551616
  hD : o.D < W32
  hL : Sl w o.LA o.ln (o.R.map fun x => slv x.1)
  hR : ∀ x ∈ o.R, Num w x.1.1 x.1.2.1 x.1.2.2 x.2
  hl : o.ln ≤ o.lc
  hm : o.lc ≤ maxLen
theorem OpOk.below {w w' : World} {o : OpD} (h : OpOk w o) (hb : Below w.heap.size w w') : OpOk w' o :=
  ⟨h.hA.below hb, h.hB.below hb, h.hX, h.hD, h.hL.below hb, fun x hx => (h.hR x hx).below hb, h.hl, h.hm⟩
/-- The script lies in memory: eight cells a call. -/
def Script (w : World) (SA : Option Addr) (m : Nat) : Prop := ∀ i, i < m → ∃ (ad : Addr) (o : OpD), SA = some ad ∧ OpOk w o ∧
  w.cell? (ad.add (i * 8)) = some (.int .i64 o.K) ∧ w.cell? (ad.add (i * 8 + 1)) = some (.slice o.A o.na o.ca) ∧ w.cell? (ad.add (i * 8 + 2)) = some (.slice o.B o.nb o.cb) ∧ w.cell? (ad.add (i * 8 + 3)) = some (.int .u64 (o.X : Int)) ∧
  w.cell? (ad.add (i * 8 + 4)) = some (.int .u32 (o.D : Int)) ∧ w.cell? (ad.add (i * 8 + 5)) = some (.int .i64 o.N) ∧ w.cell? (ad.add (i * 8 + 6)) = some (.string ⟨o.S.toArray⟩) ∧ w.cell? (ad.add (i * 8 + 7)) = some (.slice o.LA o.ln o.lc)
theorem Script.below {w w' : World} {SA : Option Addr} {m : Nat} (h : Script w SA m) (hb : Below w.heap.size w w') : Script w' SA m := fun i hi => by
  obtain ⟨ad, o, e, ho, c0, c1, c2, c3, c4, c5, c6, c7⟩ := h i hi
  exact ⟨ad, o, e, ho.below hb, cell_later hb c0, cell_later hb c1, cell_later hb c2, cell_later hb c3, cell_later hb c4, cell_later hb c5, cell_later hb c6, cell_later hb c7⟩

theorem addr_add2 (ad : Addr) (k j : Nat) (hj : 0 < j) : ad.add (k + j) = ⟨(ad.add k).block, (ad.add k).off + j, none⟩ := by
  unfold Addr.add
  rw [if_neg (by omega)]
  split
  · rename_i h; rw [h, Nat.zero_add]
  · rw [Nat.add_assoc]

theorem num_rowA {w : World} {g n m c : Nat} {xs : List Nat} {ys : List Value} (h : Sl w (some ⟨g, 0, none⟩) m (xs.map wv ++ ys)) (hl : xs.length = n) (ho : OkB W32 xs) (hc : n ≤ c) (hm : c ≤ maxLen) : Num w (some ⟨g, 0, none⟩) n c (val xs) :=
  ⟨xs, hc, hm, sl_take' h (by simpa using hl), ho, rfl⟩
theorem OpAt.froz {w : World} {g : Nat} {c0 c1 c2 c3 c4 c5 c6 c7 : Value} (h : OpAt w g c0 c1 c2 c3 c4 c5 c6 c7) (i : Nat) : w.frozen? ⟨g, i, none⟩ = false := frozen_of_row _ _ i _ _ h
theorem OpAt.keeps {w w' : World} {g : Nat} {O : Nat → Prop} {c0 c1 c2 c3 c4 c5 c6 c7 : Value} (h : OpAt w g c0 c1 c2 c3 c4 c5 c6 c7) (hk : Keeps O w w') (ho : ¬ O g) : OpAt w' g c0 c1 c2 c3 c4 c5 c6 c7 := (hk.block g h.lt ho).trans h
theorem OpAt.set1 {w : World} {g : Nat} {c0 c1 c2 c3 c4 c5 c6 c7 : Value} (h : OpAt w g c0 c1 c2 c3 c4 c5 c6 c7) (u : Value) : OpAt (w.setCell ⟨g, 1, none⟩ u) g c0 u c2 c3 c4 c5 c6 c7 := by
  unfold OpAt at *
  have h0 := (Array.getElem?_eq_some_iff.1 h).1
  simp only [World.setCell]
  simp [Array.getElem?_modify, h]
theorem OpAt.set2 {w : World} {g : Nat} {c0 c1 c2 c3 c4 c5 c6 c7 : Value} (h : OpAt w g c0 c1 c2 c3 c4 c5 c6 c7) (u : Value) : OpAt (w.setCell ⟨g, 2, none⟩ u) g c0 c1 u c3 c4 c5 c6 c7 := by
  unfold OpAt at *
  have h0 := (Array.getElem?_eq_some_iff.1 h).1
  simp only [World.setCell]
  simp [Array.getElem?_modify, h]
theorem plays_c (w : World) (E : Nat → Addr) (hE : Errs w E) (hT : ErrT w) (K : Int) (A : Option Addr) (na ca : Nat) (B : Option Addr) (nb cb X D : Nat) (N : Int) (S : List UInt8) (LA : Option Addr) (ln lc : Nat) (hX : X < 18446744073709551616) {a b : Nat} (hA : Num w A na ca a) (hB : Num w B nb cb b) (ma : na ≤ 1000000) (mb : nb ≤ 1000000) (hD : D < W32)
    (R : List ((Option Addr × Nat × Nat) × Nat)) (hL : Sl w LA ln (R.map fun x => slv x.1)) (hln : ln ≤ 1000) (hR : ∀ x ∈ R, Num w x.1.1 x.1.2.1 x.1.2.2 x.2 ∧ x.1.2.1 ≤ 1000000) :
    Calls Tryd.prog 8 #[opV K A na ca B nb cb X D N S LA ln lc] w fun e w' => e = .returned (.bool true) ∧ Below w.heap.size w w' := by
  rcases (by omega : K % 9 = 0 ∨ K % 9 = 1 ∨ K % 9 = 2 ∨ K % 9 = 3 ∨ K % 9 = 4 ∨ K % 9 = 5 ∨ K % 9 = 6 ∨ K % 9 = 7 ∨ K % 9 = 8) with h | h | h | h | h | h | h | h | h
  · exact plays_0 w E hE hT K A na ca B nb cb X D N S LA ln lc h hX
  · exact plays_1 w E hE hT K A na ca B nb cb X D N S LA ln lc h hA hB ma mb
  · exact plays_2 w E hE hT K A na ca B nb cb X D N S LA ln lc h hA hB ma mb
  · exact plays_3 w E hE hT K A na ca B nb cb X D N S LA ln lc h hA hB ma mb
  · exact plays_4 w E hE hT K A na ca B nb cb X D N S LA ln lc h hA ma hD
  · exact plays_5 w E hE hT K A na ca B nb cb X D N S LA ln lc h hD
  · exact plays_6 w E hE hT K A na ca B nb cb X D N S LA ln lc h hA ma
  · exact plays_7 w E hE hT K A na ca B nb cb X D N S LA ln lc h
  · exact plays_8 w E hE hT K A na ca B nb cb X D N S LA ln lc h R hL hln hR

set_option maxRecDepth 100000 in
set_option maxHeartbeats 8000000 in
theorem natAll_c (w : World) (E : Nat → Addr) (hE : Errs w E) (hT : ErrT w) (SA : Option Addr) (m sc : Nat) (hS : Script w SA m) (hm : m ≤ sc) (hsc : sc ≤ maxLen) :
    Calls Tryd.prog 3 #[.slice SA m sc] w fun e w' => e = .returned (.bool true) ∧ Below w.heap.size w w' := by
  have HE := Lib.hid hE
  have HT := Lib.hid hT
  have HS := Lib.hid hS
  unfold maxLen at hsc
  clear hE hT hS
  go_enter Tryd.func3, Tryd.ntmps3
  go_wp2_with fail
  refine (awake2_c w E HE.out).mono ?_
  rintro e w1 ⟨rfl, b1⟩
  go_wp2_with fail
  go_loopw [3] (fun iv wr => ∃ i : Nat, i ≤ m ∧ i ≤ 40 ∧ iv = .int .i64 (i : Int) ∧ Hid (Below w.heap.size w wr)) (fun iv _ => 40 - (intOf iv).toNat)
  case atStart => exact ⟨0, Nat.zero_le _, by decide, rfl, Lib.hid b1⟩
  case round =>
    obtain ⟨i, hi, hi40, rfl, hb⟩ := hrel
    clear b1
    by_cases hlt : i < m
    · by_cases h40 : i < 40
      · have hlt' : (i : Int) < (m : Int) := by omega
        have h40' : (i : Int) < 40 := by omega
        obtain ⟨ad, o, rfl, ho, c0, c1, c2, c3, c4, c5, c6, c7⟩ := HS.out.below hb.out i hlt
        have HE1 := HE.out.below hb.out
        have HT1 := HT.out.below hb.out
        obtain ⟨K, A, na, ca, a, B, nb, cb, b, X, D, N, S, LA, ln, lc, R⟩ := o
        obtain ⟨hA, hB, hX, hD, hL, hR, hl, hmx⟩ := ho
        simp only at c0 c1 c2 c3 c4 c5 c6 c7 hA hB hX hD hL hR hl hmx
        rw [addr_add2 _ _ _ (by decide)] at c1 c2 c3 c4 c5 c6 c7
        have hbo := (Below.refl wr.heap.size wr).alloc (Nat.le_refl _) (.cells #[.int .i64 K, .slice A na ca, .slice B nb cb, .int .u64 (X : Int), .int .u32 (D : Int), .int .i64 N, .string ⟨S.toArray⟩, .slice LA ln lc] 30)
        have hxo := OpAt.new wr (.int .i64 K) (.slice A na ca) (.slice B nb cb) (.int .u64 (X : Int)) (.int .u32 (D : Int)) (.int .i64 N) (.string ⟨S.toArray⟩) (.slice LA ln lc)
        obtain ⟨wO, hwO⟩ : ∃ wO, wr.alloc (.cells #[.int .i64 K, .slice A na ca, .slice B nb cb, .int .u64 (X : Int), .int .u32 (D : Int), .int .i64 N, .string ⟨S.toArray⟩, .slice LA ln lc] 30) = wO := ⟨_, rfl⟩
        have hzO : wO.heap.size = wr.heap.size + 1 := by rw [← hwO]; simp
        rw [hwO] at hbo hxo
        have hbl := (Below.refl wO.heap.size wO).alloc (Nat.le_refl _) (.cells #[.slice A na ca, .slice B nb cb] 25)
        have hll := lit_slices wO [(A, na, ca), (B, nb, cb)] 2 rfl (by decide) 25
        simp only [List.map_cons, List.map_nil, slv] at hll
        obtain ⟨wL, hwL⟩ : ∃ wL, wO.alloc (.cells #[.slice A na ca, .slice B nb cb] 25) = wL := ⟨_, rfl⟩
        have hzL : wL.heap.size = wO.heap.size + 1 := by rw [← hwL]; simp
        rw [hwL] at hbl hll
        obtain ⟨r1, hr1⟩ : ∃ r, decide (400 < na ∨ 400 < nb) = r := ⟨_, rfl⟩
        obtain ⟨r2, hr2⟩ : ∃ r, ((R.map (·.1)).any fun x => decide (400 < x.2.1)) = r := ⟨_, rfl⟩
        have la : na ≤ 9223372036854775807 := by obtain ⟨_, h2, h3, _⟩ := hA; unfold maxLen at h3; omega
        have lb : nb ≤ 9223372036854775807 := by obtain ⟨_, h2, h3, _⟩ := hB; unfold maxLen at h3; omega
        have hbL : Below wr.heap.size wr wL := hbo.trans (hbl.mono hbo.size)
        have HL1 : Hid (Calls Tryd.prog 6 #[.slice (some ⟨wr.heap.size + 1, 0, none⟩) 2 2] wL fun e w' => e = .returned (.bool r1) ∧ wL = w') := Lib.hid (by
          have h := long_c wL (some ⟨wO.heap.size, 0, none⟩) 2 2 [(A, na, ca), (B, nb, cb)] hll (by decide) (fun x hx => by
            simp only [List.mem_cons, List.not_mem_nil, or_false] at hx
            rcases hx with rfl | rfl
            · exact Nat.le_trans la (by decide)
            · exact Nat.le_trans lb (by decide))
          rw [hzO] at h
          have e : ([(A, na, ca), (B, nb, cb)].any fun x => decide (400 < x.2.1)) = r1 := by rw [← hr1]; simp [Bool.decide_or]
          rwa [e] at h)
        have HL2 : Hid (Calls Tryd.prog 6 #[.slice LA ln lc] wL fun e w' => e = .returned (.bool r2) ∧ wL = w') := Lib.hid (by
          have hLL : Sl wL LA ln ((R.map (·.1)).map slv) := by rw [List.map_map]; exact hL.below hbL
          have h := long_c wL LA ln lc (R.map (·.1)) hLL (by unfold maxLen at *; omega) (by
            intro x hx
            obtain ⟨y, hy, rfl⟩ := List.mem_map.1 hx
            have h1 := hR y hy
            obtain ⟨_, h2, h3, _⟩ := h1
            omega)
          rwa [hr2] at h)
        have HFO := Lib.hid (fun (wz : World) (hz : Below wO.heap.size wO wz) => hxo.below hz hxo.lt)
        have HWO := Lib.hid hwO
        have HWL := Lib.hid hwL
        have HZ := Lib.hid (⟨hzO, hzL⟩ : _ ∧ _)
        have HD1 := Lib.hid hr1
        have HD2 := Lib.hid hr2
        have HBL := Lib.hid hbL
        have HBl := Lib.hid hbl
        have HOP := Lib.hid (⟨hA, hB, hX, hD, hL, hR⟩ : _ ∧ _ ∧ _ ∧ _ ∧ _ ∧ _)
        have HER := Lib.hid (⟨HE1, HT1⟩ : _ ∧ _)
        obtain ⟨f0, f1, f2, f3, f4, f5, f6, f7⟩ := (hxo.below hbl hxo.lt).facts
        have HNX := Lib.hid (⟨i + 1, by omega, by omega, by go_num⟩ : ∃ i' : Nat, i' ≤ m ∧ i' ≤ 40 ∧ Value.int .i64 ((i : Int) + 1) = .int .i64 (i' : Int))
        clear hwO hwL hzO hzL hr1 hr2 hbo hbl hxo hll hA hB hL hR hbL HE1 HT1 hX hD hmx
        go_wp2_with fail
        rw [HWO.out, HWL.out]
        refine (HL1.out).mono ?_
        rintro e w2 ⟨rfl, rfl⟩
        clear HL1
        cases r1
        · go_wp2_with fail
          refine (HL2.out).mono ?_
          rintro e w2 ⟨rfl, rfl⟩
          clear HL2
          cases r2
          · by_cases h4 : 40 < ln
            · have h4' : (40 : Int) < (ln : Int) := by omega
              go_wp2_with fail
              exact ⟨⟨i + 1, by omega, by omega, by go_num, Lib.hid (hb.out.trans (HBL.out.mono hb.out.size))⟩, by simp [intOf]; omega⟩
            · have h4' : ¬ (40 : Int) < (ln : Int) := by omega
              obtain ⟨hA, hB, hX, hD, hL, hR⟩ := HOP.out
              have hna : na ≤ 400 ∧ nb ≤ 400 := by
                have h := HD1.out
                simp at h
                omega
              have hRR : ∀ x ∈ R, Num wr x.1.1 x.1.2.1 x.1.2.2 x.2 ∧ x.1.2.1 ≤ 1000000 := fun x hx => ⟨hR x hx, by
                have h := HD2.out
                rw [List.any_eq_false] at h
                have h := h x.1 (List.mem_map_of_mem hx)
                simp at h
                omega⟩
              have hbp := (Below.refl wL.heap.size wL).alloc (Nat.le_refl _) (.cells #[.int .i64 K, .slice A na ca, .slice B nb cb, .int .u64 (X : Int), .int .u32 (D : Int), .int .i64 N, .string ⟨S.toArray⟩, .slice LA ln lc] 30)
              have hxp := OpAt.new wL (.int .i64 K) (.slice A na ca) (.slice B nb cb) (.int .u64 (X : Int)) (.int .u32 (D : Int)) (.int .i64 N) (.string ⟨S.toArray⟩) (.slice LA ln lc)
              have hxo : OpAt wL wr.heap.size (.int .i64 K) (.slice A na ca) (.slice B nb cb) (.int .u64 (X : Int)) (.int .u32 (D : Int)) (.int .i64 N) (.string ⟨S.toArray⟩) (.slice LA ln lc) := HFO.out _ HBl.out
              have hxo' := hxo.below hbp hxo.lt
              obtain ⟨wP, hwP⟩ : ∃ wP, wL.alloc (.cells #[.int .i64 K, .slice A na ca, .slice B nb cb, .int .u64 (X : Int), .int .u32 (D : Int), .int .i64 N, .string ⟨S.toArray⟩, .slice LA ln lc] 30) = wP := ⟨_, rfl⟩
              have hzP : wP.heap.size = wL.heap.size + 1 := by rw [← hwP]; simp
              rw [hwP] at hbp hxp hxo'
              have hbP := HBL.out.trans (hbp.mono HBL.out.size)
              obtain ⟨xs, a1, a2, s1, o1, va⟩ := id hA
              obtain ⟨ys, b1', b2', s2, o2, vb⟩ := id hB
              have lx : xs.length = na := by simpa using s1.1
              have ly : ys.length = nb := by simpa using s2.1
              have HLN1 := Lib.hid (lentN_c wP A na ca (xs.map wv) (s1.below hbP) (words_one xs) (by omega))
              have HWP := Lib.hid hwP
              have HZP := Lib.hid hzP
              have HXY := Lib.hid (⟨lx, ly, va, vb⟩ : _ ∧ _ ∧ _ ∧ _)
              obtain ⟨g0, g1, g2, g3, g4, g5, g6, g7⟩ := hxo'.facts
              rw [← hwP] at g0 g1 g2 g3 g4 g5 g6 g7
              clear hwP hzP lx ly va vb hR
              go_wp2_with fail
              rw [HWP.out]
              refine (HLN1.out).mono ?_
              rintro e w2 ⟨rfl, hX2, h2⟩
              clear HLN1 g0 g1 g2 g3 g4 g5 g6 g7 f0 f1 f2 f3 f4 f5 f6 f7
              have x2 := (hX2.lt _ rfl).2
              have z2 := h2.size
              have hxp2 := hxp.below h2 hxp.lt
              have hxo2 := hxo'.below h2 hxo'.lt
              have hp2 := hxp2.set1 (.slice (some ⟨wP.heap.size, 0, none⟩) na (na + 2))
              have hk2 := Keeps.of_setCell w2 ⟨wL.heap.size, 1, none⟩ (.slice (some ⟨wP.heap.size, 0, none⟩) na (na + 2))
              have zOP : wr.heap.size < wL.heap.size := by have := HZ.out; omega
              have ho2 := hxo2.keeps hk2 (fun h => by have h : wr.heap.size = wL.heap.size := h; omega)
              have hb2 := ((hbP.trans (h2.mono hbP.size)).setCell (p := ⟨wL.heap.size, 1, none⟩) (Nat.le_of_lt zOP) (.slice (some ⟨wP.heap.size, 0, none⟩) na (na + 2)))
              have hX3 := own_keeps hX2 hk2 (fun b hb h => by have h : b = wL.heap.size := h; have hb : wP.heap.size = b := by simpa [Value.ownBlock] using hb
                                                              have := HZP.out; omega)
              obtain ⟨w3, hw3⟩ : ∃ w3, w2.setCell ⟨wL.heap.size, 1, none⟩ (.slice (some ⟨wP.heap.size, 0, none⟩) na (na + 2)) = w3 := ⟨_, rfl⟩
              have hz3 : w3.heap.size = w2.heap.size := by rw [← hw3]; simp
              rw [hw3] at hp2 ho2 hb2 hX3
              have HW3 := Lib.hid hw3
              have HZ3 := Lib.hid hz3
              have HLN2 := Lib.hid (lentN_c w3 B nb cb (ys.map wv) (s2.below hb2) (words_one ys) (by omega))
              obtain ⟨p0, p1, p2, p3, p4, p5, p6, p7⟩ := hxp2.facts
              have q1 := hxp2.froz 1
              obtain ⟨g0, g1, g2, g3, g4, g5, g6, g7⟩ := ho2.facts
              rw [← hw3] at g0 g1 g2 g3 g4 g5 g6 g7
              clear hk2 hw3 hz3
              go_wp2_with fail
              rw [HW3.out]
              refine (HLN2.out).mono ?_
              rintro e w4 ⟨rfl, hY4, h4⟩
              clear HLN2 g0 g1 g2 g3 g4 g5 g6 g7 p0 p1 p2 p3 p4 p5 p6 p7 q1
              have y4 := (hY4.lt _ rfl).2
              have hxp4 := hp2.below h4 hp2.lt
              have hxo4 := ho2.below h4 ho2.lt
              have hX4 := own_below hX3 h4
              have hp4 := hxp4.set2 (.slice (some ⟨w3.heap.size, 0, none⟩) nb (nb + 2))
              have hk4 := Keeps.of_setCell w4 ⟨wL.heap.size, 2, none⟩ (.slice (some ⟨w3.heap.size, 0, none⟩) nb (nb + 2))
              have ho4 := hxo4.keeps hk4 (fun h => by have h : wr.heap.size = wL.heap.size := h; omega)
              have hb4 := ((hb2.trans (h4.mono hb2.size)).setCell (p := ⟨wL.heap.size, 2, none⟩) (Nat.le_of_lt zOP) (.slice (some ⟨w3.heap.size, 0, none⟩) nb (nb + 2)))
              have hX5 := own_keeps hX4 hk4 (fun b hb h => by have h : b = wL.heap.size := h; have hb : wP.heap.size = b := by simpa [Value.ownBlock] using hb
                                                              have := HZP.out; omega)
              have hY5 := own_keeps hY4 hk4 (fun b hb h => by have h : b = wL.heap.size := h; have hb : w3.heap.size = b := by simpa [Value.ownBlock] using hb
                                                              have := HZP.out; have := HZ3.out; omega)
              obtain ⟨w5, hw5⟩ : ∃ w5, w4.setCell ⟨wL.heap.size, 2, none⟩ (.slice (some ⟨w3.heap.size, 0, none⟩) nb (nb + 2)) = w5 := ⟨_, rfl⟩
              rw [hw5] at hp4 ho4 hb4 hX5 hY5
              have HW5 := Lib.hid hw5
              obtain ⟨lx, ly, va, vb⟩ := HXY.out
              have nX : Num w5 (some ⟨wP.heap.size, 0, none⟩) na (na + 2) a := by
                rw [← va]; exact num_rowA (Sl.of_own hX5) lx o1 (by omega) (by unfold maxLen; omega)
              have nY : Num w5 (some ⟨w3.heap.size, 0, none⟩) nb (nb + 2) b := by
                rw [← vb]; exact num_rowA (Sl.of_own hY5) ly o2 (by omega) (by unfold maxLen; omega)
              have hpl := plays_c w5 E (HER.out.1.below hb4) (HER.out.2.below hb4) K (some ⟨wP.heap.size, 0, none⟩) na (na + 2) (some ⟨w3.heap.size, 0, none⟩) nb (nb + 2) X D N S LA ln lc hX nX nY (by omega) (by omega) hD R (hL.below hb4) (by omega) (fun x hx => ⟨(hRR x hx).1.below hb4, (hRR x hx).2⟩)
              unfold opV at hpl
              have HPL := Lib.hid hpl
              have HNUM := Lib.hid (⟨nX, nY, hA.below hb4, hB.below hb4⟩ : _ ∧ _ ∧ _ ∧ _)
              obtain ⟨p0, p1, p2, p3, p4, p5, p6, p7⟩ := hxp4.facts
              have q2 := hxp4.froz 2
              obtain ⟨g0, g1, g2, g3, g4, g5, g6, g7⟩ := hp4.facts
              rw [← hw5] at g0 g1 g2 g3 g4 g5 g6 g7
              clear hpl hw5 hk4 lx ly va vb nX nY hRR hL
              go_wp2_with fail
              rw [HW5.out]
              refine (HPL.out).mono ?_
              rintro e w6 ⟨rfl, h6⟩
              clear HPL g0 g1 g2 g3 g4 g5 g6 g7 p0 p1 p2 p3 p4 p5 p6 p7 q2
              have hb6 := hb4.trans (h6.mono hb4.size)
              have hp6 := hp4.below h6 hp4.lt
              have ho6 := ho4.below h6 ho4.lt
              have hX6 := own_below hX5 h6
              have hY6 := own_below hY5 h6
              have HK1 := Lib.hid (keptN_c w6 (some ⟨wP.heap.size, 0, none⟩) A na (na + 2) ca xs (s1.below hb6) (Sl.of_own hX6) (Nat.le_refl _) (by unfold maxLen; omega))
              obtain ⟨p0, p1, p2, p3, p4, p5, p6, p7⟩ := hp6.facts
              obtain ⟨g0, g1, g2, g3, g4, g5, g6, g7⟩ := ho6.facts
              go_wp2_with fail
              refine (HK1.out).mono ?_
              rintro e w7 ⟨rfl, h7⟩
              clear HK1 g0 g1 g2 g3 g4 g5 g6 g7 p0 p1 p2 p3 p4 p5 p6 p7
              have hb7 := hb6.trans (h7.mono hb6.size)
              have hp7 := hp6.below h7 hp6.lt
              have ho7 := ho6.below h7 ho6.lt
              have hX7 := own_below hX6 h7
              have hY7 := own_below hY6 h7
              have HK2 := Lib.hid (keptN_c w7 (some ⟨w3.heap.size, 0, none⟩) B nb (nb + 2) cb ys (s2.below hb7) (Sl.of_own hY7) (Nat.le_refl _) (by unfold maxLen; omega))
              obtain ⟨p0, p1, p2, p3, p4, p5, p6, p7⟩ := hp7.facts
              obtain ⟨g0, g1, g2, g3, g4, g5, g6, g7⟩ := ho7.facts
              go_wp2_with fail
              refine (HK2.out).mono ?_
              rintro e w8 ⟨rfl, h8⟩
              clear HK2 g0 g1 g2 g3 g4 g5 g6 g7 p0 p1 p2 p3 p4 p5 p6 p7
              have hb8 := hb7.trans (h8.mono hb7.size)
              have hp8 := hp7.below h8 hp7.lt
              have ho8 := ho7.below h8 ho7.lt
              have h58 := (h6.trans (h7.mono h6.size)).trans (h8.mono (h6.trans (h7.mono h6.size)).size)
              obtain ⟨nX, nY, hA5, hB5⟩ := HNUM.out
              have nX := nX.below h58
              have nY := nY.below h58
              have hA8 := hA5.below h58
              have hB8 := hB5.below h58
              have HC1 := Lib.hid (fun (wz : World) (hz : Below w8.heap.size w8 wz) => low_n (nX.below hz) (by omega))
              have HC2 := Lib.hid (fun (wz : World) (hz : Below w8.heap.size w8 wz) => refLow_n (hA8.below hz) (by omega))
              obtain ⟨fr, hfr⟩ : ∃ fr, decide (a < 18446744073709551616) = fr := ⟨_, rfl⟩
              obtain ⟨cr, hcr⟩ : ∃ cr, cmpN a b = cr := ⟨_, rfl⟩
              obtain ⟨lr, hlr⟩ : ∃ lr, a % 18446744073709551616 = lr := ⟨_, rfl⟩
              obtain ⟨br, hbr⟩ : ∃ br, blen a = br := ⟨_, rfl⟩
              have HC3 := Lib.hid (fun (wz : World) (hz : Below w8.heap.size w8 wz) => fits_n (nX.below hz))
              have HC4 := Lib.hid (fun (wz : World) (hz : Below w8.heap.size w8 wz) => refFits_n (hA8.below hz) (by omega))
              have HC5 := Lib.hid (fun (wz : World) (hz : Below w8.heap.size w8 wz) => cmp_n (nX.below hz) (nY.below hz) hcr)
              have HC6 := Lib.hid (fun (wz : World) (hz : Below w8.heap.size w8 wz) => refCmp_n (hA8.below hz) (hB8.below hz) (by omega) (by omega) hcr)
              have HC7 := Lib.hid (fun (wz : World) (hz : Below w8.heap.size w8 wz) => (bits_n (nX.below hz) (by omega) hbr).mono (fun e w' (h : _ ∧ _) => (⟨h.1, by rw [← h.2]; exact Below.refl _ _⟩ : e = .returned (.int .i64 (br : Int)) ∧ Below wz.heap.size wz w')))
              have HC8 := Lib.hid (fun (wz : World) (hz : Below w8.heap.size w8 wz) => refBits_n (hA8.below hz) (by omega))
              rw [hfr] at HC3 HC4
              rw [hlr] at HC1 HC2
              rw [hbr] at HC8
              have HFK := Lib.hid (fun (wz : World) (hz : Below w8.heap.size w8 wz) => (⟨(ho8.below hz ho8.lt).facts.2.1, (ho8.below hz ho8.lt).facts.2.2.1, (hp8.below hz hp8.lt).facts.2.1, (hp8.below hz hp8.lt).facts.2.2.1⟩ : _ ∧ _ ∧ _ ∧ _))
              have HB8 := Lib.hid (hb.out.trans (hb8.mono hb.out.size))
              clear hfr hcr hlr hbr nX nY hA8 hB8 hA5 hB5 h58 hb8 hb7 hb6 hp8 ho8 hp7 ho7 hp6 ho6 hX7 hY7 hX6 hY6 h8 h7 h6 hX5 hY5 hX4 hY4 hX3 hX2 h4 h2 hb4 hb2 ho4 hp4 hxp4 hxo4 hp2 ho2 hxp2 hxo2 hxo' hxp hxo hbp hbP hna hA hB s1 s2 o1 o2 HOP HXY HNUM a1 a2 b1' b2' x2 y4 z2 zOP
              go_wp2_with fail
              go_region_held3 (fun wz => wz.cell? ⟨wr.heap.size, 1, none⟩ = some (.slice A na ca) ∧ wz.cell? ⟨wr.heap.size, 2, none⟩ = some (.slice B nb cb) ∧ wz.cell? ⟨wL.heap.size, 1, none⟩ = some (.slice (some ⟨wP.heap.size, 0, none⟩) na (na + 2)) ∧ wz.cell? ⟨wL.heap.size, 2, none⟩ = some (.slice (some ⟨w3.heap.size, 0, none⟩) nb (nb + 2)))
                (first | exact HFK.out _ ((Below.refl _ _).drew) | exact HFK.out _ hb1 | exact HFK.out _ hb2 | exact HFK.out _ hb3 | exact HFK.out _ hb4 | exact HFK.out _ hb5 | exact HFK.out _ hb6 | exact HFK.out _ hb7 | exact HFK.out _ hb8)
                (first
                | (go_simp
                   go_at_call 17
                   refine (HC8.out _ hb7).mono ?_
                   rintro e w98 ⟨rfl, h98⟩
                   have hb8 : Below w8.heap.size w8 w98 := hb7.trans (h98.mono hb7.size)
                   dsimp only)
                | (go_simp
                   go_at_call 16
                   refine (HC7.out _ hb6).mono ?_
                   rintro e w97 ⟨rfl, h97⟩
                   have hb7 : Below w8.heap.size w8 w97 := hb6.trans (h97.mono hb6.size)
                   dsimp only)
                | (go_simp
                   go_at_call 15
                   refine (HC6.out _ hb5).mono ?_
                   rintro e w96 ⟨rfl, h96⟩
                   have hb6 : Below w8.heap.size w8 w96 := hb5.trans (h96.mono hb5.size)
                   dsimp only)
                | (go_simp
                   go_at_call 14
                   refine (HC5.out _ hb4).mono ?_
                   rintro e w95 ⟨rfl, h95⟩
                   have hb5 : Below w8.heap.size w8 w95 := hb4.trans (h95.mono hb4.size)
                   dsimp only)
                | (go_simp
                   go_at_call 13
                   refine (HC4.out _ hb3).mono ?_
                   rintro e w94 ⟨rfl, h94⟩
                   have hb4 : Below w8.heap.size w8 w94 := hb3.trans (h94.mono hb3.size)
                   dsimp only)
                | (go_simp
                   go_at_call 12
                   refine (HC3.out _ hb2).mono ?_
                   rintro e w93 ⟨rfl, h93⟩
                   have hb3 : Below w8.heap.size w8 w93 := hb2.trans (h93.mono hb2.size)
                   dsimp only)
                | (go_simp
                   go_at_call 11
                   refine (HC2.out _ hb1).mono ?_
                   rintro e w92 ⟨rfl, h92⟩
                   have hb2 : Below w8.heap.size w8 w92 := hb1.trans (h92.mono hb1.size)
                   dsimp only)
                | (go_simp
                   go_at_call 10
                   refine (HC1.out _ ((Below.refl _ _).drew)).mono ?_
                   rintro e w91 ⟨rfl, h91⟩
                   have hb1 : Below w8.heap.size w8 w91 := ((Below.refl w8.heap.size w8).drew).trans h91
                   dsimp only))
              have HBE := Lib.hid (HB8.out.trans (hb8.mono HB8.out.size))
              clear hb1 hb2 hb3 hb4 hb5 hb6 hb7 hb8 h91 h92 h93 h94 h95 h96 h97 h98 HC1 HC2 HC3 HC4 HC5 HC6 HC7 HC8 HFK
              go_wp2_with fail
              exact ⟨⟨i + 1, by omega, by omega, by go_num, HBE⟩, by simp [intOf]; omega⟩
          · go_wp2_with fail
            exact ⟨⟨i + 1, by omega, by omega, by go_num, Lib.hid (hb.out.trans (HBL.out.mono hb.out.size))⟩, by simp [intOf]; omega⟩
        · go_wp2_with fail
          exact ⟨⟨i + 1, by omega, by omega, by go_num, Lib.hid (hb.out.trans (HBL.out.mono hb.out.size))⟩, by simp [intOf]; omega⟩
      · have h40' : ¬ (i : Int) < 40 := by omega
        have hlt' : (i : Int) < (m : Int) := by omega
        go_wp2_with fail
        go_ret
        exact ⟨rfl, hb.out⟩
    · have hlt' : ¬ (i : Int) < (m : Int) := by omega
      go_wp2_with fail
      go_ret
      exact ⟨rfl, hb.out⟩
end Go.Proofs.YtkghilmdoabodaaDoor
