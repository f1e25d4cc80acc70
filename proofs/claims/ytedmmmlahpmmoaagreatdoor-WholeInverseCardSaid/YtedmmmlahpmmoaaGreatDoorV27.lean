/- Two rows through a live vertex: inject.witness: it ends without a panic. Condition: the graph reads from memory. -/
import Derived.Test.YtedmmmlahpmmoaaGreatDoorV21
import Derived.Test.YtedmmmlahpmmoaaGreatDoorV23
import Derived.Test.YtedmmmlahpmmoaaGreatDoorV26
namespace Go.Proofs.YtedmmmlahpmmoaaGreatDoor
open Go.RowKit RuleP TarjP PairP

theorem RowAt.set1 {w : World} {g : Nat} {x0 x1 x2 x3 : Value} (h : RowAt w g x0 x1 x2 x3) (u : Value) : RowAt (w.setCell ⟨g, 1, none⟩ u) g x0 u x2 x3 := by
  unfold RowAt at *
  simp [World.setCell, Array.getElem?_modify, h]
theorem RowAt.set2 {w : World} {g : Nat} {x0 x1 x2 x3 : Value} (h : RowAt w g x0 x1 x2 x3) (u : Value) : RowAt (w.setCell ⟨g, 2, none⟩ u) g x0 x1 u x3 := by
  unfold RowAt at *
  simp [World.setCell, Array.getElem?_modify, h]
theorem RowAt.set3 {w : World} {g : Nat} {x0 x1 x2 x3 : Value} (h : RowAt w g x0 x1 x2 x3) (u : Value) : RowAt (w.setCell ⟨g, 3, none⟩ u) g x0 x1 x2 u := by
  unfold RowAt at *
  simp [World.setCell, Array.getElem?_modify, h]
theorem RowAt.other {w : World} {g : Nat} {x0 x1 x2 x3 : Value} (h : RowAt w g x0 x1 x2 x3) {b : Nat} (hb : b ≠ g) (i : Nat) (u : Value) : RowAt (w.setCell ⟨b, i, none⟩ u) g x0 x1 x2 x3 :=
  h.keeps (Keeps.of_setCell w ⟨b, i, none⟩ u) (fun e => hb e.symm)
theorem keeps_two (w : World) (g b i j : Nat) (u u' : Value) : Keeps (fun k => k = g ∨ k = b) w ((w.setCell ⟨g, i, none⟩ u).setCell ⟨b, j, none⟩ u') :=
  ((Keeps.of_setCell w ⟨g, i, none⟩ u).mono (fun _ _ h => .inl h)).trans (Keeps.of_setCell _ ⟨b, j, none⟩ u') (fun _ _ h => .inr h)
theorem backP_lenG {g : List (List Nat)} : (backP g).length = g.length := backTo_len g _
theorem backP_rows {g : List (List Nat)} (hg : Graph g) (u : Nat) : ((backP g).getD u []).length ≤ (g.map List.length).sum := by
  have h1 := len_le_sum (backP g) u
  have h2 : ((backP g).map List.length).sum = arrTo g g.length := backTo_sum hg g.length (Nat.le_refl _)
  have h3 := arrTo_le g g.length
  omega

set_option maxRecDepth 100000 in
set_option maxHeartbeats 4000000 in
theorem witness_c (w : World) (k N : Nat) (C : Option Addr) (M : Nat) (g : List (List Nat)) (v : Nat) (hk : 0 < k) (hN0 : 0 < N) (hN : N ≤ 16) (hMN : N * N = M) (hg : Graph g) (hM : g.length = M) (hv : v ∈ liveP g) (hG : ListAt w C M (g.map ints)) (har : (g.map List.length).sum ≤ 65536) :
    Calls Tryz.prog 41 #[.int .i64 (k : Int), .slice C M M, .int .i64 (v : Int)] w fun e w' => (∃ P1 n1 a1 P2 n2 a2 P3 n3 a3 Q1 b1 Q2 b2 Q3 b3, e = .returned (.tuple #[.agg #[.int .i64 0, .slice P1 n1 a1, .slice P2 n2 a2, .slice P3 n3 a3], .agg #[.int .i64 0, .slice Q1 n1 b1, .slice Q2 n2 b2, .slice Q3 n3 b3], .nilIface])) ∧ Below w.heap.size w w' := by
  have hM2 : M ≤ 256 := by rw [← hMN]; exact Nat.le_trans (Nat.mul_le_mul hN hN) (by decide)
  have hM0 : 0 < M := by rw [← hMN]; exact Nat.mul_pos hN0 hN0
  have hlen : ∀ u, (g.getD u []).length ≤ 1000000 := fun u => by have := len_le_sum g u; omega
  have hlen2 : ∀ u, ((backP g).getD u []).length ≤ 1000000 := fun u => by have := backP_rows hg u; omega
  obtain ⟨hvM, hu1, hu2⟩ := liveP_iff hg hv
  rw [hM] at hvM
  have HLP := Lib.hid (fun (wz : World) (hz : Below w.heap.size w wz) => loops_c wz C M g hg hM hM0 (hG.keep hz) (by omega) (by omega))
  have HTU := Lib.hid (fun (wz : World) (hz : Below w.heap.size w wz) => turned_c wz C M g hg hM (hG.keep hz) (by omega) hlen (by omega))
  have HN1 := Lib.hid (fun (wz : World) (D A : Option Addr) (c : Nat) (hD : ListAt wz D M ((backP g).map ints)) (hA : Sl wz A M ((loopP g).map Value.bool)) => near_c wz D A M c (backP g) (loopP g) v (back_graph hg) (by rw [backP_lenG, hM]) hvM (by rw [loopP_len, hM]) hA hD (by omega) hlen2 (by
    obtain ⟨u, h1, h2⟩ := hu1
    exact ⟨u, h1, (rch_back hg).2 h2⟩))
  have HN2 := Lib.hid (fun (wz : World) (hz : Below w.heap.size w wz) (A : Option Addr) (c : Nat) (hA : Sl wz A M ((loopP g).map Value.bool)) => near_c wz C A M c g (loopP g) v hg hM hvM (by rw [loopP_len, hM]) hA (hG.keep hz) (by omega) hlen hu2)
  have HLO := Lib.hid (fun (wz : World) (hz : Below w.heap.size w wz) (c : Nat) (hc : c < M) (hl : (loopP g).getD c false = true) => loop_c wz C M g c hg hM hc (hG.keep hz) (by omega) (by omega) hl)
  have HPA := Lib.hid (fun (wz : World) (hz : Below w.heap.size w wz) (a b : Nat) (ha : a < M) (hb : b < M) (hr : Rch g a b) => path_c wz C M g a b hg hM ha hb (hG.keep hz) (by omega) (by omega) hr)
  have HRB := Lib.hid (fun (a b : Nat) (h : Rch (backP g) a b) => (rch_back hg).1 h)
  have HSI := Lib.hid (fun (wz : World) (n : Nat) (hn : 0 < n) (A : Option Addr) (m c : Nat) (xs : List Int) (hA : Sl wz A m (xs.map (Value.int .i64))) (hm : m ≤ 100000) => sides_c wz k n hk hn A m c xs hA hm)
  have hz6 := (RowAt.new w (.int .i64 0) (.slice none 0 0) (.slice none 0 0) (.slice none 0 0)).alloc (.cells #[.int .i64 0, .slice none 0 0, .slice none 0 0, .slice none 0 0] 26)
  have hz7 := RowAt.new (w.alloc (.cells #[.int .i64 0, .slice none 0 0, .slice none 0 0, .slice none 0 0] 26)) (.int .i64 0) (.slice none 0 0) (.slice none 0 0) (.slice none 0 0)
  rw [World.size_alloc] at hz7
  have b2 := ((Below.refl w.heap.size w).alloc (Nat.le_refl _) (.cells #[.int .i64 0, .slice none 0 0, .slice none 0 0, .slice none 0 0] 26)).alloc (by simp) (.cells #[.int .i64 0, .slice none 0 0, .slice none 0 0, .slice none 0 0] 26)
  obtain ⟨w2, hw2⟩ : ∃ w2, (w.alloc (.cells #[.int .i64 0, .slice none 0 0, .slice none 0 0, .slice none 0 0] 26)).alloc (.cells #[.int .i64 0, .slice none 0 0, .slice none 0 0, .slice none 0 0] 26) = w2 := ⟨_, rfl⟩
  rw [hw2] at hz6 hz7 b2
  have HW2 := Lib.hid hw2
  have B2 := Lib.hid b2
  have HZ := Lib.hid (fun (wz : World) (hz : Below w2.heap.size w2 wz) => (⟨hz6.below hz hz6.lt, hz7.below hz hz7.lt⟩ : RowAt wz w.heap.size (.int .i64 0) (.slice none 0 0) (.slice none 0 0) (.slice none 0 0) ∧ RowAt wz (w.heap.size + 1) (.int .i64 0) (.slice none 0 0) (.slice none 0 0) (.slice none 0 0)))
  have HZL := Lib.hid (show w.heap.size + 1 < w2.heap.size from hz7.lt)
  have HLP2 := Lib.hid (HLP.out w2 b2)
  have HMN := Lib.hid hMN
  have hvM' : (v : Int) < (M : Int) := by omega
  clear hz6 hz7 b2 hw2 hG hg hM hv hlen hlen2 hu1 hu2 hMN
  go_enter Tryz.func41, Tryz.ntmps41
  go_wp2_with fail
  rw [HW2.out]
  refine (HLP2.out).mono ?_
  rintro e w3 ⟨gf, rfl, hof, hb3⟩
  have B3 := Lib.hid hb3
  have HOF := Lib.hid hof
  clear hof hb3
  go_wp2_with fail
  go_loopw [11] (fun nv wl => ∃ n : Nat, nv = .int .i64 (n : Int) ∧ 0 < n ∧ n ≤ N ∧ wl = w3) (fun nv _ => N - (intOf nv).toNat)
  case atStart => exact ⟨1, rfl, by omega, by omega, rfl⟩
  case round =>
    obtain ⟨n, rfl, hn0, hnN, rfl⟩ := hrel
    obtain ⟨q, hq⟩ : ∃ q, n * n = q := ⟨_, rfl⟩
    have hq256 : q ≤ 256 := by rw [← hq]; exact Nat.le_trans (Nat.mul_le_mul hnN hnN) (by rw [HMN.out]; exact hM2)
    have e1 : IntKind.i64.wrap ((n : Int) * (n : Int)) = (q : Int) := by rw [show (n : Int) * (n : Int) = (q : Int) by rw [← hq]; rfl]; exact IntWalk.i64_in _ (by omega)
    by_cases hlt : q < M
    · have hlt' : (q : Int) < (M : Int) := by omega
      have hn1 : n < N := by
        rcases Nat.lt_or_ge n N with h | h
        · exact h
        · have := Nat.mul_le_mul h h
          rw [HMN.out, hq] at this
          omega
      clear hq
      go_wp2_with fail
      exact ⟨⟨n + 1, by go_num, by omega, by omega, trivial⟩, by simp [intOf]; omega⟩
    · have hlt' : ¬ (q : Int) < (M : Int) := by omega
      have HTU3 := Lib.hid (HTU.out wr (B2.out.trans (B3.out.mono B2.out.size)))
      clear hq
      go_wp2_with fail
      refine (HTU3.out).mono ?_
      rintro e w4 ⟨go, rfl, hgo, hb4⟩
      have B4 := Lib.hid (B3.out.trans (hb4.mono B3.out.size))
      have HOF4 := Lib.hid (own_below HOF.out hb4)
      have HNE4 := Lib.hid (HN1.out w4 (some ⟨go, 0, none⟩) (some ⟨gf, 0, none⟩) M hgo (Sl.of_own HOF4.out))
      clear hgo hb4
      go_wp2_with fail
      refine (HNE4.out).mono ?_
      rintro e w5 ⟨c, rfl, hcM, hcl, hcr, hb5⟩
      have B5 := Lib.hid (B4.out.trans (hb5.mono B4.out.size))
      have HOF5 := Lib.hid (own_below HOF4.out hb5)
      have HNE5 := Lib.hid (HN2.out w5 (B2.out.trans (B5.out.mono B2.out.size)) (some ⟨gf, 0, none⟩) M (Sl.of_own HOF5.out))
      have HC := Lib.hid (And.intro hcM (And.intro hcl (HRB.out _ _ hcr)))
      clear hb5 hcM hcl hcr
      go_wp2_with fail
      refine (HNE5.out).mono ?_
      rintro e w6 ⟨d, rfl, hdM, hdl, hdr, hb6⟩
      have B6 := Lib.hid (B5.out.trans (hb6.mono B5.out.size))
      have HD := Lib.hid (And.intro hdM (And.intro hdl hdr))
      have HL1 := Lib.hid (HLO.out w6 (B2.out.trans (B6.out.mono B2.out.size)) c HC.out.1 HC.out.2.1)
      clear hb6 hdM hdl hdr
      go_wp2_with fail
      refine (HL1.out).mono ?_
      rintro e w7 ⟨gl, Ql, cl, ql, rfl, _, hQl, _, hol, hb7⟩
      have B7 := Lib.hid (B6.out.trans (hb7.mono B6.out.size))
      have HOL7 := Lib.hid (Sl.of_own hol)
      have HL2 := Lib.hid (HLO.out w7 (B2.out.trans (B7.out.mono B2.out.size)) d HD.out.1 HD.out.2.1)
      clear hb7 hol
      go_wp2_with fail
      refine (HL2.out).mono ?_
      rintro e w8 ⟨gr, Qr, cr, qr, rfl, hQr0, hQr, _, hor, hb8⟩
      have B8 := Lib.hid (B7.out.trans (hb8.mono B7.out.size))
      have HOL8 := Lib.hid (HOL7.out.below hb8)
      have HOR8 := Lib.hid hor
      have HP1 := Lib.hid (HPA.out w8 (B2.out.trans (B8.out.mono B2.out.size)) c v HC.out.1 hvM HC.out.2.2)
      clear hb8 hor
      go_wp2_with fail
      refine (HP1.out).mono ?_
      rintro e w9 ⟨gi, Qi, ci, qi, rfl, hQi0, hQi, _, hoi, hb9⟩
      have B9 := Lib.hid (B8.out.trans (hb9.mono B8.out.size))
      have HOL9 := Lib.hid (HOL8.out.below hb9)
      have HOR9 := Lib.hid (own_below HOR8.out hb9)
      have HOI9 := Lib.hid hoi
      have HP2 := Lib.hid (HPA.out w9 (B2.out.trans (B9.out.mono B2.out.size)) v d hvM HD.out.1 HD.out.2.2)
      clear hb9 hoi
      go_wp2_with fail
      refine (HP2.out).mono ?_
      rintro e w10 ⟨gu, Qu, cu, qu, rfl, hQu0, hQu, _, hou, hb10⟩
      have B10 := Lib.hid (B9.out.trans (hb10.mono B9.out.size))
      have HOL10 := Lib.hid (HOL9.out.below hb10)
      have HOR10 := Lib.hid (own_below HOR9.out hb10)
      have HOI10 := Lib.hid (own_below HOI9.out hb10)
      have HOU10 := Lib.hid hou
      clear hb10 hou
      -- the rows
      have ha22 := (RowAt.new w10 (.int .i64 0) (.slice none 0 0) (.slice none 0 0) (.slice none 0 0)).alloc (.cells #[.int .i64 0, .slice none 0 0, .slice none 0 0, .slice none 0 0] 26)
      have ha23 := RowAt.new (w10.alloc (.cells #[.int .i64 0, .slice none 0 0, .slice none 0 0, .slice none 0 0] 26)) (.int .i64 0) (.slice none 0 0) (.slice none 0 0) (.slice none 0 0)
      rw [World.size_alloc] at ha23
      have b12 := ((Below.refl w10.heap.size w10).alloc (Nat.le_refl _) (.cells #[.int .i64 0, .slice none 0 0, .slice none 0 0, .slice none 0 0] 26)).alloc (by simp) (.cells #[.int .i64 0, .slice none 0 0, .slice none 0 0, .slice none 0 0] 26)
      obtain ⟨w12, hw12⟩ : ∃ w12, (w10.alloc (.cells #[.int .i64 0, .slice none 0 0, .slice none 0 0, .slice none 0 0] 26)).alloc (.cells #[.int .i64 0, .slice none 0 0, .slice none 0 0, .slice none 0 0] 26) = w12 := ⟨_, rfl⟩
      rw [hw12] at ha22 ha23 b12
      obtain ⟨G, hG10⟩ : ∃ G, w10.heap.size = G := ⟨_, rfl⟩
      rw [hG10] at ha22 ha23
      have HG10 := Lib.hid hG10
      have HW12 := Lib.hid hw12
      have B12 := Lib.hid (B10.out.trans (b12.mono B10.out.size))
      have HGB := Lib.hid (show w2.heap.size ≤ G by rw [← hG10]; exact B10.out.size)
      have HA := Lib.hid (And.intro ha22 ha23)
      have HOL12 := Lib.hid (HOL10.out.below b12)
      have HOR12 := Lib.hid (own_below HOR10.out b12)
      have HOI12 := Lib.hid (own_below HOI10.out b12)
      have HOU12 := Lib.hid (own_below HOU10.out b12)
      have HLT := Lib.hid (show gr < G ∧ gi < G ∧ gu < G ∧ gr < gi ∧ w2.heap.size ≤ gr from by
        rw [← hG10]
        refine ⟨(HOR10.out.lt gr rfl).2, (HOI10.out.lt gi rfl).2, (HOU10.out.lt gu rfl).2, ?_, ?_⟩
        · have h1 := (HOR8.out.lt gr rfl).2
          have h2 := (HOI9.out.lt gi rfl).1
          omega
        · have h1 := (HOR8.out.lt gr rfl).1
          have h2 := B7.out.size
          omega)
      have HS1 := Lib.hid (HSI.out w12 n hn0 (some ⟨gl, 0, none⟩) Ql cl (ints ql) HOL12.out (by omega))
      clear ha22 ha23 b12 hw12 hG10
      go_wp2_with fail
      rw [HW12.out, HG10.out]
      refine (HS1.out).mono ?_
      rintro e w13 ⟨P1, a1, Q1, b1, n1, rfl, hb13⟩
      have B13 := Lib.hid (B12.out.trans (hb13.mono B12.out.size))
      have HOR13 := Lib.hid (own_below HOR12.out hb13)
      have HOI13 := Lib.hid (own_below HOI12.out hb13)
      have HOU13 := Lib.hid (own_below HOU12.out hb13)
      have ha := HA.out.1.below hb13 HA.out.1.lt
      have hb := HA.out.2.below hb13 HA.out.2.lt
      obtain ⟨f0, f1, f2, f3, f4, f5, f6, f7⟩ := ha.facts
      obtain ⟨g0, g1, g2, g3, g4, g5, g6, g7⟩ := hb.facts
      have ha14 := (ha.set1 (.slice P1 n1 a1)).other (b := G + 1) (by omega) 1 (.slice Q1 n1 b1)
      have hb14 := (hb.other (b := G) (by omega) 1 (.slice P1 n1 a1)).set1 (.slice Q1 n1 b1)
      have hks := keeps_two w13 G (G + 1) 1 1 (.slice P1 n1 a1) (.slice Q1 n1 b1)
      have bb14 := B13.out.trans (hks.below B13.out.size (fun b hb => by have := HGB.out; omega))
      have hlt := HLT.out
      have hoi14 := own_keeps HOI13.out hks (fun b hb e => by have h1 : gi = b := Option.some.inj hb; omega)
      have hor14 := own_keeps HOR13.out hks (fun b hb e => by have h1 : gr = b := Option.some.inj hb; omega)
      have hou14 := own_keeps HOU13.out hks (fun b hb e => by have h1 : gu = b := Option.some.inj hb; omega)
      obtain ⟨w14, hw14⟩ : ∃ w14, (w13.setCell ⟨G, 1, none⟩ (.slice P1 n1 a1)).setCell ⟨G + 1, 1, none⟩ (.slice Q1 n1 b1) = w14 := ⟨_, rfl⟩
      rw [hw14] at ha14 hb14 bb14 hoi14 hor14 hou14
      have HW14 := Lib.hid hw14
      have HA14 := Lib.hid ha14
      have HB14 := Lib.hid hb14
      have B14 := Lib.hid bb14
      have HOI14 := Lib.hid (own_base hoi14 (Nat.zero_le _))
      have HOR14 := Lib.hid (own_base hor14 (Nat.zero_le _))
      have HOU14 := Lib.hid (own_base hou14 (Nat.zero_le _))
      have hcuq := own_le hou14
      have hcrq := own_le hor14
      have hl1 : (1 : Int) ≤ (Qu : Int) := by omega
      have hl2 : (1 : Int) ≤ (Qr : Int) := by omega
      obtain ⟨m1, hm1⟩ : ∃ m1, Qu - 1 = m1 := ⟨_, rfl⟩
      obtain ⟨m2, hm2⟩ : ∃ m2, Qr - 1 = m2 := ⟨_, rfl⟩
      clear ha hb ha14 hb14 bb14 hoi14 hor14 hou14 hks hw14 hb13 hlt
      go_upto_region 14 with fail
      rw [HW14.out]
      clear f0 f1 f2 f3 f4 f5 f6 f7 g0 g1 g2 g3 g4 g5 g6 g7
      have HSU : Hid (∃ ys : List Nat, Sl w14 (some ⟨gu, 1, none⟩) m1 ((ints ys).map (Value.int .i64))) := Lib.hid ⟨_, sl_at HOU14.out (show 1 + m1 ≤ Qu by omega)⟩
      have HJ := Lib.hid (fun (l1 l2 : List Nat) => (show (ints l1).map (Value.int .i64) ++ (ints l2).map (Value.int .i64) = (ints l1 ++ ints l2).map (Value.int .i64) by rw [List.map_append]))
      by_cases hcu1 : cu = 1
      · obtain rfl : Qu = 1 := by omega
        obtain rfl : m1 = 0 := hm1.symm
        subst hcu1
        have HSV : Hid (∃ ys : List Nat, Sl w14 (some ⟨gu, 0, none⟩) 0 ((ints ys).map (Value.int .i64))) := Lib.hid ⟨[], rfl, fun j v hj => by simp [ints] at hj⟩
        obtain ⟨ys, hys⟩ := HSV.out
        have HYS := Lib.hid hys
        clear hys HSU HSV hm1
        go_wp2_with (at_builtin
                     refine wpList_cat rfl _ _ _ rfl tInts HOI14.out rfl HYS.out rfl (words_oneI _) (by simp only [maxLen]; omega) (by omega) (Nat.zero_le _) ?_
                     intro v9 w15 hown9 hg9 _ _
                     obtain ⟨C9, c9, rfl, _, _⟩ := own_slice hown9)
        have hk15 := Keeps.of_grown hg9
        have hlt := HLT.out
        have ha15 := HA14.out.keeps hk15 (fun e => by have h1 : gi = G := Option.some.inj e; omega)
        have hb15 := HB14.out.keeps hk15 (fun e => by have h1 : gi = G + 1 := Option.some.inj e; omega)
        have hor15 := own_keeps HOR14.out hk15 (fun b hb e => by
          have h1 : gr = b := Option.some.inj hb
          have h2 : gi = b := Option.some.inj e
          omega)
        have bb15 := B14.out.trans (hk15.below B14.out.size (fun b e => by
          have h2 : gi = b := Option.some.inj e
          omega))
        rw [HJ.out] at hown9
        have HS15 := Lib.hid (HSI.out w15 n hn0 C9 _ c9 _ (Sl.of_own hown9) (by omega))
        have HA15 := Lib.hid ha15
        have HB15 := Lib.hid hb15
        have HOR15 := Lib.hid hor15
        have B15 := Lib.hid bb15
        clear ha15 hb15 hor15 bb15 hk15 hg9 hown9 hlt
        go_wp2_with fail
        refine (HS15.out).mono ?_
        rintro e w16 ⟨P2, a2, Q2, b2, n2, rfl, hb16⟩
        have ha := HA15.out.below hb16 HA15.out.lt
        have hb := HB15.out.below hb16 HB15.out.lt
        have hor16 := own_below HOR15.out hb16
        have bb16 := B15.out.trans (hb16.mono B15.out.size)
        obtain ⟨f0, f1, f2, f3, f4, f5, f6, f7⟩ := ha.facts
        obtain ⟨g0, g1, g2, g3, g4, g5, g6, g7⟩ := hb.facts
        have ha17 := (ha.set2 (.slice P2 n2 a2)).other (b := G + 1) (by omega) 2 (.slice Q2 n2 b2)
        have hb17 := (hb.other (b := G) (by omega) 2 (.slice P2 n2 a2)).set2 (.slice Q2 n2 b2)
        have hks := keeps_two w16 G (G + 1) 2 2 (.slice P2 n2 a2) (.slice Q2 n2 b2)
        have hlt := HLT.out
        have hor17 := own_keeps hor16 hks (fun b hb e => by have h1 : gr = b := Option.some.inj hb; omega)
        have bb17 := bb16.trans (hks.below bb16.size (fun b hb => by have := HGB.out; omega))
        obtain ⟨w17, hw17⟩ : ∃ w17, (w16.setCell ⟨G, 2, none⟩ (.slice P2 n2 a2)).setCell ⟨G + 1, 2, none⟩ (.slice Q2 n2 b2) = w17 := ⟨_, rfl⟩
        rw [hw17] at ha17 hb17 hor17 bb17
        have HW17 := Lib.hid hw17
        have HOR17 : Hid (∃ (y : Value) (ys : List Nat), (w17.alloc (.cells #[.int .i64 (d : Int)] 3)).ownsRow 0 3 1 (.slice (some ⟨gr, 0, none⟩) (m2 + 1) cr) (m2 + 1) (y :: (ints ys).map (Value.int .i64))) := Lib.hid (by
          have h1 : qr.length = Qr := by have := hor17.1; simpa [ints] using this
          obtain ⟨y, ys, rfl⟩ : ∃ y ys, qr = y :: ys := by
            cases qr with
            | nil => simp at h1; omega
            | cons y ys => exact ⟨y, ys, rfl⟩
          have h2 : Qr = m2 + 1 := by omega
          rw [h2] at hor17
          exact ⟨_, ys, hor17.alloc _⟩)
        have HA17 := Lib.hid (ha17.alloc (.cells #[.int .i64 (d : Int)] 3))
        have HB17 := Lib.hid (hb17.alloc (.cells #[.int .i64 (d : Int)] 3))
        have B17 := Lib.hid (bb17.alloc bb17.size (.cells #[.int .i64 (d : Int)] 3))
        clear ha hb ha17 hb17 hor16 hor17 bb16 bb17 hks hw17 hb16 hlt
        go_upto_region 15 with fail
        rw [HW17.out]
        clear f0 f1 f2 f3 f4 f5 f6 f7 g0 g1 g2 g3 g4 g5 g6 g7
        obtain ⟨yy, zs, hrw⟩ := HOR17.out
        have HRW := Lib.hid hrw
        clear hrw
        by_cases hcr1 : cr = 1
        · obtain rfl : Qr = 1 := by omega
          obtain rfl : m2 = 0 := hm2.symm
          subst hcr1
          clear hm2
          go_wp2_with (at_builtin
                       refine wpList_push_t rfl _ _ _ rfl tInts HRW.out _ (by first | exact .inl rfl | exact .inr rfl) rfl ⟨w17.heap.size, 0, none⟩ 1 rfl (.int .i64 (d : Int)) (lit_at w17 _ _ _ rfl) rfl (by simp only [maxLen]; omega) (by omega) ?_
                       intro A18 c18 w18 hsl18 hk18)
          have hlt := HLT.out
          have ha18 := HA17.out.keeps hk18 (fun e => by have h1 : G = gr := e; omega)
          have hb18 := HB17.out.keeps hk18 (fun e => by have h1 : G + 1 = gr := e; omega)
          have bb18 := B17.out.trans (hk18.below B17.out.size (fun b e => by have h1 : b = gr := e; omega))
          have hsl19 := hsl18
          rw [show (ints zs).map (Value.int .i64) ++ [.int .i64 (d : Int)] = (ints (zs ++ [d])).map (Value.int .i64) by simp [ints]] at hsl19
          have HS18 := Lib.hid (HSI.out w18 n hn0 A18 _ c18 _ hsl19 (by omega))
          have HA18 := Lib.hid ha18
          have HB18 := Lib.hid hb18
          have B18 := Lib.hid bb18
          clear ha18 hb18 bb18 hk18 hsl18 hsl19 hlt
          go_wp2_with fail
          refine (HS18.out).mono ?_
          rintro e w19 ⟨P3, a3, Q3, b3, n3, rfl, hb19⟩
          have ha := HA18.out.below hb19 HA18.out.lt
          have hb := HB18.out.below hb19 HB18.out.lt
          have bb19 := B18.out.trans (hb19.mono B18.out.size)
          obtain ⟨f0, f1, f2, f3, f4, f5, f6, f7⟩ := ha.facts
          obtain ⟨g0, g1, g2, g3, g4, g5, g6, g7⟩ := hb.facts
          have ha20 := (ha.set3 (.slice P3 n3 a3)).other (b := G + 1) (by omega) 3 (.slice Q3 n3 b3)
          have hb20 := (hb.other (b := G) (by omega) 3 (.slice P3 n3 a3)).set3 (.slice Q3 n3 b3)
          have hks := keeps_two w19 G (G + 1) 3 3 (.slice P3 n3 a3) (.slice Q3 n3 b3)
          have bb20 := bb19.trans (hks.below bb19.size (fun b hb => by have := HGB.out; omega))
          obtain ⟨w20, hw20⟩ : ∃ w20, (w19.setCell ⟨G, 3, none⟩ (.slice P3 n3 a3)).setCell ⟨G + 1, 3, none⟩ (.slice Q3 n3 b3) = w20 := ⟨_, rfl⟩
          rw [hw20] at ha20 hb20 bb20
          have HW20 := Lib.hid hw20
          have HA20 := Lib.hid ha20
          have HB20 := Lib.hid hb20
          have B20 := Lib.hid bb20
          clear ha hb ha20 hb20 bb19 bb20 hks hw20 hb19
          go_upto_region 16 with fail
          rw [HW20.out]
          clear f0 f1 f2 f3 f4 f5 f6 f7 g0 g1 g2 g3 g4 g5 g6 g7
          obtain ⟨f0, f1, f2, f3, f4, f5, f6, f7⟩ := HA20.out.facts
          obtain ⟨g0, g1, g2, g3, g4, g5, g6, g7⟩ := HB20.out.facts
          obtain ⟨hz6, hz7⟩ := HZ.out w20 B20.out
          obtain ⟨d0, d1, d2, d3, d4, d5, d6, d7⟩ := hz6.facts
          obtain ⟨j0, j1, j2, j3, j4, j5, j6, j7⟩ := hz7.facts
          have nn1 : ¬ w.heap.size = G := by have := HGB.out; have := HZL.out; omega
          have nn2 : ¬ w.heap.size = G + 1 := by have := HGB.out; have := HZL.out; omega
          have nn3 : ¬ w.heap.size + 1 = G := by have := HGB.out; have := HZL.out; omega
          have nn4 : ¬ G = w.heap.size := by omega
          have nn5 : ¬ G + 1 = w.heap.size := by omega
          have nn6 : ¬ G = w.heap.size + 1 := by omega
          have hk6 := keeps_set4 w20 w.heap.size (.int .i64 0) (.slice P1 n1 a1) (.slice P2 n2 a2) (.slice P3 n3 a3)
          have hr6 := hz6.set4 (.int .i64 0) (.slice P1 n1 a1) (.slice P2 n2 a2) (.slice P3 n3 a3)
          have hr7 := hz7.keeps hk6 (by omega)
          have hbw := B2.out.trans (B20.out.mono B2.out.size)
          have hbw6 := hbw.trans (hk6.below hbw.size (fun b e => by have h1 : b = w.heap.size := e; omega))
          have HR67 := Lib.hid (And.intro hr6 (And.intro hr7 hbw6))
          clear hk6 hr6 hr7 hbw hbw6
          go_region
          clear f0 f1 f2 f3 f4 f5 f6 f7 g0 g1 g2 g3 g4 g5 g6 g7 d0 d1 d2 d3 d4 d5 d6 d7 j0 j1 j2 j3 j4 j5 j6 j7 nn1 nn2 nn3 nn4 nn5 nn6
          obtain ⟨hr6, hr7, hbw6⟩ := HR67.out
          have hk7 := keeps_set4 ((((w20.setCell ⟨w.heap.size, 0, none⟩ (.int .i64 0)).setCell ⟨w.heap.size, 1, none⟩ (.slice P1 n1 a1)).setCell ⟨w.heap.size, 2, none⟩ (.slice P2 n2 a2)).setCell ⟨w.heap.size, 3, none⟩ (.slice P3 n3 a3)) (w.heap.size + 1) (.int .i64 0) (.slice Q1 n1 b1) (.slice Q2 n2 b2) (.slice Q3 n3 b3)
          have hx6 := hr6.keeps hk7 (by omega)
          have hx7 := hr7.set4 (.int .i64 0) (.slice Q1 n1 b1) (.slice Q2 n2 b2) (.slice Q3 n3 b3)
          have hbw7 := hbw6.trans (hk7.below hbw6.size (fun b e => by have h1 : b = w.heap.size + 1 := e; omega))
          obtain ⟨w21, hw21⟩ : ∃ w21, ((((((((w20.setCell ⟨w.heap.size, 0, none⟩ (.int .i64 0)).setCell ⟨w.heap.size, 1, none⟩ (.slice P1 n1 a1)).setCell ⟨w.heap.size, 2, none⟩ (.slice P2 n2 a2)).setCell ⟨w.heap.size, 3, none⟩ (.slice P3 n3 a3)).setCell ⟨w.heap.size + 1, 0, none⟩ (.int .i64 0)).setCell ⟨w.heap.size + 1, 1, none⟩ (.slice Q1 n1 b1)).setCell ⟨w.heap.size + 1, 2, none⟩ (.slice Q2 n2 b2)).setCell ⟨w.heap.size + 1, 3, none⟩ (.slice Q3 n3 b3)) = w21 := ⟨_, rfl⟩
          rw [hw21] at hx6 hx7 hbw7 ⊢
          have HBE := Lib.hid hbw7
          clear hk7 hbw7 hr6 hr7 hbw6 hw21
          obtain ⟨d0, d1, d2, d3, _⟩ := hx6.facts
          obtain ⟨j0, j1, j2, j3, _⟩ := hx7.facts
          clear hx6 hx7
          go_wp2_with fail
          exact bodyPost_ret (v := .tuple #[.agg #[.int .i64 0, .slice P1 n1 a1, .slice P2 n2 a2, .slice P3 n3 a3], .agg #[.int .i64 0, .slice Q1 n1 b1, .slice Q2 n2 b2, .slice Q3 n3 b3], .nilIface]) (by simp [results, Tryz.results41, go_sem, d0, d1, d2, d3, j0, j1, j2, j3]) rfl ⟨⟨_, _, _, _, _, _, _, _, _, _, _, _, _, _, _, rfl⟩, HBE.out.drew⟩
        · go_wp2_with (at_builtin
                       refine wpList_push_t rfl _ _ _ rfl tInts HRW.out _ (by first | exact .inl rfl | exact .inr rfl) rfl ⟨w17.heap.size, 0, none⟩ 1 rfl (.int .i64 (d : Int)) (lit_at w17 _ _ _ rfl) rfl (by simp only [maxLen]; omega) (by omega) ?_
                       intro A18 c18 w18 hsl18 hk18)
          have hlt := HLT.out
          have ha18 := HA17.out.keeps hk18 (fun e => by have h1 : G = gr := e; omega)
          have hb18 := HB17.out.keeps hk18 (fun e => by have h1 : G + 1 = gr := e; omega)
          have bb18 := B17.out.trans (hk18.below B17.out.size (fun b e => by have h1 : b = gr := e; omega))
          have hsl19 := hsl18
          rw [show (ints zs).map (Value.int .i64) ++ [.int .i64 (d : Int)] = (ints (zs ++ [d])).map (Value.int .i64) by simp [ints]] at hsl19
          have HS18 := Lib.hid (HSI.out w18 n hn0 A18 _ c18 _ hsl19 (by omega))
          have HA18 := Lib.hid ha18
          have HB18 := Lib.hid hb18
          have B18 := Lib.hid bb18
          clear ha18 hb18 bb18 hk18 hsl18 hsl19 hlt
          go_wp2_with fail
          refine (HS18.out).mono ?_
          rintro e w19 ⟨P3, a3, Q3, b3, n3, rfl, hb19⟩
          have ha := HA18.out.below hb19 HA18.out.lt
          have hb := HB18.out.below hb19 HB18.out.lt
          have bb19 := B18.out.trans (hb19.mono B18.out.size)
          obtain ⟨f0, f1, f2, f3, f4, f5, f6, f7⟩ := ha.facts
          obtain ⟨g0, g1, g2, g3, g4, g5, g6, g7⟩ := hb.facts
          have ha20 := (ha.set3 (.slice P3 n3 a3)).other (b := G + 1) (by omega) 3 (.slice Q3 n3 b3)
          have hb20 := (hb.other (b := G) (by omega) 3 (.slice P3 n3 a3)).set3 (.slice Q3 n3 b3)
          have hks := keeps_two w19 G (G + 1) 3 3 (.slice P3 n3 a3) (.slice Q3 n3 b3)
          have bb20 := bb19.trans (hks.below bb19.size (fun b hb => by have := HGB.out; omega))
          obtain ⟨w20, hw20⟩ : ∃ w20, (w19.setCell ⟨G, 3, none⟩ (.slice P3 n3 a3)).setCell ⟨G + 1, 3, none⟩ (.slice Q3 n3 b3) = w20 := ⟨_, rfl⟩
          rw [hw20] at ha20 hb20 bb20
          have HW20 := Lib.hid hw20
          have HA20 := Lib.hid ha20
          have HB20 := Lib.hid hb20
          have B20 := Lib.hid bb20
          clear ha hb ha20 hb20 bb19 bb20 hks hw20 hb19
          go_upto_region 16 with fail
          rw [HW20.out]
          clear f0 f1 f2 f3 f4 f5 f6 f7 g0 g1 g2 g3 g4 g5 g6 g7
          obtain ⟨f0, f1, f2, f3, f4, f5, f6, f7⟩ := HA20.out.facts
          obtain ⟨g0, g1, g2, g3, g4, g5, g6, g7⟩ := HB20.out.facts
          obtain ⟨hz6, hz7⟩ := HZ.out w20 B20.out
          obtain ⟨d0, d1, d2, d3, d4, d5, d6, d7⟩ := hz6.facts
          obtain ⟨j0, j1, j2, j3, j4, j5, j6, j7⟩ := hz7.facts
          have nn1 : ¬ w.heap.size = G := by have := HGB.out; have := HZL.out; omega
          have nn2 : ¬ w.heap.size = G + 1 := by have := HGB.out; have := HZL.out; omega
          have nn3 : ¬ w.heap.size + 1 = G := by have := HGB.out; have := HZL.out; omega
          have nn4 : ¬ G = w.heap.size := by omega
          have nn5 : ¬ G + 1 = w.heap.size := by omega
          have nn6 : ¬ G = w.heap.size + 1 := by omega
          have hk6 := keeps_set4 w20 w.heap.size (.int .i64 0) (.slice P1 n1 a1) (.slice P2 n2 a2) (.slice P3 n3 a3)
          have hr6 := hz6.set4 (.int .i64 0) (.slice P1 n1 a1) (.slice P2 n2 a2) (.slice P3 n3 a3)
          have hr7 := hz7.keeps hk6 (by omega)
          have hbw := B2.out.trans (B20.out.mono B2.out.size)
          have hbw6 := hbw.trans (hk6.below hbw.size (fun b e => by have h1 : b = w.heap.size := e; omega))
          have HR67 := Lib.hid (And.intro hr6 (And.intro hr7 hbw6))
          clear hk6 hr6 hr7 hbw hbw6
          go_region
          clear f0 f1 f2 f3 f4 f5 f6 f7 g0 g1 g2 g3 g4 g5 g6 g7 d0 d1 d2 d3 d4 d5 d6 d7 j0 j1 j2 j3 j4 j5 j6 j7 nn1 nn2 nn3 nn4 nn5 nn6
          obtain ⟨hr6, hr7, hbw6⟩ := HR67.out
          have hk7 := keeps_set4 ((((w20.setCell ⟨w.heap.size, 0, none⟩ (.int .i64 0)).setCell ⟨w.heap.size, 1, none⟩ (.slice P1 n1 a1)).setCell ⟨w.heap.size, 2, none⟩ (.slice P2 n2 a2)).setCell ⟨w.heap.size, 3, none⟩ (.slice P3 n3 a3)) (w.heap.size + 1) (.int .i64 0) (.slice Q1 n1 b1) (.slice Q2 n2 b2) (.slice Q3 n3 b3)
          have hx6 := hr6.keeps hk7 (by omega)
          have hx7 := hr7.set4 (.int .i64 0) (.slice Q1 n1 b1) (.slice Q2 n2 b2) (.slice Q3 n3 b3)
          have hbw7 := hbw6.trans (hk7.below hbw6.size (fun b e => by have h1 : b = w.heap.size + 1 := e; omega))
          obtain ⟨w21, hw21⟩ : ∃ w21, ((((((((w20.setCell ⟨w.heap.size, 0, none⟩ (.int .i64 0)).setCell ⟨w.heap.size, 1, none⟩ (.slice P1 n1 a1)).setCell ⟨w.heap.size, 2, none⟩ (.slice P2 n2 a2)).setCell ⟨w.heap.size, 3, none⟩ (.slice P3 n3 a3)).setCell ⟨w.heap.size + 1, 0, none⟩ (.int .i64 0)).setCell ⟨w.heap.size + 1, 1, none⟩ (.slice Q1 n1 b1)).setCell ⟨w.heap.size + 1, 2, none⟩ (.slice Q2 n2 b2)).setCell ⟨w.heap.size + 1, 3, none⟩ (.slice Q3 n3 b3)) = w21 := ⟨_, rfl⟩
          rw [hw21] at hx6 hx7 hbw7 ⊢
          have HBE := Lib.hid hbw7
          clear hk7 hbw7 hr6 hr7 hbw6 hw21
          obtain ⟨d0, d1, d2, d3, _⟩ := hx6.facts
          obtain ⟨j0, j1, j2, j3, _⟩ := hx7.facts
          clear hx6 hx7
          go_wp2_with fail
          exact bodyPost_ret (v := .tuple #[.agg #[.int .i64 0, .slice P1 n1 a1, .slice P2 n2 a2, .slice P3 n3 a3], .agg #[.int .i64 0, .slice Q1 n1 b1, .slice Q2 n2 b2, .slice Q3 n3 b3], .nilIface]) (by simp [results, Tryz.results41, go_sem, d0, d1, d2, d3, j0, j1, j2, j3]) rfl ⟨⟨_, _, _, _, _, _, _, _, _, _, _, _, _, _, _, rfl⟩, HBE.out.drew⟩
      · obtain ⟨ys, hys⟩ := HSU.out
        have HYS := Lib.hid hys
        clear hys HSU
        go_wp2_with (at_builtin
                     refine wpList_cat rfl _ _ _ rfl tInts HOI14.out rfl HYS.out rfl (words_oneI _) (by simp only [maxLen]; omega) (by omega) (Nat.zero_le _) ?_
                     intro v9 w15 hown9 hg9 _ _
                     obtain ⟨C9, c9, rfl, _, _⟩ := own_slice hown9)
        have hk15 := Keeps.of_grown hg9
        have hlt := HLT.out
        have ha15 := HA14.out.keeps hk15 (fun e => by have h1 : gi = G := Option.some.inj e; omega)
        have hb15 := HB14.out.keeps hk15 (fun e => by have h1 : gi = G + 1 := Option.some.inj e; omega)
        have hor15 := own_keeps HOR14.out hk15 (fun b hb e => by
          have h1 : gr = b := Option.some.inj hb
          have h2 : gi = b := Option.some.inj e
          omega)
        have bb15 := B14.out.trans (hk15.below B14.out.size (fun b e => by
          have h2 : gi = b := Option.some.inj e
          omega))
        rw [HJ.out] at hown9
        have HS15 := Lib.hid (HSI.out w15 n hn0 C9 _ c9 _ (Sl.of_own hown9) (by omega))
        have HA15 := Lib.hid ha15
        have HB15 := Lib.hid hb15
        have HOR15 := Lib.hid hor15
        have B15 := Lib.hid bb15
        clear ha15 hb15 hor15 bb15 hk15 hg9 hown9 hlt
        go_wp2_with fail
        refine (HS15.out).mono ?_
        rintro e w16 ⟨P2, a2, Q2, b2, n2, rfl, hb16⟩
        have ha := HA15.out.below hb16 HA15.out.lt
        have hb := HB15.out.below hb16 HB15.out.lt
        have hor16 := own_below HOR15.out hb16
        have bb16 := B15.out.trans (hb16.mono B15.out.size)
        obtain ⟨f0, f1, f2, f3, f4, f5, f6, f7⟩ := ha.facts
        obtain ⟨g0, g1, g2, g3, g4, g5, g6, g7⟩ := hb.facts
        have ha17 := (ha.set2 (.slice P2 n2 a2)).other (b := G + 1) (by omega) 2 (.slice Q2 n2 b2)
        have hb17 := (hb.other (b := G) (by omega) 2 (.slice P2 n2 a2)).set2 (.slice Q2 n2 b2)
        have hks := keeps_two w16 G (G + 1) 2 2 (.slice P2 n2 a2) (.slice Q2 n2 b2)
        have hlt := HLT.out
        have hor17 := own_keeps hor16 hks (fun b hb e => by have h1 : gr = b := Option.some.inj hb; omega)
        have bb17 := bb16.trans (hks.below bb16.size (fun b hb => by have := HGB.out; omega))
        obtain ⟨w17, hw17⟩ : ∃ w17, (w16.setCell ⟨G, 2, none⟩ (.slice P2 n2 a2)).setCell ⟨G + 1, 2, none⟩ (.slice Q2 n2 b2) = w17 := ⟨_, rfl⟩
        rw [hw17] at ha17 hb17 hor17 bb17
        have HW17 := Lib.hid hw17
        have HOR17 : Hid (∃ (y : Value) (ys : List Nat), (w17.alloc (.cells #[.int .i64 (d : Int)] 3)).ownsRow 0 3 1 (.slice (some ⟨gr, 0, none⟩) (m2 + 1) cr) (m2 + 1) (y :: (ints ys).map (Value.int .i64))) := Lib.hid (by
          have h1 : qr.length = Qr := by have := hor17.1; simpa [ints] using this
          obtain ⟨y, ys, rfl⟩ : ∃ y ys, qr = y :: ys := by
            cases qr with
            | nil => simp at h1; omega
            | cons y ys => exact ⟨y, ys, rfl⟩
          have h2 : Qr = m2 + 1 := by omega
          rw [h2] at hor17
          exact ⟨_, ys, hor17.alloc _⟩)
        have HA17 := Lib.hid (ha17.alloc (.cells #[.int .i64 (d : Int)] 3))
        have HB17 := Lib.hid (hb17.alloc (.cells #[.int .i64 (d : Int)] 3))
        have B17 := Lib.hid (bb17.alloc bb17.size (.cells #[.int .i64 (d : Int)] 3))
        clear ha hb ha17 hb17 hor16 hor17 bb16 bb17 hks hw17 hb16 hlt
        go_upto_region 15 with fail
        rw [HW17.out]
        clear f0 f1 f2 f3 f4 f5 f6 f7 g0 g1 g2 g3 g4 g5 g6 g7
        obtain ⟨yy, zs, hrw⟩ := HOR17.out
        have HRW := Lib.hid hrw
        clear hrw
        by_cases hcr1 : cr = 1
        · obtain rfl : Qr = 1 := by omega
          obtain rfl : m2 = 0 := hm2.symm
          subst hcr1
          clear hm2
          go_wp2_with (at_builtin
                       refine wpList_push_t rfl _ _ _ rfl tInts HRW.out _ (by first | exact .inl rfl | exact .inr rfl) rfl ⟨w17.heap.size, 0, none⟩ 1 rfl (.int .i64 (d : Int)) (lit_at w17 _ _ _ rfl) rfl (by simp only [maxLen]; omega) (by omega) ?_
                       intro A18 c18 w18 hsl18 hk18)
          have hlt := HLT.out
          have ha18 := HA17.out.keeps hk18 (fun e => by have h1 : G = gr := e; omega)
          have hb18 := HB17.out.keeps hk18 (fun e => by have h1 : G + 1 = gr := e; omega)
          have bb18 := B17.out.trans (hk18.below B17.out.size (fun b e => by have h1 : b = gr := e; omega))
          have hsl19 := hsl18
          rw [show (ints zs).map (Value.int .i64) ++ [.int .i64 (d : Int)] = (ints (zs ++ [d])).map (Value.int .i64) by simp [ints]] at hsl19
          have HS18 := Lib.hid (HSI.out w18 n hn0 A18 _ c18 _ hsl19 (by omega))
          have HA18 := Lib.hid ha18
          have HB18 := Lib.hid hb18
          have B18 := Lib.hid bb18
          clear ha18 hb18 bb18 hk18 hsl18 hsl19 hlt
          go_wp2_with fail
          refine (HS18.out).mono ?_
          rintro e w19 ⟨P3, a3, Q3, b3, n3, rfl, hb19⟩
          have ha := HA18.out.below hb19 HA18.out.lt
          have hb := HB18.out.below hb19 HB18.out.lt
          have bb19 := B18.out.trans (hb19.mono B18.out.size)
          obtain ⟨f0, f1, f2, f3, f4, f5, f6, f7⟩ := ha.facts
          obtain ⟨g0, g1, g2, g3, g4, g5, g6, g7⟩ := hb.facts
          have ha20 := (ha.set3 (.slice P3 n3 a3)).other (b := G + 1) (by omega) 3 (.slice Q3 n3 b3)
          have hb20 := (hb.other (b := G) (by omega) 3 (.slice P3 n3 a3)).set3 (.slice Q3 n3 b3)
          have hks := keeps_two w19 G (G + 1) 3 3 (.slice P3 n3 a3) (.slice Q3 n3 b3)
          have bb20 := bb19.trans (hks.below bb19.size (fun b hb => by have := HGB.out; omega))
          obtain ⟨w20, hw20⟩ : ∃ w20, (w19.setCell ⟨G, 3, none⟩ (.slice P3 n3 a3)).setCell ⟨G + 1, 3, none⟩ (.slice Q3 n3 b3) = w20 := ⟨_, rfl⟩
          rw [hw20] at ha20 hb20 bb20
          have HW20 := Lib.hid hw20
          have HA20 := Lib.hid ha20
          have HB20 := Lib.hid hb20
          have B20 := Lib.hid bb20
          clear ha hb ha20 hb20 bb19 bb20 hks hw20 hb19
          go_upto_region 16 with fail
          rw [HW20.out]
          clear f0 f1 f2 f3 f4 f5 f6 f7 g0 g1 g2 g3 g4 g5 g6 g7
          obtain ⟨f0, f1, f2, f3, f4, f5, f6, f7⟩ := HA20.out.facts
          obtain ⟨g0, g1, g2, g3, g4, g5, g6, g7⟩ := HB20.out.facts
          obtain ⟨hz6, hz7⟩ := HZ.out w20 B20.out
          obtain ⟨d0, d1, d2, d3, d4, d5, d6, d7⟩ := hz6.facts
          obtain ⟨j0, j1, j2, j3, j4, j5, j6, j7⟩ := hz7.facts
          have nn1 : ¬ w.heap.size = G := by have := HGB.out; have := HZL.out; omega
          have nn2 : ¬ w.heap.size = G + 1 := by have := HGB.out; have := HZL.out; omega
          have nn3 : ¬ w.heap.size + 1 = G := by have := HGB.out; have := HZL.out; omega
          have nn4 : ¬ G = w.heap.size := by omega
          have nn5 : ¬ G + 1 = w.heap.size := by omega
          have nn6 : ¬ G = w.heap.size + 1 := by omega
          have hk6 := keeps_set4 w20 w.heap.size (.int .i64 0) (.slice P1 n1 a1) (.slice P2 n2 a2) (.slice P3 n3 a3)
          have hr6 := hz6.set4 (.int .i64 0) (.slice P1 n1 a1) (.slice P2 n2 a2) (.slice P3 n3 a3)
          have hr7 := hz7.keeps hk6 (by omega)
          have hbw := B2.out.trans (B20.out.mono B2.out.size)
          have hbw6 := hbw.trans (hk6.below hbw.size (fun b e => by have h1 : b = w.heap.size := e; omega))
          have HR67 := Lib.hid (And.intro hr6 (And.intro hr7 hbw6))
          clear hk6 hr6 hr7 hbw hbw6
          go_region
          clear f0 f1 f2 f3 f4 f5 f6 f7 g0 g1 g2 g3 g4 g5 g6 g7 d0 d1 d2 d3 d4 d5 d6 d7 j0 j1 j2 j3 j4 j5 j6 j7 nn1 nn2 nn3 nn4 nn5 nn6
          obtain ⟨hr6, hr7, hbw6⟩ := HR67.out
          have hk7 := keeps_set4 ((((w20.setCell ⟨w.heap.size, 0, none⟩ (.int .i64 0)).setCell ⟨w.heap.size, 1, none⟩ (.slice P1 n1 a1)).setCell ⟨w.heap.size, 2, none⟩ (.slice P2 n2 a2)).setCell ⟨w.heap.size, 3, none⟩ (.slice P3 n3 a3)) (w.heap.size + 1) (.int .i64 0) (.slice Q1 n1 b1) (.slice Q2 n2 b2) (.slice Q3 n3 b3)
          have hx6 := hr6.keeps hk7 (by omega)
          have hx7 := hr7.set4 (.int .i64 0) (.slice Q1 n1 b1) (.slice Q2 n2 b2) (.slice Q3 n3 b3)
          have hbw7 := hbw6.trans (hk7.below hbw6.size (fun b e => by have h1 : b = w.heap.size + 1 := e; omega))
          obtain ⟨w21, hw21⟩ : ∃ w21, ((((((((w20.setCell ⟨w.heap.size, 0, none⟩ (.int .i64 0)).setCell ⟨w.heap.size, 1, none⟩ (.slice P1 n1 a1)).setCell ⟨w.heap.size, 2, none⟩ (.slice P2 n2 a2)).setCell ⟨w.heap.size, 3, none⟩ (.slice P3 n3 a3)).setCell ⟨w.heap.size + 1, 0, none⟩ (.int .i64 0)).setCell ⟨w.heap.size + 1, 1, none⟩ (.slice Q1 n1 b1)).setCell ⟨w.heap.size + 1, 2, none⟩ (.slice Q2 n2 b2)).setCell ⟨w.heap.size + 1, 3, none⟩ (.slice Q3 n3 b3)) = w21 := ⟨_, rfl⟩
          rw [hw21] at hx6 hx7 hbw7 ⊢
          have HBE := Lib.hid hbw7
          clear hk7 hbw7 hr6 hr7 hbw6 hw21
          obtain ⟨d0, d1, d2, d3, _⟩ := hx6.facts
          obtain ⟨j0, j1, j2, j3, _⟩ := hx7.facts
          clear hx6 hx7
          go_wp2_with fail
          exact bodyPost_ret (v := .tuple #[.agg #[.int .i64 0, .slice P1 n1 a1, .slice P2 n2 a2, .slice P3 n3 a3], .agg #[.int .i64 0, .slice Q1 n1 b1, .slice Q2 n2 b2, .slice Q3 n3 b3], .nilIface]) (by simp [results, Tryz.results41, go_sem, d0, d1, d2, d3, j0, j1, j2, j3]) rfl ⟨⟨_, _, _, _, _, _, _, _, _, _, _, _, _, _, _, rfl⟩, HBE.out.drew⟩
        · go_wp2_with (at_builtin
                       refine wpList_push_t rfl _ _ _ rfl tInts HRW.out _ (by first | exact .inl rfl | exact .inr rfl) rfl ⟨w17.heap.size, 0, none⟩ 1 rfl (.int .i64 (d : Int)) (lit_at w17 _ _ _ rfl) rfl (by simp only [maxLen]; omega) (by omega) ?_
                       intro A18 c18 w18 hsl18 hk18)
          have hlt := HLT.out
          have ha18 := HA17.out.keeps hk18 (fun e => by have h1 : G = gr := e; omega)
          have hb18 := HB17.out.keeps hk18 (fun e => by have h1 : G + 1 = gr := e; omega)
          have bb18 := B17.out.trans (hk18.below B17.out.size (fun b e => by have h1 : b = gr := e; omega))
          have hsl19 := hsl18
          rw [show (ints zs).map (Value.int .i64) ++ [.int .i64 (d : Int)] = (ints (zs ++ [d])).map (Value.int .i64) by simp [ints]] at hsl19
          have HS18 := Lib.hid (HSI.out w18 n hn0 A18 _ c18 _ hsl19 (by omega))
          have HA18 := Lib.hid ha18
          have HB18 := Lib.hid hb18
          have B18 := Lib.hid bb18
          clear ha18 hb18 bb18 hk18 hsl18 hsl19 hlt
          go_wp2_with fail
          refine (HS18.out).mono ?_
          rintro e w19 ⟨P3, a3, Q3, b3, n3, rfl, hb19⟩
          have ha := HA18.out.below hb19 HA18.out.lt
          have hb := HB18.out.below hb19 HB18.out.lt
          have bb19 := B18.out.trans (hb19.mono B18.out.size)
          obtain ⟨f0, f1, f2, f3, f4, f5, f6, f7⟩ := ha.facts
          obtain ⟨g0, g1, g2, g3, g4, g5, g6, g7⟩ := hb.facts
          have ha20 := (ha.set3 (.slice P3 n3 a3)).other (b := G + 1) (by omega) 3 (.slice Q3 n3 b3)
          have hb20 := (hb.other (b := G) (by omega) 3 (.slice P3 n3 a3)).set3 (.slice Q3 n3 b3)
          have hks := keeps_two w19 G (G + 1) 3 3 (.slice P3 n3 a3) (.slice Q3 n3 b3)
          have bb20 := bb19.trans (hks.below bb19.size (fun b hb => by have := HGB.out; omega))
          obtain ⟨w20, hw20⟩ : ∃ w20, (w19.setCell ⟨G, 3, none⟩ (.slice P3 n3 a3)).setCell ⟨G + 1, 3, none⟩ (.slice Q3 n3 b3) = w20 := ⟨_, rfl⟩
          rw [hw20] at ha20 hb20 bb20
          have HW20 := Lib.hid hw20
          have HA20 := Lib.hid ha20
          have HB20 := Lib.hid hb20
          have B20 := Lib.hid bb20
          clear ha hb ha20 hb20 bb19 bb20 hks hw20 hb19
          go_upto_region 16 with fail
          rw [HW20.out]
          clear f0 f1 f2 f3 f4 f5 f6 f7 g0 g1 g2 g3 g4 g5 g6 g7
          obtain ⟨f0, f1, f2, f3, f4, f5, f6, f7⟩ := HA20.out.facts
          obtain ⟨g0, g1, g2, g3, g4, g5, g6, g7⟩ := HB20.out.facts
          obtain ⟨hz6, hz7⟩ := HZ.out w20 B20.out
          obtain ⟨d0, d1, d2, d3, d4, d5, d6, d7⟩ := hz6.facts
          obtain ⟨j0, j1, j2, j3, j4, j5, j6, j7⟩ := hz7.facts
          have nn1 : ¬ w.heap.size = G := by have := HGB.out; have := HZL.out; omega
          have nn2 : ¬ w.heap.size = G + 1 := by have := HGB.out; have := HZL.out; omega
          have nn3 : ¬ w.heap.size + 1 = G := by have := HGB.out; have := HZL.out; omega
          have nn4 : ¬ G = w.heap.size := by omega
          have nn5 : ¬ G + 1 = w.heap.size := by omega
          have nn6 : ¬ G = w.heap.size + 1 := by omega
          have hk6 := keeps_set4 w20 w.heap.size (.int .i64 0) (.slice P1 n1 a1) (.slice P2 n2 a2) (.slice P3 n3 a3)
          have hr6 := hz6.set4 (.int .i64 0) (.slice P1 n1 a1) (.slice P2 n2 a2) (.slice P3 n3 a3)
          have hr7 := hz7.keeps hk6 (by omega)
          have hbw := B2.out.trans (B20.out.mono B2.out.size)
          have hbw6 := hbw.trans (hk6.below hbw.size (fun b e => by have h1 : b = w.heap.size := e; omega))
          have HR67 := Lib.hid (And.intro hr6 (And.intro hr7 hbw6))
          clear hk6 hr6 hr7 hbw hbw6
          go_region
          clear f0 f1 f2 f3 f4 f5 f6 f7 g0 g1 g2 g3 g4 g5 g6 g7 d0 d1 d2 d3 d4 d5 d6 d7 j0 j1 j2 j3 j4 j5 j6 j7 nn1 nn2 nn3 nn4 nn5 nn6
          obtain ⟨hr6, hr7, hbw6⟩ := HR67.out
          have hk7 := keeps_set4 ((((w20.setCell ⟨w.heap.size, 0, none⟩ (.int .i64 0)).setCell ⟨w.heap.size, 1, none⟩ (.slice P1 n1 a1)).setCell ⟨w.heap.size, 2, none⟩ (.slice P2 n2 a2)).setCell ⟨w.heap.size, 3, none⟩ (.slice P3 n3 a3)) (w.heap.size + 1) (.int .i64 0) (.slice Q1 n1 b1) (.slice Q2 n2 b2) (.slice Q3 n3 b3)
          have hx6 := hr6.keeps hk7 (by omega)
          have hx7 := hr7.set4 (.int .i64 0) (.slice Q1 n1 b1) (.slice Q2 n2 b2) (.slice Q3 n3 b3)
          have hbw7 := hbw6.trans (hk7.below hbw6.size (fun b e => by have h1 : b = w.heap.size + 1 := e; omega))
          obtain ⟨w21, hw21⟩ : ∃ w21, ((((((((w20.setCell ⟨w.heap.size, 0, none⟩ (.int .i64 0)).setCell ⟨w.heap.size, 1, none⟩ (.slice P1 n1 a1)).setCell ⟨w.heap.size, 2, none⟩ (.slice P2 n2 a2)).setCell ⟨w.heap.size, 3, none⟩ (.slice P3 n3 a3)).setCell ⟨w.heap.size + 1, 0, none⟩ (.int .i64 0)).setCell ⟨w.heap.size + 1, 1, none⟩ (.slice Q1 n1 b1)).setCell ⟨w.heap.size + 1, 2, none⟩ (.slice Q2 n2 b2)).setCell ⟨w.heap.size + 1, 3, none⟩ (.slice Q3 n3 b3)) = w21 := ⟨_, rfl⟩
          rw [hw21] at hx6 hx7 hbw7 ⊢
          have HBE := Lib.hid hbw7
          clear hk7 hbw7 hr6 hr7 hbw6 hw21
          obtain ⟨d0, d1, d2, d3, _⟩ := hx6.facts
          obtain ⟨j0, j1, j2, j3, _⟩ := hx7.facts
          clear hx6 hx7
          go_wp2_with fail
          exact bodyPost_ret (v := .tuple #[.agg #[.int .i64 0, .slice P1 n1 a1, .slice P2 n2 a2, .slice P3 n3 a3], .agg #[.int .i64 0, .slice Q1 n1 b1, .slice Q2 n2 b2, .slice Q3 n3 b3], .nilIface]) (by simp [results, Tryz.results41, go_sem, d0, d1, d2, d3, j0, j1, j2, j3]) rfl ⟨⟨_, _, _, _, _, _, _, _, _, _, _, _, _, _, _, rfl⟩, HBE.out.drew⟩
end Go.Proofs.YtedmmmlahpmmoaaGreatDoor
