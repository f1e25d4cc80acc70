/- count.ways: of each node how many ways lead from it, place by place. Condition: the closure answers whether a window fits, and writes to nothing that was there. How many preimages a word has: count.words, count.Words. Condition: the lists read from memory; the error variables hold what E says. How many preimages a word has, how many a ring, how many rings stay: count.Words, rings, Rings, Fixed. Condition: the lists read from memory; the error variables hold what E says. -/
import Derived.Deep.RegionHeld3
import Derived.Deep.RegionLaw
import Derived.IntWalk
import Derived.Test.YtibplgpolmplpaaGreatDoorX3
import Derived.Test.YtibplgpolmplpaaGreatDoorX9
import Derived.Test.YtibplgpolmplpaaGreatDoorX23
namespace Go.Proofs.YtibplgpolmplpaaGreatDoor
open Go.RowKit RuleP NatP

set_option maxRecDepth 100000 in
set_option maxHeartbeats 4000000 in
theorem ways_c (w : World) (k : Nat) (R : Int) (A : Option Addr) (n c N m B g : Nat) (Q : List (Option Addr × Nat × Nat)) (ends : List Nat) (F : FuncId) (p1 p2 : Value) (p : Nat → Nat → Bool) (hk1 : 1 ≤ k) (hk4 : k ≤ 4) (hN0 : 0 < N) (hN4 : N ≤ 4096) (hn : n = N * k) (hm : m ≤ 256)
    (hE : NatsAt w B g Q ends) (hEl : ends.length = N) (he1 : ∀ u, ends.getD u 0 ≤ 1) (hB : B ≤ w.heap.size)
    (he : ∀ (v1 v2 : Value) (wz : World), (callFunc F #[v1, v2, p1, p2]).run Tryz.prog wz = .ok (.enter F #[v1, v2, p1, p2]) wz)
    (hf : ∀ (wz : World), Below w.heap.size w wz → ∀ place window : Nat, place < m → window < n →
      Calls Tryz.prog F #[.int .i64 (place : Int), .int .i64 (window : Int), p1, p2] wz fun e w' => e = .returned (.bool (p place window)) ∧ Below wz.heap.size wz w') :
    Calls Tryz.prog 90 #[ruleV (k : Int) R A n c, .int .i64 (m : Int), .slice (some ⟨g, 0, none⟩) N N, .func (.func F) #[] #[p1, p2]] w fun e w' => ∃ (g' : Nat) (Q' : List (Option Addr × Nat × Nat)),
      e = .returned (.slice (some ⟨g', 0, none⟩) N N) ∧ NatsAt w' B g' Q' (waysW k N p m ends m) ∧ Below w.heap.size w w' := by
  have hb1 := (Below.refl w.heap.size w).alloc (Nat.le_refl _) (.cells #[.int .i64 (k : Int), .int .i64 R, .slice A n c] 24)
  obtain ⟨w1, hw1⟩ : ∃ w1, w.alloc (.cells #[.int .i64 (k : Int), .int .i64 R, .slice A n c] 24) = w1 := ⟨_, rfl⟩
  rw [hw1] at hb1
  have hr1 : RuleAt w1 w.heap.size (.int .i64 (k : Int)) (.int .i64 R) (.slice A n c) := by rw [← hw1]; exact RuleAt.new w _ _ _
  have hE1 : NatsAt w1 B g Q (waysW k N p m ends 0) := hE.below hb1
  have HW1 := Lib.hid hw1
  have HB1 := Lib.hid hb1
  have HR1 := Lib.hid hr1
  have HE1 := Lib.hid hE1
  have HF := Lib.hid hf
  have HEE := Lib.hid he
  have HBB := Lib.hid hB
  have HN := Lib.hid hn
  have HLW := Lib.hid (fun j => waysW_len (k := k) p m hEl j)
  have HLE := Lib.hid (fun j (hj : j ≤ 256) u => small17 (x := (waysW k N p m ends j).getD u 0) (k := k) (m := j) hk4 (Nat.le_trans hj (by omega)) (waysW_le hk1 p m he1 j u))
  have HLM := Lib.hid (fun j (hj : j ≤ 256) i (hi : i ≤ N * k) (q : Nat → Bool) u => small17 (x := (stepW k N q (waysW k N p m ends j) i).getD u 0) (k := k) (m := j + 1) hk4 (by omega) (by
    rw [Nat.pow_succ]
    exact Nat.le_trans (stepW_le hk1 q (waysW_le hk1 p m he1 j) hi u) (Nat.le_of_eq (Nat.mul_comm _ _))))
  have hn16 : n ≤ 16384 := by rw [hn]; exact Nat.le_trans (Nat.mul_le_mul hN4 hk4) (by decide)
  have hk0 : ¬ ((k : Int) = 0) := by omega
  have hN0' : ¬ ((N : Int) = 0) := by omega
  clear hw1 hb1 hr1 hE1 hf he hE hB hn hEl he1
  unfold ruleV
  go_enter Tryz.func90, Tryz.ntmps90
  go_wp2_with fail
  rw [HW1.out]
  go_loopw [10, 11] (fun av pv wl => ∃ (gg j : Nat) (QQ : List (Option Addr × Nat × Nat)), av = .slice (some ⟨gg, 0, none⟩) N N ∧ pv = .int .i64 ((m : Int) - 1 - (j : Int)) ∧ j ≤ m ∧ Hid (NatsAt wl B gg QQ (waysW k N p m ends j)) ∧ Hid (Below w1.heap.size w1 wl)) (fun _ pv _ => (intOf pv + 1).toNat)
  case atStart => exact ⟨g, 0, Q, rfl, by go_num, Nat.zero_le _, HE1, Lib.hid (Below.refl _ _)⟩
  case round =>
    obtain ⟨gg, j, QQ, rfl, rfl, hj, hV, hBl⟩ := hrel
    clear HE1
    obtain ⟨v0, rfl⟩ : ∃ v0, v0 = wr := ⟨_, rfl⟩
    by_cases hjm : j < m
    · obtain ⟨pl, hpl⟩ : ∃ pl, m - 1 - j = pl := ⟨_, rfl⟩
      have hpe : (m : Int) - 1 - (j : Int) = (pl : Int) := by omega
      rw [hpe]
      have hp0 : (0 : Int) ≤ (pl : Int) := by omega
      have hp0' : (pl : Int) ≥ 0 := by omega
      have hplm : pl < m := by omega
      have HPE := Lib.hid (And.intro hpe hpl)
      clear hpe
      have hlV : (waysW k N p m ends j).length = N := HLW.out j
      have hmk := run_make_row' (P := Tryz.prog) 149 38 (.slice none 0 0) 24 tNats.und tNats.info rfl .i64 .i64 N (by omega) (by omega)
      have hmd := NatsAt.made v0 N (by simp only [maxLen]; omega)
      have hb01 := (Below.refl v0.heap.size v0).alloc (Nat.le_refl _) (.cells (madeCells #[.slice none 0 0] N) 38)
      obtain ⟨v1, hv1⟩ : ∃ v1, v0.alloc (.cells (madeCells #[.slice none 0 0] N) 38) = v1 := ⟨_, rfl⟩
      rw [hv1] at hmd hb01
      obtain ⟨g2, hg2⟩ : ∃ g2, v0.heap.size = g2 := ⟨_, rfl⟩
      have hBg : B ≤ g2 := by have h1 := HB1.out.size; have h2 := hBl.out.size; have h3 := HBB.out; omega
      rw [hg2] at hmd
      have hm2 : NatsAt v1 B g2 (List.replicate N (none, 0, 0)) (stepW k N (p pl) (waysW k N p m ends j) 0) := by
        rw [stepW]
        exact hmd.base hBg
      have HMD := Lib.hid hm2
      have HB01 := Lib.hid hb01
      have HV1 := Lib.hid hv1
      have HG2 := Lib.hid hg2
      have hgg : gg ≠ g2 := by have := hV.out.lt.2; omega
      have hw1g : w.heap.size < v0.heap.size := by have h1 := HR1.out.lt; have h2 := hBl.out.size; omega
      have hr0 := HR1.out.below hBl.out HR1.out.lt
      have hr1' := hr0.alloc (.cells (madeCells #[.slice none 0 0] N) 38)
      obtain ⟨r0, r1, r2, _⟩ := hr1'.facts
      have HR0 := Lib.hid hr0
      clear hmd hm2 hb01 hv1 hg2 hlV hpl hr0 hr1'
      go_wp2_with fail
      rw [HV1.out, HG2.out]
      clear hmk r0 r1 r2
      go_loopw [29] (fun iv wl => ∃ (i : Nat) (Q2 : List (Option Addr × Nat × Nat)), iv = .int .i64 (i : Int) ∧ i ≤ n ∧ Hid (NatsAt wl B g2 Q2 (stepW k N (p pl) (waysW k N p m ends j) i)) ∧ Hid (Below v0.heap.size v0 wl)) (fun iv _ => n - (intOf iv).toNat)
      case atStart => exact ⟨0, _, rfl, Nat.zero_le _, HMD, HB01⟩
      case round =>
        obtain ⟨i, Q2, rfl, hi, hN2, hB2⟩ := hrel
        clear HMD HB01
        obtain ⟨v2, rfl⟩ : ∃ v2, v2 = wr := ⟨_, rfl⟩
        by_cases hin : i < n
        · have hin' : (i : Int) < (n : Int) := by omega
          have hi0 : (0 : Int) ≤ (i : Int) := by omega
          have hb12 := hBl.out.trans (hB2.out.mono hBl.out.size)
          have hb02 := HB1.out.trans (hb12.mono HB1.out.size)
          have hmod : (i : Int).tmod (N : Int) = ((i % N : Nat) : Int) := rfl
          have hmlt : i % N < N := Nat.mod_lt _ hN0
          have hdlt : i / k < N := Nat.div_lt_of_lt_mul (by rw [Nat.mul_comm, ← HN.out]; exact hin)
          have hdiv : (i : Int).tdiv (k : Int) = ((i / k : Nat) : Int) := rfl
          obtain ⟨i1, hi1⟩ : ∃ i1, i % N = i1 := ⟨_, rfl⟩
          obtain ⟨i2, hi2⟩ : ∃ i2, i / k = i2 := ⟨_, rfl⟩
          rw [hi1] at hmod hmlt
          rw [hi2] at hdiv hdlt
          obtain ⟨Ac, ccn, _, hoc, qc0, pc⟩ := hV.out.at_ (i := i1) (by rw [HLW.out]; exact hmlt)
          have qc := cell_later hB2.out qc0
          have hml' : (i1 : Int) < (N : Int) := by omega
          have hm0' : (0 : Int) ≤ (i1 : Int) := by omega
          have hxl := HLE.out j (by omega) i1
          obtain ⟨x, hx⟩ : ∃ x, (waysW k N p m ends j).getD i1 0 = x := ⟨_, rfl⟩
          rw [hx] at hoc qc hxl
          obtain ⟨lx, hlx⟩ : ∃ lx, (limbs x).length = lx := ⟨_, rfl⟩
          rw [hlx] at qc hxl
          have HLX := Lib.hid hlx
          have HXX := Lib.hid hx
          have HI12 := Lib.hid (And.intro hi1 hi2)
          have HOC := Lib.hid (own_below hoc hB2.out)
          have HB02 := Lib.hid hb02
          have hr2 := HR0.out.below hB2.out HR0.out.lt
          have HR2 := Lib.hid hr2
          obtain ⟨V, hVV⟩ : ∃ V, waysW k N p m ends j = V := ⟨_, rfl⟩
          have HVV := Lib.hid hVV
          rw [hVV] at hN2
          by_cases hl0 : lx = 0
          · have HNX : Hid (NatsAt v2 B g2 Q2 (stepW k N (p pl) V (i + 1))) := Lib.hid (by
              have hx0 : V.getD i1 0 = 0 := by rw [← HVV.out, HXX.out]; exact limbs_zero (by rw [HLX.out]; exact hl0)
              rw [stepW_succ, HI12.out.1, hx0, Nat.add_zero]
              split
              · rw [getD_set_self]; exact hN2.out
              · exact hN2.out)
            have hl0' : ¬ (lx : Int) > 0 := by omega
            clear hVV hmlt hdlt hi1 hi2 hx hlx hoc qc0 pc hr2 hb12 hb02 hl0 hN2
            go_wp2_with fail
            exact ⟨⟨i + 1, Q2, by go_num, by omega, by rw [HVV.out]; exact HNX, hB2⟩, by simp [intOf]; omega⟩
          · have hl0' : (lx : Int) > 0 := by omega
            have HC := Lib.hid (HF.out v2 hb02 pl i hplm hin)
            clear hVV hi1 hi2 hx hlx hoc qc0 pc hr2 hb12 hb02 hl0
            have hcal := HEE.out (.int .i64 (pl : Int)) (.int .i64 (i : Int)) v2
            go_wp2_with fail
            clear hcal
            refine (HC.out).mono ?_
            rintro e v3 ⟨rfl, hb3⟩
            have hN3 := hN2.out.below hb3
            have hB3 := hB2.out.trans (hb3.mono hB2.out.size)
            obtain ⟨fr, hfr⟩ : ∃ fr, p pl i = fr := ⟨_, rfl⟩
            rw [hfr]
            cases fr with
            | false =>
              have HNX : Hid (NatsAt v3 B g2 Q2 (stepW k N (p pl) V (i + 1))) := Lib.hid (by
                rw [stepW_succ, hfr, if_neg (by decide)]
                exact hN3)
              have HB3 := Lib.hid hB3
              clear hfr hN3 hN2 hb3 hB3 HC
              go_wp2_with fail
              exact ⟨⟨i + 1, Q2, by go_num, by omega, by rw [HVV.out]; exact HNX, HB3⟩, by simp [intOf]; omega⟩
            | true =>
              obtain ⟨Z, hZ⟩ : ∃ Z, stepW k N (p pl) V i = Z := ⟨_, rfl⟩
              have hul := HLM.out j (by omega) i (by rw [← HN.out]; exact Nat.le_of_lt hin) (p pl) i2
              have hZl : Z.length = N := by rw [← hZ]; exact stepW_len _ _ _ _ _
              rw [HVV.out, hZ] at hul
              rw [hZ] at hN3
              have HGO : Hid (stepW k N (p pl) V (i + 1) = Z.set i2 (Z.getD i2 0 + x)) := Lib.hid (by
                rw [stepW_succ, hfr, if_pos rfl, hZ, HI12.out.1, HI12.out.2, ← HVV.out, HXX.out])
              obtain ⟨A3, c3, _, ho3, q3, p3⟩ := hN3.at_ (i := i2) (by rw [hZl]; exact hdlt)
              obtain ⟨u, hu⟩ : ∃ u, Z.getD i2 0 = u := ⟨_, rfl⟩
              rw [hu] at ho3 q3 hul HGO
              have hocl := own_below HOC.out hb3
              obtain ⟨lu, hlu⟩ : ∃ lu, (limbs u).length = lu := ⟨_, rfl⟩
              have HAD := Lib.hid (fun (wz : World) (hz : Below v3.heap.size v3 wz) => add_n (num_own (own_below ho3 hz)) (num_own (own_below hocl hz)) (by omega) (by rw [HLX.out]; omega) (r := u + x) rfl)
              rw [HLX.out, hlu] at HAD
              rw [hlu] at q3
              have hr3 := HR2.out.below hb3 HR2.out.lt
              obtain ⟨r0, r1, r2, _⟩ := hr3.facts
              have HFX := Lib.hid (fun (wz : World) (hz : Below v3.heap.size v3 wz) => (⟨(hr3.below hz hr3.lt).facts.1, (hN3.below hz).at_ (i := i2) (by rw [hZl]; exact hdlt)⟩ : _ ∧ _))
              have HN3 := Lib.hid hN3
              have HT := Lib.hid (⟨hZl, hdlt⟩ : _ ∧ _)
              have hdl' : (i2 : Int) < (N : Int) := by omega
              have hd0 : (0 : Int) ≤ (i2 : Int) := by omega
              have hk0n : ¬ k = 0 := by omega
              have hwr : IntKind.i64.wrap (i2 : Int) = (i2 : Int) := IntWalk.i64_in _ (by omega)
              have HB3 := Lib.hid hB3
              clear hfr hZ hu hocl hlu ho3 hN3 hul hr3 hB3 hZl hN2 HC hb3 qc hmod hmlt
              go_wp2_with fail
              go_region_law (first
                | (go_simp
                   go_at_call 97
                   refine (HAD.out _ (by first | exact (Below.refl _ _).drew | fail)).mono ?_
                   rintro e v4 ⟨A4, c4, rfl, _, ho4, hb4⟩
                   have hb34 : Below v3.heap.size v3 v4 := ((Below.refl v3.heap.size v3).drew).trans hb4
                   obtain ⟨x0, _, _, _, _, q4, p4⟩ := HFX.out v4 hb34
                   dsimp only)
                | fail)
              all_goals
                have hN4 := HN3.out.below hb34
                have HNX : Hid (NatsAt (v4.setCell ⟨g2, i2, none⟩ (.slice A4 (limbs (u + x)).length c4)) B g2 (Q2.set i2 (A4, (limbs (u + x)).length, c4)) (stepW k N (p pl) V (i + 1))) := Lib.hid (by
                  rw [HGO.out]
                  exact hN4.put (own_base ho4 (by have h1 := HBB.out; have h2 := HB3.out.size; have h3 := hb34.size; have h4 : v3.heap.size = v3.drew.heap.size := rfl; omega)))
                have HBX := Lib.hid ((HB3.out.trans (hb34.mono HB3.out.size)).setCell (p := ⟨g2, i2, none⟩) (by rw [HG2.out]; exact Nat.le_refl _) (.slice A4 (limbs (u + x)).length c4))
                clear hN4 ho4 hb4 hb34 x0 q4 p4
                go_wp2_with fail
                exact ⟨⟨i + 1, _, by go_num, by omega, by rw [HVV.out]; exact HNX, HBX⟩, by simp [intOf]; omega⟩
        · obtain rfl : i = n := by omega
          have hin' : ¬ (i : Int) < (i : Int) := by omega
          have HNX : Hid (NatsAt v2 B g2 Q2 (waysW k N p m ends (j + 1))) := Lib.hid (by
            rw [waysW, HPE.out.2, ← HN.out]
            exact hN2.out)
          have HBX := Lib.hid (hBl.out.trans (hB2.out.mono hBl.out.size))
          have hpn : (pl : Int) - 1 = (m : Int) - 1 - ((j + 1 : Nat) : Int) := by have := HPE.out.1; omega
          have HPN := Lib.hid hpn
          have hmea : ((m : Int) - 1 - ((j + 1 : Nat) : Int) + 1).toNat < ((pl : Int) + 1).toNat := by omega
          clear hpn
          go_wp2_with fail
          exact ⟨⟨g2, j + 1, Q2, rfl, by rw [← HPN.out], by omega, HNX, HBX⟩, by simp [intOf] <;> omega⟩
    · obtain rfl : j = m := by omega
      have hpe : ¬ (j : Int) - 1 - (j : Int) ≥ 0 := by omega
      have HBX := Lib.hid (HB1.out.trans (hBl.out.mono HB1.out.size))
      go_wp2_with fail
      go_ret
      exact ⟨gg, rfl, ⟨QQ, hV.out⟩, HBX.out⟩
end Go.Proofs.YtibplgpolmplpaaGreatDoor

namespace Go.Proofs.YtibplgpolmplpaaGreatDoor
open Go.RowKit RuleP NatP

/-- The fill of noughts by ones. -/
theorem one_le (N i : Nat) (_ : i ≤ N) : ∀ u, (fillTo (List.replicate N 1) N 0 i).getD u 0 ≤ 1 := by
  intro u
  unfold fillTo
  rw [List.getD_eq_getElem?_getD]
  cases h : (List.take i (List.replicate N 1) ++ List.replicate (N - i) 0)[u]? with
  | none => exact Nat.zero_le _
  | some v =>
    have hm := List.mem_of_getElem? h
    rw [List.mem_append] at hm
    rcases hm with hm | hm
    · have := List.eq_of_mem_replicate (List.mem_of_mem_take hm)
      simp [this]
    · have := List.eq_of_mem_replicate hm
      simp [this]

theorem node_facts {n k N : Nat} (h : n / k = N) (hN : N ≤ 256) : (n : Int).tdiv (k : Int) = (N : Int) ∧ (n : Int) / (k : Int) = (N : Int) ∧ wrap64 (N : Int) = (N : Int) ∧ IntKind.i64.wrap (N : Int) = (N : Int) :=
  ⟨by rw [← h]; rfl, by rw [← h]; rfl, IntWalk.wrap64_in _ (by omega), IntWalk.i64_in _ (by omega)⟩
theorem box_cell (w : World) (o : Obj) (v : Value) (t : TypeId) : ((w.alloc o).alloc (.cells #[v] t)).cell? ⟨w.heap.size + 1, 0, none⟩ = some v := by
  have h := heap_new (w.alloc o) (.cells #[v] t)
  rw [World.size_alloc] at h
  rw [cell_of_row _ _ _ _ _ _ h]
  rfl
set_option maxRecDepth 100000 in
set_option maxHeartbeats 4000000 in
theorem cwords_c (w : World) (k r n c m d : Nat) (A B : Option Addr) (t x : List Nat) (hT : Sl w A n ((ints t).map (Value.int .i64))) (hr : IsRule k r t) (h256 : t.length ≤ 256) (hX : Sl w B m ((ints x).map (Value.int .i64))) (hm : m ≤ 256) :
    Calls Tryz.prog 40 #[ruleV (k : Int) (r : Int) A n c, .slice B m d] w fun e w' => New w (preL k r t x).length e w' := by
  have hn : t.length = n := by simpa [ints] using hT.1
  have hxm : x.length = m := by simpa [ints] using hX.1
  have hb1 := (Below.refl w.heap.size w).alloc (Nat.le_refl _) (.cells #[.int .i64 (k : Int), .int .i64 (r : Int), .slice A n c] 24)
  have hb2 := hb1.alloc (by simp) (.cells #[.slice B m d] 22)
  have hr2 := (RuleAt.new w (.int .i64 (k : Int)) (.int .i64 (r : Int)) (.slice A n c)).alloc (.cells #[.slice B m d] 22)
  have hc2 : ((w.alloc (.cells #[.int .i64 (k : Int), .int .i64 (r : Int), .slice A n c] 24)).alloc (.cells #[.slice B m d] 22)).cell? ⟨w.heap.size + 1, 0, none⟩ = some (.slice B m d) := box_cell _ _ _ _
  obtain ⟨r0, r1, r2, _⟩ := hr2.facts
  obtain ⟨w2, hw2⟩ : ∃ w2, (w.alloc (.cells #[.int .i64 (k : Int), .int .i64 (r : Int), .slice A n c] 24)).alloc (.cells #[.slice B m d] 22) = w2 := ⟨_, rfl⟩
  have hz2 : w2.heap.size = w.heap.size + 2 := by rw [← hw2]; simp
  obtain ⟨N, hN⟩ : ∃ N, k ^ (2 * r) = N := ⟨_, rfl⟩
  obtain ⟨hdv, hln⟩ := nodes_div hr
  rw [hN, hn] at hdv hln
  have hk1 := hr.k1
  have hk4 := hr.k4
  have hN0 : 0 < N := by rw [← hN]; exact Nat.pow_pos hk1
  have hN4 : N ≤ 256 := by
    have := Nat.le_mul_of_pos_right N hk1
    omega
  have HEE := Lib.hid (node_facts hdv hN4)
  have hk0 : ¬ ((k : Int) = 0) := by omega
  have hk0n : ¬ k = 0 := by omega
  have hmk := run_make_row' (P := Tryz.prog) 149 38 (.slice none 0 0) 24 tNats.und tNats.info rfl .i64 .i64 N (by omega) (by omega)
  have hmd := NatsAt.made w2 N (by simp only [maxLen]; omega)
  have hb3 := (Below.refl w2.heap.size w2).alloc (Nat.le_refl _) (.cells (madeCells #[.slice none 0 0] N) 38)
  obtain ⟨w3, hw3⟩ : ∃ w3, w2.alloc (.cells (madeCells #[.slice none 0 0] N) 38) = w3 := ⟨_, rfl⟩
  rw [hw3] at hmd hb3
  rw [hw2] at hb2 hr2 hc2
  obtain ⟨g, hg⟩ : ∃ g, w2.heap.size = g := ⟨_, rfl⟩
  rw [hg] at hmd
  have hwg : w.heap.size ≤ g := by omega
  have hfl : NatsAt w3 w.heap.size g (List.replicate N (none, 0, 0)) (fillTo (List.replicate N 1) N 0 0) := by
    have h := hmd.base hwg
    unfold fillTo
    simpa using h
  have HW2 := Lib.hid hw2
  have HW3 := Lib.hid hw3
  have HG := Lib.hid hg
  have HFL := Lib.hid hfl
  have HB23 := Lib.hid hb3
  have HB3 := Lib.hid hb2
  have HR3 := Lib.hid hr2
  have HC3 := Lib.hid hc2
  have HGW : Hid (w2.heap.size ≤ g) := Lib.hid (by omega)
  have HT := Lib.hid (fun (wz : World) (hz : Below w.heap.size w wz) => hT.below hz)
  have HX := Lib.hid (fun (wz : World) (hz : Below w.heap.size w wz) => hX.below hz)
  have HNK := Lib.hid (And.intro hN hln)
  have HXM := Lib.hid hxm
  have HK := Lib.hid (And.intro hk1 hk4)
  have HWB := Lib.hid (ways_before (k := k) (r := r) (t := t) (w := x) hk1)
  have HGG : Hid (w.heap.size + 1 + 1 = g) := Lib.hid (by omega)
  clear hw2 hw3 hg hmd hfl hb1 hb2 hb3 hr2 hT hX hN hln hdv hxm hr hn
  obtain ⟨e1, e2, e3, e4⟩ := HEE.out
  unfold ruleV
  go_enter Tryz.func40, Tryz.ntmps40
  go_wp2_with fail
  rw [HW2.out, HW3.out, HGG.out]
  clear hmk r0 r1 r2 e1 e2 e3 e4
  go_loopw [16] (fun iv wl => ∃ (i : Nat) (Q : List (Option Addr × Nat × Nat)), iv = .int .i64 (i : Int) ∧ i ≤ N ∧ Hid (NatsAt wl w.heap.size g Q (fillTo (List.replicate N 1) N 0 i)) ∧ Hid (Below w2.heap.size w2 wl)) (fun iv _ => N - (intOf iv).toNat)
  case atStart => exact ⟨0, _, rfl, Nat.zero_le _, HFL, HB23⟩
  case round =>
    obtain ⟨i, Q, rfl, hi, hV, hB⟩ := hrel
    clear HFL
    obtain ⟨v0, rfl⟩ : ∃ v0, v0 = wr := ⟨_, rfl⟩
    by_cases hiN : i < N
    · have hiN' : (i : Int) < (N : Int) := by omega
      have hi0 : (0 : Int) ≤ (i : Int) := by omega
      have HFR : Hid (Calls Tryz.prog 42 #[.int .u64 1] v0 fun e w' => New v0 1 e w') := Lib.hid (fromL_n v0 1 (by decide))
      have hl1 : (fillTo (List.replicate N 1) N 0 i).length = N := fillTo_len hi (by simp)
      have HL1 := Lib.hid hl1
      have hwv : w.heap.size ≤ v0.heap.size := (HB3.out.trans (hB.out.mono HB3.out.size)).size
      clear hl1
      go_wp2_with fail
      refine (HFR.out).mono ?_
      rintro e v1 ⟨A1, c1, rfl, _, ho1, hb1⟩
      have hN1 := hV.out.below hb1
      obtain ⟨_, _, _, _, q1, p1⟩ := hN1.at_ (i := i) (by rw [HL1.out]; exact hiN)
      have hput := hN1.put (j := i) (own_base ho1 hwv)
      rw [fillTo_set hiN (by rw [List.getElem?_replicate, if_pos hiN])] at hput
      have HPUT := Lib.hid hput
      have HBX := Lib.hid ((hB.out.trans (hb1.mono hB.out.size)).setCell (p := ⟨g, i, none⟩) (HGW.out) (.slice A1 (limbs 1).length c1))
      clear hput ho1 hb1 hN1
      go_wp2_with fail
      exact ⟨⟨i + 1, _, by go_num, by omega, HPUT, HBX⟩, by simp [intOf]; omega⟩
    · obtain rfl : i = N := by omega
      have hiN' : ¬ (i : Int) < (i : Int) := by omega
      have hb0 := HB3.out.trans (hB.out.mono HB3.out.size)
      have hr0 := HR3.out.below hB.out HR3.out.lt
      have hc0 := cell_later hB.out HC3.out
      obtain ⟨r0, r1, r2, _⟩ := hr0.facts
      have hV2 := hV.out
      rw [fillTo_all _ (by simp)] at hV2
      have hwy := ways_c v0 k (r : Int) A n c i m w.heap.size g Q (List.replicate i 1) 91 (.pointer (some ⟨w.heap.size, 0, none⟩)) (.pointer (some ⟨w.heap.size + 1, 0, none⟩)) (fitP t x) HK.out.1 HK.out.2 hN0 (by omega) HNK.out.2 hm hV2 (by simp) (fun u => by
          have := one_le i i (Nat.le_refl _) u
          rwa [fillTo_all _ (by simp)] at this) hb0.size (fun v1 v2 wz => run_enter Tryz.func91 (by kernel_rfl) (by kernel_rfl) _ _)
        (fun wz hz p q hp hq => fitsW_c wz w.heap.size (w.heap.size + 1) k r n c m d A B t x (hr0.below hz hr0.lt) (cell_later hz hc0) (HT.out wz (hb0.trans (hz.mono hb0.size))) (HX.out wz (hb0.trans (hz.mono hb0.size))) p q hp hq)
      unfold ruleV at hwy
      have HWY := Lib.hid hwy
      have HB0 := Lib.hid hb0
      clear hwy hV2 hr0 hb0 hV hB
      go_wp2_with fail
      refine (HWY.out).mono ?_
      rintro e v1 ⟨g1, Q1, rfl, hN1, hb1⟩
      obtain ⟨V, hV⟩ : ∃ V, waysW k i (fitP t x) m (List.replicate i 1) m = V := ⟨_, rfl⟩
      have hVl : V.length = i := by rw [← hV]; exact waysW_len _ _ (by simp) _
      have hVb : ∀ u, (limbs (V.getD u 0)).length ≤ 1000000 := fun u => by
        rw [← hV]
        exact Nat.le_trans (small17 HK.out.2 (by omega) (waysW_le HK.out.1 (fitP t x) m (fun u => by
          have := one_le i i (Nat.le_refl _) u
          rwa [fillTo_all _ (by simp)] at this) m u)) (by omega)
      have hVs : V.sum = (preL k r t x).length := by
        rw [← hV, ← before_pre HK.out.1, ← HWB.out, HNK.out.1, HXM.out]
        rfl
      rw [hV] at hN1
      have hsm := sum_nats (c := i) hN1 (by omega) hVb
      rw [hVs, hVl] at hsm
      have HSM := Lib.hid hsm
      have HB1 := Lib.hid (HB0.out.trans (hb1.mono HB0.out.size))
      clear hsm hN1 hb1 hV hVl hVb hVs HWY
      go_wp2_with fail
      refine (HSM.out).mono ?_
      rintro e v2 ⟨A2, c2, rfl, hl2, ho2, hb2⟩
      go_wp2_with fail
      go_ret
      exact ⟨A2, c2, rfl, hl2, own_base ho2 HB1.out.size, HB1.out.trans (hb2.mono HB1.out.size)⟩
end Go.Proofs.YtibplgpolmplpaaGreatDoor

namespace Go.Proofs.YtibplgpolmplpaaGreatDoor
open Go.RowKit RuleP NatP

def natL (l : List Int) : List Nat := l.map Int.toNat
theorem natL_ints (t : List Nat) : natL (ints t) = t := by unfold natL ints; rw [List.map_map]; exact (List.map_congr_left fun x _ => by simp).trans (List.map_id _)
/-- A number, and an error or none. -/
def CNum (w : World) (E : Nat → Addr) (x : Nat) (t : Option Tale) (e : Ending) (w' : World) : Prop :=
  ∃ (C : Option Addr) (cc : Nat) (v : Value), e = .returned (.tuple #[.slice C (limbs x).length cc, v]) ∧ w'.ownsRow w.heap.size 64 1 (.slice C (limbs x).length cc) (limbs x).length ((limbs x).map wv) ∧ ErrV w' E t v ∧ Below w.heap.size w w'
theorem CNum.bad {w w' : World} {E : Nat → Addr} {t : Tale} {v : Value} (he : ErrV w' E (some t) v) (hb : Below w.heap.size w w') : CNum w E 0 (some t) (.returned (.tuple #[.slice none 0 0, v])) w' :=
  ⟨none, 0, v, rfl, World.ownsRow_nil _ _ _ _, he, hb⟩
def wordsV (K R : Int) (T X : List Int) : Nat × Option Tale :=
  match smallC K R T with
  | some t => (0, some t)
  | none => match symT K X 256 with
    | some t => (0, some t)
    | none => ((preL K.toNat R.toNat (natL T) (natL X)).length, none)
theorem wordsV_good {k r : Nat} {t x : List Nat} (hr : IsRule k r t) (h : t.length ≤ 256) (hx : ∀ s ∈ x, s < k) (hl : x.length ≤ 256) : wordsV k r (ints t) (ints x) = ((preL k r t x).length, none) := by
  unfold wordsV
  rw [smallC_rule hr h]
  simp only
  rw [symT_good hx hl]
  simp only [natL_ints, Int.toNat_natCast]

set_option maxRecDepth 100000 in
set_option maxHeartbeats 2000000 in
theorem cWords_c (w : World) (E : Nat → Addr) (hE : Errs w E) (K R : Int) (A : Option Addr) (n c : Nat) (T : List Int) (hT : Sl w A n (T.map (Value.int .i64))) (hm : n ≤ 9223372036854775807) (B : Option Addr) (m d : Nat) (X : List Int) (hX : Sl w B m (X.map (Value.int .i64))) (hm2 : m ≤ 9223372036854775807) :
    Calls Tryz.prog 13 #[ruleV K R A n c, .slice B m d] w (CNum w E (wordsV K R T X).1 (wordsV K R T X).2) := by
  have hb0 := (Below.refl w.heap.size w).alloc (Nat.le_refl _) (.cells #[.int .i64 K, .int .i64 R, .slice A n c] 24)
  have hr0 := RuleAt.new w (.int .i64 K) (.int .i64 R) (.slice A n c)
  obtain ⟨w1, hw1⟩ : ∃ w1, w.alloc (.cells #[.int .i64 K, .int .i64 R, .slice A n c] 24) = w1 := ⟨_, rfl⟩
  have hr00 := hr0.facts
  rw [hw1] at hb0 hr0
  have HS := Lib.hid (cntSmall_c w1 E (hE.below hb0) K R A n c T (hT.below hb0) hm)
  have HW1 := Lib.hid hw1
  have HB0 := Lib.hid hb0
  have HR0 := Lib.hid hr0
  have HE := Lib.hid (fun (wz : World) (hz : Below w.heap.size w wz) => hE.below hz)
  have HT := Lib.hid (fun (wz : World) (hz : Below w.heap.size w wz) => hT.below hz)
  have HX := Lib.hid (fun (wz : World) (hz : Below w.heap.size w wz) => hX.below hz)
  obtain ⟨p, hp⟩ : ∃ p, wordsV K R T X = p := ⟨_, rfl⟩
  rw [hp]
  have HP := Lib.hid hp
  clear hw1 hb0 hr0 hE hT hX hp
  unfold wordsV at HP
  unfold ruleV at HS ⊢
  obtain ⟨r0, r1, r2, _⟩ := hr00
  cases hs : smallC K R T with
  | some tl =>
    rw [hs] at HP HS
    obtain rfl := HP.out
    clear hs HP
    go_enter Tryz.func13, Tryz.ntmps13
    go_wp2_with fail
    rw [HW1.out]
    refine (HS.out).mono ?_
    rintro e w2 ⟨v, rfl, he, hb⟩
    obtain ⟨u, p, rfl⟩ := ErrIs.iface (show ErrIs w2 E tl.1 tl.2 v from he)
    have HV := Lib.hid he
    have HB := Lib.hid (HB0.out.trans (hb.mono HB0.out.size))
    clear he hb
    go_wp2_with fail
    go_ret2
    exact CNum.bad HV.out HB.out
  | none =>
    rw [hs] at HP HS
    obtain ⟨k, r, t, rfl, rfl, rfl, hr, hl⟩ := smallC_none hs
    clear hs
    go_enter Tryz.func13, Tryz.ntmps13
    go_wp2_with fail
    rw [HW1.out]
    refine (HS.out).mono ?_
    rintro e w2 ⟨v, rfl, rfl, hb⟩
    have hb2 := HB0.out.trans (hb.mono HB0.out.size)
    have hr2 := HR0.out.below hb HR0.out.lt
    have HSY := Lib.hid (cntSymbols_c w2 E (HE.out w2 hb2) (k : Int) B m d 256 X (HX.out w2 hb2) hm2 (by decide))
    obtain ⟨r0, r1, r2, _⟩ := hr2.facts
    have HR2 := Lib.hid hr2
    have HB2 := Lib.hid hb2
    clear hb hb2 hr2 HS
    go_wp2_with fail
    refine (HSY.out).mono ?_
    rintro e w3 ⟨v, rfl, he, hb⟩
    have hb3 := HB2.out.trans (hb.mono HB2.out.size)
    have hr3 := HR2.out.below hb HR2.out.lt
    obtain ⟨r0, r1, r2, _⟩ := hr3.facts
    cases hs : symT (k : Int) X 256 with
    | some tl =>
      rw [hs] at HP he
      obtain rfl := HP.out
      obtain ⟨u, p, rfl⟩ := ErrIs.iface (show ErrIs w3 E tl.1 tl.2 v from he)
      have HV := Lib.hid he
      have HB := Lib.hid hb3
      clear he hb hb3 hs HP hr3 HSY
      go_wp2_with fail
      go_ret2
      exact CNum.bad HV.out HB.out
    | none =>
      rw [hs] at HP he
      obtain rfl : v = .nilIface := he
      obtain ⟨x, rfl, hxl, hxs⟩ := symT_none hs
      have hxm : x.length = m := by have := (HX.out w3 hb3).1; simpa [ints] using this
      have hcw := cwords_c w3 k r n c m d A B t x (HT.out w3 hb3) hr hl (HX.out w3 hb3) (by omega)
      simp only [natL_ints, Int.toNat_natCast] at HP
      obtain rfl := HP.out
      unfold ruleV at hcw
      have HC := Lib.hid hcw
      have HB := Lib.hid hb3
      clear hb hb3 hs HP hr3 HSY hcw hxl hxs hxm hr hl
      go_wp2_with fail
      refine (HC.out).mono ?_
      rintro e w4 ⟨A4, c4, rfl, _, ho4, hb4⟩
      go_wp2_with fail
      go_ret2
      exact ⟨A4, c4, _, rfl, own_base ho4 HB.out.size, rfl, HB.out.trans (hb4.mono HB.out.size)⟩


theorem ringsW_succ (k N : Nat) (p : Nat → Nat → Bool) (n i : Nat) : ringsW k N p n (i + 1) = ringsW k N p n i + (waysW k N p n (unitV N i) n).getD i 0 := by
  unfold ringsW
  rw [List.range_succ, List.map_append, List.sum_append]
  simp
theorem unit_le (N i : Nat) : ∀ u, (unitV N i).getD u 0 ≤ 1 := fun u => by
  rcases Nat.lt_or_ge u N with h | h
  · rw [unitV_at h]; split <;> omega
  · rw [List.getD_eq_getElem?_getD, List.getElem?_eq_none (by simp [unitV]; exact h)]; exact Nat.zero_le _
theorem ringsW_le {k N : Nat} (hk : 0 < k) (p : Nat → Nat → Bool) (n : Nat) : ∀ i, ringsW k N p n i ≤ i * k ^ n
  | 0 => by simp [ringsW]
  | i + 1 => by
    rw [ringsW_succ, Nat.succ_mul]
    exact Nat.add_le_add (ringsW_le hk p n i) (waysW_le hk p n (unit_le N i) n i)
theorem rings_len {k N n i : Nat} (h1 : 1 ≤ k) (h4 : k ≤ 4) (hn : n ≤ 64) (hi : i ≤ 256) (p : Nat → Nat → Bool) : (limbs (ringsW k N p n i)).length ≤ 17 := by
  refine small17 (k := 4) (m := n + 4) (Nat.le_refl _) (by omega) ?_
  refine Nat.le_trans (ringsW_le h1 p n i) ?_
  rw [Nat.pow_add, Nat.mul_comm]
  exact Nat.mul_le_mul (Nat.pow_le_pow_left h4 n) hi

set_option maxRecDepth 100000 in
set_option maxHeartbeats 4000000 in
theorem crings_c (w : World) (k : Nat) (R : Int) (n c N m : Nat) (A : Option Addr) (F : FuncId) (p1 p2 : Value) (p : Nat → Nat → Bool) (hk1 : 1 ≤ k) (hk4 : k ≤ 4) (hN0 : 0 < N) (hN4 : N ≤ 256) (hn : n = N * k) (hdv : n / k = N) (hm : m ≤ 64)
    (he : ∀ (v1 v2 : Value) (wz : World), (callFunc F #[v1, v2, p1, p2]).run Tryz.prog wz = .ok (.enter F #[v1, v2, p1, p2]) wz)
    (hf : ∀ (wz : World), Below w.heap.size w wz → ∀ place window : Nat, place < m → window < n →
      Calls Tryz.prog F #[.int .i64 (place : Int), .int .i64 (window : Int), p1, p2] wz fun e w' => e = .returned (.bool (p place window)) ∧ Below wz.heap.size wz w') :
    Calls Tryz.prog 51 #[ruleV (k : Int) R A n c, .int .i64 (m : Int), .func (.func F) #[] #[p1, p2]] w fun e w' => New w (ringsW k N p m N) e w' := by
  have hb1 := (Below.refl w.heap.size w).alloc (Nat.le_refl _) (.cells #[.int .i64 (k : Int), .int .i64 R, .slice A n c] 24)
  have hr1 := RuleAt.new w (.int .i64 (k : Int)) (.int .i64 R) (.slice A n c)
  obtain ⟨r0, r1, r2, _⟩ := hr1.facts
  obtain ⟨w1, hw1⟩ : ∃ w1, w.alloc (.cells #[.int .i64 (k : Int), .int .i64 R, .slice A n c] 24) = w1 := ⟨_, rfl⟩
  rw [hw1] at hb1 hr1
  have HW1 := Lib.hid hw1
  have HB1 := Lib.hid hb1
  have HR1 := Lib.hid hr1
  have HF := Lib.hid hf
  have HE := Lib.hid he
  have HN := Lib.hid hn
  have hk0 : ¬ ((k : Int) = 0) := by omega
  have hk0n : ¬ k = 0 := by omega
  have HNF := Lib.hid (node_facts hdv hN4)
  clear hw1 hb1 hr1 hf he hdv hn
  obtain ⟨e1, e2, e3, e4⟩ := HNF.out
  unfold ruleV
  go_enter Tryz.func51, Tryz.ntmps51
  go_wp2_with fail
  rw [HW1.out]
  clear r0 r1 r2 e1 e2 e3 e4
  go_loopw [7, 18] (fun av iv wl => ∃ (i : Nat) (S : Option Addr) (sc : Nat), iv = .int .i64 (i : Int) ∧ i ≤ N ∧ av = .slice S (limbs (ringsW k N p m i)).length sc ∧ Hid (wl.ownsRow w.heap.size 64 1 (.slice S (limbs (ringsW k N p m i)).length sc) (limbs (ringsW k N p m i)).length ((limbs (ringsW k N p m i)).map wv)) ∧ Hid (Below w1.heap.size w1 wl)) (fun _ iv _ => N - (intOf iv).toNat)
  case atStart => exact ⟨0, none, 0, rfl, Nat.zero_le _, rfl, Lib.hid (World.ownsRow_nil _ _ _ _), Lib.hid (Below.refl _ _)⟩
  case round =>
    obtain ⟨i, S, sc, rfl, hi, rfl, hO, hB⟩ := hrel
    obtain ⟨v0, rfl⟩ : ∃ v0, v0 = wr := ⟨_, rfl⟩
    by_cases hiN : i < N
    · have hiN' : (i : Int) < (N : Int) := by omega
      have hi0 : (0 : Int) ≤ (i : Int) := by omega
      have hmk := run_make_row' (P := Tryz.prog) 149 38 (.slice none 0 0) 24 tNats.und tNats.info rfl .i64 .i64 N (by omega) (by omega)
      have hmd := NatsAt.made v0 N (by simp only [maxLen]; omega)
      have hb01 := (Below.refl v0.heap.size v0).alloc (Nat.le_refl _) (.cells (madeCells #[.slice none 0 0] N) 38)
      obtain ⟨v1, hv1⟩ : ∃ v1, v0.alloc (.cells (madeCells #[.slice none 0 0] N) 38) = v1 := ⟨_, rfl⟩
      rw [hv1] at hmd hb01
      obtain ⟨g, hg⟩ : ∃ g, v0.heap.size = g := ⟨_, rfl⟩
      rw [hg] at hmd
      have hb0 := HB1.out.trans (hB.out.mono HB1.out.size)
      have hwg : w.heap.size ≤ g := by have := hb0.size; omega
      have HFR : Hid (Calls Tryz.prog 42 #[.int .u64 1] v1 fun e w' => New v1 1 e w') := Lib.hid (fromL_n v1 1 (by decide))
      have HMD := Lib.hid (hmd.base hwg)
      have HB01 := Lib.hid hb01
      have HV1 := Lib.hid hv1
      have HG := Lib.hid hg
      have HB0 := Lib.hid hb0
      have hg1 : g < v1.heap.size := hmd.lt.2
      clear hmd hb01 hv1 hg hb0
      go_wp2_with fail
      rw [HV1.out, HG.out]
      clear hmk
      refine (HFR.out).mono ?_
      rintro e v2 ⟨A2, c2, rfl, _, ho2, hb2⟩
      have hN2 := HMD.out.below hb2
      obtain ⟨_, _, _, _, q2, p2'⟩ := hN2.at_ (i := i) (by rw [List.length_replicate]; exact hiN)
      have hput : NatsAt (v2.setCell ⟨g, i, none⟩ (.slice A2 (limbs 1).length c2)) w.heap.size g _ (unitV N i) := hN2.put (j := i) (own_base ho2 (Nat.le_trans hwg (Nat.le_of_lt hg1)))
      have hb02 : Below v0.heap.size v0 (v2.setCell ⟨g, i, none⟩ (.slice A2 (limbs 1).length c2)) := (HB01.out.trans (hb2.mono HB01.out.size)).setCell (p := ⟨g, i, none⟩) (by rw [HG.out]; exact Nat.le_refl _) (.slice A2 (limbs 1).length c2)
      obtain ⟨v3, hv3⟩ : ∃ v3, v2.setCell ⟨g, i, none⟩ (.slice A2 (limbs 1).length c2) = v3 := ⟨_, rfl⟩
      rw [hv3] at hput hb02
      have HV3 := Lib.hid hv3
      have hb3 := HB0.out.trans (hb02.mono HB0.out.size)
      have hr3 := HR1.out.below (hB.out.trans (hb02.mono hB.out.size)) HR1.out.lt
      have hwy := ways_c v3 k R A n c N m w.heap.size g _ (unitV N i) F p1 p2 p hk1 hk4 hN0 (by omega) HN.out (by omega) hput (by simp [unitV]) (unit_le N i) hb3.size HE.out (fun wz hz => HF.out wz (hb3.trans (hz.mono hb3.size)))
      unfold ruleV at hwy
      have HWY := Lib.hid hwy
      have hO3 := Lib.hid (own_below hO.out hb02)
      have hr3c : (v2.setCell ⟨g, i, none⟩ (.slice A2 (limbs 1).length c2)).heap = v3.heap := by rw [hv3]
      have HB02 := Lib.hid hb02
      have HB3 := Lib.hid hb3
      obtain ⟨r0, r1, r2, _⟩ := hr3.facts
      rw [← hv3] at r0 r1 r2
      clear hN2 hput hb02 hv3 hb3 hr3 hwy hb2 ho2 hr3c
      go_wp2_with fail
      rw [HV3.out]
      refine (HWY.out).mono ?_
      rintro e v4 ⟨g4, Q4, rfl, hN4', hb4⟩
      obtain ⟨V, hV⟩ : ∃ V, waysW k N p m (unitV N i) m = V := ⟨_, rfl⟩
      have hVl : V.length = N := by rw [← hV]; exact waysW_len _ _ (by simp [unitV]) _
      have hVb : (limbs (V.getD i 0)).length ≤ 17 := by rw [← hV]; exact small17 hk4 (by omega) (waysW_le hk1 p m (unit_le N i) m i)
      have hsu : ringsW k N p m i + V.getD i 0 = ringsW k N p m (i + 1) := by rw [← hV, ringsW_succ]
      rw [hV] at hN4'
      obtain ⟨A5, c5, _, ho5, q5, p5⟩ := hN4'.at_ (i := i) (by rw [hVl]; exact hiN)
      have hsl := rings_len (N := N) hk1 hk4 hm (show i ≤ 256 by omega) p
      have hadd := add_n (num_own (own_below hO3.out hb4)) (num_own ho5) (by omega) (by omega) hsu
      have HADD := Lib.hid hadd
      have HB4 := Lib.hid (HB3.out.trans (hb4.mono HB3.out.size))
      have HBX := Lib.hid (hB.out.trans ((HB02.out.trans (hb4.mono HB02.out.size)).mono hB.out.size))
      clear hV hVl hVb hsu hN4' ho5 hadd hb4 hsl HWY r0 r1 r2
      go_wp2_with fail
      refine (HADD.out).mono ?_
      rintro e v6 ⟨A6, c6, rfl, _, ho6, hb6⟩
      have HO6 := Lib.hid (own_base ho6 HB4.out.size)
      have HBZ := Lib.hid (HBX.out.trans (hb6.mono HBX.out.size))
      clear ho6 hb6
      go_wp2_with fail
      exact ⟨⟨i + 1, A6, c6, by go_num, by omega, rfl, HO6, HBZ⟩, by simp [intOf]; omega⟩
    · obtain rfl : i = N := by omega
      have hiN' : ¬ (i : Int) < (i : Int) := by omega
      have HB0 := Lib.hid (HB1.out.trans (hB.out.mono HB1.out.size))
      have hll := rings_len (N := i) hk1 hk4 hm (show i ≤ 256 by omega) p
      go_wp2_with fail
      go_ret
      exact ⟨S, sc, rfl, num_own hO.out, hO.out, HB0.out⟩
end Go.Proofs.YtibplgpolmplpaaGreatDoor
