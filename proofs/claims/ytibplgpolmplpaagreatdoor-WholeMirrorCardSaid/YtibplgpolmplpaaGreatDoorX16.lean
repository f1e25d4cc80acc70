/- The two words along a way: pairs.Words. Condition: the rule and the way read from memory; the way goes along edges; the error variables hold what E says. -/
import Derived.Deep.RegionHeld3
import Derived.Deep.AppendLies
import Derived.Test.YtibplgpolmplpaaGreatDoorX3
import Derived.Test.YtibplgpolmplpaaGreatDoorX11
import Derived.Test.YtibplgpolmplpaaGreatDoorX13
import Derived.Test.YtibplgpolmplpaaGreatDoorX15
namespace Go.Proofs.YtibplgpolmplpaaGreatDoor
open Go.RowKit RuleP PairP MeetP

/-- What an edge of the graph of pairs says of its two pairs. -/
theorem edge_say {k r p q : Nat} {t : List Nat} (hk : 0 < k) (hr : 0 < r) (h : q ∈ (pairG k (k ^ (2 * r)) t).getD p []) :
    (p / k ^ (2 * r) * k + q / k ^ (2 * r) % k) % k ^ (2 * r) = q / k ^ (2 * r) ∧ (p % k ^ (2 * r) * k + q % k ^ (2 * r) % k) % k ^ (2 * r) = q % k ^ (2 * r) ∧
      t.getD (p / k ^ (2 * r) * k + q / k ^ (2 * r) % k) 0 = t.getD (p % k ^ (2 * r) * k + q % k ^ (2 * r) % k) 0 ∧ p < k ^ (2 * r) * k ^ (2 * r) ∧ q < k ^ (2 * r) * k ^ (2 * r) := by
  have hN : 0 < k ^ (2 * r) := Nat.pow_pos hk
  obtain ⟨hp, he⟩ := (mem_G hN).1 h
  have hql := edge_lt hN he
  obtain ⟨s, s', hs, hs', hl, e⟩ := edgeB_iff.1 he
  have e1 : q / k ^ (2 * r) = (p / k ^ (2 * r) * k + s) % k ^ (2 * r) := by rw [e]; exact (pair_div (Nat.mod_lt _ hN)).1
  have e2 : q % k ^ (2 * r) = (p % k ^ (2 * r) * k + s') % k ^ (2 * r) := by rw [e]; exact (pair_div (Nat.mod_lt _ hN)).2
  have e3 : q / k ^ (2 * r) % k = s := by rw [e1]; exact low_sym (k_dvd hr) hs
  have e4 : q % k ^ (2 * r) % k = s' := by rw [e2]; exact low_sym (k_dvd hr) hs'
  rw [e3, e4]
  exact ⟨e1.symm, e2.symm, hl, hp, hql⟩
theorem edges_lt {k r : Nat} {t : List Nat} (hk : 0 < k) (hr : 0 < r) : ∀ {l : List Nat} {d : Nat}, Edges (pairG k (k ^ (2 * r)) t) (d :: l) → d < k ^ (2 * r) * k ^ (2 * r) → ∀ x ∈ d :: l, x < k ^ (2 * r) * k ^ (2 * r)
  | [], d, _, hd, x, hx => by rw [List.mem_singleton.1 hx]; exact hd
  | a :: l, d, h, hd, x, hx => by
    rcases List.mem_cons.1 hx with rfl | hx
    · exact hd
    · exact edges_lt hk hr h.2 (edge_say hk hr h.1).2.2.2.2 x hx
theorem addr_off (b o i : Nat) : (⟨b, o, none⟩ : Addr).add i = ⟨b, o + i, none⟩ := by
  unfold Addr.add
  split
  · rename_i h; rw [h, Nat.add_zero]
  · rfl
theorem tail_sl {w : World} {aw : Addr} {m : Nat} {x : Value} {xs : List Value} (h : Sl w (some aw) (m + 1) (x :: xs)) : Sl w (some ⟨aw.block, aw.off + 1, none⟩) m xs := by
  refine ⟨by have := h.1; simpa using this, fun j v hj => ?_⟩
  obtain ⟨ad, e, hc⟩ := h.2 (j + 1) v (by simpa using hj)
  cases e
  refine ⟨_, rfl, ?_⟩
  have e : (⟨aw.block, aw.off + 1, none⟩ : Addr).add j = aw.add (j + 1) := by
    unfold Addr.add
    rw [if_neg (show ¬ j + 1 = 0 by omega)]
    split
    · rename_i h0; rw [h0]
    · simp only
      congr 1
      omega
  rw [e]
  exact hc
def lastA (k N : Nat) (l : List Nat) : List Nat := l.map fun p => p / N % k
def lastB (k N : Nat) (l : List Nat) : List Nat := l.map fun p => p % N % k

set_option maxRecDepth 100000 in
set_option maxHeartbeats 4000000 in
theorem pwords_c (w : World) (E : Nat → Addr) (hE : Errs w E) (k r n c : Nat) (A : Option Addr) (t : List Nat) (hT : Sl w A n ((ints t).map (Value.int .i64))) (hr : IsRule k r t) (h256 : t.length ≤ 256) (hr0 : 0 < r) (B : Option Addr) (m d d0 : Nat) (l : List Nat)
    (hW : Sl w B m ((ints (d0 :: l)).map (Value.int .i64))) (hm : m ≤ 100000) (hm2 : 2 ≤ m) (hmd : m ≤ d) (hE2 : Edges (pairG k (k ^ (2 * r)) t) (d0 :: l)) (hd0 : d0 < k ^ (2 * r) * k ^ (2 * r)) :
    Calls Tryz.prog 57 #[ruleV (k : Int) (r : Int) A n c, .slice B m d] w fun e w' => ∃ (C1 : Option Addr) (c1 : Nat) (C2 : Option Addr) (c2 : Nat), e = .returned (.tuple #[.slice C1 (wordA k r d0 l).length c1, .slice C2 (wordB k r d0 l).length c2, .nilIface]) ∧
      w'.ownsRow w.heap.size 3 1 (.slice C1 (wordA k r d0 l).length c1) (wordA k r d0 l).length ((ints (wordA k r d0 l)).map (Value.int .i64)) ∧ w'.ownsRow w.heap.size 3 1 (.slice C2 (wordB k r d0 l).length c2) (wordB k r d0 l).length ((ints (wordB k r d0 l)).map (Value.int .i64)) ∧ Below w.heap.size w w' := by
  have hml : l.length + 1 = m := by have := hW.1; simpa [ints] using this
  have hb1 := (Below.refl w.heap.size w).alloc (Nat.le_refl _) (.cells #[.int .i64 (k : Int), .int .i64 (r : Int), .slice A n c] 24)
  have hr1 := RuleAt.new w (.int .i64 (k : Int)) (.int .i64 (r : Int)) (.slice A n c)
  obtain ⟨r0, r1, r2, _⟩ := hr1.facts
  obtain ⟨w1, hw1⟩ : ∃ w1, w.alloc (.cells #[.int .i64 (k : Int), .int .i64 (r : Int), .slice A n c] 24) = w1 := ⟨_, rfl⟩
  rw [hw1] at hb1
  have hwk := working_c w1 E (hE.below hb1) k r A n c t (hT.below hb1) hr h256
  have e1 : workR r = r := by unfold workR; rw [if_neg (by omega)]
  have e2 : workT k r t = t := by unfold workT; rw [if_neg (by omega)]
  rw [e1, e2] at hwk
  have HWK := Lib.hid hwk
  have hk1 := hr.k1
  have hk4 := hr.k4
  have hr3 := hr.r3
  obtain ⟨hdv, hln⟩ := nodes_div hr
  have hN4 : k ^ (2 * r) ≤ 256 := by
    have := Nat.le_mul_of_pos_right (k ^ (2 * r)) hk1
    omega
  have hN0 : 0 < k ^ (2 * r) := Nat.pow_pos hk1
  have HND := Lib.hid (fun (wz : World) (hz : Below w.heap.size w wz) (C : Option Addr) (n c : Nat) (hS : Sl wz C n ((ints t).map (Value.int .i64))) (hn : n ≤ 9223372036854775807) => (by
    have h := overNodes_c wz E (hE.below hz) (k : Int) (r : Int) C n c (ints t) hS hn
    rw [smallO_rule hr h256, if_pos rfl] at h
    have hnn : nodesN (k : Int) (r : Int) = k ^ (2 * r) := by simp [nodesN]
    rw [hnn] at h
    exact h : Calls Tryz.prog 41 #[ruleV (k : Int) (r : Int) C n c] wz fun e w' => ∃ v, e = .returned (.tuple #[.int .i64 ((k ^ (2 * r) : Nat) : Int), v]) ∧ ErrV w' E none v ∧ Below wz.heap.size wz w'))
  have HED := Lib.hid (fun (wz : World) (hz : Below w.heap.size w wz) (C : Option Addr) (n c u s : Nat) (hS : Sl wz C n ((ints t).map (Value.int .i64))) (hu : u < k ^ (2 * r)) (hs : s < k) => edge_good wz E (hE.below hz) k r u s C n c t hS hr h256 hu hs)
  have HES := Lib.hid (fun (p q : Nat) (h : q ∈ (pairG k (k ^ (2 * r)) t).getD p []) => edge_say hk1 hr0 h)
  have HLT := Lib.hid (edges_lt hk1 hr0 hE2 hd0)
  have HEG := Lib.hid hE2
  have HDV := Lib.hid (k_dvd (k := k) hr0)
  have htl : t.length ≤ 256 := h256
  have hWA : wordA k r d0 l = digB k (2 * r) (d0 / k ^ (2 * r)) ++ lastA k (k ^ (2 * r)) l := rfl
  have hWB : wordB k r d0 l = digB k (2 * r) (d0 % k ^ (2 * r)) ++ lastB k (k ^ (2 * r)) l := rfl
  obtain ⟨XA, hXA⟩ : ∃ XA, wordA k r d0 l = XA := ⟨_, rfl⟩
  obtain ⟨XB, hXB⟩ : ∃ XB, wordB k r d0 l = XB := ⟨_, rfl⟩
  have hlA : XA.length = 2 * r + l.length := by rw [← hXA]; exact wordA_len k r d0 l
  have hlB : XB.length = 2 * r + l.length := by rw [← hXB]; exact wordB_len k r d0 l
  rw [hXA, hXB]
  rw [hXA] at hWA
  rw [hXB] at hWB
  obtain ⟨N, hN⟩ : ∃ N, k ^ (2 * r) = N := ⟨_, rfl⟩
  rw [hN] at hN4 hN0 HND HED HES HLT HEG HDV hd0 hWA hWB
  obtain ⟨M, hM⟩ : ∃ M, N * N = M := ⟨_, rfl⟩
  rw [hM] at HES HLT hd0
  have hM6 : M ≤ 65536 := by rw [← hM]; exact Nat.le_trans (Nat.mul_le_mul hN4 hN4) (by decide)
  have HMM := Lib.hid hM
  have HNN := Lib.hid hN
  have HWW := Lib.hid (fun (wz : World) (hz : Below w.heap.size w wz) => hW.below hz)
  have HW1 := Lib.hid hw1
  have HB1 := Lib.hid hb1
  have hNz : ¬ ((N : Int) = 0) := by omega
  have hNzn : ¬ N = 0 := by omega
  have hkz : ¬ ((k : Int) = 0) := by omega
  have hkzn : ¬ k = 0 := by omega
  have hmz : ¬ (m : Int) = 0 := by omega
  have hm0 : (0 : Int) < (m : Int) := by omega
  have hm1 : (1 : Int) ≤ (m : Int) := by omega
  have hm0n : 0 < m := by omega
  have hmzn : ¬ m = 0 := by omega
  obtain ⟨u0, hu0⟩ : ∃ u0, d0 / N = u0 := ⟨_, rfl⟩
  obtain ⟨v0, hv0⟩ : ∃ v0, d0 % N = v0 := ⟨_, rfl⟩
  have a1 : (d0 : Int).tdiv (N : Int) = (u0 : Int) := by rw [← hu0]; rfl
  have a2 : (d0 : Int).tmod (N : Int) = (v0 : Int) := by rw [← hv0]; rfl
  have a3 : (d0 : Int) / (N : Int) = (u0 : Int) := by rw [← hu0]; rfl
  have a4 : (d0 : Int) % (N : Int) = (v0 : Int) := by rw [← hv0]; rfl
  have hu6 : u0 ≤ 65536 := by rw [← hu0]; exact Nat.le_trans (Nat.div_le_self _ _) (by omega)
  have hv6 : v0 ≤ 65536 := by rw [← hv0]; exact Nat.le_trans (Nat.mod_le _ _) (by omega)
  have a5 : IntKind.i64.wrap (u0 : Int) = (u0 : Int) := IntWalk.i64_in _ (by omega)
  rw [hu0] at hWA
  rw [hv0] at hWB
  have HXA := Lib.hid hWA
  have HXB := Lib.hid hWB
  have HLA := Lib.hid hlA
  have HLB := Lib.hid hlB
  have HML := Lib.hid hml
  unfold ruleV at HWK HND HED ⊢
  clear hw1 hb1 hr1 hE hT hr hE2 hW hdv hln hwk e1 e2 hN hM hWA hWB h256 hu0 hv0 hXA hXB hlA hlB hml
  go_enter Tryz.func57, Tryz.ntmps57
  go_wp2_with fail
  rw [HW1.out]
  refine (HWK.out).mono ?_
  rintro e w2 ⟨C, n', c', rfl, hS2, hb2⟩
  unfold ruleV
  have hb02 := HB1.out.trans (hb2.mono HB1.out.size)
  have hb3 := (Below.refl w2.heap.size w2).alloc (Nat.le_refl _) (.cells #[.int .i64 (k : Int), .int .i64 (r : Int), .slice C n' c'] 24)
  have hr3' := RuleAt.new w2 (.int .i64 (k : Int)) (.int .i64 (r : Int)) (.slice C n' c')
  obtain ⟨r0, r1, r2, _⟩ := hr3'.facts
  obtain ⟨w3, hw3⟩ : ∃ w3, w2.alloc (.cells #[.int .i64 (k : Int), .int .i64 (r : Int), .slice C n' c'] 24) = w3 := ⟨_, rfl⟩
  rw [hw3] at hb3 hr3'
  have hb03 := hb02.trans (hb3.mono hb02.size)
  have hS3 := hS2.below hb3
  have hn' : t.length = n' := by have := hS3.1; simpa [ints] using this
  have HND3 := Lib.hid (HND.out w3 hb03 C n' c' hS3 (by omega))
  have HW3 := Lib.hid hw3
  have HB03 := Lib.hid hb03
  have HS3 := Lib.hid hS3
  have HR3 := Lib.hid hr3'
  clear hw3 hb03 hb3 hr3' hS2 hb02 hb2 HND HWK hS3
  go_wp2_with fail
  rw [HW3.out]
  refine (HND3.out).mono ?_
  rintro e w4 ⟨v, rfl, rfl, hb4⟩
  clear r0 r1 r2 HND3
  have hb5 := (Below.refl w4.heap.size w4).alloc (Nat.le_refl _) (.cells #[.int .i64 (N : Int)] 3)
  have hc5 : (w4.alloc (.cells #[.int .i64 (N : Int)] 3)).cell? ⟨w4.heap.size, 0, none⟩ = some (.int .i64 (N : Int)) := by rw [cell_of_row _ _ _ _ _ _ (heap_new _ _)]; rfl
  obtain ⟨w5, hw5⟩ : ∃ w5, w4.alloc (.cells #[.int .i64 (N : Int)] 3) = w5 := ⟨_, rfl⟩
  rw [hw5] at hb5 hc5
  have hb35 := hb4.trans (hb5.mono hb4.size)
  have hb05 := HB03.out.trans (hb35.mono HB03.out.size)
  have HWT := Lib.hid (wayTest_c w5 w4.heap.size N M HMM.out hN4 hc5 B m d (d0 :: l) (HWW.out w5 hb05) (by omega) HLT.out)
  have HW5 := Lib.hid hw5
  have HB05 := Lib.hid hb05
  have HR5 := Lib.hid (HR3.out.below hb35 HR3.out.lt)
  have HS5 := Lib.hid (HS3.out.below hb35)
  have HC5 := Lib.hid hc5
  obtain ⟨gn, hgn⟩ : ∃ gn, w4.heap.size = gn := ⟨_, rfl⟩
  rw [hgn] at HWT HC5
  have HGN := Lib.hid hgn
  clear hw5 hb5 hc5 hb35 hb05 hb4 HR3 HS3 hgn
  go_wp2_with fail
  rw [HW5.out, HGN.out]
  refine (HWT.out).mono ?_
  rintro e w6 ⟨rfl, rfl⟩
  clear HWT
  obtain ⟨aw, x0, hBe, hx0, hcx0⟩ := (HWW.out w5 HB05.out).int_ (show 0 < m by omega)
  subst hBe
  have hx0' : x0 = (d0 : Int) := by simpa [ints] using hx0.symm
  rw [hx0'] at hcx0
  have HFA := Lib.hid (fun (wz : World) (hz : Below w5.heap.size w5 wz) => wordF_c wz w2.heap.size k r n' c' u0 C (HR5.out.below hz HR5.out.lt) hk1 hk4 hr3 hu6)
  have HFB := Lib.hid (fun (wz : World) (hz : Below w5.heap.size w5 wz) => wordF_c wz w2.heap.size k r n' c' v0 C (HR5.out.below hz HR5.out.lt) hk1 hk4 hr3 hv6)
  rw [show aw.add 0 = aw by simp [Addr.add]] at hcx0
  have HKC := Lib.hid (fun (wz : World) (hz : Below w5.heap.size w5 wz) => (⟨cell_later hz HC5.out, cell_later hz hcx0⟩ : _ ∧ _))
  obtain ⟨z5, _⟩ := HKC.out w5 (Below.refl _ _)
  clear hx0 hx0'
  go_wp2_with fail
  go_region_held3 (fun wz => wz.cell? ⟨gn, 0, none⟩ = some (.int .i64 (N : Int)) ∧ wz.cell? aw = some (.int .i64 (d0 : Int)))
    (first | exact HKC.out _ ((Below.refl _ _).drew) | exact HKC.out _ hA | exact HKC.out _ hB)
    (first
      | (with_reducible refine (HFB.out _ hA).mono ?_
         rintro e wB ⟨CB, cB, rfl, oB, bB⟩
         have hB : Below w5.heap.size w5 wB := hA.trans (bB.mono hA.size)
         dsimp only)
      | (with_reducible refine (HFA.out _ ((Below.refl _ _).drew)).mono ?_
         rintro e wA ⟨CA, cA, rfl, oA, bA⟩
         have hA : Below w5.heap.size w5 wA := ((Below.refl w5.heap.size w5).drew).trans bA
         dsimp only)
      | fail)
  have hA5 := bA.trans (bB.mono bA.size)
  have oA5 := own_below oA bB
  have HBW := Lib.hid (HB05.out.trans (hB.mono HB05.out.size))
  have HB5B := Lib.hid hB
  have HR6 := Lib.hid (HR5.out.below hB HR5.out.lt)
  have hAl : (digB k (2 * r) u0).length = 2 * r := digB_len _ _ _
  have hBl : (digB k (2 * r) v0).length = 2 * r := digB_len _ _ _
  have HOA : Hid (wB.ownsRow w5.heap.size 3 1 (.slice CA (2 * r + 0) cA) (2 * r + 0) ((ints (digB k (2 * r) u0 ++ lastA k N (l.take 0))).map (Value.int .i64))) := Lib.hid (by
    rw [List.take_zero]
    show wB.ownsRow w5.heap.size 3 1 (.slice CA (2 * r) cA) (2 * r) ((ints (digB k (2 * r) u0 ++ [])).map (Value.int .i64))
    rw [List.append_nil]
    exact own_base oA5 ((Below.refl w5.heap.size w5).drew).size)
  have HOB : Hid (wB.ownsRow w5.heap.size 3 1 (.slice CB (2 * r + 0) cB) (2 * r + 0) ((ints (digB k (2 * r) v0 ++ lastB k N (l.take 0))).map (Value.int .i64))) := Lib.hid (by
    rw [List.take_zero]
    show wB.ownsRow w5.heap.size 3 1 (.slice CB (2 * r) cB) (2 * r) ((ints (digB k (2 * r) v0 ++ [])).map (Value.int .i64))
    rw [List.append_nil]
    exact own_base oB hA.size)
  have HAP : Hid (∀ a b, (Value.slice CA (2 * r + 0) cA).ownBlock = some a → (Value.slice CB (2 * r + 0) cB).ownBlock = some b → a ≠ b) := Lib.hid (fun a b h1 h2 e => by
    have q1 := (oA.lt a h1).2
    have q2 := (oB.lt b h2).1
    omega)
  have HTS := Lib.hid (fun (wz : World) (hz : Below w5.heap.size w5 wz) => (by
    have h := HWW.out wz (HB05.out.trans (hz.mono HB05.out.size))
    have hm' : m = l.length + 1 := HML.out.symm
    rw [hm'] at h
    have e : (ints (d0 :: l)).map (Value.int .i64) = .int .i64 (d0 : Int) :: (ints l).map (Value.int .i64) := by simp [ints]
    rw [e] at h
    exact tail_sl h : Sl wz (some ⟨aw.block, aw.off + 1, none⟩) l.length ((ints l).map (Value.int .i64))))
  obtain ⟨ll, hll⟩ : ∃ ll, l.length = ll := ⟨_, rfl⟩
  rw [hll] at HTS HLA HLB HML
  have hd1 : ¬ d = 1 := by omega
  have hd1i : ¬ (d : Int) = 1 := by omega
  have hmi : (1 : Int) ≤ (d : Int) := by omega
  have hm1l : m - 1 = ll := by have := HML.out; omega
  have hml1 : (m : Int) - 1 = (ll : Int) := by have := HML.out; omega
  have HLL := Lib.hid hll
  have HKR := Lib.hid (fun (wz : World) (hz : Below w5.heap.size w5 wz) => (⟨(HKC.out wz hz).1, (HR5.out.below hz HR5.out.lt).facts.1, (HR5.out.below hz HR5.out.lt).facts.2.1, (HR5.out.below hz HR5.out.lt).facts.2.2.1⟩ : _ ∧ _ ∧ _ ∧ _))
  have HSC := Lib.hid (fun (wz : World) (hz : Below w5.heap.size w5 wz) => HS5.out.below hz)
  have HED5 := Lib.hid (fun (wz : World) (hz : Below w5.heap.size w5 wz) (u s : Nat) (hu : u < N) (hs : s < k) => HED.out wz (HB05.out.trans (hz.mono HB05.out.size)) C n' c' u s (HSC.out wz hz) hu hs)
  clear hll hA5 oA5 oA oB bA bB hA hB z5 hcx0 hAl hBl
  go_wp2_with fail
  go_loopw [12, 13, 64] (fun av bv iv wl => ∃ (i : Nat) (PA : Option Addr) (pa : Nat) (PB : Option Addr) (pb : Nat), iv = .int .i64 (i : Int) ∧ i ≤ ll ∧ av = .slice PA (2 * r + i) pa ∧ bv = .slice PB (2 * r + i) pb ∧
    Hid (wl.ownsRow w5.heap.size 3 1 (.slice PA (2 * r + i) pa) (2 * r + i) ((ints (digB k (2 * r) u0 ++ lastA k N (l.take i))).map (Value.int .i64))) ∧ Hid (wl.ownsRow w5.heap.size 3 1 (.slice PB (2 * r + i) pb) (2 * r + i) ((ints (digB k (2 * r) v0 ++ lastB k N (l.take i))).map (Value.int .i64))) ∧
    Hid (∀ a b, (Value.slice PA (2 * r + i) pa).ownBlock = some a → (Value.slice PB (2 * r + i) pb).ownBlock = some b → a ≠ b) ∧ Hid (Below w5.heap.size w5 wl)) (fun _ _ iv _ => ll - (intOf iv).toNat)
  case atStart => exact ⟨0, CA, cA, CB, cB, rfl, Nat.zero_le _, rfl, rfl, HOA, HOB, HAP, HB5B⟩
  case round =>
    obtain ⟨i, PA, pa, PB, pb, rfl, hi, rfl, rfl, hA, hB, hAP, hBl⟩ := hrel
    clear HOA HOB HAP HB5B
    obtain ⟨v1, rfl⟩ : ∃ v1, v1 = wr := ⟨_, rfl⟩
    by_cases hil : i < ll
    · have hil' : (i : Int) < (ll : Int) := by omega
      have hi0 : (0 : Int) ≤ (i : Int) := by omega
      obtain ⟨adp, p, hadp, hp, hcp⟩ := nat_at (n := ll) (HTS.out v1 hBl.out) hil
      cases hadp
      have hcp2 : v1.cell? ⟨aw.block, aw.off + 1 + i, none⟩ = some (.int .i64 ((p : Nat) : Int)) := by
        rw [← addr_off]; exact hcp
      have him' : (i : Int) < (m : Int) := by have := HML.out; omega
      obtain ⟨adq, q, hadq, hq, hcq⟩ := nat_at (l := d0 :: l) (HWW.out v1 (HB05.out.trans (hBl.out.mono HB05.out.size))) (show i < m by have := HML.out; omega)
      cases hadq
      have hq2 : (d0 :: l)[i + 1]? = some p := by simpa using hp
      have hes := HES.out q p (edges_at HEG.out hq hq2)
      obtain ⟨pu, hpu⟩ : ∃ x, p / N = x := ⟨_, rfl⟩
      obtain ⟨pv, hpv⟩ : ∃ x, p % N = x := ⟨_, rfl⟩
      obtain ⟨qu, hqu⟩ : ∃ x, q / N = x := ⟨_, rfl⟩
      obtain ⟨qv, hqv⟩ : ∃ x, q % N = x := ⟨_, rfl⟩
      rw [hpu, hpv, hqu, hqv] at hes
      obtain ⟨su, hsu⟩ : ∃ x, pu % k = x := ⟨_, rfl⟩
      obtain ⟨sv, hsv⟩ : ∃ x, pv % k = x := ⟨_, rfl⟩
      rw [hsu, hsv] at hes
      obtain ⟨e1, e2, e3, hqM, hpM⟩ := hes
      have b1 : (p : Int).tdiv (N : Int) = (pu : Int) := by rw [← hpu]; rfl
      have b2 : (p : Int).tmod (N : Int) = (pv : Int) := by rw [← hpv]; rfl
      have b3 : (q : Int).tdiv (N : Int) = (qu : Int) := by rw [← hqu]; rfl
      have b4 : (q : Int).tmod (N : Int) = (qv : Int) := by rw [← hqv]; rfl
      have b5 : (pu : Int).tmod (k : Int) = (su : Int) := by rw [← hsu]; rfl
      have b6 : (pv : Int).tmod (k : Int) = (sv : Int) := by rw [← hsv]; rfl
      have c1 : (p : Int) / (N : Int) = (pu : Int) := by rw [← hpu]; rfl
      have c2 : (p : Int) % (N : Int) = (pv : Int) := by rw [← hpv]; rfl
      have c3 : (q : Int) / (N : Int) = (qu : Int) := by rw [← hqu]; rfl
      have c4 : (q : Int) % (N : Int) = (qv : Int) := by rw [← hqv]; rfl
      have c5 : (pu : Int) % (k : Int) = (su : Int) := by rw [← hsu]; rfl
      have c6 : (pv : Int) % (k : Int) = (sv : Int) := by rw [← hsv]; rfl
      have hpu6 : pu ≤ 65536 := by rw [← hpu]; exact Nat.le_trans (Nat.div_le_self _ _) (by omega)
      have hqu6 : qu ≤ 65536 := by rw [← hqu]; exact Nat.le_trans (Nat.div_le_self _ _) (by omega)
      have g1 : IntKind.i64.wrap (pu : Int) = (pu : Int) := IntWalk.i64_in _ (by omega)
      have g2 : IntKind.i64.wrap (qu : Int) = (qu : Int) := IntWalk.i64_in _ (by omega)
      have hquN : qu < N := by rw [← hqu]; exact Nat.div_lt_of_lt_mul (by rw [HMM.out]; exact hqM)
      have hqvN : qv < N := by rw [← hqv]; exact Nat.mod_lt _ hN0
      have hsuk : su < k := by rw [← hsu]; exact Nat.mod_lt _ hk1
      have hsvk : sv < k := by rw [← hsv]; exact Nat.mod_lt _ hk1
      obtain ⟨lb, hlb⟩ : ∃ lb, t.getD (qu * k + su) 0 = lb := ⟨_, rfl⟩
      have HX1 := Lib.hid (fun (wz : World) (hz : Below w5.heap.size w5 wz) => (by
        have h := HED5.out wz hz qu su hquN hsuk
        rw [e1, hlb] at h
        exact h : Calls Tryz.prog 108 #[.agg #[.int .i64 (k : Int), .int .i64 (r : Int), .slice C n' c'], .int .i64 (qu : Int), .int .i64 (su : Int)] wz fun e w' => e = .returned (.tuple #[.int .i64 (pu : Int), .int .i64 (lb : Int), .nilIface]) ∧ Below wz.heap.size wz w'))
      have HX2 := Lib.hid (fun (wz : World) (hz : Below w5.heap.size w5 wz) => (by
        have h := HED5.out wz hz qv sv hqvN hsvk
        rw [e2, ← e3, hlb] at h
        exact h : Calls Tryz.prog 108 #[.agg #[.int .i64 (k : Int), .int .i64 (r : Int), .slice C n' c'], .int .i64 (qv : Int), .int .i64 (sv : Int)] wz fun e w' => e = .returned (.tuple #[.int .i64 (pv : Int), .int .i64 (lb : Int), .nilIface]) ∧ Below wz.heap.size wz w'))
      have HK2 := Lib.hid (fun (wz : World) (hz : Below v1.heap.size v1 wz) => (by
        obtain ⟨z1, z2, z3, z4⟩ := HKR.out wz (hBl.out.trans (hz.mono hBl.out.size))
        exact ⟨z1, z2, z3, z4, cell_later hz hcq⟩ : wz.cell? ⟨gn, 0, none⟩ = some (.int .i64 (N : Int)) ∧ wz.cell? ⟨w2.heap.size, 0, none⟩ = some (.int .i64 (k : Int)) ∧ wz.cell? ⟨w2.heap.size, 1, none⟩ = some (.int .i64 (r : Int)) ∧ wz.cell? ⟨w2.heap.size, 2, none⟩ = some (.slice C n' c') ∧ wz.cell? (aw.add i) = some (.int .i64 (q : Int))))
      obtain ⟨z1, z2, z3, z4, z5⟩ := HK2.out v1 (Below.refl _ _)
      have HTA : Hid (lastA k N (l.take (i + 1)) = lastA k N (l.take i) ++ [su]) := Lib.hid (by
        rw [List.take_add_one, hp]
        unfold lastA
        rw [List.map_append]
        simp [hpu, hsu])
      have HTB : Hid (lastB k N (l.take (i + 1)) = lastB k N (l.take i) ++ [sv]) := Lib.hid (by
        rw [List.take_add_one, hp]
        unfold lastB
        rw [List.map_append]
        simp [hpv, hsv])
      clear hq hq2 hp hpu hpv hqu hqv hsu hsv e1 e2 e3 hlb hqM hpM hquN hqvN hsuk hsvk
      go_wp2_with (go_quiet (fail))
      go_region_held3 (fun wz => wz.cell? ⟨gn, 0, none⟩ = some (.int .i64 (N : Int)) ∧ wz.cell? ⟨w2.heap.size, 0, none⟩ = some (.int .i64 (k : Int)) ∧ wz.cell? ⟨w2.heap.size, 1, none⟩ = some (.int .i64 (r : Int)) ∧ wz.cell? ⟨w2.heap.size, 2, none⟩ = some (.slice C n' c') ∧ wz.cell? (aw.add i) = some (.int .i64 (q : Int)))
        (first | exact HK2.out _ ((below_drewN (Below.refl _ _) _)) | exact HK2.out _ ((below_drewN (Below.refl _ _) _).drew) | exact HK2.out _ hE1)
        (first
          | (go_simp
             go_at_call 108
             with_reducible refine (HX1.out _ (by exact below_drewN hBl.out _)).mono ?_
             rintro e v3 ⟨rfl, hb3⟩
             have hE1 : Below v1.heap.size v1 v3 := (below_drewN (Below.refl v1.heap.size v1) _).trans hb3
             dsimp only)
          | fail)
      have HK3 := Lib.hid (fun (wz : World) (hz : Below v3.heap.size v3 wz) => HK2.out wz (hE1.trans (hz.mono hE1.size)))
      have HB13 := Lib.hid hE1
      clear z1 z2 z3 z4 z5 hb3 hE1 HX1
      obtain ⟨z1, z2, z3, z4, z5⟩ := HK3.out v3 (Below.refl _ _)
      go_wp2_with fail
      go_region_held3 (fun wz => wz.cell? ⟨gn, 0, none⟩ = some (.int .i64 (N : Int)) ∧ wz.cell? ⟨w2.heap.size, 0, none⟩ = some (.int .i64 (k : Int)) ∧ wz.cell? ⟨w2.heap.size, 1, none⟩ = some (.int .i64 (r : Int)) ∧ wz.cell? ⟨w2.heap.size, 2, none⟩ = some (.slice C n' c') ∧ wz.cell? (aw.add i) = some (.int .i64 (q : Int)))
        (first | exact HK3.out _ ((Below.refl _ _).drew) | exact HK3.out _ hE2)
        (first
          | (go_simp
             go_at_call 108
             with_reducible refine (HX2.out _ (by exact (hBl.out.trans (HB13.out.mono hBl.out.size)).drew)).mono ?_
             rintro e v4 ⟨rfl, hb4⟩
             have hE2 : Below v3.heap.size v3 v4 := ((Below.refl v3.heap.size v3).drew).trans hb4
             dsimp only)
          | fail)
      have hB14 := HB13.out.trans (hE2.mono HB13.out.size)
      have hA4 := own_below hA.out hB14
      have hB4 := own_below hB.out hB14
      have HB54 := Lib.hid (hBl.out.trans (hB14.mono hBl.out.size))
      have hsz4 : w5.heap.size ≤ v4.heap.size := HB54.out.size
      have hll1 : ll ≤ 100000 := by have := HML.out; omega
      obtain ⟨y1, _⟩ := HK3.out v4 hE2
      have HA4 := Lib.hid hA4
      have HB4 := Lib.hid hB4
      have HBK := Lib.hid (fun (v5 : World) (g5 : Nat) (hor : ((Value.slice PA (2 * r + i) pa).ownBlock = some g5 ∧ v4.grownBy v5 (some g5)) ∨ (v4.heap.size < g5 ∧ v4.grownBy v5 none)) => (⟨own_keeps HB4.out (push_keeps hor) (fun b hb e => hAP.out b b e hb rfl), Nat.le_trans hsz4 (push_keeps hor).size⟩ : v5.ownsRow w5.heap.size 3 1 (.slice PB (2 * r + i) pb) (2 * r + i) ((ints (digB k (2 * r) v0 ++ lastB k N (l.take i))).map (Value.int .i64)) ∧ w5.heap.size ≤ v5.heap.size))
      clear z1 z2 z3 z4 z5 hB14 hE2 hb4 hB4 HX2
      go_wp2_with (at_builtin; first
        | (refine wpList_push2 rfl _ _ _ rfl tInts hA4 rfl _ 0 rfl rfl rfl (by simp only [maxLen]; omega) (by omega) hsz4 ?_; intro g5 cap5 v5 hown5 hor5 hlt5; obtain ⟨hB5, hsz5⟩ := HBK.out v5 g5 hor5)
        | (refine wpList_push2 rfl _ _ _ rfl tInts hB5 rfl _ 0 rfl rfl rfl (by simp only [maxLen]; omega) (by omega) hsz5 ?_; intro g6 cap6 v6 hown6 hor6 hlt6)
        | fail)
      have hk5 := push_keeps hor5
      have hk6 := push_keeps hor6
      have hg5 : ∀ b, (Value.slice PB (2 * r + i) pb).ownBlock = some b → g5 ≠ b := fun b hb e => by
        rcases hor5 with ⟨h1, _⟩ | ⟨h1, _⟩
        · exact hAP.out g5 b h1 hb e
        · have := (HB4.out.lt b hb).2
          omega
      have HA6 : Hid (v6.ownsRow w5.heap.size 3 1 (.slice (some ⟨g5, 0, none⟩) (2 * r + (i + 1)) cap5) (2 * r + (i + 1)) ((ints (digB k (2 * r) u0 ++ lastA k N (l.take (i + 1)))).map (Value.int .i64))) := Lib.hid (by
        rw [HTA.out, ← List.append_assoc, ints_push]
        exact own_keeps hown5 hk6 (fun b hb e => by
          have h : g5 = b := by simpa [Value.ownBlock] using hb
          exact hg5 b e h))
      have HB6 : Hid (v6.ownsRow w5.heap.size 3 1 (.slice (some ⟨g6, 0, none⟩) (2 * r + (i + 1)) cap6) (2 * r + (i + 1)) ((ints (digB k (2 * r) v0 ++ lastB k N (l.take (i + 1)))).map (Value.int .i64))) := Lib.hid (by
        rw [HTB.out, ← List.append_assoc, ints_push]
        exact hown6)
      have HAP6 : Hid (∀ a b, (Value.slice (some ⟨g5, 0, none⟩) (2 * r + (i + 1)) cap5).ownBlock = some a → (Value.slice (some ⟨g6, 0, none⟩) (2 * r + (i + 1)) cap6).ownBlock = some b → a ≠ b) := Lib.hid (fun a b h1 h2 e => by
        have q1 : g5 = a := by simpa [Value.ownBlock] using h1
        have q2 : g6 = b := by simpa [Value.ownBlock] using h2
        rcases hor6 with ⟨h3, _⟩ | ⟨h3, _⟩
        · exact hg5 g6 h3 (by omega)
        · omega)
      have HBZ := Lib.hid ((HB54.out.trans (hk5.below HB54.out.size (fun b hb => (HA4.out.lt b hb).1))).trans (hk6.below (Nat.le_trans HB54.out.size hk5.size) (fun b hb => (HB4.out.lt b hb).1)))
      clear hown5 hown6 hor5 hor6 hk5 hk6 hB5 hA4 y1
      go_wp2_with fail
      exact ⟨⟨i + 1, some ⟨g5, 0, none⟩, cap5, some ⟨g6, 0, none⟩, cap6, by go_num, by omega, rfl, rfl, HA6, HB6, HAP6, HBZ⟩, by simp [intOf]; omega⟩
    · obtain rfl : i = ll := by omega
      have hil' : ¬ (i : Int) < (i : Int) := by omega
      have hTA : XA.length = 2 * r + i := HLA.out
      have hTB : XB.length = 2 * r + i := HLB.out
      have htk : l.take i = l := List.take_of_length_le (by rw [HLL.out]; exact Nat.le_refl _)
      have HOA : Hid (v1.ownsRow w.heap.size 3 1 (.slice PA XA.length pa) XA.length ((ints XA).map (Value.int .i64))) := Lib.hid (by
        have h := hA.out
        rw [htk, ← HXA.out] at h
        rw [hTA]
        exact own_base h HB05.out.size)
      have HOB : Hid (v1.ownsRow w.heap.size 3 1 (.slice PB XB.length pb) XB.length ((ints XB).map (Value.int .i64))) := Lib.hid (by
        have h := hB.out
        rw [htk, ← HXB.out] at h
        rw [hTB]
        exact own_base h HB05.out.size)
      have HBZ := Lib.hid (HB05.out.trans (hBl.out.mono HB05.out.size))
      have HTT := Lib.hid (And.intro hTA hTB)
      clear hTA hTB htk
      go_wp2_with fail
      exact bodyPost_ret (v := .tuple #[.slice PA (2 * r + i) pa, .slice PB (2 * r + i) pb, .nilIface]) (by simp [results, Tryz.results57, go_sem]) rfl ⟨PA, pa, PB, pb, by rw [HTT.out.1, HTT.out.2], HOA.out, HOB.out, HBZ.out⟩
end Go.Proofs.YtibplgpolmplpaaGreatDoor
