/- The graph of pairs: pairs.Graph. Condition: the table reads from memory; the error variables hold what E says. How the search for twins ends, and the way back step by step: plain lists, no program. No condition. What the search for twins begins with: twins.nodes, slices.Repeat of one number. Condition: the lists read from memory. -/
import Derived.Laws.CopyOwn
import Derived.Shelf.Bits.Mul64
import Derived.Deep.RegionLaw
import Derived.IntWalk
import Derived.Test.YtibplgpolmplpaaGreatDoorX3
import Derived.Test.YtibplgpolmplpaaGreatDoorX4
import Derived.Test.YtibplgpolmplpaaGreatDoorX10
import Derived.Test.YtibplgpolmplpaaGreatDoorX12
import Derived.Test.YtibplgpolmplpaaGreatDoorX13
namespace Go.Proofs.YtibplgpolmplpaaGreatDoor
open Go.RowKit RuleP PairP

/-- An arrow in a block of its own. -/
def BoxAt (w : World) (g x y : Nat) : Prop := w.heap[g]? = some (.cells #[.int .i64 (x : Int), .int .i64 (y : Int)] 160 (0, 0))
namespace BoxAt
variable {w w' : World} {g x y : Nat}
theorem new (w : World) (x y : Nat) : BoxAt (w.alloc (.cells #[.int .i64 (x : Int), .int .i64 (y : Int)] 160)) w.heap.size x y := heap_new _ _
theorem lt (h : BoxAt w g x y) : g < w.heap.size := (Array.getElem?_eq_some_iff.1 h).1
theorem facts (h : BoxAt w g x y) : w.cell? ⟨g, 0, none⟩ = some (.int .i64 (x : Int)) ∧ w.cell? ⟨g, 1, none⟩ = some (.int .i64 (y : Int)) := by
  constructor <;> rw [cell_of_row w g _ _ _ _ h] <;> rfl
theorem below (h : BoxAt w g x y) (hb : Below w.heap.size w w') : BoxAt w' g x y := (hb.block g h.lt).trans h
theorem keeps {O : Nat → Prop} (h : BoxAt w g x y) (hk : Keeps O w w') (ho : ¬ O g) : BoxAt w' g x y := (hk.block g h.lt ho).trans h
end BoxAt
/-- The rows below p are laid, the others are none yet. -/
structure PairAt (w : World) (B g M : Nat) (R : List (Option Addr × Nat × Nat)) (k N : Nat) (t : List Nat) (p : Nat) : Prop where
  lst : w.ownsRow B 22 1 (.slice (some ⟨g, 0, none⟩) M M) M (R.map slv)
  el : ∀ i, i < p → ∃ A c, R[i]? = some (A, (pairRow k N t i).length, c) ∧ w.ownsRow B 3 1 (.slice A (pairRow k N t i).length c) (pairRow k N t i).length ((ints (pairRow k N t i)).map (Value.int .i64))
  nil : ∀ i, p ≤ i → i < M → R[i]? = some (none, 0, 0)
theorem PairAt.list {w : World} {B g : Nat} {R : List (Option Addr × Nat × Nat)} {k N : Nat} {t : List Nat} (h : PairAt w B g (N * N) R k N t (N * N)) : ListAt w (some ⟨g, 0, none⟩) (N * N) ((pairG k N t).map ints) := by
  refine ⟨_, Sl.of_own h.lst, by rw [List.length_map, pairG_len], fun i l hl => ?_⟩
  have hi : i < N * N := by have := (List.getElem?_eq_some_iff.1 hl).1; simpa [pairG] using this
  have e : l = ints (pairRow k N t i) := by
    rw [List.getElem?_map] at hl
    unfold pairG at hl
    rw [List.getElem?_map, List.getElem?_range hi] at hl
    exact (Option.some.inj hl).symm
  subst e
  obtain ⟨A, c, hR, ho⟩ := h.el i hi
  refine ⟨A, c, by rw [List.getElem?_map, hR, ints_len]; rfl, ?_, ?_⟩
  · rw [ints_len]
    obtain ⟨_, _, hv, h1, h2⟩ := own_slice ho
    injection hv with _ _ hc
    subst hc
    unfold maxLen at h2
    omega
  · rw [ints_len]
    exact Sl.of_own ho
theorem mul_le256 {a b : Nat} (ha : a ≤ 256) (hb : b ≤ 256) : a * b ≤ 65536 := Nat.le_trans (Nat.mul_le_mul ha hb) (by decide)

set_option maxRecDepth 100000 in
set_option maxHeartbeats 4000000 in
theorem graph_c (w : World) (E : Nat → Addr) (hE : Errs w E) (k r n c : Nat) (A : Option Addr) (t : List Nat) (hT : Sl w A n ((ints t).map (Value.int .i64))) (hr : IsRule k r t) (h256 : t.length ≤ 256) :
    Calls Tryz.prog 53 #[ruleV (k : Int) (r : Int) A n c] w fun e w' => ∃ (C : Option Addr) (M : Nat), e = .returned (.tuple #[.slice C M M, .nilIface]) ∧ M = k ^ (2 * workR r) * k ^ (2 * workR r) ∧ ListAt w' C M ((pairG k (k ^ (2 * workR r)) (workT k r t)).map ints) ∧ Below w.heap.size w w' := by
  have hn : t.length = n := by simpa [ints] using hT.1
  have hb1 := (Below.refl w.heap.size w).alloc (Nat.le_refl _) (.cells #[.int .i64 (k : Int), .int .i64 (r : Int), .slice A n c] 24)
  have hr1 := RuleAt.new w (.int .i64 (k : Int)) (.int .i64 (r : Int)) (.slice A n c)
  obtain ⟨r0, r1, r2, _⟩ := hr1.facts
  obtain ⟨w1, hw1⟩ : ∃ w1, w.alloc (.cells #[.int .i64 (k : Int), .int .i64 (r : Int), .slice A n c] 24) = w1 := ⟨_, rfl⟩
  rw [hw1] at hb1
  have HWK := Lib.hid (working_c w1 E (hE.below hb1) k r A n c t (hT.below hb1) hr h256)
  obtain ⟨hr', hl', hr0⟩ := work_rule hr h256
  obtain ⟨r', hrr⟩ : ∃ r', workR r = r' := ⟨_, rfl⟩
  obtain ⟨t', htt⟩ : ∃ t', workT k r t = t' := ⟨_, rfl⟩
  rw [hrr, htt] at hr'
  rw [htt] at hl'
  rw [hrr] at hr0
  rw [hrr, htt] at HWK
  rw [hrr, htt]
  obtain ⟨hdv, hln⟩ := nodes_div hr'
  have hk1 := hr.k1
  have hk4 := hr.k4
  have hN4 : k ^ (2 * r') ≤ 256 := by
    have := Nat.le_mul_of_pos_right (k ^ (2 * r')) hk1
    omega
  have hN0 : 0 < k ^ (2 * r') := Nat.pow_pos hk1
  have HAR := Lib.hid (fun (wz : World) (hz : Below w.heap.size w wz) (C : Option Addr) (n c : Nat) (hS : Sl wz C n ((ints t').map (Value.int .i64))) => arrows_c wz E (hE.below hz) k r' n c C t' hS hr' hl')
  obtain ⟨N, hN⟩ : ∃ N, k ^ (2 * r') = N := ⟨_, rfl⟩
  rw [hN] at hN4 hN0 HAR ⊢
  have HW1 := Lib.hid hw1
  have HB1 := Lib.hid hb1
  have hM := mul_le256 hN4 hN4
  obtain ⟨M, hMM⟩ : ∃ M, N * N = M := ⟨_, rfl⟩
  have hNN : (N : Int) * (N : Int) = (M : Int) := by rw [← hMM]; rfl
  rw [hMM] at hM ⊢
  have HMM := Lib.hid hMM
  unfold ruleV at HWK HAR ⊢
  clear hw1 hb1 hr1 hE hT hr hr' hl' hdv hln hN hrr htt hn h256 hMM
  go_enter Tryz.func53, Tryz.ntmps53
  go_wp2_with fail
  rw [HW1.out]
  refine (HWK.out).mono ?_
  rintro e w2 ⟨C, n', c', rfl, hS2, hb2⟩
  unfold ruleV
  have hb02 := HB1.out.trans (hb2.mono HB1.out.size)
  have hb3 := (Below.refl w2.heap.size w2).alloc (Nat.le_refl _) (.cells #[.int .i64 (k : Int), .int .i64 (r' : Int), .slice C n' c'] 24)
  have hr3 := RuleAt.new w2 (.int .i64 (k : Int)) (.int .i64 (r' : Int)) (.slice C n' c')
  obtain ⟨r0, r1, r2, _⟩ := hr3.facts
  obtain ⟨w3, hw3⟩ : ∃ w3, w2.alloc (.cells #[.int .i64 (k : Int), .int .i64 (r' : Int), .slice C n' c'] 24) = w3 := ⟨_, rfl⟩
  rw [hw3] at hb3
  have hb03 := hb02.trans (hb3.mono hb02.size)
  have HAR3 := Lib.hid (HAR.out w3 hb03 C n' c' (hS2.below hb3))
  have HW3 := Lib.hid hw3
  have HB03 := Lib.hid hb03
  clear hw3 hb03 hb3 hr3 hS2 hb02 hb2 HAR HWK
  go_wp2_with fail
  rw [HW3.out]
  refine (HAR3.out).mono ?_
  rintro e w4 ⟨D, rfl, hL4, hb4⟩
  clear r0 r1 r2 HAR3
  have hb04 := HB03.out.trans (hb4.mono HB03.out.size)
  have hmk := run_make_row' (P := Tryz.prog) 31 22 (.slice none 0 0) 24 tIntss.und tIntss.info rfl .i64 .i64 M (by omega) (by omega)
  have hmd := World.ownsRow_lit (base := w4.heap.size) (e := 22) (size := 1) w4 (madeCells #[.slice none 0 0] M) M (Nat.le_refl _) (by simp only [maxLen]; omega) (by rw [size_madeCells]; simp)
  rw [toList_madeCells_one] at hmd
  have hb45 := (Below.refl w4.heap.size w4).alloc (Nat.le_refl _) (.cells (madeCells #[.slice none 0 0] M) 22)
  obtain ⟨w5, hw5⟩ : ∃ w5, w4.alloc (.cells (madeCells #[.slice none 0 0] M) 22) = w5 := ⟨_, rfl⟩
  rw [hw5] at hmd hb45
  obtain ⟨g, hg⟩ : ∃ g, w4.heap.size = g := ⟨_, rfl⟩
  rw [hg] at hmd
  have hwg : w.heap.size ≤ g := by have := hb04.size; omega
  have HA0 : Hid (PairAt w5 w.heap.size g M (List.replicate M (none, 0, 0)) k N t' 0) := Lib.hid ⟨by rw [List.map_replicate]; exact ownN_base hmd hwg, fun i hi => by omega, fun i _ hi => by rw [List.getElem?_replicate, if_pos hi]⟩
  have HW5 := Lib.hid hw5
  have HG := Lib.hid hg
  have HB45 := Lib.hid hb45
  have HB04 := Lib.hid hb04
  have HL4 := Lib.hid hL4
  have hNz : ¬ ((N : Int) = 0) := by omega
  have hNzn : ¬ N = 0 := by omega
  clear hmd hb45 hw5 hg hb04 hL4 hb4
  go_wp2_with fail
  rw [HW5.out, HG.out]
  clear hmk
  go_loopw [33] (fun pv wl => ∃ (p : Nat) (R : List (Option Addr × Nat × Nat)), pv = .int .i64 (p : Int) ∧ p ≤ M ∧ Hid (PairAt wl w.heap.size g M R k N t' p) ∧ Hid (Below w4.heap.size w4 wl)) (fun pv _ => M - (intOf pv).toNat)
  case atStart => exact ⟨0, _, rfl, Nat.zero_le _, HA0, HB45⟩
  case round =>
    obtain ⟨p, R, rfl, hp, hA, hB⟩ := hrel
    clear HA0 HB45
    obtain ⟨v0, rfl⟩ : ∃ v0, v0 = wr := ⟨_, rfl⟩
    by_cases hpM : p < M
    · have hpM' : (p : Int) < (M : Int) := by omega
      have hp0 : (0 : Int) ≤ (p : Int) := by omega
      have hd1 : p / N < N := Nat.div_lt_of_lt_mul (by rw [HMM.out]; exact hpM)
      have hd2 : p % N < N := Nat.mod_lt _ hN0
      obtain ⟨u, hu⟩ : ∃ u, p / N = u := ⟨_, rfl⟩
      obtain ⟨v, hv⟩ : ∃ v, p % N = v := ⟨_, rfl⟩
      have e1 : (p : Int).tdiv (N : Int) = (u : Int) := by rw [← hu]; rfl
      have e2 : (p : Int).tmod (N : Int) = (v : Int) := by rw [← hv]; rfl
      have e1' : (p : Int) / (N : Int) = (u : Int) := by rw [← hu]; rfl
      have e2' : (p : Int) % (N : Int) = (v : Int) := by rw [← hv]; rfl
      rw [hu] at hd1
      rw [hv] at hd2
      have hu' : (u : Int) < (N : Int) := by omega
      have hv' : (v : Int) < (N : Int) := by omega
      have hu0 : (0 : Int) ≤ (u : Int) := by omega
      have hv0 : (0 : Int) ≤ (v : Int) := by omega
      have HUV := Lib.hid (And.intro hu hv)
      obtain ⟨ad, P1, c1, hD, q1, HR1⟩ := (HL4.out.below hB.out).2 u _ (arrW_at hd1)
      obtain ⟨ad2, P2, c2, hD2, q2, HR2⟩ := (HL4.out.below hB.out).2 v _ (arrW_at hd2)
      subst hD
      cases hD2
      rw [arrN_len] at q1 q2
      have HR1 := Lib.hid HR1
      have HR2 := Lib.hid HR2
      have HQ := Lib.hid (And.intro q1 q2)
      have HAA := Lib.hid (And.intro hd1 hd2)
      clear hu hv hd1 hd2
      go_wp2_with fail
      go_loopw [10, 43] (fun tv iv wl => ∃ (i : Nat) (P : Option Addr) (pc m : Nat), iv = .int .i64 (i : Int) ∧ i ≤ k ∧ tv = .slice P m pc ∧ Hid ((toA N (arrM k N t' u i) (arrM k N t' v k)).length = m) ∧
        Hid (wl.ownsRow v0.heap.size 3 1 (.slice P m pc) m ((ints (toA N (arrM k N t' u i) (arrM k N t' v k))).map (Value.int .i64))) ∧ Hid (Below v0.heap.size v0 wl)) (fun _ iv _ => k - (intOf iv).toNat)
      case atStart => exact ⟨0, none, 0, 0, rfl, Nat.zero_le _, rfl, Lib.hid rfl, Lib.hid ⟨rfl, .inl ⟨rfl, rfl⟩⟩, Lib.hid (Below.refl _ _)⟩
      case round =>
        obtain ⟨i, P, pc, m, rfl, hi, rfl, hmL, hO, hB0⟩ := hrel
        obtain ⟨v1, rfl⟩ : ∃ v1, v1 = wr := ⟨_, rfl⟩
        by_cases hik : i < k
        · have hik' : (i : Int) < (k : Int) := by omega
          have hi0 : (0 : Int) ≤ (i : Int) := by omega
          obtain ⟨x, hx⟩ : ∃ x, (arrM k N t' u k)[i]? = some x := ⟨_, List.getElem?_eq_getElem (by rw [arrM_len]; exact hik)⟩
          obtain ⟨ap1, rfl, y0, y1⟩ := HR1.out i x hx
          have y0 := cell_later hB0.out y0
          have y1 := cell_later hB0.out y1
          have hx1 : x.1 < N := by
            obtain ⟨s, hs, e⟩ := mem_arrM.1 (List.mem_of_getElem? hx)
            rw [e]
            exact Nat.mod_lt _ hN0
          have hsn : arrM k N t' u (i + 1) = arrM k N t' u i ++ [x] := by
            have h := arrM_snoc k N t' u i
            rw [h]
            have h2 : (arrM k N t' u k)[i]? = some ((u * k + i) % N, t'.getD (u * k + i) 0) := by
              unfold arrM
              rw [List.getElem?_map, List.getElem?_range hik]
              rfl
            rw [h2] at hx
            rw [Option.some.inj hx]
          have HSN := Lib.hid hsn
          obtain ⟨x1, x2⟩ := x
          dsimp only at y0 y1 hx1
          have hbx := (Below.refl v1.heap.size v1).alloc (Nat.le_refl _) (.cells #[.int .i64 (x1 : Int), .int .i64 (x2 : Int)] 160)
          have hbox := BoxAt.new v1 x1 x2
          obtain ⟨v2, hv2⟩ : ∃ v2, v1.alloc (.cells #[.int .i64 (x1 : Int), .int .i64 (x2 : Int)] 160) = v2 := ⟨_, rfl⟩
          have q2a := cell_later (hB0.out.trans (hbx.mono hB0.out.size)) HQ.out.2
          rw [hv2] at hbx hbox
          obtain ⟨ga, hga⟩ : ∃ ga, v1.heap.size = ga := ⟨_, rfl⟩
          rw [hga] at hbox
          have HBOX := Lib.hid hbox
          have HV2 := Lib.hid hv2
          have HGA := Lib.hid hga
          have HO2 : Hid (v2.ownsRow v0.heap.size 3 1 (.slice P (m + 0) pc) (m + 0) ((ints (toA N (arrM k N t' u i) (arrM k N t' v k) ++ toB N (x1, x2) (arrM k N t' v 0))).map (Value.int .i64))) := Lib.hid (by
            have e : toB N (x1, x2) (arrM k N t' v 0) = [] := rfl
            rw [e, List.append_nil, Nat.add_zero]
            exact own_below hO.out hbx)
          have HB02 := Lib.hid (hB0.out.trans (hbx.mono hB0.out.size))
          have hmk16 : m ≤ 16 := by
            have h := toA_len N (arrM k N t' v k) (arrM k N t' u i)
            rw [arrM_len, arrM_len, hmL.out] at h
            exact Nat.le_trans h (Nat.mul_le_mul (show i ≤ 4 by omega) hk4)
          clear hx hsn hbx hbox hv2 hga hO hB0
          go_wp2_with fail
          rw [HV2.out, HGA.out]
          clear q2a y0 y1
          go_loopw [10, 54] (fun tv jv wl => ∃ (j : Nat) (P : Option Addr) (pc b : Nat), jv = .int .i64 (j : Int) ∧ j ≤ k ∧ b ≤ j ∧ tv = .slice P (m + b) pc ∧ Hid ((toB N (x1, x2) (arrM k N t' v j)).length = b) ∧
            Hid (wl.ownsRow v0.heap.size 3 1 (.slice P (m + b) pc) (m + b) ((ints (toA N (arrM k N t' u i) (arrM k N t' v k) ++ toB N (x1, x2) (arrM k N t' v j))).map (Value.int .i64))) ∧ Hid (BoxAt wl ga x1 x2) ∧ Hid (Below v0.heap.size v0 wl)) (fun _ jv _ => k - (intOf jv).toNat)
          case atStart => exact ⟨0, P, pc, 0, rfl, Nat.zero_le _, Nat.le_refl _, rfl, Lib.hid rfl, HO2, HBOX, HB02⟩
          case round =>
            obtain ⟨j, P', pc', b, rfl, hj, hbj, rfl, hbL, hO3, hBX3, hB3⟩ := hrel
            clear HO2 HBOX HB02
            obtain ⟨v3, rfl⟩ : ∃ v3, v3 = wr := ⟨_, rfl⟩
            by_cases hjk : j < k
            · have hjk' : (j : Int) < (k : Int) := by omega
              have hj0 : (0 : Int) ≤ (j : Int) := by omega
              obtain ⟨z, hz⟩ : ∃ z, (arrM k N t' v k)[j]? = some z := ⟨_, List.getElem?_eq_getElem (by rw [arrM_len]; exact hjk)⟩
              obtain ⟨ap2, rfl, z0, z1⟩ := HR2.out j z hz
              have z0 := cell_later hB3.out z0
              have z1 := cell_later hB3.out z1
              have hz1' : z.1 < N := by
                obtain ⟨s, hs, e⟩ := mem_arrM.1 (List.mem_of_getElem? hz)
                rw [e]
                exact Nat.mod_lt _ hN0
              have hsn : arrM k N t' v (j + 1) = arrM k N t' v j ++ [z] := by
                have h := arrM_snoc k N t' v j
                rw [h]
                have h2 : (arrM k N t' v k)[j]? = some ((v * k + j) % N, t'.getD (v * k + j) 0) := by
                  unfold arrM
                  rw [List.getElem?_map, List.getElem?_range hjk]
                  rfl
                rw [h2] at hz
                rw [Option.some.inj hz]
              have htb := toB_snoc N (x1, x2) (arrM k N t' v j) z
              rw [← hsn] at htb
              obtain ⟨z1v, z2v⟩ := z
              dsimp only at z0 z1 hz1' htb
              have HTB := Lib.hid htb
              have hby := (Below.refl v3.heap.size v3).alloc (Nat.le_refl _) (.cells #[.int .i64 (z1v : Int), .int .i64 (z2v : Int)] 160)
              have hboy := BoxAt.new v3 z1v z2v
              have hbx3 := hBX3.out.below hby
              obtain ⟨b0, b1⟩ := hboy.facts
              obtain ⟨a0, a1⟩ := hbx3.facts
              have hga3 : ga < v3.heap.size := hBX3.out.lt
              have hO4 := own_below hO3.out hby
              have hB4 := hB3.out.trans (hby.mono hB3.out.size)
              obtain ⟨v4, hv4⟩ : ∃ v4, v3.alloc (.cells #[.int .i64 (z1v : Int), .int .i64 (z2v : Int)] 160) = v4 := ⟨_, rfl⟩
              rw [hv4] at hby hbx3 hO4 hB4
              have HV4 := Lib.hid hv4
              have HBX4 := Lib.hid hbx3
              have HB4 := Lib.hid hB4
              by_cases hll : x2 = z2v
              · subst hll
                have hq1 := mul_le256 (show x1 ≤ 256 by omega) hN4
                obtain ⟨Q, hQ⟩ : ∃ Q, x1 * N = Q := ⟨_, rfl⟩
                have hQi : (x1 : Int) * (N : Int) = (Q : Int) := by rw [← hQ]; rfl
                rw [hQ] at hq1
                rw [if_pos rfl, hQ] at HTB
                have HQQ := Lib.hid hQ
                obtain ⟨qq, hqq⟩ : ∃ qq, Q + z1v = qq := ⟨_, rfl⟩
                have hQz : (Q : Int) + (z1v : Int) = (qq : Int) := by omega
                have hqq1 : qq ≤ 65792 := by omega
                rw [hqq] at HTB
                have hOB := HB4.out.size
                have hbL1 : (toB N (x1, x2) (arrM k N t' v (j + 1))).length = b + 1 := by rw [HTB.out, List.length_append, hbL.out]; rfl
                have HBL1 := Lib.hid hbL1
                have HOX := Lib.hid hO4
                clear hz hsn htb hby hboy hbx3 hB4 hO3 hBX3 hB3 hQ hbL1 hqq
                have hz4 : v4.heap.size = v3.heap.size + 1 := by rw [← HV4.out]; simp
                have HZ4 := Lib.hid hz4
                clear hv4 hz4
                go_wp2_with (at_builtin; refine wpList_push2 rfl _ _ _ rfl tInts hO4 rfl (.int .i64 (qq : Int)) 0 (by rw [← HV4.out]; rfl) (by rw [HZ4.out]; rfl) rfl (by simp only [maxLen]; omega) (by omega) hOB ?_; intro g5 cap5 v5 hown5 hor5 hlt5)
                have hk5 := push_keeps hor5
                have hb5 := push_below (Below.refl v0.heap.size _) hO4 hor5 hOB
                have HBX5 := Lib.hid (HBX4.out.keeps hk5 (own_ne_blk HOX.out HBX4.out (by decide)))
                have HB5 := Lib.hid (HB4.out.trans hb5)
                have HO5 : Hid (v5.ownsRow v0.heap.size 3 1 (.slice (some ⟨g5, 0, none⟩) (m + (b + 1)) cap5) (m + (b + 1)) ((ints (toA N (arrM k N t' u i) (arrM k N t' v k) ++ toB N (x1, x2) (arrM k N t' v (j + 1)))).map (Value.int .i64))) := Lib.hid (by
                  rw [HTB.out, ← List.append_assoc]
                  have e : (ints (toA N (arrM k N t' u i) (arrM k N t' v k) ++ toB N (x1, x2) (arrM k N t' v j) ++ [qq])).map (Value.int .i64) = (ints (toA N (arrM k N t' u i) (arrM k N t' v k) ++ toB N (x1, x2) (arrM k N t' v j))).map (Value.int .i64) ++ [.int .i64 ((qq : Nat) : Int)] := by simp [ints]
                  rw [e]
                  exact hown5)
                clear hown5 hor5 hk5 hb5 hO4
                go_wp2_with fail
                exact ⟨⟨j + 1, some ⟨g5, 0, none⟩, cap5, b + 1, by go_num, by omega, by omega, rfl, HBL1, HO5, HBX5, HB5⟩, by simp [intOf]; omega⟩
              · rw [if_neg hll] at HTB
                have hll' : ¬ (x2 : Int) = (z2v : Int) := by omega
                have HO5 : Hid (v4.ownsRow v0.heap.size 3 1 (.slice P' (m + b) pc') (m + b) ((ints (toA N (arrM k N t' u i) (arrM k N t' v k) ++ toB N (x1, x2) (arrM k N t' v (j + 1)))).map (Value.int .i64))) := Lib.hid (by
                  rw [HTB.out]
                  exact hO4)
                have HBL1 : Hid ((toB N (x1, x2) (arrM k N t' v (j + 1))).length = b) := Lib.hid (by rw [HTB.out]; exact hbL.out)
                clear hz hsn htb hby hboy hbx3 hv4 hB4 hO3 hBX3 hB3 hO4 hll
                go_wp2_with fail
                rw [HV4.out]
                exact ⟨⟨j + 1, P', pc', b, by go_num, by omega, by omega, rfl, HBL1, HO5, HBX4, HB4⟩, by simp [intOf]; omega⟩
            · obtain rfl : j = k := by omega
              have hjk' : ¬ (j : Int) < (j : Int) := by omega
              have hta := toA_snoc N (arrM j N t' u i) (arrM j N t' v j) (x1, x2)
              rw [← HSN.out] at hta
              have HO5 : Hid (v3.ownsRow v0.heap.size 3 1 (.slice P' (m + b) pc') (m + b) ((ints (toA N (arrM j N t' u (i + 1)) (arrM j N t' v j))).map (Value.int .i64))) := Lib.hid (by
                rw [hta]
                exact hO3.out)
              have HML : Hid ((toA N (arrM j N t' u (i + 1)) (arrM j N t' v j)).length = m + b) := Lib.hid (by rw [hta, List.length_append, hmL.out, hbL.out])
              clear hta hO3
              go_wp2_with fail
              exact ⟨⟨i + 1, P', pc', m + b, by go_num, by omega, rfl, HML, HO5, hB3⟩, by simp [intOf]; omega⟩
        · obtain rfl : i = k := by omega
          have hik' : ¬ (i : Int) < (i : Int) := by omega
          have hm16 : m ≤ 16 := by
            have h := toA_len N (arrM i N t' v i) (arrM i N t' u i)
            rw [arrM_len, arrM_len, hmL.out] at h
            exact Nat.le_trans h (Nat.mul_le_mul hk4 hk4)
          have HSO := Lib.hid (sortOwn_c v1 v0.heap.size m pc P _ hO.out (by omega))
          have HB1' := hB0
          clear hO hB0
          go_wp2_with fail
          refine (HSO.out).mono ?_
          rintro e v2 ⟨rfl, ho2, hg2⟩
          have hbz : Below v0.heap.size v0 v2 := HB1'.out.grown hg2 HB1'.out.size (fun b hb => (ho2.lt b hb).1)
          have hcp := compOwn_c v2 v0.heap.size m pc P _ ho2 (by omega)
          have hpr := pair_row (k := i) (t := t') hN0 p
          rw [HUV.out.1, HUV.out.2, hmL.out] at hpr
          rw [List.length_mergeSort, ints_len, hmL.out, hpr, ints_len] at hcp
          obtain ⟨ln, hln⟩ : ∃ ln, (pairRow i N t' p).length = ln := ⟨_, rfl⟩
          rw [hln] at hcp
          have HCP := Lib.hid hcp
          have HLN := Lib.hid hln
          have HBZ := Lib.hid hbz
          clear ho2 hg2 hbz hcp hpr hln HSO HB1'
          go_wp2_with fail
          refine (HCP.out).mono ?_
          rintro e v3 ⟨rfl, ho3, hg3⟩
          have hb3 : Below v0.heap.size v0 v3 := HBZ.out.grown hg3 HBZ.out.size (fun b hb => (ho3.lt b (by cases P <;> exact hb)).1)
          have hl3 := own_below hA.out.lst hb3
          have hRl : R.length = M := by have := hA.out.lst.1; simpa using this
          have q3 : v3.cell? ⟨g, p, none⟩ = some (.slice none 0 0) := by
            rw [hl3.cellAt p (by omega), List.getElem?_map, hA.out.nil p (Nat.le_refl _) hpM]
            rfl
          have f3 := hl3.frozenAt p
          have hst := (hl3.stored p (.slice P ln pc)).1
          have hk3 := Keeps.of_setCell v3 ⟨g, p, none⟩ (.slice P ln pc)
          have hv0g : g < v0.heap.size := (ownN_lt hA.out.lst g rfl).2
          have hAX : PairAt (v3.setCell ⟨g, p, none⟩ (.slice P ln pc)) w.heap.size g M (R.set p (P, ln, pc)) i N t' (p + 1) := by
            refine ⟨?_, fun q hq => ?_, fun q hq hqM => ?_⟩
            · have e : (R.set p (P, ln, pc)).map slv = (R.map slv).set p (.slice P ln pc) := by rw [List.map_set]; rfl
              rw [e]
              exact hst
            · rcases Nat.lt_or_ge q p with h | h
              · obtain ⟨A', c', hR', ho'⟩ := hA.out.el q h
                refine ⟨A', c', by rw [List.getElem?_set_ne (by omega)]; exact hR', own_keeps (own_below ho' hb3) hk3 (fun b hb e => ?_)⟩
                obtain ⟨cur, hcur⟩ := rowBlk hA.out.lst
                exact own_ne_blk ho' hcur (by decide) (by rw [hb, show b = g from e])
              · obtain rfl : q = p := by omega
                refine ⟨P, pc, by rw [List.getElem?_set_self (by rw [hRl]; exact hpM), HLN.out], ?_⟩
                rw [HLN.out]
                refine own_keeps (own_base ho3 (Nat.le_trans hwg (Nat.le_of_lt hv0g))) hk3 (fun b hb e => ?_)
                have := (ho3.lt b hb).1
                rw [show b = g from e] at this
                omega
            · rw [List.getElem?_set_ne (by omega)]
              exact hA.out.nil q (by omega) hqM
          have HAX := Lib.hid hAX
          have HBX := Lib.hid ((hB.out.trans (hb3.mono hB.out.size)).setCell (p := ⟨g, p, none⟩) (by rw [HG.out]; exact Nat.le_refl _) (.slice P ln pc))
          clear hAX hst hk3 hl3 ho3 hg3 hb3 hRl HCP
          go_wp2_with fail
          exact ⟨⟨p + 1, _, by go_num, by omega, HAX, HBX⟩, by simp [intOf]; omega⟩
    · obtain rfl : p = M := by omega
      have hpM' : ¬ (p : Int) < (p : Int) := by omega
      have HBX := Lib.hid (HB04.out.trans (hB.out.mono HB04.out.size))
      have HLI : Hid (ListAt v0 (some ⟨g, 0, none⟩) p ((pairG k N t').map ints)) := Lib.hid (by
        have h := hA.out
        rw [← HMM.out] at h ⊢
        exact h.list)
      go_wp2_with fail
      go_ret2
      exact ⟨some ⟨g, 0, none⟩, p, rfl, rfl, HLI.out, HBX.out⟩
end Go.Proofs.YtibplgpolmplpaaGreatDoor

namespace Go.Proofs.YtibplgpolmplpaaGreatDoor
namespace MeetP

theorem row_found {n v : Nat} {l : List Nat} {came : List Int} {queue : List Nat} {s a b : Nat} {cm : List Int} (h : rowTo n v l came queue s = .found a b cm) : ∀ m, s ≤ m → rowTo n v l came queue m = .found a b cm
  | 0, hm => by obtain rfl : s = 0 := by omega
                exact h
  | m + 1, hm => by
    rcases Nat.lt_or_ge m s with h1 | h1
    · obtain rfl : s = m + 1 := by omega
      exact h
    · rw [rowTo, row_found h m h1]
theorem round_found {n : Nat} {g : List (List Nat)} {i a b : Nat} {cm : List Int} (h : roundTo n g i = .found a b cm) : ∀ m, i ≤ m → roundTo n g m = .found a b cm
  | 0, hm => by obtain rfl : i = 0 := by omega
                exact h
  | m + 1, hm => by
    rcases Nat.lt_or_ge m i with h1 | h1
    · obtain rfl : i = m + 1 := by omega
      exact h
    · rw [roundTo, round_found h m h1]
theorem round_stop {n : Nat} {g : List (List Nat)} {i : Nat} {came : List Int} {queue : List Nat} (h : roundTo n g i = .go came queue) (hq : queue.length ≤ i) : ∀ m, i ≤ m → roundTo n g m = .go came queue
  | 0, hm => by obtain rfl : i = 0 := by omega
                exact h
  | m + 1, hm => by
    rcases Nat.lt_or_ge m i with h1 | h1
    · obtain rfl : i = m + 1 := by omega
      exact h
    · rw [roundTo, round_stop h hq m h1]
      simp only
      rw [if_neg (by omega)]
theorem meet_stop {n : Nat} {g : List (List Nat)} {i : Nat} {came : List Int} {queue : List Nat} (h : roundTo n g i = .go came queue) (hq : queue.length ≤ i) (hi : i ≤ g.length + 1) : meetF n g = [] := by
  unfold meetF
  rw [round_stop h hq _ hi]
theorem meet_hit {n : Nat} {g : List (List Nat)} {i s a b : Nat} {came cm : List Int} {queue : List Nat} (h : roundTo n g i = .go came queue) (hq : i < queue.length) (hi : i ≤ g.length)
    (hr : rowTo n (queue.getD i 0) (g.getD (queue.getD i 0) []) came queue s = .found a b cm) (hs : s ≤ (g.getD (queue.getD i 0) []).length) : meetF n g = (b :: backTo cm (g.length + 1) a).reverse := by
  unfold meetF
  have h1 : roundTo n g (i + 1) = .found a b cm := by
    rw [roundTo, h]
    simp only
    rw [if_pos hq]
    exact row_found hr _ hs
  rw [round_found h1 _ (by omega)]
theorem round_next {n : Nat} {g : List (List Nat)} {i : Nat} {came cm : List Int} {queue qu : List Nat} (h : roundTo n g i = .go came queue) (hq : i < queue.length)
    (hr : rowTo n (queue.getD i 0) (g.getD (queue.getD i 0) []) came queue (g.getD (queue.getD i 0) []).length = .go cm qu) : roundTo n g (i + 1) = .go cm qu := by
  rw [roundTo, h]
  simp only
  rw [if_pos hq]
  exact hr
/-- What is left of the way back. -/
def restB (came : List Int) (f : Nat) (z : Int) : List Nat := if z < 0 then [] else backTo came f z.toNat
theorem rest_neg {came : List Int} {f : Nat} {z : Int} (h : z < 0) : restB came f z = [] := by unfold restB; rw [if_pos h]
theorem rest_step {came : List Int} {f u : Nat} : restB came (f + 1) (u : Int) = u :: restB came f (came.getD u (-1)) := by
  unfold restB
  rw [if_neg (by omega), Int.toNat_natCast, backTo]
/-- The place that came ahead: none, or one found before. -/
theorem came_next {n : Nat} {g : List (List Nat)} {came : List Int} {queue : List Nat} (h : Inv n g came queue) {j u f : Nat} (hu : queue[j]? = some u) (hf : j < f + 1) :
    came.getD u (-1) < 0 ∨ ∃ (i v : Nat), came.getD u (-1) = (v : Int) ∧ queue[i]? = some v ∧ i < f := by
  cases hd : diag n u with
  | true => exact .inl (h.dcame u hd)
  | false =>
    obtain ⟨i, v, h1, h2, h3, _⟩ := h.chain j u hu hd
    exact .inr ⟨i, v, h3, h2, by omega⟩
theorem came_at {n : Nat} {g : List (List Nat)} {came : List Int} {queue : List Nat} (h : Inv n g came queue) {u : Nat} (hu : u < g.length) : came[u]? = some (came.getD u (-1)) := by
  rw [List.getD_eq_getElem?_getD, List.getElem?_eq_getElem (by rw [h.clen]; exact hu)]
  rfl
theorem diag_iff {n p : Nat} : diag n p = decide (p / n = p % n) := by
  unfold diag
  by_cases h : p / n = p % n
  · rw [decide_eq_true h]; simp [h]
  · rw [decide_eq_false h]; simp [h]
theorem tgt_new {n v : Nat} {came : List Int} {queue : List Nat} {t : Nat} (h1 : diag n t = false) (h2 : came.getD t (-1) < 0) : tgt n v came queue t = .go (came.set t (v : Int)) (queue ++ [t]) := by
  unfold tgt
  rw [if_pos ⟨h1, h2⟩]
theorem tgt_hit {n v : Nat} {came : List Int} {queue : List Nat} {t : Nat} (h1 : diag n t = true) (h2 : diag n v = false) : tgt n v came queue t = .found v t came := by
  unfold tgt
  rw [if_neg (by rw [h1]; simp), if_pos ⟨h1, h2⟩]
theorem tgt_same {n v : Nat} {came : List Int} {queue : List Nat} {t : Nat} (h : (diag n t = false ∧ ¬ came.getD t (-1) < 0) ∨ (diag n t = true ∧ diag n v = true)) : tgt n v came queue t = .go came queue := by
  unfold tgt
  rcases h with ⟨h1, h2⟩ | ⟨h1, h2⟩
  · rw [if_neg (fun x => h2 x.2), if_neg (by rw [h1]; simp)]
  · rw [if_neg (by rw [h1]; simp), if_neg (by rw [h2]; simp)]
end MeetP
end Go.Proofs.YtibplgpolmplpaaGreatDoor

namespace Go.Proofs.YtibplgpolmplpaaGreatDoor
open Go.RowKit RuleP MeetP

def mulL_ren : Go.Shelf.Ren := ⟨fun | 212 => 127 | 263 => 147 | 264 => 148 | n => n, fun | 46 => 154 | 51 => 64 | 146 => 185 | 53 => 87 | 148 => 207 | n => n, fun | n => n⟩
theorem mulL : Go.Proofs.Lays.n212 Tryz.prog mulL_ren := {
  mixed := by kernel_rfl
  f212 := Tryz.func127.trans (congrArg some (by kernel_rfl))
  f263 := Tryz.func147.trans (congrArg some (by kernel_rfl))
  f264 := Tryz.func148.trans (congrArg some (by kernel_rfl))
  t46 := Tryz.underlying154
  a46 := Tryz.isAgg154
  z46 := Tryz.sizeOf154
  v46 := Tryz.zeroValue154
  t51 := Tryz.underlying64
  a51 := Tryz.isAgg64
  z51 := Tryz.sizeOf64
  v51 := Tryz.zeroValue64
  t53 := Tryz.underlying87
  a53 := Tryz.isAgg87
  z53 := Tryz.sizeOf87
  v53 := Tryz.zeroValue87
  t146 := Tryz.underlying185
  a146 := Tryz.isAgg185
  z146 := Tryz.sizeOf185
  v146 := Tryz.zeroValue185
  t148 := Tryz.underlying207
  a148 := Tryz.isAgg207
  z148 := Tryz.sizeOf207
  v148 := Tryz.zeroValue207 }

set_option maxRecDepth 100000 in
set_option maxHeartbeats 1000000 in
theorem twinNodes_c (w : World) (N M : Nat) (hN : 1 ≤ N) (h4 : N ≤ 256) (hM : N * N = M) :
    Calls Tryz.prog 102 #[.int .i64 (M : Int)] w fun e w' => e = .returned (.int .i64 (N : Int)) ∧ w = w' := by
  have HM := Lib.hid hM
  clear hM
  go_enter Tryz.func102, Tryz.ntmps102
  go_wp2_with fail
  go_loopw [3] (fun iv wl => ∃ i : Nat, iv = .int .i64 (i : Int) ∧ 1 ≤ i ∧ i ≤ N ∧ w = wl) (fun iv _ => N - (intOf iv).toNat)
  case atStart => exact ⟨1, rfl, Nat.le_refl _, hN, rfl⟩
  case round =>
    obtain ⟨i, rfl, hi1, hi, rfl⟩ := hrel
    obtain ⟨Q, hQ⟩ : ∃ Q, i * i = Q := ⟨_, rfl⟩
    have hQi : (i : Int) * (i : Int) = (Q : Int) := by rw [← hQ]; rfl
    have hq : Q ≤ 65536 := by rw [← hQ]; exact Nat.le_trans (Nat.mul_le_mul (show i ≤ 256 by omega) (show i ≤ 256 by omega)) (by decide)
    by_cases hlt : i < N
    · have hQM : Q < M := by
        rw [← hQ, ← HM.out]
        exact Nat.lt_of_lt_of_le (Nat.mul_lt_mul_of_lt_of_le hlt hi (by omega)) (Nat.le_refl _)
      have hQM' : (Q : Int) < (M : Int) := by omega
      clear hQ
      go_wp2_with fail
      exact ⟨⟨i + 1, by go_num, by omega, by omega, by first | rfl | trivial⟩, by simp [intOf]; omega⟩
    · obtain rfl : i = N := by omega
      have hQM' : ¬ (Q : Int) < (M : Int) := by have := HM.out; omega
      clear hQ
      go_wp2_with fail
      go_ret
      exact ⟨rfl, rfl⟩

theorem rep_splice (x : Value) (z : Value) {n m M : Nat} (_ : n + m ≤ M) : splice (List.replicate n x ++ List.replicate (M - n) z) n (List.replicate m x) = List.replicate (n + m) x ++ List.replicate (M - (n + m)) z := by
  unfold splice
  rw [List.take_left' (by simp), List.drop_append, List.drop_eq_nil_of_le (by simp), List.nil_append, List.drop_replicate, List.length_replicate, ← List.append_assoc, List.replicate_append_replicate]
  congr 2
  simp
  omega

set_option maxRecDepth 100000 in
set_option maxHeartbeats 2000000 in
theorem repeat_c (w : World) (A : Option Addr) (c : Nat) (x : Int) (hX : Sl w A 1 [.int .i64 x]) (M : Nat) (hM1 : 1 ≤ M) (hM : M ≤ 100000) :
    Calls Tryz.prog 103 #[.slice A 1 c, .int .i64 (M : Int)] w fun e w' => e = .returned (.slice (some ⟨w.heap.size, 0, none⟩) M M) ∧ w'.ownsRow w.heap.size 3 1 (.slice (some ⟨w.heap.size, 0, none⟩) M M) M (List.replicate M (.int .i64 x)) ∧ Below w.heap.size w w' := by
  have hmul := Any.bits_Mul mulL 1 M (by decide) (by omega) w
  rw [Nat.one_mul, Nat.div_eq_of_lt (show M < 18446744073709551616 by omega), Nat.mod_eq_of_lt (show M < 18446744073709551616 by omega)] at hmul
  have hmul' : Calls Tryz.prog 127 #[.int .u64 1, .int .u64 (M : Int)] w fun e w' => e = .returned (.tuple #[.int .u64 0, .int .u64 (M : Int)]) ∧ w = w' := hmul.mono fun _ _ h => ⟨h.1, h.2.symm⟩
  have HMUL := Lib.hid hmul'
  have hmk := run_make_row' (P := Tryz.prog) 22 3 (.int .i64 0) 8 tInts.und tInts.info rfl .i64 .i64 M (by omega) (by omega)
  have hb1 := (Below.refl w.heap.size w).alloc (Nat.le_refl _) (.cells (madeCells #[.int .i64 0] M) 3)
  have hh1 := heap_new w (.cells (madeCells #[.int .i64 0] M) 3)
  have hh1' : (w.alloc (.cells (madeCells #[.int .i64 0] M) 3)).heap[w.heap.size]? = some (.cells (List.replicate 0 (Value.int .i64 x) ++ List.replicate (M - 0) (Value.int .i64 0)).toArray 3 (0, 0)) := by
    rw [hh1]
    have e : madeCells #[.int .i64 0] M = (List.replicate M (Value.int .i64 0)).toArray := by
      apply Array.toList_inj.1
      rw [toList_madeCells_one]
    rw [e]
    rfl
  have hX1 := hX.below hb1
  have HSRC : Hid (∃ ad, A = some ad ∧ ∀ j v, [Value.int .i64 x][j]? = some v → (w.alloc (.cells (madeCells #[.int .i64 0] M) 3)).cell? (ad.add j) = some v) := Lib.hid (by
    obtain ⟨ad, e, h0⟩ := hX1.2 0 (.int .i64 x) rfl
    refine ⟨ad, e, fun j v hj => ?_⟩
    match j, hj with
    | 0, hj => cases hj; exact h0)
  have hone : ∀ v ∈ [Value.int .i64 x], v.oneCell' = true := fun v hv => by simp at hv; subst hv; rfl
  have hBB := hb1
  have hnn : [Value.int .i64 x].length = Nat.min 1 M := (Nat.min_eq_left hM1).symm
  have hfit : 0 + [Value.int .i64 x].length ≤ (List.replicate 0 (Value.int .i64 x) ++ List.replicate (M - 0) (Value.int .i64 0)).length := by simp; omega
  have e1 : IntKind.u64.wrap (M : Int) = (M : Int) := IntWalk.u64_in _ ⟨by omega, by omega⟩
  have e2 : IntKind.i64.wrap (M : Int) = (M : Int) := IntWalk.i64_in _ (by omega)
  have hM0 : ¬ (M : Int) < 0 := by omega
  have hMg : ¬ (M : Int) > 9223372036854775807 := by omega
  clear hmul hmul' hb1 hh1 hX
  go_enter Tryz.func103, Tryz.ntmps103
  go_wp2_with fail
  refine (HMUL.out).mono ?_
  rintro e w2 ⟨rfl, rfl⟩
  go_wp2_with (refine wpList_copy_splice rfl _ _ _ _ rfl 3 tInts.und (by kernel_rfl) (some ⟨w.heap.size, 0, none⟩) A M M 1 c rfl rfl w.heap.size 0 _ 3 hh1' [.int .i64 x] hnn (fun _ => ⟨rfl, HSRC.out⟩) hfit hone w.heap.size w hBB (Nat.le_refl _) ?_; intro w3 h3 b3)
  have H3 : Hid (w3.heap[w.heap.size]? = some (.cells (List.replicate 1 (Value.int .i64 x) ++ List.replicate (M - 1) (Value.int .i64 0)).toArray 3 (0, 0))) := Lib.hid (by
    have := h3.out
    have e := rep_splice (Value.int .i64 x) (Value.int .i64 0) (n := 0) (m := 1) (M := M) (by omega)
    rw [show [Value.int .i64 x] = List.replicate 1 (Value.int .i64 x) from rfl, e] at this
    exact this)
  have HB3 := Lib.hid b3
  clear h3 b3 hmk hh1' hBB hone hX1 hnn hfit
  go_wp2_with fail
  go_loopw [8] (fun nv wl => ∃ n : Nat, nv = .int .i64 (n : Int) ∧ 1 ≤ n ∧ n ≤ M ∧ Hid (wl.heap[w.heap.size]? = some (.cells (List.replicate n (Value.int .i64 x) ++ List.replicate (M - n) (Value.int .i64 0)).toArray 3 (0, 0))) ∧ Hid (Below w.heap.size w wl)) (fun nv _ => M - (intOf nv).toNat)
  case atStart => exact ⟨1, rfl, Nat.le_refl _, hM1, H3, HB3⟩
  case round =>
    obtain ⟨n, rfl, hn1, hnM, hH, hB⟩ := hrel
    clear H3 HB3
    by_cases hlt : n < M
    · have hlt' : (n : Int) < (M : Int) := by omega
      have hn0 : (0 : Int) ≤ (n : Int) := by omega
      have hnM' : (n : Int) ≤ (M : Int) := by omega
      have hMn : ¬ M = n := by omega
      obtain ⟨m, hm⟩ : ∃ m, Nat.min n (M - n) = m := ⟨_, rfl⟩
      have hm1 : 1 ≤ m ∧ m ≤ n ∧ n + m ≤ M := by
        rw [← hm]
        refine ⟨?_, Nat.min_le_left _ _, ?_⟩
        · exact Nat.le_min.2 ⟨hn1, by omega⟩
        · exact Nat.le_trans (Nat.add_le_add_left (Nat.min_le_right _ _) n) (by omega)
      have hsb : (M : Int) - (n : Int) = ((M - n : Nat) : Int) := by omega
      have hHd : wr.drew.heap[w.heap.size]? = some (.cells (List.replicate n (Value.int .i64 x) ++ List.replicate (M - n) (Value.int .i64 0)).toArray 3 (0, 0)) := hH.out
      have hsrc : ∀ j v, (List.replicate m (Value.int .i64 x))[j]? = some v → wr.drew.cell? ((⟨w.heap.size, 0, none⟩ : Addr).add j) = some v := by
        intro j v hj
        rw [List.getElem?_replicate] at hj
        split at hj
        · rename_i hjm
          cases hj
          have e : (⟨w.heap.size, 0, none⟩ : Addr).add j = ⟨w.heap.size, j, none⟩ := by
            unfold Addr.add
            split
            · rename_i h; rw [h]
            · simp
          rw [e, cell_of_row _ _ _ _ _ _ hHd, ← Array.getElem?_toList]
          simp only
          rw [List.getElem?_append_left (by simp; omega), List.getElem?_replicate, if_pos (by omega)]
        · cases hj
      have HSR := Lib.hid hsrc
      have hbd : Below w.heap.size w wr.drew := hB.out.drew
      have hone : ∀ v ∈ List.replicate m (Value.int .i64 x), v.oneCell' = true := fun v hv => by rw [List.eq_of_mem_replicate hv]; rfl
      obtain ⟨hm1a, hm1b, hm1c⟩ := hm1
      have hrun := run_copy_row (P := Tryz.prog) wr.drew 22 22 3 3 w.heap.size n (M - n) (M - n) ⟨w.heap.size, 0, none⟩ n M _ 3 (List.replicate m (Value.int .i64 x)) tInts.und (by kernel_rfl) hHd (by rw [List.length_replicate]; exact hm.symm) hsrc (by simp; omega) hone
      rw [List.length_replicate] at hrun
      have hnew := setRow_heap wr.drew w.heap.size _ ((List.replicate n (Value.int .i64 x) ++ List.replicate (M - n) (Value.int .i64 0)).toArray.toList.take n ++ List.replicate m (Value.int .i64 x) ++ (List.replicate n (Value.int .i64 x) ++ List.replicate (M - n) (Value.int .i64 0)).toArray.toList.drop (n + m)).toArray 3 _ hHd
      have hbn := below_setRow hbd (Nat.le_refl _) ((List.replicate n (Value.int .i64 x) ++ List.replicate (M - n) (Value.int .i64 0)).toArray.toList.take n ++ List.replicate m (Value.int .i64 x) ++ (List.replicate n (Value.int .i64 x) ++ List.replicate (M - n) (Value.int .i64 0)).toArray.toList.drop (n + m)).toArray
      obtain ⟨W5, hW5⟩ : ∃ W5, wr.drew.setRow w.heap.size ((List.replicate n (Value.int .i64 x) ++ List.replicate (M - n) (Value.int .i64 0)).toArray.toList.take n ++ List.replicate m (Value.int .i64 x) ++ (List.replicate n (Value.int .i64 x) ++ List.replicate (M - n) (Value.int .i64 0)).toArray.toList.drop (n + m)).toArray = W5 := ⟨_, rfl⟩
      rw [hW5] at hrun hnew hbn
      have HN : Hid (W5.heap[w.heap.size]? = some (.cells (List.replicate (n + m) (Value.int .i64 x) ++ List.replicate (M - (n + m)) (Value.int .i64 0)).toArray 3 (0, 0))) := Lib.hid (by
        have h := rep_splice (Value.int .i64 x) (Value.int .i64 0) (n := n) (m := m) (M := M) hm1c
        unfold splice at h
        rw [List.length_replicate] at h
        rw [hnew, List.append_assoc]
        simp only
        rw [h])
      have HB5 := Lib.hid hbn
      have hgi : goInt (m : Int) = .int .i64 (m : Int) := rfl
      rw [hgi] at hrun
      clear hsrc hm hHd hone hbd hnew hbn hW5 hH hB hgi
      go_wp2_with fail
      go_region
      all_goals
        go_wp2_with fail
        exact ⟨⟨n + m, by go_num, by omega, by omega, HN, HB5⟩, by simp [intOf]; omega⟩
    · obtain rfl : n = M := by omega
      have hlt' : ¬ (n : Int) < (n : Int) := by omega
      have HOW : Hid (wr.ownsRow w.heap.size 3 1 (.slice (some ⟨w.heap.size, 0, none⟩) n n) n (List.replicate n (.int .i64 x))) := Lib.hid (by
        have h := hH.out
        rw [Nat.sub_self] at h
        refine ⟨by simp, .inr ⟨w.heap.size, n, _, rfl, Nat.le_refl _, h, Nat.le_refl _, by simp only [maxLen]; omega, by simp, ?_⟩⟩
        simp)
      go_wp2_with fail
      go_ret
      exact ⟨rfl, HOW.out, hB.out⟩
end Go.Proofs.YtibplgpolmplpaaGreatDoor
