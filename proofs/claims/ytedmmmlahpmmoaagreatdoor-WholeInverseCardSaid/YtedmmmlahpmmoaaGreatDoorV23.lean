/- The graph of pairs: pairs.Graph. Condition: the table reads from memory; the error variables hold what E says. The live pairs that are apart: pairs.Apart of a good rule of at most 64 entries. Condition: the table reads from memory; the error variables hold what E says. Ways that come back to where they began: they are the rings whose image is the ring. Plain lists, no program. No condition. Symbols by other names, as plain lists: the renamed table, its images, there and back; when a list of numbers is such names. No program. No condition. Symbols by other names: slices.Index, forms.Rename's closure. Condition: the table, the names and the window read from memory. Rules out of rules: forms.Rename of any rule and any names. Condition: the table and the names read from memory; the error variables hold what E says. Mirrored, and with other names for the symbols, words and rings have as many preimages, and as many rings stay as they are. Plain lists, no program. No condition. -/
import Derived.Test.YtedmmmlahpmmoaaGreatDoorV4
import Derived.Test.YtedmmmlahpmmoaaGreatDoorV6
import Derived.Test.YtedmmmlahpmmoaaGreatDoorV8
import Derived.Test.YtedmmmlahpmmoaaGreatDoorV10
import Derived.Test.YtedmmmlahpmmoaaGreatDoorV16
import Derived.Test.YtedmmmlahpmmoaaGreatDoorV19
import Derived.Test.YtedmmmlahpmmoaaGreatDoorV20
import Derived.Test.YtedmmmlahpmmoaaGreatDoorV21
import Derived.Test.YtedmmmlahpmmoaaGreatDoorV22
namespace Go.Proofs.YtedmmmlahpmmoaaGreatDoor
open Go.RowKit RuleP PairP

/-- An arrow in a block of its own. -/
def BoxAt (w : World) (g x y : Nat) : Prop := w.heap[g]? = some (.cells #[.int .i64 (x : Int), .int .i64 (y : Int)] 95 (0, 0))
namespace BoxAt
variable {w w' : World} {g x y : Nat}
theorem new (w : World) (x y : Nat) : BoxAt (w.alloc (.cells #[.int .i64 (x : Int), .int .i64 (y : Int)] 95)) w.heap.size x y := heap_new _ _
theorem lt (h : BoxAt w g x y) : g < w.heap.size := (Array.getElem?_eq_some_iff.1 h).1
theorem facts (h : BoxAt w g x y) : w.cell? ⟨g, 0, none⟩ = some (.int .i64 (x : Int)) ∧ w.cell? ⟨g, 1, none⟩ = some (.int .i64 (y : Int)) := by
  constructor <;> rw [cell_of_row w g _ _ _ _ h] <;> rfl
theorem below (h : BoxAt w g x y) (hb : Below w.heap.size w w') : BoxAt w' g x y := (hb.block g h.lt).trans h
theorem keeps {O : Nat → Prop} (h : BoxAt w g x y) (hk : Keeps O w w') (ho : ¬ O g) : BoxAt w' g x y := (hk.block g h.lt ho).trans h
end BoxAt
/-- The rows below p are laid, the others are none yet. -/
structure PairAt (w : World) (B g M : Nat) (R : List (Option Addr × Nat × Nat)) (k N : Nat) (t : List Nat) (p : Nat) : Prop where
  lst : w.ownsRow B 22 1 (.slice (some ⟨g, 0, none⟩) M M) M (R.map slv)
  el : ∀ i, i < p → ∃ A c, R[i]? = some (A, (pairRow k N t i).length, c) ∧ w.ownsRow B 3 1 (.slice A (pairRow k N t i).length c) (pairRow k N t i).length ((ints (pairRow k N t i)).map (Value.int .i64))
  nil : ∀ i, p ≤ i → i < M → R[i]? = some (none, 0, 0)
theorem PairAt.list {w : World} {B g : Nat} {R : List (Option Addr × Nat × Nat)} {k N : Nat} {t : List Nat} (h : PairAt w B g (N * N) R k N t (N * N)) : ListAt w (some ⟨g, 0, none⟩) (N * N) ((pairG k N t).map ints) := by
  refine ⟨_, Sl.of_own h.lst, by rw [List.length_map, pairG_len], fun i l hl => ?_⟩
  have hi : i < N * N := by have := (List.getElem?_eq_some_iff.1 hl).1; simpa [pairG] using this
  have e : l = ints (pairRow k N t i) := by
    rw [List.getElem?_map] at hl
    unfold pairG at hl
    rw [List.getElem?_map, List.getElem?_range hi] at hl
    exact (Option.some.inj hl).symm
  subst e
  obtain ⟨A, c, hR, ho⟩ := h.el i hi
  refine ⟨A, c, by rw [List.getElem?_map, hR, ints_len]; rfl, ?_, ?_⟩
  · rw [ints_len]
    obtain ⟨_, _, hv, h1, h2⟩ := own_slice ho
    injection hv with _ _ hc
    subst hc
    unfold maxLen at h2
    omega
  · rw [ints_len]
    exact Sl.of_own ho
theorem mul_le256 {a b : Nat} (ha : a ≤ 256) (hb : b ≤ 256) : a * b ≤ 65536 := Nat.le_trans (Nat.mul_le_mul ha hb) (by decide)

set_option maxRecDepth 100000 in
set_option maxHeartbeats 4000000 in
theorem graph_c (w : World) (E : Nat → Addr) (hE : Errs w E) (k r n c : Nat) (A : Option Addr) (t : List Nat) (hT : Sl w A n ((ints t).map (Value.int .i64))) (hr : IsRule k r t) (h256 : t.length ≤ 256) :
    Calls Tryz.prog 39 #[ruleV (k : Int) (r : Int) A n c] w fun e w' => ∃ (C : Option Addr) (M : Nat), e = .returned (.tuple #[.slice C M M, .nilIface]) ∧ M = k ^ (2 * workR r) * k ^ (2 * workR r) ∧ ListAt w' C M ((pairG k (k ^ (2 * workR r)) (workT k r t)).map ints) ∧ Below w.heap.size w w' := by
  have hn : t.length = n := by simpa [ints] using hT.1
  have hb1 := (Below.refl w.heap.size w).alloc (Nat.le_refl _) (.cells #[.int .i64 (k : Int), .int .i64 (r : Int), .slice A n c] 24)
  have hr1 := RuleAt.new w (.int .i64 (k : Int)) (.int .i64 (r : Int)) (.slice A n c)
  obtain ⟨r0, r1, r2, _⟩ := hr1.facts
  obtain ⟨w1, hw1⟩ : ∃ w1, w.alloc (.cells #[.int .i64 (k : Int), .int .i64 (r : Int), .slice A n c] 24) = w1 := ⟨_, rfl⟩
  rw [hw1] at hb1
  have HWK := Lib.hid (working_c w1 E (hE.below hb1) k r A n c t (hT.below hb1) hr h256)
  obtain ⟨hr', hl', hr0⟩ := work_rule hr h256
  obtain ⟨r', hrr⟩ : ∃ r', workR r = r' := ⟨_, rfl⟩
  obtain ⟨t', htt⟩ : ∃ t', workT k r t = t' := ⟨_, rfl⟩
  rw [hrr, htt] at hr'
  rw [htt] at hl'
  rw [hrr] at hr0
  rw [hrr, htt] at HWK
  rw [hrr, htt]
  obtain ⟨hdv, hln⟩ := nodes_div hr'
  have hk1 := hr.k1
  have hk4 := hr.k4
  have hN4 : k ^ (2 * r') ≤ 256 := by
    have := Nat.le_mul_of_pos_right (k ^ (2 * r')) hk1
    omega
  have hN0 : 0 < k ^ (2 * r') := Nat.pow_pos hk1
  have HAR := Lib.hid (fun (wz : World) (hz : Below w.heap.size w wz) (C : Option Addr) (n c : Nat) (hS : Sl wz C n ((ints t').map (Value.int .i64))) => arrows_c wz E (hE.below hz) k r' n c C t' hS hr' hl')
  obtain ⟨N, hN⟩ : ∃ N, k ^ (2 * r') = N := ⟨_, rfl⟩
  rw [hN] at hN4 hN0 HAR ⊢
  have HW1 := Lib.hid hw1
  have HB1 := Lib.hid hb1
  have hM := mul_le256 hN4 hN4
  obtain ⟨M, hMM⟩ : ∃ M, N * N = M := ⟨_, rfl⟩
  have hNN : (N : Int) * (N : Int) = (M : Int) := by rw [← hMM]; rfl
  rw [hMM] at hM ⊢
  have HMM := Lib.hid hMM
  unfold ruleV at HWK HAR ⊢
  clear hw1 hb1 hr1 hE hT hr hr' hl' hdv hln hN hrr htt hn h256 hMM
  go_enter Tryz.func39, Tryz.ntmps39
  go_wp2_with fail
  rw [HW1.out]
  refine (HWK.out).mono ?_
  rintro e w2 ⟨C, n', c', rfl, hS2, hb2⟩
  unfold ruleV
  have hb02 := HB1.out.trans (hb2.mono HB1.out.size)
  have hb3 := (Below.refl w2.heap.size w2).alloc (Nat.le_refl _) (.cells #[.int .i64 (k : Int), .int .i64 (r' : Int), .slice C n' c'] 24)
  have hr3 := RuleAt.new w2 (.int .i64 (k : Int)) (.int .i64 (r' : Int)) (.slice C n' c')
  obtain ⟨r0, r1, r2, _⟩ := hr3.facts
  obtain ⟨w3, hw3⟩ : ∃ w3, w2.alloc (.cells #[.int .i64 (k : Int), .int .i64 (r' : Int), .slice C n' c'] 24) = w3 := ⟨_, rfl⟩
  rw [hw3] at hb3
  have hb03 := hb02.trans (hb3.mono hb02.size)
  have HAR3 := Lib.hid (HAR.out w3 hb03 C n' c' (hS2.below hb3))
  have HW3 := Lib.hid hw3
  have HB03 := Lib.hid hb03
  clear hw3 hb03 hb3 hr3 hS2 hb02 hb2 HAR HWK
  go_wp2_with fail
  rw [HW3.out]
  refine (HAR3.out).mono ?_
  rintro e w4 ⟨D, rfl, hL4, hb4⟩
  clear r0 r1 r2 HAR3
  have hb04 := HB03.out.trans (hb4.mono HB03.out.size)
  have hmk := run_make_row' (P := Tryz.prog) 49 22 (.slice none 0 0) 24 tIntss.und tIntss.info rfl .i64 .i64 M (by omega) (by omega)
  have hmd := World.ownsRow_lit (base := w4.heap.size) (e := 22) (size := 1) w4 (madeCells #[.slice none 0 0] M) M (Nat.le_refl _) (by simp only [maxLen]; omega) (by rw [size_madeCells]; simp)
  rw [toList_madeCells_one] at hmd
  have hb45 := (Below.refl w4.heap.size w4).alloc (Nat.le_refl _) (.cells (madeCells #[.slice none 0 0] M) 22)
  obtain ⟨w5, hw5⟩ : ∃ w5, w4.alloc (.cells (madeCells #[.slice none 0 0] M) 22) = w5 := ⟨_, rfl⟩
  rw [hw5] at hmd hb45
  obtain ⟨g, hg⟩ : ∃ g, w4.heap.size = g := ⟨_, rfl⟩
  rw [hg] at hmd
  have hwg : w.heap.size ≤ g := by have := hb04.size; omega
  have HA0 : Hid (PairAt w5 w.heap.size g M (List.replicate M (none, 0, 0)) k N t' 0) := Lib.hid ⟨by rw [List.map_replicate]; exact ownN_base hmd hwg, fun i hi => by omega, fun i _ hi => by rw [List.getElem?_replicate, if_pos hi]⟩
  have HW5 := Lib.hid hw5
  have HG := Lib.hid hg
  have HB45 := Lib.hid hb45
  have HB04 := Lib.hid hb04
  have HL4 := Lib.hid hL4
  have hNz : ¬ ((N : Int) = 0) := by omega
  have hNzn : ¬ N = 0 := by omega
  clear hmd hb45 hw5 hg hb04 hL4 hb4
  go_wp2_with fail
  rw [HW5.out, HG.out]
  clear hmk
  go_loopw [33] (fun pv wl => ∃ (p : Nat) (R : List (Option Addr × Nat × Nat)), pv = .int .i64 (p : Int) ∧ p ≤ M ∧ Hid (PairAt wl w.heap.size g M R k N t' p) ∧ Hid (Below w4.heap.size w4 wl)) (fun pv _ => M - (intOf pv).toNat)
  case atStart => exact ⟨0, _, rfl, Nat.zero_le _, HA0, HB45⟩
  case round =>
    obtain ⟨p, R, rfl, hp, hA, hB⟩ := hrel
    clear HA0 HB45
    obtain ⟨v0, rfl⟩ : ∃ v0, v0 = wr := ⟨_, rfl⟩
    by_cases hpM : p < M
    · have hpM' : (p : Int) < (M : Int) := by omega
      have hp0 : (0 : Int) ≤ (p : Int) := by omega
      have hd1 : p / N < N := Nat.div_lt_of_lt_mul (by rw [HMM.out]; exact hpM)
      have hd2 : p % N < N := Nat.mod_lt _ hN0
      obtain ⟨u, hu⟩ : ∃ u, p / N = u := ⟨_, rfl⟩
      obtain ⟨v, hv⟩ : ∃ v, p % N = v := ⟨_, rfl⟩
      have e1 : (p : Int).tdiv (N : Int) = (u : Int) := by rw [← hu]; rfl
      have e2 : (p : Int).tmod (N : Int) = (v : Int) := by rw [← hv]; rfl
      have e1' : (p : Int) / (N : Int) = (u : Int) := by rw [← hu]; rfl
      have e2' : (p : Int) % (N : Int) = (v : Int) := by rw [← hv]; rfl
      rw [hu] at hd1
      rw [hv] at hd2
      have hu' : (u : Int) < (N : Int) := by omega
      have hv' : (v : Int) < (N : Int) := by omega
      have hu0 : (0 : Int) ≤ (u : Int) := by omega
      have hv0 : (0 : Int) ≤ (v : Int) := by omega
      have HUV := Lib.hid (And.intro hu hv)
      obtain ⟨ad, P1, c1, hD, q1, HR1⟩ := (HL4.out.below hB.out).2 u _ (arrW_at hd1)
      obtain ⟨ad2, P2, c2, hD2, q2, HR2⟩ := (HL4.out.below hB.out).2 v _ (arrW_at hd2)
      subst hD
      cases hD2
      rw [arrN_len] at q1 q2
      have HR1 := Lib.hid HR1
      have HR2 := Lib.hid HR2
      have HQ := Lib.hid (And.intro q1 q2)
      have HAA := Lib.hid (And.intro hd1 hd2)
      clear hu hv hd1 hd2
      go_wp2_with fail
      go_loopw [10, 43] (fun tv iv wl => ∃ (i : Nat) (P : Option Addr) (pc m : Nat), iv = .int .i64 (i : Int) ∧ i ≤ k ∧ tv = .slice P m pc ∧ Hid ((toA N (arrM k N t' u i) (arrM k N t' v k)).length = m) ∧
        Hid (wl.ownsRow v0.heap.size 3 1 (.slice P m pc) m ((ints (toA N (arrM k N t' u i) (arrM k N t' v k))).map (Value.int .i64))) ∧ Hid (Below v0.heap.size v0 wl)) (fun _ iv _ => k - (intOf iv).toNat)
      case atStart => exact ⟨0, none, 0, 0, rfl, Nat.zero_le _, rfl, Lib.hid rfl, Lib.hid ⟨rfl, .inl ⟨rfl, rfl⟩⟩, Lib.hid (Below.refl _ _)⟩
      case round =>
        obtain ⟨i, P, pc, m, rfl, hi, rfl, hmL, hO, hB0⟩ := hrel
        obtain ⟨v1, rfl⟩ : ∃ v1, v1 = wr := ⟨_, rfl⟩
        by_cases hik : i < k
        · have hik' : (i : Int) < (k : Int) := by omega
          have hi0 : (0 : Int) ≤ (i : Int) := by omega
          obtain ⟨x, hx⟩ : ∃ x, (arrM k N t' u k)[i]? = some x := ⟨_, List.getElem?_eq_getElem (by rw [arrM_len]; exact hik)⟩
          obtain ⟨ap1, rfl, y0, y1⟩ := HR1.out i x hx
          have y0 := cell_later hB0.out y0
          have y1 := cell_later hB0.out y1
          have hx1 : x.1 < N := by
            obtain ⟨s, hs, e⟩ := mem_arrM.1 (List.mem_of_getElem? hx)
            rw [e]
            exact Nat.mod_lt _ hN0
          have hsn : arrM k N t' u (i + 1) = arrM k N t' u i ++ [x] := by
            have h := arrM_snoc k N t' u i
            rw [h]
            have h2 : (arrM k N t' u k)[i]? = some ((u * k + i) % N, t'.getD (u * k + i) 0) := by
              unfold arrM
              rw [List.getElem?_map, List.getElem?_range hik]
              rfl
            rw [h2] at hx
            rw [Option.some.inj hx]
          have HSN := Lib.hid hsn
          obtain ⟨x1, x2⟩ := x
          dsimp only at y0 y1 hx1
          have hbx := (Below.refl v1.heap.size v1).alloc (Nat.le_refl _) (.cells #[.int .i64 (x1 : Int), .int .i64 (x2 : Int)] 95)
          have hbox := BoxAt.new v1 x1 x2
          obtain ⟨v2, hv2⟩ : ∃ v2, v1.alloc (.cells #[.int .i64 (x1 : Int), .int .i64 (x2 : Int)] 95) = v2 := ⟨_, rfl⟩
          have q2a := cell_later (hB0.out.trans (hbx.mono hB0.out.size)) HQ.out.2
          rw [hv2] at hbx hbox
          obtain ⟨ga, hga⟩ : ∃ ga, v1.heap.size = ga := ⟨_, rfl⟩
          rw [hga] at hbox
          have HBOX := Lib.hid hbox
          have HV2 := Lib.hid hv2
          have HGA := Lib.hid hga
          have HO2 : Hid (v2.ownsRow v0.heap.size 3 1 (.slice P (m + 0) pc) (m + 0) ((ints (toA N (arrM k N t' u i) (arrM k N t' v k) ++ toB N (x1, x2) (arrM k N t' v 0))).map (Value.int .i64))) := Lib.hid (by
            have e : toB N (x1, x2) (arrM k N t' v 0) = [] := rfl
            rw [e, List.append_nil, Nat.add_zero]
            exact own_below hO.out hbx)
          have HB02 := Lib.hid (hB0.out.trans (hbx.mono hB0.out.size))
          have hmk16 : m ≤ 16 := by
            have h := toA_len N (arrM k N t' v k) (arrM k N t' u i)
            rw [arrM_len, arrM_len, hmL.out] at h
            exact Nat.le_trans h (Nat.mul_le_mul (show i ≤ 4 by omega) hk4)
          clear hx hsn hbx hbox hv2 hga hO hB0
          go_wp2_with fail
          rw [HV2.out, HGA.out]
          clear q2a y0 y1
          go_loopw [10, 54] (fun tv jv wl => ∃ (j : Nat) (P : Option Addr) (pc b : Nat), jv = .int .i64 (j : Int) ∧ j ≤ k ∧ b ≤ j ∧ tv = .slice P (m + b) pc ∧ Hid ((toB N (x1, x2) (arrM k N t' v j)).length = b) ∧
            Hid (wl.ownsRow v0.heap.size 3 1 (.slice P (m + b) pc) (m + b) ((ints (toA N (arrM k N t' u i) (arrM k N t' v k) ++ toB N (x1, x2) (arrM k N t' v j))).map (Value.int .i64))) ∧ Hid (BoxAt wl ga x1 x2) ∧ Hid (Below v0.heap.size v0 wl)) (fun _ jv _ => k - (intOf jv).toNat)
          case atStart => exact ⟨0, P, pc, 0, rfl, Nat.zero_le _, Nat.le_refl _, rfl, Lib.hid rfl, HO2, HBOX, HB02⟩
          case round =>
            obtain ⟨j, P', pc', b, rfl, hj, hbj, rfl, hbL, hO3, hBX3, hB3⟩ := hrel
            clear HO2 HBOX HB02
            obtain ⟨v3, rfl⟩ : ∃ v3, v3 = wr := ⟨_, rfl⟩
            by_cases hjk : j < k
            · have hjk' : (j : Int) < (k : Int) := by omega
              have hj0 : (0 : Int) ≤ (j : Int) := by omega
              obtain ⟨z, hz⟩ : ∃ z, (arrM k N t' v k)[j]? = some z := ⟨_, List.getElem?_eq_getElem (by rw [arrM_len]; exact hjk)⟩
              obtain ⟨ap2, rfl, z0, z1⟩ := HR2.out j z hz
              have z0 := cell_later hB3.out z0
              have z1 := cell_later hB3.out z1
              have hz1' : z.1 < N := by
                obtain ⟨s, hs, e⟩ := mem_arrM.1 (List.mem_of_getElem? hz)
                rw [e]
                exact Nat.mod_lt _ hN0
              have hsn : arrM k N t' v (j + 1) = arrM k N t' v j ++ [z] := by
                have h := arrM_snoc k N t' v j
                rw [h]
                have h2 : (arrM k N t' v k)[j]? = some ((v * k + j) % N, t'.getD (v * k + j) 0) := by
                  unfold arrM
                  rw [List.getElem?_map, List.getElem?_range hjk]
                  rfl
                rw [h2] at hz
                rw [Option.some.inj hz]
              have htb := toB_snoc N (x1, x2) (arrM k N t' v j) z
              rw [← hsn] at htb
              obtain ⟨z1v, z2v⟩ := z
              dsimp only at z0 z1 hz1' htb
              have HTB := Lib.hid htb
              have hby := (Below.refl v3.heap.size v3).alloc (Nat.le_refl _) (.cells #[.int .i64 (z1v : Int), .int .i64 (z2v : Int)] 95)
              have hboy := BoxAt.new v3 z1v z2v
              have hbx3 := hBX3.out.below hby
              obtain ⟨b0, b1⟩ := hboy.facts
              obtain ⟨a0, a1⟩ := hbx3.facts
              have hga3 : ga < v3.heap.size := hBX3.out.lt
              have hO4 := own_below hO3.out hby
              have hB4 := hB3.out.trans (hby.mono hB3.out.size)
              obtain ⟨v4, hv4⟩ : ∃ v4, v3.alloc (.cells #[.int .i64 (z1v : Int), .int .i64 (z2v : Int)] 95) = v4 := ⟨_, rfl⟩
              rw [hv4] at hby hbx3 hO4 hB4
              have HV4 := Lib.hid hv4
              have HBX4 := Lib.hid hbx3
              have HB4 := Lib.hid hB4
              by_cases hll : x2 = z2v
              · subst hll
                have hq1 := mul_le256 (show x1 ≤ 256 by omega) hN4
                obtain ⟨Q, hQ⟩ : ∃ Q, x1 * N = Q := ⟨_, rfl⟩
                have hQi : (x1 : Int) * (N : Int) = (Q : Int) := by rw [← hQ]; rfl
                rw [hQ] at hq1
                rw [if_pos rfl, hQ] at HTB
                have HQQ := Lib.hid hQ
                obtain ⟨qq, hqq⟩ : ∃ qq, Q + z1v = qq := ⟨_, rfl⟩
                have hQz : (Q : Int) + (z1v : Int) = (qq : Int) := by omega
                have hqq1 : qq ≤ 65792 := by omega
                rw [hqq] at HTB
                have hOB := HB4.out.size
                have hbL1 : (toB N (x1, x2) (arrM k N t' v (j + 1))).length = b + 1 := by rw [HTB.out, List.length_append, hbL.out]; rfl
                have HBL1 := Lib.hid hbL1
                have HOX := Lib.hid hO4
                clear hz hsn htb hby hboy hbx3 hB4 hO3 hBX3 hB3 hQ hbL1 hqq
                have hz4 : v4.heap.size = v3.heap.size + 1 := by rw [← HV4.out]; simp
                have HZ4 := Lib.hid hz4
                clear hv4 hz4
                go_wp2_with (at_builtin; refine wpList_push2 rfl _ _ _ rfl tInts hO4 rfl (.int .i64 (qq : Int)) 0 (by rw [← HV4.out]; rfl) (by rw [HZ4.out]; rfl) rfl (by simp only [maxLen]; omega) (by omega) hOB ?_; intro g5 cap5 v5 hown5 hor5 hlt5)
                have hk5 := push_keeps hor5
                have hb5 := push_below (Below.refl v0.heap.size _) hO4 hor5 hOB
                have HBX5 := Lib.hid (HBX4.out.keeps hk5 (own_ne_blk HOX.out HBX4.out (by decide)))
                have HB5 := Lib.hid (HB4.out.trans hb5)
                have HO5 : Hid (v5.ownsRow v0.heap.size 3 1 (.slice (some ⟨g5, 0, none⟩) (m + (b + 1)) cap5) (m + (b + 1)) ((ints (toA N (arrM k N t' u i) (arrM k N t' v k) ++ toB N (x1, x2) (arrM k N t' v (j + 1)))).map (Value.int .i64))) := Lib.hid (by
                  rw [HTB.out, ← List.append_assoc]
                  have e : (ints (toA N (arrM k N t' u i) (arrM k N t' v k) ++ toB N (x1, x2) (arrM k N t' v j) ++ [qq])).map (Value.int .i64) = (ints (toA N (arrM k N t' u i) (arrM k N t' v k) ++ toB N (x1, x2) (arrM k N t' v j))).map (Value.int .i64) ++ [.int .i64 ((qq : Nat) : Int)] := by simp [ints]
                  rw [e]
                  exact hown5)
                clear hown5 hor5 hk5 hb5 hO4
                go_wp2_with fail
                exact ⟨⟨j + 1, some ⟨g5, 0, none⟩, cap5, b + 1, by go_num, by omega, by omega, rfl, HBL1, HO5, HBX5, HB5⟩, by simp [intOf]; omega⟩
              · rw [if_neg hll] at HTB
                have hll' : ¬ (x2 : Int) = (z2v : Int) := by omega
                have HO5 : Hid (v4.ownsRow v0.heap.size 3 1 (.slice P' (m + b) pc') (m + b) ((ints (toA N (arrM k N t' u i) (arrM k N t' v k) ++ toB N (x1, x2) (arrM k N t' v (j + 1)))).map (Value.int .i64))) := Lib.hid (by
                  rw [HTB.out]
                  exact hO4)
                have HBL1 : Hid ((toB N (x1, x2) (arrM k N t' v (j + 1))).length = b) := Lib.hid (by rw [HTB.out]; exact hbL.out)
                clear hz hsn htb hby hboy hbx3 hv4 hB4 hO3 hBX3 hB3 hO4 hll
                go_wp2_with fail
                rw [HV4.out]
                exact ⟨⟨j + 1, P', pc', b, by go_num, by omega, by omega, rfl, HBL1, HO5, HBX4, HB4⟩, by simp [intOf]; omega⟩
            · obtain rfl : j = k := by omega
              have hjk' : ¬ (j : Int) < (j : Int) := by omega
              have hta := toA_snoc N (arrM j N t' u i) (arrM j N t' v j) (x1, x2)
              rw [← HSN.out] at hta
              have HO5 : Hid (v3.ownsRow v0.heap.size 3 1 (.slice P' (m + b) pc') (m + b) ((ints (toA N (arrM j N t' u (i + 1)) (arrM j N t' v j))).map (Value.int .i64))) := Lib.hid (by
                rw [hta]
                exact hO3.out)
              have HML : Hid ((toA N (arrM j N t' u (i + 1)) (arrM j N t' v j)).length = m + b) := Lib.hid (by rw [hta, List.length_append, hmL.out, hbL.out])
              clear hta hO3
              go_wp2_with fail
              exact ⟨⟨i + 1, P', pc', m + b, by go_num, by omega, rfl, HML, HO5, hB3⟩, by simp [intOf]; omega⟩
        · obtain rfl : i = k := by omega
          have hik' : ¬ (i : Int) < (i : Int) := by omega
          have hm16 : m ≤ 16 := by
            have h := toA_len N (arrM i N t' v i) (arrM i N t' u i)
            rw [arrM_len, arrM_len, hmL.out] at h
            exact Nat.le_trans h (Nat.mul_le_mul hk4 hk4)
          have HSO := Lib.hid (sortOwn_c v1 v0.heap.size m pc P _ hO.out (by omega))
          have HB1' := hB0
          clear hO hB0
          go_wp2_with fail
          refine (HSO.out).mono ?_
          rintro e v2 ⟨rfl, ho2, hg2⟩
          have hbz : Below v0.heap.size v0 v2 := HB1'.out.grown hg2 HB1'.out.size (fun b hb => (ho2.lt b hb).1)
          have hcp := compOwn_c v2 v0.heap.size m pc P _ ho2 (by omega)
          have hpr := pair_row (k := i) (t := t') hN0 p
          rw [HUV.out.1, HUV.out.2, hmL.out] at hpr
          rw [List.length_mergeSort, ints_len, hmL.out, hpr, ints_len] at hcp
          obtain ⟨ln, hln⟩ : ∃ ln, (pairRow i N t' p).length = ln := ⟨_, rfl⟩
          rw [hln] at hcp
          have HCP := Lib.hid hcp
          have HLN := Lib.hid hln
          have HBZ := Lib.hid hbz
          clear ho2 hg2 hbz hcp hpr hln HSO HB1'
          go_wp2_with fail
          refine (HCP.out).mono ?_
          rintro e v3 ⟨rfl, ho3, hg3⟩
          have hb3 : Below v0.heap.size v0 v3 := HBZ.out.grown hg3 HBZ.out.size (fun b hb => (ho3.lt b (by cases P <;> exact hb)).1)
          have hl3 := own_below hA.out.lst hb3
          have hRl : R.length = M := by have := hA.out.lst.1; simpa using this
          have q3 : v3.cell? ⟨g, p, none⟩ = some (.slice none 0 0) := by
            rw [hl3.cellAt p (by omega), List.getElem?_map, hA.out.nil p (Nat.le_refl _) hpM]
            rfl
          have f3 := hl3.frozenAt p
          have hst := (hl3.stored p (.slice P ln pc)).1
          have hk3 := Keeps.of_setCell v3 ⟨g, p, none⟩ (.slice P ln pc)
          have hv0g : g < v0.heap.size := (ownN_lt hA.out.lst g rfl).2
          have hAX : PairAt (v3.setCell ⟨g, p, none⟩ (.slice P ln pc)) w.heap.size g M (R.set p (P, ln, pc)) i N t' (p + 1) := by
            refine ⟨?_, fun q hq => ?_, fun q hq hqM => ?_⟩
            · have e : (R.set p (P, ln, pc)).map slv = (R.map slv).set p (.slice P ln pc) := by rw [List.map_set]; rfl
              rw [e]
              exact hst
            · rcases Nat.lt_or_ge q p with h | h
              · obtain ⟨A', c', hR', ho'⟩ := hA.out.el q h
                refine ⟨A', c', by rw [List.getElem?_set_ne (by omega)]; exact hR', own_keeps (own_below ho' hb3) hk3 (fun b hb e => ?_)⟩
                obtain ⟨cur, hcur⟩ := rowBlk hA.out.lst
                exact own_ne_blk ho' hcur (by decide) (by rw [hb, show b = g from e])
              · obtain rfl : q = p := by omega
                refine ⟨P, pc, by rw [List.getElem?_set_self (by rw [hRl]; exact hpM), HLN.out], ?_⟩
                rw [HLN.out]
                refine own_keeps (own_base ho3 (Nat.le_trans hwg (Nat.le_of_lt hv0g))) hk3 (fun b hb e => ?_)
                have := (ho3.lt b hb).1
                rw [show b = g from e] at this
                omega
            · rw [List.getElem?_set_ne (by omega)]
              exact hA.out.nil q (by omega) hqM
          have HAX := Lib.hid hAX
          have HBX := Lib.hid ((hB.out.trans (hb3.mono hB.out.size)).setCell (p := ⟨g, p, none⟩) (by rw [HG.out]; exact Nat.le_refl _) (.slice P ln pc))
          clear hAX hst hk3 hl3 ho3 hg3 hb3 hRl HCP
          go_wp2_with fail
          exact ⟨⟨p + 1, _, by go_num, by omega, HAX, HBX⟩, by simp [intOf]; omega⟩
    · obtain rfl : p = M := by omega
      have hpM' : ¬ (p : Int) < (p : Int) := by omega
      have HBX := Lib.hid (HB04.out.trans (hB.out.mono HB04.out.size))
      have HLI : Hid (ListAt v0 (some ⟨g, 0, none⟩) p ((pairG k N t').map ints)) := Lib.hid (by
        have h := hA.out
        rw [← HMM.out] at h ⊢
        exact h.list)
      go_wp2_with fail
      go_ret2
      exact ⟨some ⟨g, 0, none⟩, p, rfl, rfl, HLI.out, HBX.out⟩
end Go.Proofs.YtedmmmlahpmmoaaGreatDoor

namespace Go.Proofs.YtedmmmlahpmmoaaGreatDoor
open Go.RowKit RuleP TarjP PairP

/-- The closure's answer. -/
def apartB (N : Nat) (x : Int) : Bool := wrap64 (x.tdiv (N : Int)) == x.tmod (N : Int)
theorem apartB_nat {N p : Nat} (hp : p ≤ 100000) : apartB N (p : Int) = (p / N == p % N) := by
  have h1 : (p : Int).tdiv (N : Int) = ((p / N : Nat) : Int) := rfl
  have h2 : (p : Int).tmod (N : Int) = ((p % N : Nat) : Int) := rfl
  have h3 : p / N ≤ p := Nat.div_le_self _ _
  unfold apartB
  rw [h1, h2]
  generalize p / N = a at *
  generalize p % N = b at *
  rw [IntWalk.wrap64_in _ (by omega)]
  by_cases e : a = b
  · subst e; simp
  · rw [beq_eq_false_iff_ne.2 e, beq_eq_false_iff_ne.2 (by omega)]
set_option maxRecDepth 100000 in
theorem apartF_c (w : World) (x : Int) (N : Nat) (hN : 0 < N) (b : Addr) (hb : w.cell? b = some (.int .i64 (N : Int))) :
    Calls Tryz.prog 50 #[.int .i64 x, .pointer (some b)] w fun e w' => e = .returned (.bool (apartB N x)) ∧ ∃ q, w' = w.drewN q := by
  have h0 : ¬ (N : Int) = 0 := by omega
  have h1 : ¬ N = 0 := by omega
  go_enter Tryz.func50, Tryz.ntmps50
  go_wp2_with (go_quiet (fail))
  exact bodyPost_ret (v := .bool (apartB N x)) (by simp [results, Tryz.results50, go_sem, apartB]) rfl ⟨rfl, _, rfl⟩
/-- The live pairs that are apart. -/
def apartP (N : Nat) (g : List (List Nat)) : List Nat := (liveP g).filter fun p => !(p / N == p % N)
theorem apart_ints {N : Nat} : ∀ (l : List Nat), (∀ p ∈ l, p ≤ 100000) → (ints l).filter (fun x => !apartB N x) = ints (l.filter fun p => !(p / N == p % N))
  | [], _ => rfl
  | p :: l, h => by
    have ih := apart_ints (N := N) l (fun q hq => h q (List.mem_cons_of_mem _ hq))
    show (((p : Int)) :: ints l).filter _ = _
    rw [List.filter_cons, List.filter_cons, apartB_nat (h p List.mem_cons_self), ih]
    split <;> rfl
/-- The sizes of a small rule's graph of pairs. -/
theorem pow_small {k R : Nat} (hk1 : 1 ≤ k) (hk4 : k ≤ 4) (hR1 : 0 < R) (hR : R ≤ 3) (h : k ^ (2 * R + 1) ≤ 64) : k ^ (2 * R) ≤ 16 := by
  obtain rfl | rfl | rfl | rfl : k = 1 ∨ k = 2 ∨ k = 3 ∨ k = 4 := by omega
  all_goals (obtain rfl | rfl | rfl : R = 1 ∨ R = 2 ∨ R = 3 := by omega)
  all_goals (revert h; decide)
theorem work_small {k r : Nat} {t : List Nat} (hr : IsRule k r t) (h : t.length ≤ 64) : k ^ (2 * workR r) ≤ 16 := by
  obtain ⟨h1, _, h3⟩ := work_rule hr (by omega)
  refine pow_small hr.k1 hr.k4 h3 h1.r3 ?_
  unfold workR
  split
  · exact Nat.le_trans (Nat.pow_le_pow_left hr.k4 _) (by decide)
  · rw [← hr.len]; exact h
theorem sum_le_len {l : List (List Nat)} {B : Nat} (h : ∀ x ∈ l, x.length ≤ B) : (l.map List.length).sum ≤ l.length * B := by
  induction l with
  | nil => simp
  | cons a l ih =>
    have h1 := h a List.mem_cons_self
    have h2 := ih fun x hx => h x (List.mem_cons_of_mem _ hx)
    rw [List.map_cons, List.sum_cons, List.length_cons, Nat.succ_mul]
    omega
/-- A graph of pairs, as the graph's own functions take it. -/
theorem pairs_graph {k N : Nat} (t : List Nat) (hN0 : 0 < N) (hN : N ≤ 16) : Graph (pairG k N t) ∧ (pairG k N t).length = N * N ∧ N * N ≤ 256 ∧ 0 < N * N ∧ ((pairG k N t).map List.length).sum ≤ 65536 := by
  have h256 : N * N ≤ 256 := Nat.le_trans (Nat.mul_le_mul hN hN) (by decide)
  have hrow : ∀ l ∈ pairG k N t, l.length ≤ 256 := fun l hl => by
    unfold pairG at hl
    obtain ⟨p, _, rfl⟩ := List.mem_map.1 hl
    have : (pairRow k N t p).length ≤ (List.range (N * N)).length := List.length_filter_le ..
    rw [List.length_range] at this
    omega
  have h1 := sum_le_len hrow
  rw [pairG_len] at h1
  refine ⟨fun v x hx => ?_, pairG_len .., h256, Nat.mul_pos hN0 hN0, by omega⟩
  rw [pairG_len]
  exact edge_lt hN0 ((mem_G hN0).1 hx).2

set_option maxRecDepth 100000 in
set_option maxHeartbeats 2000000 in
theorem apart_c (w : World) (E : Nat → Addr) (hE : Errs w E) (k r n c : Nat) (A : Option Addr) (t : List Nat) (hT : Sl w A n ((ints t).map (Value.int .i64))) (hr : IsRule k r t) (h64 : t.length ≤ 64) :
    Calls Tryz.prog 40 #[ruleV (k : Int) (r : Int) A n c] w fun e w' => ∃ C m cap, e = .returned (.tuple #[.slice C m cap, .nilIface]) ∧ w'.ownsRow w.heap.size 3 1 (.slice C m cap) m ((ints (apartP (k ^ (2 * workR r)) (pairG k (k ^ (2 * workR r)) (workT k r t)))).map (Value.int .i64)) ∧ Below w.heap.size w w' := by
  have h256 : t.length ≤ 256 := by omega
  have hN := work_small hr h64
  obtain ⟨hwr, hwl, hw0⟩ := work_rule hr h256
  obtain ⟨N, hNe⟩ : ∃ N, k ^ (2 * workR r) = N := ⟨_, rfl⟩
  have hN0 : 0 < N := by rw [← hNe]; exact Nat.pow_pos hr.k1
  obtain ⟨hg, hgl, hM2, hM0, hsum⟩ := pairs_graph (k := k) (workT k r t) hN0 (by rw [← hNe]; exact hN)
  obtain ⟨M, hMe⟩ : ∃ M, N * N = M := ⟨_, rfl⟩
  have hb1 := (Below.refl w.heap.size w).alloc (Nat.le_refl _) (.cells #[.int .i64 (k : Int), .int .i64 (r : Int), .slice A n c] 24)
  have hr1 := RuleAt.new w (.int .i64 (k : Int)) (.int .i64 (r : Int)) (.slice A n c)
  obtain ⟨r0, r1, r2, _⟩ := hr1.facts
  obtain ⟨w1, hw1⟩ : ∃ w1, w.alloc (.cells #[.int .i64 (k : Int), .int .i64 (r : Int), .slice A n c] 24) = w1 := ⟨_, rfl⟩
  rw [hw1] at hb1 hr1
  have HGR := Lib.hid (graph_c w1 E (hE.below hb1) k r n c A t (hT.below hb1) hr h256)
  have HWK := Lib.hid (fun (wz : World) (hz : Below w.heap.size w wz) => working_c wz E (hE.below hz) k r A n c t (hT.below hz) hr h256)
  have HND := Lib.hid (fun (wz : World) (hz : Below w.heap.size w wz) (C : Option Addr) (n c : Nat) (hS : Sl wz C n ((ints (workT k r t)).map (Value.int .i64))) => (by
    have hn : (workT k r t).length = n := by simpa [ints] using hS.1
    have h := overNodes_c wz E (hE.below hz) (k : Int) (workR r : Int) C n c (ints (workT k r t)) hS (by omega)
    rw [smallO_rule hwr (by omega), if_pos rfl] at h
    have hnn : nodesN (k : Int) (workR r : Int) = k ^ (2 * workR r) := by simp [nodesN]
    rw [hnn, hNe] at h
    unfold ruleV at h
    exact h : Calls Tryz.prog 48 #[.agg #[.int .i64 (k : Int), .int .i64 (workR r : Int), .slice C n c]] wz fun e w' => ∃ v, e = .returned (.tuple #[.int .i64 (N : Int), v]) ∧ ErrV w' E none v ∧ Below wz.heap.size wz w'))
  obtain ⟨T, hTe⟩ : ∃ T, workT k r t = T := ⟨_, rfl⟩
  obtain ⟨R, hRe⟩ : ∃ R, workR r = R := ⟨_, rfl⟩
  rw [hNe, hMe, hTe] at HGR
  rw [hTe, hRe] at HND
  rw [hTe] at hg hgl hsum
  rw [hTe, hRe] at HWK
  rw [hNe, hTe]
  obtain ⟨g, hge⟩ : ∃ g, pairG k N T = g := ⟨_, rfl⟩
  rw [hge] at hg hgl hsum HGR ⊢
  have HLV := Lib.hid (fun (wz : World) (C : Option Addr) (hG : ListAt wz C M (g.map ints)) => live_c wz C M g hg (by rw [hgl, hMe]) (by omega) hG (by omega) (by omega))
  have HLB := Lib.hid (show ∀ p ∈ liveP g, p ≤ 100000 from fun p hp => by have := (liveP_iff hg hp).1; omega)
  obtain ⟨L, hLe⟩ : ∃ L, liveP g = L := ⟨_, rfl⟩
  have HAP := Lib.hid (show apartP N g = L.filter fun p => !(p / N == p % N) by unfold apartP; rw [hLe])
  rw [hLe] at HLB
  simp only [hLe] at HLV
  have HW1 := Lib.hid hw1
  have HB1 := Lib.hid hb1
  have HR1 := Lib.hid hr1
  have HLL := Lib.hid (show L.length ≤ 256 by rw [← hLe]; unfold liveP; exact Nat.le_trans (List.length_filter_le ..) (by rw [List.length_range, hgl, hMe]; omega))
  unfold ruleV at HGR HWK ⊢
  unfold WorkRes ruleV at HWK
  clear hw1 hb1 hr1 hE hT hr h64 h256 hN hwr hwl hw0 hNe hg hgl hsum hMe hTe hRe hge hLe
  go_enter Tryz.func40, Tryz.ntmps40
  go_wp2_with fail
  rw [HW1.out]
  refine (HGR.out).mono ?_
  rintro e w2 ⟨G, M', rfl, hM', hG, hb2⟩
  obtain rfl := hM'
  have HB2 := Lib.hid (HB1.out.trans (hb2.mono HB1.out.size))
  have HR2 := Lib.hid (HR1.out.below hb2 HR1.out.lt)
  have HLV2 := Lib.hid (HLV.out w2 G hG)
  clear hG hb2 r0 r1 r2
  go_wp2_with fail
  refine (HLV2.out).mono ?_
  rintro e w3 ⟨LA, ln, lc, rfl, hlo, hb3⟩
  have HB3 := Lib.hid (HB2.out.trans (hb3.mono HB2.out.size))
  have HR3 := Lib.hid (HR2.out.below hb3 HR2.out.lt)
  have HLO := Lib.hid (own_base hlo HB2.out.size)
  have HWK3 := Lib.hid (HWK.out w3 HB3.out)
  obtain ⟨r0, r1, r2, _⟩ := HR3.out.facts
  clear hlo hb3
  go_wp2_with fail
  refine (HWK3.out).mono ?_
  rintro e w4 ⟨C, m, d, rfl, hS, hb4⟩
  have HB4 := Lib.hid (HB3.out.trans (hb4.mono HB3.out.size))
  have HLO4 := Lib.hid (own_below HLO.out hb4)
  have HS := Lib.hid hS
  have hz4 := RuleAt.new w4 (.int .i64 (k : Int)) (.int .i64 (R : Int)) (.slice C m d)
  obtain ⟨z0, z1, z2, _⟩ := hz4.facts
  have hb5 := HB4.out.alloc HB4.out.size (.cells #[.int .i64 (k : Int), .int .i64 (R : Int), .slice C m d] 24)
  obtain ⟨w5, hw5⟩ : ∃ w5, w4.alloc (.cells #[.int .i64 (k : Int), .int .i64 (R : Int), .slice C m d] 24) = w5 := ⟨_, rfl⟩
  have HW5 := Lib.hid hw5
  have HLO5 := Lib.hid (HLO4.out.alloc (.cells #[.int .i64 (k : Int), .int .i64 (R : Int), .slice C m d] 24))
  have HS5 := Lib.hid (HS.out.below ((Below.refl _ _).alloc (Nat.le_refl _) (.cells #[.int .i64 (k : Int), .int .i64 (R : Int), .slice C m d] 24)))
  rw [hw5] at hb5 HLO5 HS5
  have HB5 := Lib.hid hb5
  have HND5 := Lib.hid (HND.out w5 hb5 C m d HS5.out)
  clear hb5 hw5 hb4 hS r0 r1 r2 hz4
  go_wp2_with fail
  rw [HW5.out]
  refine (HND5.out).mono ?_
  rintro e w6 ⟨v, rfl, hv, hb6⟩
  obtain rfl : v = .nilIface := hv
  have HB6 := Lib.hid (HB5.out.trans (hb6.mono HB5.out.size))
  have HLO6 := Lib.hid (own_below HLO5.out hb6)
  have hcell : (w6.alloc (.cells #[.int .i64 (N : Int)] 3)).cell? ⟨w6.heap.size, 0, none⟩ = some (.int .i64 (N : Int)) := lit_at w6 _ _ _ rfl
  have HCL := Lib.hid hcell
  have HB7 := Lib.hid (HB6.out.alloc HB6.out.size (.cells #[.int .i64 (N : Int)] 3))
  have HLO7 := Lib.hid (HLO6.out.alloc (.cells #[.int .i64 (N : Int)] 3))
  clear hb6 z0 z1 z2 hcell
  by_cases h0 : ln = 0
  · subst h0
    have HL0 := Lib.hid (show L = [] by have := HLO.out.1; simpa [ints] using this)
    have HDE := Lib.hid (delNil_c (w6.alloc (.cells #[.int .i64 (N : Int)] 3)) LA lc 50 ⟨w6.heap.size, 0, none⟩ (fun x wz => by go_simp))
    go_wp2_with fail
    refine (HDE.out).mono ?_
    rintro e w8 ⟨rfl, hb8⟩
    have HB8 := Lib.hid (HB7.out.trans (hb8.mono HB7.out.size))
    have HLO8 := Lib.hid (own_below HLO7.out hb8)
    clear hb8
    go_wp2_with fail
    have h8 := HLO8.out
    rw [HL0.out] at h8
    refine bodyPost_ret (v := .tuple #[.slice LA 0 lc, .nilIface]) (by simp [results, Tryz.results40, go_sem]) rfl ⟨LA, 0, lc, rfl, ?_, HB8.out⟩
    rw [HAP.out, HL0.out]
    exact h8
  · have HAI := Lib.hid (apart_ints (N := N) L HLB.out)
    have hlt : ∀ c, LA = some c → c.block ≠ w6.heap.size := fun c hc e => by
      have := (HLO6.out.lt c.block (by rw [hc]; rfl)).2
      omega
    have HDE := Lib.hid (delOwn_c (w6.alloc (.cells #[.int .i64 (N : Int)] 3)) w.heap.size ln lc 50 ⟨w6.heap.size, 0, none⟩ (apartB N) LA (ints L) HLO7.out (by have := HLO.out.1; have := HLL.out; simp [ints] at *; omega) (by omega) (fun x wz => by go_simp) _ HCL.out hlt (fun W x hW => apartF_c W x N hN0 _ hW))
    clear hlt
    go_wp2_with fail
    refine (HDE.out).mono ?_
    rintro e w8 ⟨rfl, ho8, hg8⟩
    have HB8 := Lib.hid (HB7.out.grown hg8 HB7.out.size (fun b hb => (HLO7.out.lt b hb).1))
    have HLO8 := Lib.hid ho8
    clear ho8 hg8
    rw [HAI.out] at HLO8 ⊢
    go_wp2_with fail
    exact bodyPost_ret (v := .tuple #[.slice LA (ints (L.filter fun p => !(p / N == p % N))).length lc, .nilIface]) (by simp [results, Tryz.results40, go_sem]) rfl ⟨LA, _, lc, rfl, by rw [HAP.out]; exact HLO8.out, HB8.out⟩
end Go.Proofs.YtedmmmlahpmmoaaGreatDoor

namespace Go.Proofs.YtedmmmlahpmmoaaGreatDoor
namespace RuleP

/-! ### rings read round and round -/
/-- The symbol at any place of a ring. -/
def cy (s : List Nat) (z : Int) : Nat := s.getD (z % (s.length : Int)).toNat 0
theorem cy_add (s : List Nat) (z q : Int) : cy s (z + s.length * q) = cy s z := by
  unfold cy
  rw [Int.add_mul_emod_self_left]
theorem cy_at {s : List Nat} {i : Nat} (h : i < s.length) : cy s (i : Int) = s.getD i 0 := by
  unfold cy
  rw [Int.emod_eq_of_lt (by omega) (by omega), Int.toNat_natCast]
theorem cy_lt {k : Nat} {s : List Nat} (hs : ∀ x ∈ s, x < k) (h0 : s ≠ []) (z : Int) : cy s z < k := by
  have hl : 0 < s.length := List.length_pos_iff.2 h0
  have h1 := Int.emod_nonneg z (show (s.length : Int) ≠ 0 by omega)
  have h2 := Int.emod_lt_of_pos z (show (0 : Int) < s.length by omega)
  unfold cy
  rw [List.getD_eq_getElem?_getD, List.getElem?_eq_getElem (show (z % (s.length : Int)).toNat < s.length by omega)]
  exact hs _ (List.getElem_mem _)
/-- Two rings of one length that read alike are one. -/
theorem cy_ext {a b : List Nat} (hl : a.length = b.length) (h : ∀ z : Int, cy a z = cy b z) : a = b := by
  apply List.ext_getElem?
  intro i
  rcases Nat.lt_or_ge i a.length with hi | hi
  · have h1 := h (i : Int)
    rw [cy_at hi, cy_at (by omega)] at h1
    rw [List.getD_eq_getElem?_getD, List.getD_eq_getElem?_getD, List.getElem?_eq_getElem hi, List.getElem?_eq_getElem (by omega)] at h1
    rw [List.getElem?_eq_getElem hi, List.getElem?_eq_getElem (by omega)]
    exact congrArg some h1
  · rw [List.getElem?_eq_none hi, List.getElem?_eq_none (by omega)]
end RuleP
end Go.Proofs.YtedmmmlahpmmoaaGreatDoor

namespace Go.Proofs.YtedmmmlahpmmoaaGreatDoor
namespace RuleP

/-- p names each symbol below k just once. -/
def IsNames (k : Nat) (p : List Nat) : Prop := p.Perm (List.range k)
def pos (p : List Nat) (x : Nat) : Nat := p.idxOf x
theorem IsNames.len {k : Nat} {p : List Nat} (h : IsNames k p) : p.length = k := by rw [h.length_eq, List.length_range]
theorem IsNames.sym {k : Nat} {p : List Nat} (h : IsNames k p) : ∀ x ∈ p, x < k := fun _ hx => List.mem_range.1 (h.mem_iff.1 hx)
def old (p v : List Nat) : List Nat := v.map (pos p)
/-- The names back. -/
def inv (k : Nat) (p : List Nat) : List Nat := (List.range k).map (pos p)
end RuleP
end Go.Proofs.YtedmmmlahpmmoaaGreatDoor

namespace Go.Proofs.YtedmmmlahpmmoaaGreatDoor
open Go.RowKit RuleP

end Go.Proofs.YtedmmmlahpmmoaaGreatDoor

namespace Go.Proofs.YtedmmmlahpmmoaaGreatDoor
open Go.RowKit RuleP

end Go.Proofs.YtedmmmlahpmmoaaGreatDoor

namespace Go.Proofs.YtedmmmlahpmmoaaGreatDoor
namespace RuleP

theorem cy_mod (s : List Nat) (z : Int) : cy s (z % (s.length : Int)) = cy s z := by
  have := cy_add s z (-(z / (s.length : Int)))
  rw [← this]
  congr 1
  have := Int.emod_add_mul_ediv z (s.length : Int)
  rw [Int.mul_neg]
  omega
theorem cy_map {s : List Nat} {n : Nat} (hn : 0 < n) (f : Int → Nat) (hs : s = (List.range n).map fun (x : Nat) => f (x : Int)) (hf : ∀ z q : Int, f (z + (n : Int) * q) = f z) (z : Int) : cy s z = f z := by
  have hl : s.length = n := by rw [hs]; simp
  have h1 := Int.emod_nonneg z (show (n : Int) ≠ 0 by omega)
  have h2 := Int.emod_lt_of_pos z (show (0 : Int) < n by omega)
  rw [← cy_mod, hl]
  obtain ⟨x, hx⟩ : ∃ x : Nat, z % (n : Int) = (x : Int) := ⟨(z % (n : Int)).toNat, by omega⟩
  have hxn : x < n := by omega
  rw [hx, cy_at (by omega), hs, List.getD_eq_getElem?_getD, List.getElem?_map, List.getElem?_range hxn]
  show f (x : Int) = f z
  rw [← hx]
  have := hf (z % (n : Int)) (z / (n : Int))
  rw [Int.emod_add_mul_ediv] at this
  exact this.symm
end RuleP
end Go.Proofs.YtedmmmlahpmmoaaGreatDoor
