/- The call of BagFull: it returns true. Condition: its list reads from memory; the error variables hold what E says. -/
import Derived.Test.YtmephmijeepcnaaDoorBagLaw
import Derived.Test.YtmephmijeepcnaaDoorFullP
import Derived.Test.YtmephmijeepcnaaDoorBagErr
import Derived.Test.YtmephmijeepcnaaDoorCopyM
import Derived.IntWalk
namespace Go.Proofs.YtmephmijeepcnaaDoor
open Go.RowKit BagP

theorem tmod4096 (x : Int) : -4095 ≤ x.tmod 4096 ∧ x.tmod 4096 ≤ 4095 ∧ (x.tmod 4096 + 4096) % 4096 = x % 4096 := by
  rcases Int.lt_or_le x 0 with h | h
  · have : x.tmod 4096 = -((-x) % 4096) := by
      rw [← Int.tmod_eq_emod_of_nonneg (by omega : 0 ≤ -x), Int.neg_tmod, Int.neg_neg]
    omega
  · rw [Int.tmod_eq_emod_of_nonneg h]; omega
theorem tmod12 (x : Int) : -11 ≤ x.tmod 12 ∧ x.tmod 12 ≤ 11 ∧ (x.tmod 12 + 12) % 12 = x % 12 := by
  rcases Int.lt_or_le x 0 with h | h
  · have : x.tmod 12 = -((-x) % 12) := by
      rw [← Int.tmod_eq_emod_of_nonneg (by omega : 0 ≤ -x), Int.neg_tmod, Int.neg_neg]
    omega
  · rw [Int.tmod_eq_emod_of_nonneg h]; omega

theorem and1_i64 (x : Nat) (h : x < 4096) : (bits .and .i64 (x : Int) 1 == 1) = decide (x % 2 = 1) := by
  have e : bits .and .i64 (x : Int) 1 = ((x % 2 : Nat) : Int) := by
    have e2 : ((BitVec.ofInt 64 (1 : Int)).toNat) = 1 := by decide
    show IntKind.i64.wrap ((BitVec.ofInt 64 (x : Int) &&& BitVec.ofInt 64 (1 : Int)).toNat : Int) = _
    rw [BitVec.toNat_and, ofInt_u64 x (by omega), e2, nat_mask1]
    exact IntWalk.i64_in _ (by omega)
  rw [e]
  by_cases h1 : x % 2 = 1
  · rw [decide_eq_true h1, h1]; rfl
  · rw [decide_eq_false h1, show x % 2 = 0 by omega]; rfl
theorem bit_i (i j : Nat) (hi : i < 4096) : (bits .and .i64 ((i : Int) / 2 ^ j) 1 == 1) = i.testBit j := by
  have e0 : ((2 : Int) ^ j) = ((2 ^ j : Nat) : Int) := (Int.natCast_pow 2 j).symm
  have e1 : ((i : Int) / ((2 ^ j : Nat) : Int)) = ((i / 2 ^ j : Nat) : Int) := by simp
  have h1 : i / 2 ^ j < 4096 := Nat.lt_of_le_of_lt (Nat.div_le_self _ _) hi
  rw [e0, e1, and1_i64 _ h1, Nat.testBit_eq_decide_div_mod_eq]

/-- The list of the last call: each number taken by 12. -/
def by12 (T : List Int) : List Int := T.map (· % 12)
theorem by12_range (T : List Int) : ∀ x ∈ by12 T, 0 ≤ x ∧ x < (12 : Nat) := by
  intro x hx
  obtain ⟨y, _, rfl⟩ := List.mem_map.1 hx
  omega
theorem by12_step {T : List Int} {k : Nat} {x : Int} (h : T[k]? = some x) : by12 (T.take (k + 1)) = by12 (T.take k) ++ [x % 12] := by
  unfold by12
  rw [List.take_add_one, h]
  simp

set_option maxRecDepth 100000 in
set_option maxHeartbeats 4000000 in
theorem bagFull_c (w : World) (E : Nat → Addr) (hE : Errs w E) (hT : ErrT w) (x : Int) (A : Option Addr) (n c : Nat) (T : List Int) (hS : Sl w A n (T.map (Value.int .i64))) :
    Calls Tryd.prog 5 #[.int .i64 x, .slice A n c] w fun e w' => e = .returned (.bool true) ∧ Below w.heap.size w w' := by
  have HE := Lib.hid hE
  have HT := Lib.hid hT
  have HS := Lib.hid hS
  clear hE hT hS
  go_enter Tryd.func5, Tryd.ntmps5
  go_wp2_with fail
  refine (awake_c w).mono ?_
  rintro e w1 ⟨rfl, hb1⟩
  go_wp2_with fail
  refine (newBag_c w1 16 (by decide)).mono ?_
  rintro e w2 ⟨rfl, hB2, hb2⟩
  have hs1 := hb1.size
  have hs2 := hb2.size
  have hbw2 : Below w.heap.size w w2 := hb1.trans (hb2.mono hs1)
  have hB2' : BagIs w2 (.pointer (some ⟨w1.heap.size + 1, 0, none⟩)) 16 (fullS 0) (fun k => w1.heap.size ≤ k) := hB2
  clear hB2 hb1 hb2
  go_wp2_with fail
  go_loopw [7] (fun i wr => ∃ k : Nat, k ≤ 4096 ∧ i = .int .i64 k ∧ BagIs wr (.pointer (some ⟨w1.heap.size + 1, 0, none⟩)) 16 (fullS k) (fun q => w1.heap.size ≤ q) ∧ Below w.heap.size w wr ∧ w1.heap.size ≤ wr.heap.size) (fun i _ => 4096 - (intOf i).toNat)
  case atStart => exact ⟨0, Nat.zero_le _, rfl, hB2', hbw2, hs2⟩
  case round =>
    obtain ⟨k, hk, rfl, hB, hb, hsr⟩ := hrel
    clear hB2' hbw2
    obtain ⟨wo, rfl⟩ : ∃ wo : World, wo = wr := ⟨_, rfl⟩
    by_cases hlt : k < 4096
    · have hlt' : (k : Int) < 4096 := by omega
      go_wp2_with fail
      go_loopw [8, 9] (fun s i wr => ∃ j : Nat, j ≤ 12 ∧ i = .int .i64 j ∧ wr.ownsRow wo.heap.size 3 1 s ((getL j [k]).map (Value.int .i64)).length ((getL j [k]).map (Value.int .i64)) ∧ Below wo.heap.size wo wr) (fun _ i _ => 12 - (intOf i).toNat)
      case atStart => exact ⟨0, Nat.zero_le _, rfl, World.ownsRow_nil _ _ _ _, Below.refl _ _⟩
      case round =>
        obtain ⟨j, hj, rfl, hown, hb'⟩ := hrel
        have hjl : ((getL j [k]).map (Value.int .i64)).length ≤ j := by simp only [getL, List.length_map]; exact Nat.le_trans (List.length_filter_le _ _) (by simp)
        by_cases hj12 : j < 12
        · have T := bit_i k j hlt
          have Hst := getL_step j [k]
          rw [hasB_one k (by omega)] at Hst
          have HSt := Lib.hid Hst
          clear Hst
          cases hc : k.testBit j
          · rw [hc] at T
            have HC := Lib.hid hc
            clear hc
            go_wp2_with fail
            rw [HC.out, if_neg (by simp), List.append_nil] at HSt
            refine ⟨⟨j + 1, by omega, by go_num, by rw [HSt.out]; exact hown, hb'⟩, by simp [intOf]; omega⟩
          · rw [hc] at T
            have HC := Lib.hid hc
            clear hc
            go_wp2_with (at_builtin; refine wpList_push rfl _ _ _ rfl tInts hown rfl _ 0 rfl rfl rfl (by simp only [maxLen]; omega) (by omega) hb'.size ?_; intro g cap w3 hown3 hg3 hat3 hlt3)
            rw [HC.out, if_pos rfl] at HSt
            go_roundw
            case rel => exact ⟨j + 1, by omega, by go_num, by rw [HSt.out]; simpa using hown3, hb'.grown hg3 hb'.size (fun q hq => (hown.lt q hq).1)⟩
            case measure => simp [intOf]; omega
        · obtain rfl : j = 12 := by omega
          rw [List.length_map] at hown hjl
          obtain ⟨LA, lc, rfl, _, _⟩ := own_slice hown
          have hsr' := hb'.size
          have HP := Lib.hid (PutH (H := w1.heap.size) (hB.below hb') (by omega) LA _ lc (memB k) (by omega) (Sl.of_own hown) memB_lt (bits_memB hlt) (.inr (by rw [fullS_len]; exact hlt)) (S' := fullS (k + 1)) (by rw [addS_new (fullS_out k), fullS_succ]) (i := k) (fullS_idx (Nat.lt_succ_self k)) (f := true) (by rw [decide_eq_false (fullS_out k)]; rfl))
          have HB := Lib.hid (hb.trans (hb'.mono hb.size))
          clear hown hB hb hb' hj12 hj hjl
          go_wp2_with fail
          refine (HP.out).mono ?_
          rintro e w3 ⟨rfl, hB3, hb3⟩
          have hs3 := hb3.size
          have HB3 := Lib.hid (HB.out.trans (hb3.mono (by have := HB.out.size; omega)))
          go_wp2_with fail
          go_roundw
          case rel => exact ⟨k + 1, by omega, by go_num, hB3, HB3.out, by omega⟩
          case measure => simp [intOf]; omega
    · obtain rfl : k = 4096 := by omega
      clear hlt hk
      obtain ⟨t1, t2, t3⟩ := tmod4096 x
      obtain ⟨y, hy⟩ := Int.eq_ofNat_of_zero_le (show 0 ≤ x % 4096 by omega)
      have hyl : y < 4096 := by omega
      rw [hy] at t3
      have HG := Lib.hid (Get_c hB y [y] (fullS_at hyl))
      clear hy
      go_wp2_with fail
      refine (HG.out).mono ?_
      rintro e w3 ⟨v, rfl, hv, hb3⟩
      rw [get_full hyl, List.length_map] at hv
      obtain ⟨LA, lc, rfl, _, _⟩ := own_slice hv
      have hB3 := hB.below hb3
      have hml : (memB y).length ≤ 12 := by simp only [memB, getL, List.length_map]; exact Nat.le_trans (List.length_filter_le _ _) (by simp)
      have hv3 := Sl.of_own hv
      have HP := Lib.hid (Put_in hB3 LA _ lc (memB y) (by omega) hv3 memB_lt y (by rw [bits_memB hyl]; exact fullS_at hyl))
      go_wp2_with fail
      refine (HP.out).mono ?_
      rintro e w4 ⟨rfl, hb4⟩
      have hB4 := hB3.below hb4
      have HC := Lib.hid (copy_c w4 LA _ lc _ (hv3.below hb4) (ints_one (memB y)) (by omega))
      clear HP HG hv hB3
      go_wp2_with fail
      refine (HC.out).mono ?_
      rintro e w5 ⟨C, cc, rfl, ho5, hb5⟩
      have hB5 := hB4.below hb5
      go_wp2_with (at_builtin; refine wpList_push rfl _ _ _ rfl tInts ho5 rfl _ 0 rfl rfl rfl (by simp only [maxLen]; omega) (by omega) hb5.size ?_; intro g cap w6 hown6 hg6 hat6 hlt6)
      have hb6 := hb5.grown hg6 hb5.size (fun q hq => (ho5.lt q hq).1)
      have hB6 := hB4.below hb6
      have e13 : (memB y).map (Value.int .i64) ++ [.int .i64 13] = (memB y ++ [13]).map (Value.int .i64) := by simp
      rw [e13] at hown6
      have hr13 : ∀ x ∈ memB y ++ [13], 0 ≤ x ∧ x < ((16 : Nat) : Int) := by
        intro x hx
        rcases List.mem_append.1 hx with h | h
        · exact memB_lt x h
        · simp at h; omega
      have hbw6 : Below w.heap.size w w6 := ((hb.trans (hb3.mono hb.size)).trans (hb4.mono (by have := hb.size; have := hb3.size; omega))).trans (hb6.mono (by have := hb.size; have := hb3.size; have := hb4.size; omega))
      have HF := Lib.hid (Put_full hB6 E (HE.out.below hbw6) (some ⟨g, 0, none⟩) ((memB y).length + 1) cap (memB y ++ [13]) (by omega) (Sl.of_own hown6) hr13 (out_13 hr13 (by simp)) (fullS_len 4096))
      clear HC ho5 hown6 hg6 hat6 hlt6 e13 hr13 hB5 hB4 hv3
      go_wp2_with fail
      refine (HF.out).mono ?_
      rintro e w7 ⟨b, rfl, he7, hb7⟩
      have hB7 := (hB6.below hb7).below ((Below.refl _ _).alloc (Nat.le_refl _) (.cells ([13].map (Value.int .i64)).toArray 3))
      have HFI := Lib.hid (Find_c hB7 _ 1 1 [13] (by decide) (lit_sl w7 [13] 1 rfl (by decide)) (by decide))
      have hf1 : findI (fullS 4096) (bitsOf 16 [13]) = -1 := if_neg (out_13 (by decide) (by simp))
      rw [hf1] at HFI
      clear HF hB6 hf1
      go_wp2_with fail
      refine (HFI.out).mono ?_
      rintro e w8 ⟨rfl, hb8⟩
      have hb78 : Below w7.heap.size w7 w8 := ((Below.refl _ _).alloc (Nat.le_refl _) _).trans (hb8.mono (by simp))
      have hbw8 : Below w.heap.size w w8 := (hbw6.trans (hb7.mono hbw6.size)).trans (hb78.mono (by have := hbw6.size; have := hb7.size; omega))
      have he8 := ErrIs.keep he7 hb78
      have hB8 := hB7.below hb8
      have HNW := Lib.hid (fun (wz : World) => rawNew_c wz sBag 0 4)
      have HIS := Lib.hid (fun (wz : World) (hz : Below w8.heap.size w8 wz) (u : Value) (hu : WantV wz (some (4, [(sBag, 0)])) u) => rawIs_some wz E (HE.out.below (hbw8.trans (hz.mono hbw8.size))) (HT.out.below (hbw8.trans (hz.mono hbw8.size))) 4 [(sBag, 0)] (by decide) (by decide) _ _ (ErrIs.keep he8 hz) hu)
      have HLN := Lib.hid (fun (wz : World) (hz : Below w8.heap.size w8 wz) => Len_c (hB8.below hz))
      have HB8 := Lib.hid hB8
      have HW8 := Lib.hid hbw8
      have hyy : ((y : Int) != (y : Int)) = false := by simp
      clear HFI hB7 he7 hb7 hb8 he8 hB8 hb78 hbw8 hb6 hbw6 hb5 hb4 hb3 hB hb
      go_wp2_with fail
      refine (HNW.out w8).mono ?_
      rintro e w9 ⟨u9, rfl, hu9, b9⟩
      go_wp2_with fail
      refine (HIS.out _ b9 _ hu9).mono ?_
      rintro e w10 ⟨rfl, b10⟩
      have hb10 : Below w8.heap.size w8 w10 := b9.trans (b10.mono b9.size)
      go_wp2_with fail
      refine (HLN.out _ hb10).mono ?_
      rintro e w11 ⟨rfl, rfl⟩
      have hlf : ((4096 : Nat) : Int) = 4096 := rfl
      have HW10 := Lib.hid (HW8.out.trans (hb10.mono HW8.out.size))
      have HB10 := Lib.hid (HB8.out.below hb10)
      have HS10 := Lib.hid (HS.out.below HW10.out)
      rw [fullS_len]
      clear b9 b10 hb10 hu9 HNW HIS HLN HB8 HW8
      by_cases hn : 100 < n
      · go_wp2_with fail
        go_ret
        exact ⟨rfl, HW10.out⟩
      · go_wp2_with fail
        have hTl : T.length = n := by simpa using HS.out.1
        have HTL := Lib.hid hTl
        clear hTl
        go_loopw [21, 22] (fun s i wr => ∃ k : Nat, k ≤ n ∧ i = .int .i64 k ∧ wr.ownsRow w10.heap.size 3 1 s (by12 (T.take k)).length ((by12 (T.take k)).map (Value.int .i64)) ∧ Below w10.heap.size w10 wr) (fun _ i _ => n - (intOf i).toNat)
        case atStart => exact ⟨0, Nat.zero_le _, rfl, World.ownsRow_nil _ _ _ _, Below.refl _ _⟩
        case round =>
          obtain ⟨k, hk, rfl, hown, hb'⟩ := hrel
          have hkl : (by12 (T.take k)).length = k := by unfold by12; rw [List.length_map, List.length_take, HTL.out]; omega
          by_cases hlt : k < n
          · obtain ⟨ad, z, rfl, hzk, hcz⟩ := (HS10.out.below hb').int_ hlt
            obtain ⟨u1, u2, u3⟩ := tmod12 z
            have HSt := Lib.hid (by12_step hzk)
            clear hzk
            rw [hkl] at hown
            clear hkl
            go_wp2_with (at_builtin; refine wpList_push rfl _ _ _ rfl tInts hown rfl _ 0 rfl rfl rfl (by simp only [maxLen]; omega) (by omega) hb'.size ?_; intro g' cap' w3' hown3 hg3 hat3 hlt3)
            have hb3 := hb'.grown hg3 hb'.size (fun q hq => (hown.lt q hq).1)
            have HO3 := Lib.hid hown3
            clear hown hown3 hg3 hat3 hlt3
            go_roundw
            case rel =>
              refine ⟨k + 1, by omega, by go_num, ?_, hb3⟩
              have hl1 : (by12 (T.take (k + 1))).length = k + 1 := by unfold by12; rw [List.length_map, List.length_take, HTL.out]; omega
              rw [hl1, HSt.out, List.map_append]
              exact HO3.out
            case measure => simp [intOf]; omega
          · obtain rfl : k = n := by omega
            rw [hkl, List.take_of_length_le (by rw [HTL.out]; exact Nat.le_refl _)] at hown
            obtain ⟨LA', lc', rfl, _, _⟩ := own_slice hown
            obtain ⟨m, hm, hbm, hiff⟩ := bits_small (by12_range T)
            have hBr := HB10.out.below hb'
            have hx16 : ∀ x ∈ by12 T, 0 ≤ x ∧ x < ((16 : Nat) : Int) := fun x hx => by have := by12_range T x hx; omega
            have HPI := Lib.hid (Put_in hBr LA' k lc' (by12 T) (by omega) (Sl.of_own hown) hx16 m (by rw [hbm]; exact fullS_at hm))
            have HGT := Lib.hid (fun (wz : World) (hz : Below wr.heap.size wr wz) => Get_c (hBr.below hz) m [m] (fullS_at hm))
            have hm' : (m : Int) < 4096 := by omega
            have HBW := Lib.hid (HW10.out.trans (hb'.mono HW10.out.size))
            have hlo : (by12 T = []) ↔ k = 0 := by
              have : (by12 T).length = k := by unfold by12; rw [List.length_map, HTL.out]
              rw [← this, List.length_eq_zero_iff]
            have hll : (getL 16 [m]).length = 0 ↔ k = 0 := by rw [List.length_eq_zero_iff, hiff, hlo]
            generalize getL 16 [m] = G at HGT hll
            have HLL := Lib.hid hll
            clear hown hkl hbm hiff hBr hx16 hb' hll hlo hk hlt HB10 HS10 HW10
            go_wp2_with fail
            refine (HPI.out).mono ?_
            rintro e w12 ⟨rfl, hb12⟩
            have HG := Lib.hid (HGT.out w12 hb12)
            clear HGT HPI
            go_wp2_with fail
            refine (HG.out).mono ?_
            rintro e w13 ⟨v', rfl, hv', hb13⟩
            rw [List.length_map] at hv'
            obtain ⟨GA, gc, rfl, _, _⟩ := own_slice hv'
            have HBZ := Lib.hid ((HBW.out.trans (hb12.mono HBW.out.size)).trans (hb13.mono (by have := HBW.out.size; have := hb12.size; omega)))
            clear hv' hb12 hb13 HG HBW
            generalize G.length = gl at HLL
            have hcase : (gl = 0 ∧ k = 0) ∨ ((((gl : Nat) : Int) == 0) = false ∧ (((k : Nat) : Int) == 0) = false) := by
              rcases Nat.eq_zero_or_pos k with h | h
              · exact .inl ⟨HLL.out.2 h, h⟩
              · right
                have : gl ≠ 0 := fun e => by have := HLL.out.1 e; omega
                constructor <;> (simp; omega)
            clear HLL
            rcases hcase with ⟨rfl, rfl⟩ | ⟨g1, g2⟩
            · go_wp2_with fail
              go_ret
              exact ⟨rfl, HBZ.out⟩
            · go_wp2_with fail
              go_ret
              exact ⟨rfl, HBZ.out⟩
end Go.Proofs.YtmephmijeepcnaaDoor
