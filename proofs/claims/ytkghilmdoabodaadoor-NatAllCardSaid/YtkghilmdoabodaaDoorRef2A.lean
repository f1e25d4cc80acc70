/- The document's digits to the base 65536: edenref02.cut, half, whole. Condition: the lists read from memory. The document's numbers: edenref02.Norm, From, Add, Cmp. Condition: the limbs read from memory. The document's products, quotients, order: edenref02.Mul, Over, Cmp. Condition: the limbs read from memory. -/
import Derived.Test.YtkghilmdoabodaaDoorH16
import Derived.Test.YtkghilmdoabodaaDoorNum
import Derived.Test.YtkghilmdoabodaaDoorCut
import Derived.Deep.RegionHeld3
import Derived.Deep.AppendLies
import Derived.StillTailTactics
import Derived.Test.YtkghilmdoabodaaDoorUnderW
namespace Go.Proofs.YtkghilmdoabodaaDoor
open Go.RowKit NatP

theorem tWords : ElemT Tryd.prog 24 27 (.int .u32 0) 4 := ⟨Tryd.underlying24, by kernel_rfl, rfl⟩
def halfs (v : Nat) : List Nat := digs 65536 v

set_option maxRecDepth 100000 in
set_option maxHeartbeats 1000000 in
theorem cut_c (w : World) (A : Option Addr) (n c : Nat) (D : List Nat) (h : Sl w A n (D.map wv)) (ho : OkB 65536 D) (hc : n ≤ c) (hm : c ≤ maxLen) :
    Calls Tryd.prog 73 #[.slice A n c] w fun e w' => e = .returned (.slice A (halfs (valB 65536 D)).length c) ∧ w = w' := by
  unfold maxLen at hm
  have hl : D.length = n := by simpa using h.1
  have HL := Lib.hid hl
  clear hl
  go_enter Tryd.func73, Tryd.ntmps73
  go_wp2_with fail
  go_loop [3] (fun a => ∃ m : Nat, m ≤ n ∧ a = .int .i64 (m : Int) ∧ Hid (∀ (j x : Nat), m ≤ j → D[j]? = some x → x = 0)) (fun a => (intOf a).toNat)
  case atStart => exact ⟨n, Nat.le_refl _, rfl, Lib.hid fun j x hj hx => by rw [List.getElem?_eq_none (by rw [HL.out]; exact hj)] at hx; cases hx⟩
  case round =>
    obtain ⟨m, hmn, rfl, hz⟩ := hrel
    cases m with
    | zero =>
      have e := (cut_eq h16 ho (Nat.zero_le _) hz.out (fun x h0 => absurd h0 (by omega)))
      have e2 : Hid ((halfs (valB 65536 D)).length = 0) := Lib.hid (by unfold halfs; rw [← e]; simp)
      clear e hz
      go_wp2_with fail
      go_ret
      exact ⟨by rw [e2.out]; rfl, rfl⟩
    | succ k =>
      obtain ⟨ad, x, rfl, hxk, hcx⟩ := h.word_ (show k < n by omega)
      by_cases hx0 : x = 0
      · subst hx0
        have hz2 : Hid (∀ (j x : Nat), k ≤ j → D[j]? = some x → x = 0) := Lib.hid (fun j x hj hx => by
          rcases Nat.lt_or_ge k j with hjk | hjk
          · exact hz.out j x hjk hx
          · obtain rfl : j = k := by omega
            rw [hxk] at hx
            exact (Option.some.inj hx).symm)
        have t1 : (((0 : Nat) : Int) == 0) = true := rfl
        have t2 : ((k + 1 : Nat) : Int) - 1 = (k : Int) := by omega
        have t3 : (0 : Int) < ((k + 1 : Nat) : Int) := by omega
        clear hz hxk
        go_wp2_with fail
        exact ⟨⟨k, by omega, rfl, hz2⟩, by simp [intOf]⟩
      · have t : ((x : Int) == 0) = false := by rw [beq_eq_false_iff_ne]; omega
        have e := (cut_eq h16 ho (show k + 1 ≤ D.length by rw [HL.out]; omega) hz.out (fun y _ hy => by
          rw [Nat.add_sub_cancel, hxk] at hy
          rw [← Option.some.inj hy]
          exact hx0))
        have e2 : Hid ((halfs (valB 65536 D)).length = k + 1) := Lib.hid (by unfold halfs; rw [← e, List.length_take, HL.out]; omega)
        have t3 : (0 : Int) < ((k + 1 : Nat) : Int) := by omega
        clear e hz hxk hx0
        go_wp2_with fail
        go_ret
        exact ⟨by rw [e2.out]; rfl, rfl⟩

set_option maxRecDepth 100000 in
set_option maxHeartbeats 2000000 in
theorem half_c (w : World) (A : Option Addr) (n c : Nat) (xs : List Nat) (h : Sl w A n (xs.map wv)) (ho : OkB W32 xs) (hm : n ≤ 1000000000) :
    Calls Tryd.prog 45 #[.slice A n c] w fun e w' => ∃ C cc, e = .returned (.slice C (halfs (val xs)).length cc) ∧ w'.ownsRow w.heap.size 27 1 (.slice C (halfs (val xs)).length cc) (halfs (val xs)).length ((halfs (val xs)).map wv) ∧ Below w.heap.size w w' := by
  have hl : xs.length = n := by simpa using h.1
  have HL := Lib.hid hl
  have HO := Lib.hid ho
  clear hl ho
  obtain ⟨ii, hii, hiz, hi1, hi4⟩ := info_parts tWords.info
  go_enter Tryd.func45, Tryd.ntmps45
  go_wp2_with fail
  go_loopw [3, 4] (fun ov iv wr => ∃ (i M : Nat) (C : Option Addr) (cc : Nat), i ≤ n ∧ Hid (M = 2 * i) ∧ iv = .int .i64 (i : Int) ∧ ov = .slice C M cc ∧ wr.ownsRow w.heap.size 27 1 (.slice C M cc) M ((flat (xs.take i)).map wv) ∧ Below w.heap.size w wr) (fun _ iv _ => n - (intOf iv).toNat)
  case atStart => exact ⟨0, 0, none, 0, Nat.zero_le _, Lib.hid rfl, rfl, rfl, ⟨by simp [flat], .inl ⟨rfl, rfl⟩⟩, Below.refl _ _⟩
  case round =>
    obtain ⟨i, M, C, cc, hi, hM, rfl, rfl, hown, hb⟩ := hrel
    by_cases hlt : i < n
    · obtain ⟨ad, x, rfl, hxi, hcx0⟩ := h.word_ hlt
      have hxl : x < W32 := HO.out x (List.mem_of_getElem? hxi)
      have hcx := cell_later hb hcx0
      have HF := Lib.hid (flat_take hxi)
      have d1 : (x : Int).tmod 65536 = (x : Int) % 65536 := Int.tmod_eq_emod_of_nonneg (by omega)
      have d2 : IntKind.u32.wrap ((x : Int) / 65536) = (x : Int) / 65536 := IntWalk.u32_in _ (by unfold W32 at hxl; omega)
      clear hxi
      have HX := Lib.hid hxl
      have hul : M + 2 ≤ 2000000002 := by have := hM.out; omega
      clear hxl
      go_wp2_with fail
      go_region_held3 (fun w' => w'.cell? (ad.add i) = some (.int .u32 (x : Int)))
        (first | go_keep)
        (first
          | (refine step_append_lies _ ?g2 (.tmp 11) (.tmp 22) 24 ?g6 w.heap.size 27 ii (.int .u32 0) 1 4 tWords.und hii hiz hi1 hi4 rfl Nat.one_pos (.slice C M cc) M ((flat (xs.take i)).map wv) ?g7 ?g9 ⟨wr.heap.size, 0, none⟩ 2 2 [wv (x % 65536), wv (x / 65536)] ?g8 ?h1 ?h2 ?h3 ?h4 ?h5 ?h6 ?g10 _ rfl ?h7
             case g2 => rfl
             case g6 => rfl
             case g7 => rfl
             case g9 => exact hown.alloc _
             case g8 => rfl
             case h1 => rfl
             case h2 => (intro j u hj; match j, hj with | 0, hj => (simp at hj; subst hj; simp [Addr.add, wv, d1]) | 1, hj => (simp at hj; subst hj; simp [Addr.add, wv]))
             case h3 => (intro u hu; simp at hu; rcases hu with rfl | rfl <;> rfl)
             case h4 => decide
             case h5 => (simp only [maxLen]; omega)
             case h6 => omega
             case g10 => (have := hb.size; simp; omega)
             intro gg cap w3 hown3 hgrow hat hlt3
             have hk3 := grown_keeps hgrow
             have z3 := hk3.cell hcx (fun e => absurd (hown.lt _ e).1 (Nat.not_le_of_lt (World.block_lt_of_cell? _ _ hcx0)))
             dsimp only))
      rw [show ((flat (xs.take i)).map wv) ++ [wv (x % 65536), wv (x / 65536)] = (flat (xs.take (i + 1))).map wv from by rw [HF.out, List.map_append]; rfl] at hown3
      have hb3 : Below w.heap.size w w3 := hb.trans (hk3.below hb.size (fun b hb' => (hown.lt _ hb').1))
      have hM2 : Hid (M + 2 = 2 * (i + 1)) := Lib.hid (by have := hM.out; omega)
      clear hown hgrow hat hk3 hcx d1 d2
      go_wp2_with fail
      exact ⟨⟨i + 1, M + 2, _, cap, by omega, hM2, by go_num, rfl, hown3, hb3⟩, by simp [intOf]; omega⟩
    · obtain rfl : i = n := by omega
      rw [List.take_of_length_le (by rw [HL.out]; exact Nat.le_refl _)] at hown
      obtain ⟨hc1, hc2⟩ := own_le hown
      have HCUT := Lib.hid (cut_c wr C M cc (flat xs) (Sl.of_own hown) (ok_flat HO.out) hc1 hc2)
      rw [val_flat] at HCUT
      have hle := length_digs_le h16 (ok_flat HO.out)
      rw [val_flat] at hle
      have hto := own_take hown (m := (halfs (val xs)).length) (Nat.le_trans (show (halfs (val xs)).length ≤ (flat xs).length from hle) (by rw [len_flat, HL.out, hM.out]; exact Nat.le_refl _))
      have e3 : ((flat xs).map wv).take (halfs (val xs)).length = (halfs (val xs)).map wv := by
        have := take_digs h16 (ok_flat HO.out)
        rw [val_flat] at this
        rw [← List.map_take]
        unfold halfs val
        rw [this]
      rw [e3] at hto
      have HTO := Lib.hid hto
      have hM2 := Lib.hid hM
      clear hto e3 hle hown hM hlt
      go_wp2_with fail
      refine (HCUT.out).mono ?_
      rintro e w2 ⟨rfl, rfl⟩
      go_wp2_with fail
      go_ret
      exact ⟨C, cc, rfl, HTO.out, hb⟩

set_option maxRecDepth 100000 in
set_option maxHeartbeats 2000000 in
theorem whole_c (w : World) (A : Option Addr) (n c : Nat) (D : List Nat) (h : Sl w A n (D.map wv)) (ho : OkB 65536 D) (hc : n ≤ c) (hmx : c ≤ maxLen) (hm : n ≤ 4000000000) :
    Calls Tryd.prog 68 #[.slice A n c] w fun e w' => New w (valB 65536 D) e w' := by
  have hl : D.length = n := by simpa using h.1
  obtain ⟨m, hmD⟩ : ∃ m, (halfs (valB 65536 D)).length = m := ⟨_, rfl⟩
  have hle : m ≤ n := by rw [← hmD, ← hl]; exact length_digs_le h16 ho
  have htk : D.take m = halfs (valB 65536 D) := by rw [← hmD]; exact take_digs h16 ho
  have hcut := cut_c w A n c D h ho hc hmx
  rw [hmD] at hcut
  have HCUT := Lib.hid hcut
  have hS0 := sl_take h hle
  rw [← List.map_take, htk] at hS0
  obtain ⟨V, hV⟩ : ∃ V, valB 65536 D = V := ⟨_, rfl⟩
  rw [hV] at hmD hS0 ⊢
  have HMD := Lib.hid hmD
  obtain ⟨ii, hii, hiz, hi1, hi4⟩ := info_parts tNat.info
  clear hl htk hcut h ho hmD hV
  go_enter Tryd.func68, Tryd.ntmps68
  go_wp2_with fail
  refine (HCUT.out).mono ?_
  rintro e w2 ⟨rfl, rfl⟩
  go_wp2_with fail
  go_loopw [3, 4] (fun ov iv wr => ∃ (i j : Nat) (C : Option Addr) (cc : Nat), i ≤ m + 1 ∧ i = 2 * j ∧ iv = .int .i64 (i : Int) ∧ ov = .slice C j cc ∧ wr.ownsRow w.heap.size 27 1 (.slice C j cc) j ((pairTo (halfs V) j).map wv) ∧ Below w.heap.size w wr) (fun _ iv _ => m + 1 - (intOf iv).toNat)
  case atStart => exact ⟨0, 0, none, 0, Nat.zero_le _, rfl, rfl, rfl, ⟨by simp [pairTo], .inl ⟨rfl, rfl⟩⟩, Below.refl _ _⟩
  case round =>
    obtain ⟨i, j, C, cc, hi, hij, rfl, rfl, hown, hb⟩ := hrel
    by_cases hlt : i < m
    · have hD := ok_digs h16 V
      obtain ⟨ad, x, rfl, hxi, hcx0⟩ := hS0.word_ hlt
      have hcx := cell_later hb hcx0
      have hxl : x < 65536 := hD x (List.mem_of_getElem? hxi)
      have hgx : (halfs V).getD (2 * j) 0 = x := by rw [← hij, List.getD_eq_getElem?_getD, hxi]; rfl
      have hj2 : j ≤ 4000000000 := by omega
      by_cases h2 : i + 1 < m
      · obtain ⟨ad', y, hadd, hyi, hcy0⟩ := hS0.word_ h2
        cases hadd
        have hcy : wr.cell? ⟨ad.block, ad.off + (i + 1), none⟩ = some (.int .u32 (y : Int)) := by simpa [Addr.add] using cell_later hb hcy0
        have hyl : y < 65536 := hD y (List.mem_of_getElem? hyi)
        have hgy : (halfs V).getD (2 * j + 1) 0 = y := by rw [← hij, List.getD_eq_getElem?_getD, hyi]; rfl
        have HP : Hid (pairTo (halfs V) (j + 1) = pairTo (halfs V) j ++ [x + 65536 * y]) := Lib.hid (by rw [pairTo_succ, hgx, hgy])
        have HIJ := Lib.hid hij
        have d1 : IntKind.u32.wrap (65536 * (y : Int)) = 65536 * (y : Int) := IntWalk.u32_in _ (by omega)
        have d2 : IntKind.u32.wrap ((x : Int) + 65536 * (y : Int)) = (x : Int) + 65536 * (y : Int) := IntWalk.u32_in _ (by omega)
        have d3 : (i : Int) + 1 < (m : Int) := by omega
        have HJ := Lib.hid hj2
        clear hgx hgy hxi hyi hD hij hj2
        go_wp2_with (at_builtin; refine wpList_push2 rfl _ _ _ rfl tNat hown rfl _ 0 rfl rfl rfl (by simp only [maxLen]; have := HJ.out; omega) (by have := HJ.out; omega) hb.size ?_; intro g' cap w3 hown3 hor hlt3)
        rw [show ((pairTo (halfs V) j).map wv) ++ [Value.int .u32 ((x : Int) + 65536 * (y : Int))] = (pairTo (halfs V) (j + 1)).map wv from by rw [HP.out, List.map_append]; simp [wv]] at hown3
        exact ⟨⟨i + 2, j + 1, _, cap, by omega, by have := HIJ.out; omega, by go_num, rfl, hown3, push_below hb hown hor hb.size⟩, by simp [intOf]; omega⟩
      · have hlast : m = i + 1 := by omega
        have hgy : (halfs V).getD (2 * j + 1) 0 = 0 := by rw [List.getD_eq_getElem?_getD, List.getElem?_eq_none (by rw [HMD.out]; omega)]; rfl
        have HP : Hid (pairTo (halfs V) (j + 1) = pairTo (halfs V) j ++ [x]) := Lib.hid (by rw [pairTo_succ, hgx, hgy]; rfl)
        have HIJ := Lib.hid hij
        have HJ := Lib.hid hj2
        have HLA := Lib.hid hlast
        have d3 : ¬ ((i : Int) + 1 < (m : Int)) := by omega
        clear hgx hgy hxi hD hij hj2 hlast
        go_wp2_with (at_builtin; refine wpList_push2 rfl _ _ _ rfl tNat hown rfl _ 0 rfl rfl rfl (by simp only [maxLen]; have := HJ.out; omega) (by have := HJ.out; omega) hb.size ?_; intro g' cap w3 hown3 hor hlt3)
        rw [show ((pairTo (halfs V) j).map wv) ++ [Value.int .u32 (x : Int)] = (pairTo (halfs V) (j + 1)).map wv from by rw [HP.out, List.map_append]; rfl] at hown3
        exact ⟨⟨i + 2, j + 1, _, cap, by have := HLA.out; omega, by have := HIJ.out; omega, by go_num, rfl, hown3, push_below hb hown hor hb.size⟩, by simp [intOf]; omega⟩
    · have hj : (m + 1) / 2 = j := by omega
      have hall : pairTo (halfs V) j = limbs V := by
        have := pairs_all (ok_digs h16 V) (norm_digs h16 V)
        rw [val_digs h16] at this
        rw [← hj, ← HMD.out]
        exact this
      have hjl : j = (limbs V).length := by rw [← hall, pairTo_len]
      rw [hall, hjl] at hown
      have HN : Hid (New w V (.returned (.slice C (limbs V).length cc)) wr) := Lib.hid ⟨C, cc, rfl, num_own hown, hown, hb⟩
      rw [← hjl] at HN
      clear hall hjl hown hj
      go_wp2_with fail
      go_ret
      exact HN.out
end Go.Proofs.YtkghilmdoabodaaDoor

namespace Go.Proofs.YtkghilmdoabodaaDoor
open Go.RowKit NatP

/-- The digits to the base 65536 of a number in memory. -/
def HalfAt (w : World) (e : Ending) (w' : World) (v : Nat) : Prop := ∃ C cc, e = .returned (.slice C (halfs v).length cc) ∧ w'.ownsRow w.heap.size 27 1 (.slice C (halfs v).length cc) (halfs v).length ((halfs v).map wv) ∧ Below w.heap.size w w'
theorem half_n {w : World} {A : Option Addr} {n c v : Nat} (h : Num w A n c v) (hm : n ≤ 1000000000) : Calls Tryd.prog 45 #[.slice A n c] w fun e w' => HalfAt w e w' v := by
  obtain ⟨xs, a1, b1, s1, o1, rfl⟩ := h
  exact half_c w A n c xs s1 o1 hm
theorem halfs_len {w : World} {A : Option Addr} {n c v : Nat} (h : Num w A n c v) : (halfs v).length ≤ 2 * n := Nat.le_trans (len_half v) (Nat.mul_le_mul_left 2 h.len)
theorem whole_own {w : World} {base C cc n : Nat} {A : Option Addr} {D : List Nat} (h : w.ownsRow base 27 1 (.slice A n cc) n (D.map wv)) (ho : OkB 65536 D) (hm : n ≤ 4000000000) {r : Nat} (hr : valB 65536 D = r) :
    Calls Tryd.prog 68 #[.slice A n cc] w fun e w' => New w r e w' := by
  obtain ⟨h1, h2⟩ := own_le h
  rw [← hr]
  exact whole_c w A n cc D (Sl.of_own h) ho h1 h2 hm
theorem New.back {w w0 : World} {v : Nat} {e : Ending} {w' : World} (h : New w v e w') (hb : Below w0.heap.size w0 w) : New w0 v e w' := by
  obtain ⟨A, c, rfl, hn, ho, hb'⟩ := h
  exact ⟨A, c, rfl, hn, own_base ho hb.size, hb.trans (hb'.mono hb.size)⟩

set_option maxRecDepth 100000 in
set_option maxHeartbeats 1000000 in
theorem refNorm_n {w : World} {A : Option Addr} {n c v : Nat} (h : Num w A n c v) (hm : n ≤ 1000000000) :
    Calls Tryd.prog 72 #[.slice A n c] w fun e w' => New w v e w' := by
  have HH := Lib.hid (half_n h hm)
  have hl := halfs_len h
  clear h
  go_enter Tryd.func72, Tryd.ntmps72
  go_wp2_with fail
  refine (HH.out).mono ?_
  rintro e w1 ⟨C, cc, rfl, ho, hb⟩
  have HW := Lib.hid (whole_own (C := 0) ho (ok_digs h16 v) (by omega) (val_digs h16 v))
  clear ho
  go_wp2_with fail
  refine (HW.out).mono ?_
  rintro e w2 h2
  have HN := Lib.hid (h2.back hb)
  obtain ⟨A2, c2, rfl, _⟩ := h2
  go_wp2_with fail
  go_ret
  exact HN.out

set_option maxRecDepth 100000 in
set_option maxHeartbeats 1000000 in
theorem refFrom_c (w : World) (X : Nat) (hX : X < 18446744073709551616) :
    Calls Tryd.prog 31 #[.int .u64 (X : Int)] w fun e w' => New w X e w' := by
  go_enter Tryd.func31, Tryd.ntmps31
  go_wp2_with fail
  go_loopw [0, 3] (fun xv ov wr => ∃ (y : Nat) (D : List Nat) (M : Nat) (C : Option Addr) (cc : Nat), xv = .int .u64 (y : Int) ∧ ov = .slice C M cc ∧ Hid (D.length = M ∧ OkB 65536 D ∧ valB 65536 D + 65536 ^ M * y = X) ∧ y ≤ X ∧ M ≤ 4 ∧ wr.ownsRow w.heap.size 27 1 (.slice C M cc) M (D.map wv) ∧ Below w.heap.size w wr) (fun xv _ _ => (intOf xv).toNat)
  case atStart => exact ⟨X, [], 0, none, 0, rfl, rfl, Lib.hid ⟨rfl, fun x hx => by simp at hx, by simp [valB]⟩, Nat.le_refl _, Nat.zero_le _, ⟨by simp, .inl ⟨rfl, rfl⟩⟩, Below.refl _ _⟩
  case round =>
    obtain ⟨y, D, M, C, cc, rfl, rfl, hD, hy, hM4', hown, hb⟩ := hrel
    have hMl : y ≠ 0 → M < 4 := fun h0 => by
      obtain ⟨h1, h2, h3⟩ := hD.out
      have h4 : 65536 ^ M * 1 ≤ 65536 ^ M * y := Nat.mul_le_mul_left _ (by omega)
      rcases Nat.lt_or_ge M 4 with h | h
      · exact h
      · have h5 : 65536 ^ 4 ≤ 65536 ^ M := Nat.pow_le_pow_right (by decide) h
        have h6 : 65536 ^ 4 = 18446744073709551616 := by decide
        omega
    by_cases h0 : y = 0
    · subst h0
      obtain ⟨h1, h2, h3⟩ := hD.out
      have HW := Lib.hid (whole_own (C := 0) hown h2 (by omega) (by simpa using h3))
      clear h1 h2 h3 hown hMl
      go_wp2_with fail
      refine (HW.out).mono ?_
      rintro e w2 h2
      have HN := Lib.hid (h2.back hb)
      obtain ⟨A2, c2, rfl, _⟩ := h2
      go_wp2_with fail
      go_ret
      exact HN.out
    · have hM4 := hMl h0
      have hypos : (0 : Int) < (y : Int) := by omega
      have hdiv : Hid (y / 65536 ≤ X ∧ y / 65536 < y) := Lib.hid ⟨Nat.le_trans (Nat.div_le_self _ _) hy, Nat.div_lt_self (by omega) (by decide)⟩
      have d1 : IntKind.u64.wrap ((y : Int) / 65536) = (y : Int) / 65536 := IntWalk.u64_in _ (by omega)
      have d2 : IntKind.u32.wrap ((y : Int) % 65536) = (y : Int) % 65536 := IntWalk.u32_in _ (by omega)
      have d3 : (y : Int).tmod 65536 = (y : Int) % 65536 := Int.tmod_eq_emod_of_nonneg (by omega)
      have hD2 : Hid ((D ++ [y % 65536]).length = M + 1 ∧ OkB 65536 (D ++ [y % 65536]) ∧ valB 65536 (D ++ [y % 65536]) + 65536 ^ (M + 1) * (y / 65536) = X) := Lib.hid (by
        obtain ⟨h1, h2, h3⟩ := hD.out
        refine ⟨by simp [h1], ok_append h2 (fun z hz => by simp at hz; subst hz; exact Nat.mod_lt _ (by decide)), ?_⟩
        rw [val_snoc, h1, Nat.pow_succ, ← h3]
        have e := Nat.mod_add_div y 65536
        generalize y / 65536 = q at *
        generalize y % 65536 = r at *
        rw [← e, Nat.mul_add, Nat.mul_assoc]
        omega)
      clear hMl h0
      go_wp2_with (at_builtin; refine wpList_push2 rfl _ _ _ rfl tWords hown rfl _ 0 rfl rfl rfl (by simp only [maxLen]; omega) (by omega) hb.size ?_; intro g' cap w3 hown3 hor hlt3)
      rw [show (D.map wv) ++ [Value.int .u32 ((y : Int) % 65536)] = (D ++ [y % 65536]).map wv from by rw [List.map_append]; simp [wv]] at hown3
      exact ⟨⟨y / 65536, _, M + 1, _, cap, by simp, rfl, hD2, hdiv.out.1, by omega, hown3, push_below hb hown hor hb.size⟩, by simp [intOf]; have := hdiv.out.2; omega⟩

set_option maxRecDepth 100000 in
set_option maxHeartbeats 2000000 in
theorem refAdd_n {w : World} {A B : Option Addr} {n c m d v u : Nat} (h1 : Num w A n c v) (h2 : Num w B m d u) (m1 : n ≤ 1000000000) (m2 : m ≤ 1000000000) {r : Nat} (hr : v + u = r) :
    Calls Tryd.prog 33 #[.slice A n c, .slice B m d] w fun e w' => New w r e w' := by
  have H1 := Lib.hid (half_n h1 m1)
  have H2 := Lib.hid (fun (wz : World) (hz : Below w.heap.size w wz) => half_n (h2.below hz) m2)
  have hl1 := halfs_len h1
  have hl2 := halfs_len h2
  clear h1 h2
  go_enter Tryd.func33, Tryd.ntmps33
  go_wp2_with fail
  refine (H1.out).mono ?_
  rintro e w1 ⟨C1, c1, rfl, ho1, hb1⟩
  go_wp2_with fail
  refine (H2.out w1 hb1).mono ?_
  rintro e w2 ⟨C2, c2, rfl, ho2, hb2⟩
  have hbw := hb1.trans (hb2.mono hb1.size)
  have hX := (Sl.of_own ho1).below hb2
  have hY := Sl.of_own ho2
  have hXB := ok_digs h16 v
  have hYB := ok_digs h16 u
  have HXB := Lib.hid hXB
  have HYB := Lib.hid hYB
  have hst : AddG 65536 (halfs v) (halfs u) [] 0 0 r := ⟨rfl, fun x hx => by simp at hx, Nat.zero_le _, by simp [valB, halfs, val_digs h16]; exact hr⟩
  obtain ⟨XL, hXL⟩ : ∃ XL, halfs v = XL := ⟨_, rfl⟩
  obtain ⟨YL, hYL⟩ : ∃ YL, halfs u = YL := ⟨_, rfl⟩
  rw [show digs 65536 v = XL from hXL] at HXB
  rw [show digs 65536 u = YL from hYL] at HYB
  rw [hXL] at hl1 hX hst ⊢
  rw [hYL] at hl2 hY hst ⊢
  obtain ⟨lx, hlx⟩ : ∃ lx, XL.length = lx := ⟨_, rfl⟩
  obtain ⟨ly, hly⟩ : ∃ ly, YL.length = ly := ⟨_, rfl⟩
  rw [hlx] at hl1 hX ⊢
  rw [hly] at hl2 hY ⊢
  have HLX := Lib.hid hlx
  have HLY := Lib.hid hly
  clear hXB hYB hXL hYL hlx hly ho1 ho2 hb1 hb2 hr
  go_wp2_with fail
  obtain ⟨mx, hm1, hm2, hm3⟩ : ∃ mx, lx ≤ mx ∧ ly ≤ mx ∧ (mx = lx ∨ mx = ly) := ⟨max lx ly, by omega, by omega, by omega⟩
  have hm4 : mx ≤ 2000000000 := by omega
  have HM3 := Lib.hid hm3
  clear hm3
  go_loopw [7, 8, 9] (fun ov cv iv wr => ∃ (i cr : Nat) (D : List Nat) (C : Option Addr) (cc : Nat), i ≤ mx + 1 ∧ cr ≤ 1 ∧ Hid (i = mx + 1 → cr = 0) ∧ iv = .int .i64 (i : Int) ∧ cv = .int .u32 (cr : Int) ∧ ov = .slice C i cc ∧ Hid (AddG 65536 XL YL D i cr r) ∧ wr.ownsRow w2.heap.size 27 1 (.slice C i cc) i (D.map wv) ∧ Below w2.heap.size w2 wr) (fun _ _ iv _ => mx + 2 - (intOf iv).toNat)
  case atStart => exact ⟨0, 0, [], none, 0, Nat.zero_le _, Nat.zero_le _, Lib.hid fun _ => rfl, rfl, rfl, rfl, Lib.hid hst, ⟨by simp, .inl ⟨rfl, rfl⟩⟩, Below.refl _ _⟩
  case round =>
    clear hst
    obtain ⟨i, cr, D, C, cc, hi, hcr, hend, rfl, rfl, rfl, hD, hown, hbz⟩ := hrel
    have hb := hbw.trans (hbz.mono hbw.size)
    by_cases hx : i < lx
    · by_cases hy : i < ly
      · have hi' : i < mx := by omega
        obtain ⟨adx, x, rfl, hxi, hcx0⟩ := hX.word_ hx
        have hcx := cell_later hbz hcx0
        have hxl : x < 65536 := HXB.out x (List.mem_of_getElem? hxi)
        have gx : XL.getD i 0 = x := by rw [List.getD_eq_getElem?_getD, hxi]; rfl
        obtain ⟨ady, y, rfl, hyi, hcy0⟩ := hY.word_ hy
        have hcy := cell_later hbz hcy0
        have hyl : y < 65536 := HYB.out y (List.mem_of_getElem? hyi)
        have gy : YL.getD i 0 = y := by rw [List.getD_eq_getElem?_getD, hyi]; rfl
        have d1 : IntKind.u32.wrap ((cr : Int) + (x : Int)) = (cr : Int) + (x : Int) := IntWalk.u32_in _ (by omega)
        have d2 : IntKind.u32.wrap ((cr : Int) + (x : Int) + (y : Int)) = (cr : Int) + (x : Int) + (y : Int) := IntWalk.u32_in _ (by omega)
        have hst := hD.out.step h16 HXB.out HYB.out
        rw [gx, gy] at hst
        obtain ⟨S, hS⟩ : ∃ S, cr + x + y = S := ⟨_, rfl⟩
        rw [hS] at hst
        have hSi : (cr : Int) + (x : Int) + (y : Int) = (S : Int) := by omega
        have hS1 : S / 65536 ≤ 1 := by omega
        have e1 : IntKind.u32.wrap ((S : Int) / 65536) = (S : Int) / 65536 := IntWalk.u32_in _ (by omega)
        have e2 : IntKind.u32.wrap ((S : Int) % 65536) = (S : Int) % 65536 := IntWalk.u32_in _ (by omega)
        have e3 : (S : Int).tmod 65536 = (S : Int) % 65536 := Int.tmod_eq_emod_of_nonneg (by omega)
        have hEN : Hid (i + 1 = mx + 1 → S / 65536 = 0) := Lib.hid (fun he => by have := HM3.out; omega)
        have hst' := Lib.hid hst
        clear gx gy hst hS hi'
        go_wp2_with (at_builtin; refine wpList_push2 rfl _ _ _ rfl tWords hown rfl _ 0 rfl rfl rfl (by simp only [maxLen]; omega) (by omega) hbz.size ?_; intro g' cap w3 hown3 hor hlt3)
        rw [show (D.map wv) ++ [Value.int .u32 ((S : Int) % 65536)] = (D ++ [S % 65536]).map wv from by rw [List.map_append]; simp [wv]] at hown3
        exact ⟨⟨i + 1, S / 65536, D ++ [S % 65536], _, cap, by omega, hS1, hEN, by go_num, by simp, rfl, hst', hown3, push_below hbz hown hor hbz.size⟩, by simp [intOf]; omega⟩
      · have hi' : i < mx := by omega
        obtain ⟨adx, x, rfl, hxi, hcx0⟩ := hX.word_ hx
        have hcx := cell_later hbz hcx0
        have hxl : x < 65536 := HXB.out x (List.mem_of_getElem? hxi)
        have gx : XL.getD i 0 = x := by rw [List.getD_eq_getElem?_getD, hxi]; rfl
        have gy : YL.getD i 0 = 0 := by rw [List.getD_eq_getElem?_getD, List.getElem?_eq_none (by rw [HLY.out]; omega)]; rfl
        have hy1 : ¬ ((i : Int) < (ly : Int)) := by omega
        have d1 : IntKind.u32.wrap ((cr : Int) + (x : Int)) = (cr : Int) + (x : Int) := IntWalk.u32_in _ (by omega)
        have hst := hD.out.step h16 HXB.out HYB.out
        rw [gx, gy] at hst
        obtain ⟨S, hS⟩ : ∃ S, cr + x + 0 = S := ⟨_, rfl⟩
        rw [hS] at hst
        have hSi : (cr : Int) + (x : Int) = (S : Int) := by omega
        have hS1 : S / 65536 ≤ 1 := by omega
        have e1 : IntKind.u32.wrap ((S : Int) / 65536) = (S : Int) / 65536 := IntWalk.u32_in _ (by omega)
        have e2 : IntKind.u32.wrap ((S : Int) % 65536) = (S : Int) % 65536 := IntWalk.u32_in _ (by omega)
        have e3 : (S : Int).tmod 65536 = (S : Int) % 65536 := Int.tmod_eq_emod_of_nonneg (by omega)
        have hEN : Hid (i + 1 = mx + 1 → S / 65536 = 0) := Lib.hid (fun he => by have := HM3.out; omega)
        have hst' := Lib.hid hst
        clear gx gy hst hS hi'
        go_wp2_with (at_builtin; refine wpList_push2 rfl _ _ _ rfl tWords hown rfl _ 0 rfl rfl rfl (by simp only [maxLen]; omega) (by omega) hbz.size ?_; intro g' cap w3 hown3 hor hlt3)
        rw [show (D.map wv) ++ [Value.int .u32 ((S : Int) % 65536)] = (D ++ [S % 65536]).map wv from by rw [List.map_append]; simp [wv]] at hown3
        exact ⟨⟨i + 1, S / 65536, D ++ [S % 65536], _, cap, by omega, hS1, hEN, by go_num, by simp, rfl, hst', hown3, push_below hbz hown hor hbz.size⟩, by simp [intOf]; omega⟩
    · by_cases hy : i < ly
      · have hi' : i < mx := by omega
        have gx : XL.getD i 0 = 0 := by rw [List.getD_eq_getElem?_getD, List.getElem?_eq_none (by rw [HLX.out]; omega)]; rfl
        have hx1 : ¬ ((i : Int) < (lx : Int)) := by omega
        obtain ⟨ady, y, rfl, hyi, hcy0⟩ := hY.word_ hy
        have hcy := cell_later hbz hcy0
        have hyl : y < 65536 := HYB.out y (List.mem_of_getElem? hyi)
        have gy : YL.getD i 0 = y := by rw [List.getD_eq_getElem?_getD, hyi]; rfl
        have d1 : IntKind.u32.wrap ((cr : Int) + (y : Int)) = (cr : Int) + (y : Int) := IntWalk.u32_in _ (by omega)
        have hst := hD.out.step h16 HXB.out HYB.out
        rw [gx, gy] at hst
        obtain ⟨S, hS⟩ : ∃ S, cr + 0 + y = S := ⟨_, rfl⟩
        rw [hS] at hst
        have hSi : (cr : Int) + (y : Int) = (S : Int) := by omega
        have hS1 : S / 65536 ≤ 1 := by omega
        have e1 : IntKind.u32.wrap ((S : Int) / 65536) = (S : Int) / 65536 := IntWalk.u32_in _ (by omega)
        have e2 : IntKind.u32.wrap ((S : Int) % 65536) = (S : Int) % 65536 := IntWalk.u32_in _ (by omega)
        have e3 : (S : Int).tmod 65536 = (S : Int) % 65536 := Int.tmod_eq_emod_of_nonneg (by omega)
        have hEN : Hid (i + 1 = mx + 1 → S / 65536 = 0) := Lib.hid (fun he => by have := HM3.out; omega)
        have hst' := Lib.hid hst
        clear gx gy hst hS hi'
        go_wp2_with (at_builtin; refine wpList_push2 rfl _ _ _ rfl tWords hown rfl _ 0 rfl rfl rfl (by simp only [maxLen]; omega) (by omega) hbz.size ?_; intro g' cap w3 hown3 hor hlt3)
        rw [show (D.map wv) ++ [Value.int .u32 ((S : Int) % 65536)] = (D ++ [S % 65536]).map wv from by rw [List.map_append]; simp [wv]] at hown3
        exact ⟨⟨i + 1, S / 65536, D ++ [S % 65536], _, cap, by omega, hS1, hEN, by go_num, by simp, rfl, hst', hown3, push_below hbz hown hor hbz.size⟩, by simp [intOf]; omega⟩
      · by_cases hc : cr = 0
        · subst hc
          have hfin := hD.out.done (by rw [HLX.out]; omega) (by rw [HLY.out]; omega)
          have HW := Lib.hid (whole_own (C := 0) hown hD.out.ok (by omega) hfin)
          have hx1 : ¬ ((i : Int) < (lx : Int)) := by omega
          have hy1 : ¬ ((i : Int) < (ly : Int)) := by omega
          clear hown hfin
          go_wp2_with fail
          refine (HW.out).mono ?_
          rintro e w4 h4
          have HN := Lib.hid (h4.back hb)
          obtain ⟨A2, c2, rfl, _⟩ := h4
          go_wp2_with fail
          go_ret
          exact HN.out
        · have hi' : i < mx + 1 := by
            have := hend.out
            omega
          have hi2 : mx ≤ i := by have := HM3.out; omega
          obtain rfl : cr = 1 := by omega
          have gx : XL.getD i 0 = 0 := by rw [List.getD_eq_getElem?_getD, List.getElem?_eq_none (by rw [HLX.out]; omega)]; rfl
          have hx1 : ¬ ((i : Int) < (lx : Int)) := by omega
          have gy : YL.getD i 0 = 0 := by rw [List.getD_eq_getElem?_getD, List.getElem?_eq_none (by rw [HLY.out]; omega)]; rfl
          have hy1 : ¬ ((i : Int) < (ly : Int)) := by omega
          have hst := hD.out.step h16 HXB.out HYB.out
          rw [gx, gy] at hst
          have hst' : Hid (AddG 65536 XL YL (D ++ [1]) (i + 1) 0 r) := Lib.hid hst
          clear gx gy hst
          go_wp2_with (at_builtin; refine wpList_push2 rfl _ _ _ rfl tWords hown rfl _ 0 rfl rfl rfl (by simp only [maxLen]; omega) (by omega) hbz.size ?_; intro g' cap w3 hown3 hor hlt3)
          exact ⟨⟨i + 1, 0, D ++ [1], _, cap, by omega, Nat.zero_le _, Lib.hid (fun _ => rfl), by go_num, by simp, rfl, hst', by rw [List.map_append]; exact hown3, push_below hbz hown hor hbz.size⟩, by simp [intOf]; omega⟩
end Go.Proofs.YtkghilmdoabodaaDoor

namespace Go.Proofs.YtkghilmdoabodaaDoor
open Go.RowKit NatP

theorem make_words (w : World) (n : Nat) (h : n ≤ maxLen) : (w.alloc (.cells (madeCells #[.int .u32 0] n) 27)).ownsRow w.heap.size 27 1 (.slice (some ⟨w.heap.size, 0, none⟩) n n) n ((List.replicate n 0).map wv) := make_u32 w n h
theorem cut_hi {w : World} {base g n c : Nat} {D : List Nat} (h : w.ownsRow base 27 1 (.slice (some ⟨g, 0, none⟩) n c) n (D.map wv)) (k x : Nat) : (w.setCell ⟨g, k, none⟩ (.int .u32 (x : Int))).ownsRow base 27 1 (.slice (some ⟨g, 0, none⟩) n c) n ((D.set k x).map wv) := by
  have := (h.stored k (.int .u32 (x : Int))).1
  rwa [show (.int .u32 (x : Int)) = wv x from rfl, ← List.map_set] at this
theorem own_word {w : World} {base g n c : Nat} {D : List Nat} (h : w.ownsRow base 27 1 (.slice (some ⟨g, 0, none⟩) n c) n (D.map wv)) {k : Nat} (hk : k < n) : ∃ o, D[k]? = some o ∧ w.cell? ⟨g, k, none⟩ = some (.int .u32 (o : Int)) := by
  have hl : D.length = n := by simpa using h.1
  refine ⟨D[k]'(by omega), List.getElem?_eq_getElem (by omega), ?_⟩
  rw [h.cellAt k (by omega), List.getElem?_map, List.getElem?_eq_getElem (by omega)]
  rfl

set_option maxRecDepth 100000 in
set_option maxHeartbeats 2000000 in
theorem refOver_ok {w : World} {A : Option Addr} {n c v d : Nat} (h1 : Num w A n c v) (hd : 0 < d) (hdl : d < W32) (m1 : n ≤ 1000000000) :
    Calls Tryd.prog 38 #[.slice A n c, .int .u32 (d : Int)] w fun e w' => ∃ C cc, e = .returned (.tuple #[.slice C (limbs (v / d)).length cc, .int .u32 ((v % d : Nat) : Int), .agg #[.int .i64 0, .slice none 0 0, .slice none 0 0]]) ∧
      Num w' C (limbs (v / d)).length cc (v / d) ∧ w'.ownsRow w.heap.size 27 1 (.slice C (limbs (v / d)).length cc) (limbs (v / d)).length ((limbs (v / d)).map wv) ∧ Below w.heap.size w w' := by
  have hw0 := WantAt.new w (.int .i64 0) (.slice none 0 0) (.slice none 0 0)
  have hb0 := (Below.refl w.heap.size w).alloc (Nat.le_refl _) (.cells #[.int .i64 0, .slice none 0 0, .slice none 0 0] 50)
  have H1 := Lib.hid (half_n (h1.alloc (.cells #[.int .i64 0, .slice none 0 0, .slice none 0 0] 50)) m1)
  have hl1 := halfs_len h1
  have hdz : ((d : Int) == 0) = false := by rw [beq_eq_false_iff_ne]; omega
  clear h1
  go_enter Tryd.func38, Tryd.ntmps38
  go_wp2_with fail
  refine (H1.out).mono ?_
  rintro e w1 ⟨C1, c1, rfl, ho1, hb1⟩
  have hbw := hb0.trans (hb1.mono hb0.size)
  have hw1 := hw0.below hb1 (by simp)
  have hX := Sl.of_own ho1
  have HXB := Lib.hid (ok_digs h16 v)
  have hv : valB 65536 (halfs v) = v := val_digs h16 v
  obtain ⟨XL, hXL⟩ : ∃ XL, halfs v = XL := ⟨_, rfl⟩
  rw [show digs 65536 v = XL from hXL] at HXB
  rw [hXL] at hl1 hX hv ⊢
  obtain ⟨lx, hlx⟩ : ∃ lx, XL.length = lx := ⟨_, rfl⟩
  rw [hlx] at hl1 hX ⊢
  have HLX := Lib.hid hlx
  have hst := OverG.start h16 (X := XL) hd
  rw [hlx] at hst
  have hmk := run_make_row' (P := Tryd.prog) 24 27 (.int .u32 0) 4 tWords.und tWords.info rfl .i64 .i64 lx (by omega) (by omega)
  have hmk' : ∀ wz : World, (Instr.makeSlice 24 (.int .i64 (lx : Int)) (.int .i64 (lx : Int))).run Tryd.prog wz = .ok (.slice (some ⟨wz.heap.size, 0, none⟩) lx lx) (wz.alloc (.cells (madeCells #[.int .u32 0] lx) 27)) := hmk
  clear hmk
  have hown0 := make_words w1 lx (by simp only [maxLen]; omega)
  have hb10 : Below w1.heap.size w1 (w1.alloc (.cells (madeCells #[.int .u32 0] lx) 27)) := (Below.refl _ _).alloc (Nat.le_refl _) _
  have HV := Lib.hid hv
  clear hlx hXL ho1 hb0 hb1 hw0 hv
  go_wp2_with fail
  clear hmk'
  go_loopw [9, 10] (fun rv iv wr => ∃ (m rest : Nat) (z : Int) (O : List Nat), m ≤ lx ∧ iv = .int .i64 z ∧ Hid (z = (m : Int) - 1) ∧ rv = .int .u64 (rest : Int) ∧ Hid (OverG 65536 XL O d m rest) ∧ wr.ownsRow w1.heap.size 27 1 (.slice (some ⟨w1.heap.size, 0, none⟩) lx lx) lx (O.map wv) ∧ Below w1.heap.size w1 wr) (fun _ iv _ => (intOf iv + 1).toNat)
  case atStart => exact ⟨lx, 0, _, List.replicate lx 0, Nat.le_refl _, rfl, Lib.hid rfl, rfl, Lib.hid hst, hown0, hb10⟩
  case round =>
    clear hown0 hst hb10
    obtain ⟨m, rest, z, O, hm, rfl, hz, rfl, hG, hown, hbz⟩ := hrel
    have hrl : rest < d := hG.out.rlt
    cases m with
    | zero =>
      obtain rfl : z = -1 := by have := hz.out; omega
      clear hz
      obtain ⟨q1, q2⟩ := hG.out.done
      rw [HV.out] at q1 q2
      have HW := Lib.hid (whole_own (C := 0) hown hG.out.ok (by omega) q1)
      have hge : decide ((0 : Int) ≤ -1) = false := by decide
      have e1 : IntKind.u32.wrap (rest : Int) = (rest : Int) := IntWalk.u32_in _ (by unfold W32 at hdl; omega)
      have hb := hbw.trans (hbz.mono hbw.size)
      have hw2 := hw1.below hbz hw1.lt
      have HQ2 := Lib.hid q2
      clear q1 q2 hown
      go_wp2_with fail
      refine (HW.out).mono ?_
      rintro e w4 ⟨C4, c4, rfl, hn4, ho4, hb4⟩
      have hw4 := hw2.below hb4 hw2.lt
      obtain ⟨d0, d1, d2, f0, f1, f2⟩ := hw4.facts
      have ho5 := own_base (own_setW ho4 hw4 (by decide) (.int .i64 0) (.slice none 0 0) (.slice none 0 0)) (base' := w.heap.size) (by have := hb.size; omega)
      have HB5 := Lib.hid (below_set3 (hb.trans (hb4.mono hb.size)) (Nat.le_refl _) (.int .i64 0) (.slice none 0 0) (.slice none 0 0))
      have HO5 := Lib.hid ho5
      clear ho4 ho5 hn4 hw4 hw2 hb hb4
      go_wp2_with fail
      exact bodyPost_ret (v := .tuple #[.slice C4 (limbs (v / d)).length c4, .int .u32 (rest : Int), .agg #[.int .i64 0, .slice none 0 0, .slice none 0 0]]) (by simp [results, Tryd.results38, go_sem, d0, d1, d2]) rfl ⟨C4, c4, by rw [← HQ2.out], num_own HO5.out, HO5.out, HB5.out⟩
    | succ k =>
      obtain rfl : z = (k : Int) := by have := hz.out; omega
      clear hz
      obtain ⟨ad, x, rfl, hxk, hcx0⟩ := hX.word_ (show k < lx by omega)
      have hcx := cell_later hbz hcx0
      have hxl : x < 65536 := HXB.out x (List.mem_of_getElem? hxk)
      obtain ⟨o, hok, hco⟩ := own_word hown (show k < lx by omega)
      have hfr := hown.frozenAt k
      have hst := hG.out.step hxk hxl
      have hown2 := cut_hi hown k ((rest * 65536 + x) / d)
      obtain ⟨S, hS⟩ : ∃ S, rest * 65536 + x = S := ⟨_, rfl⟩
      rw [hS] at hst hown2
      have hSl : S < d * 65536 := by
        have : (rest + 1) * 65536 ≤ d * 65536 := Nat.mul_le_mul_right _ hrl
        omega
      have hSl2 : S < 281474976710656 := by unfold W32 at hdl; omega
      have hq : S / d < 65536 := Nat.div_lt_of_lt_mul hSl
      have hr2 : S % d < d := Nat.mod_lt _ hd
      have g1 : IntKind.u64.wrap ((rest : Int) * 65536) = (rest : Int) * 65536 := IntWalk.u64_in _ (by unfold W32 at hdl; omega)
      have g2 : IntKind.u64.wrap ((rest : Int) * 65536 + (x : Int)) = (S : Int) := by rw [IntWalk.u64_in _ (by unfold W32 at hdl; omega)]; omega
      have hdz2 : ¬ d = 0 := by omega
      have g3 : IntKind.u64.wrap (d : Int) = (d : Int) := IntWalk.u64_in _ (by unfold W32 at hdl; omega)
      have hqd : (S : Int) / (d : Int) = ((S / d : Nat) : Int) := by simp
      have hmd : (S : Int) % (d : Int) = ((S % d : Nat) : Int) := by simp
      obtain ⟨Q, hQ⟩ : ∃ Q, S / d = Q := ⟨_, rfl⟩
      obtain ⟨R, hR⟩ : ∃ R, S % d = R := ⟨_, rfl⟩
      rw [hQ] at hqd hq hst hown2
      rw [hR] at hmd hr2 hst
      have g4 : IntKind.u64.wrap (Q : Int) = (Q : Int) := IntWalk.u64_in _ (by omega)
      have g5 : (Q : Int) % 4294967296 = (Q : Int) := by omega
      have HST := Lib.hid hst
      have HO2 := Lib.hid hown2
      have hb3 := hbz.setCell (p := ⟨w1.heap.size, k, none⟩) (Nat.le_refl _) (.int .u32 (Q : Int))
      have HB3 := Lib.hid hb3
      clear hxk hok hst hS hG hown2 hSl hown hQ hR hb3
      go_wp2_with fail
      exact ⟨⟨k, R, _, _, by omega, rfl, Lib.hid rfl, by first | rfl | rw [hmd], HST, HO2.out, HB3.out⟩, by simp [intOf]⟩
end Go.Proofs.YtkghilmdoabodaaDoor
