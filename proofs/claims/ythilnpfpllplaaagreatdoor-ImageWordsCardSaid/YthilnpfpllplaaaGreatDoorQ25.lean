/- The document's digits to the base 65536: edenref02.cut, half, whole. Condition: the lists read from memory. The document's numbers: edenref02.Norm, From, Add, Cmp. Condition: the limbs read from memory. The document's products, quotients, order: edenref02.Mul, Over, Cmp. Condition: the limbs read from memory. -/
import Derived.Deep.RegionHeld3
import Derived.Deep.AppendLies
import Derived.StillTailTactics
import Derived.Test.YthilnpfpllplaaaGreatDoorQ6
import Derived.Test.YthilnpfpllplaaaGreatDoorQ20
import Derived.Test.YthilnpfpllplaaaGreatDoorQ24
namespace Go.Proofs.YthilnpfpllplaaaGreatDoor
open Go.RowKit NatP

theorem tWords : ElemT Tryz.prog 37 75 (.int .u32 0) 4 := ⟨Tryz.underlying37, by kernel_rfl, rfl⟩
def halfs (v : Nat) : List Nat := digs 65536 v

set_option maxRecDepth 100000 in
set_option maxHeartbeats 1000000 in
theorem cut_c (w : World) (A : Option Addr) (n c : Nat) (D : List Nat) (h : Sl w A n (D.map wv)) (ho : OkB 65536 D) (hc : n ≤ c) (hm : c ≤ maxLen) :
    Calls Tryz.prog 107 #[.slice A n c] w fun e w' => e = .returned (.slice A (halfs (valB 65536 D)).length c) ∧ w = w' := by
  unfold maxLen at hm
  have hl : D.length = n := by simpa using h.1
  have HL := Lib.hid hl
  clear hl
  go_enter Tryz.func107, Tryz.ntmps107
  go_wp2_with fail
  go_loop [3] (fun a => ∃ m : Nat, m ≤ n ∧ a = .int .i64 (m : Int) ∧ Hid (∀ (j x : Nat), m ≤ j → D[j]? = some x → x = 0)) (fun a => (intOf a).toNat)
  case atStart => exact ⟨n, Nat.le_refl _, rfl, Lib.hid fun j x hj hx => by rw [List.getElem?_eq_none (by rw [HL.out]; exact hj)] at hx; cases hx⟩
  case round =>
    obtain ⟨m, hmn, rfl, hz⟩ := hrel
    cases m with
    | zero =>
      have e := (cut_eq h16 ho (Nat.zero_le _) hz.out (fun x h0 => absurd h0 (by omega)))
      have e2 : Hid ((halfs (valB 65536 D)).length = 0) := Lib.hid (by unfold halfs; rw [← e]; simp)
      clear e hz
      go_wp2_with fail
      go_ret
      exact ⟨by rw [e2.out]; rfl, rfl⟩
    | succ k =>
      obtain ⟨ad, x, rfl, hxk, hcx⟩ := h.word_ (show k < n by omega)
      by_cases hx0 : x = 0
      · subst hx0
        have hz2 : Hid (∀ (j x : Nat), k ≤ j → D[j]? = some x → x = 0) := Lib.hid (fun j x hj hx => by
          rcases Nat.lt_or_ge k j with hjk | hjk
          · exact hz.out j x hjk hx
          · obtain rfl : j = k := by omega
            rw [hxk] at hx
            exact (Option.some.inj hx).symm)
        have t1 : (((0 : Nat) : Int) == 0) = true := rfl
        have t2 : ((k + 1 : Nat) : Int) - 1 = (k : Int) := by omega
        have t3 : (0 : Int) < ((k + 1 : Nat) : Int) := by omega
        clear hz hxk
        go_wp2_with fail
        exact ⟨⟨k, by omega, rfl, hz2⟩, by simp [intOf]⟩
      · have t : ((x : Int) == 0) = false := by rw [beq_eq_false_iff_ne]; omega
        have e := (cut_eq h16 ho (show k + 1 ≤ D.length by rw [HL.out]; omega) hz.out (fun y _ hy => by
          rw [Nat.add_sub_cancel, hxk] at hy
          rw [← Option.some.inj hy]
          exact hx0))
        have e2 : Hid ((halfs (valB 65536 D)).length = k + 1) := Lib.hid (by unfold halfs; rw [← e, List.length_take, HL.out]; omega)
        have t3 : (0 : Int) < ((k + 1 : Nat) : Int) := by omega
        clear e hz hxk hx0
        go_wp2_with fail
        go_ret
        exact ⟨by rw [e2.out]; rfl, rfl⟩

set_option maxRecDepth 100000 in
set_option maxHeartbeats 2000000 in
theorem half_c (w : World) (A : Option Addr) (n c : Nat) (xs : List Nat) (h : Sl w A n (xs.map wv)) (ho : OkB W32 xs) (hm : n ≤ 1000000000) :
    Calls Tryz.prog 77 #[.slice A n c] w fun e w' => ∃ C cc, e = .returned (.slice C (halfs (val xs)).length cc) ∧ w'.ownsRow w.heap.size 75 1 (.slice C (halfs (val xs)).length cc) (halfs (val xs)).length ((halfs (val xs)).map wv) ∧ Below w.heap.size w w' := by
  have hl : xs.length = n := by simpa using h.1
  have HL := Lib.hid hl
  have HO := Lib.hid ho
  clear hl ho
  obtain ⟨ii, hii, hiz, hi1, hi4⟩ := info_parts tWords.info
  go_enter Tryz.func77, Tryz.ntmps77
  go_wp2_with fail
  go_loopw [3, 4] (fun ov iv wr => ∃ (i M : Nat) (C : Option Addr) (cc : Nat), i ≤ n ∧ Hid (M = 2 * i) ∧ iv = .int .i64 (i : Int) ∧ ov = .slice C M cc ∧ wr.ownsRow w.heap.size 75 1 (.slice C M cc) M ((flat (xs.take i)).map wv) ∧ Below w.heap.size w wr) (fun _ iv _ => n - (intOf iv).toNat)
  case atStart => exact ⟨0, 0, none, 0, Nat.zero_le _, Lib.hid rfl, rfl, rfl, ⟨by simp [flat], .inl ⟨rfl, rfl⟩⟩, Below.refl _ _⟩
  case round =>
    obtain ⟨i, M, C, cc, hi, hM, rfl, rfl, hown, hb⟩ := hrel
    by_cases hlt : i < n
    · obtain ⟨ad, x, rfl, hxi, hcx0⟩ := h.word_ hlt
      have hxl : x < W32 := HO.out x (List.mem_of_getElem? hxi)
      have hcx := cell_later hb hcx0
      have HF := Lib.hid (flat_take hxi)
      have d1 : (x : Int).tmod 65536 = (x : Int) % 65536 := Int.tmod_eq_emod_of_nonneg (by omega)
      have d2 : IntKind.u32.wrap ((x : Int) / 65536) = (x : Int) / 65536 := IntWalk.u32_in _ (by unfold W32 at hxl; omega)
      clear hxi
      have HX := Lib.hid hxl
      have hul : M + 2 ≤ 2000000002 := by have := hM.out; omega
      clear hxl
      go_wp2_with fail
      go_region_held3 (fun w' => w'.cell? (ad.add i) = some (.int .u32 (x : Int)))
        (first | go_keep)
        (first
          | (refine step_append_lies _ ?g2 (.tmp 11) (.tmp 22) 37 ?g6 w.heap.size 75 ii (.int .u32 0) 1 4 tWords.und hii hiz hi1 hi4 rfl Nat.one_pos (.slice C M cc) M ((flat (xs.take i)).map wv) ?g7 ?g9 ⟨wr.heap.size, 0, none⟩ 2 2 [wv (x % 65536), wv (x / 65536)] ?g8 ?h1 ?h2 ?h3 ?h4 ?h5 ?h6 ?g10 _ rfl ?h7
             case g2 => rfl
             case g6 => rfl
             case g7 => rfl
             case g9 => exact hown.alloc _
             case g8 => rfl
             case h1 => rfl
             case h2 => (intro j u hj; match j, hj with | 0, hj => (simp at hj; subst hj; simp [Addr.add, wv, d1]) | 1, hj => (simp at hj; subst hj; simp [Addr.add, wv]))
             case h3 => (intro u hu; simp at hu; rcases hu with rfl | rfl <;> rfl)
             case h4 => decide
             case h5 => (simp only [maxLen]; omega)
             case h6 => omega
             case g10 => (have := hb.size; simp; omega)
             intro gg cap w3 hown3 hgrow hat hlt3
             have hk3 := grown_keeps hgrow
             have z3 := hk3.cell hcx (fun e => absurd (hown.lt _ e).1 (Nat.not_le_of_lt (World.block_lt_of_cell? _ _ hcx0)))
             dsimp only))
      rw [show ((flat (xs.take i)).map wv) ++ [wv (x % 65536), wv (x / 65536)] = (flat (xs.take (i + 1))).map wv from by rw [HF.out, List.map_append]; rfl] at hown3
      have hb3 : Below w.heap.size w w3 := hb.trans (hk3.below hb.size (fun b hb' => (hown.lt _ hb').1))
      have hM2 : Hid (M + 2 = 2 * (i + 1)) := Lib.hid (by have := hM.out; omega)
      clear hown hgrow hat hk3 hcx d1 d2
      go_wp2_with fail
      exact ⟨⟨i + 1, M + 2, _, cap, by omega, hM2, by go_num, rfl, hown3, hb3⟩, by simp [intOf]; omega⟩
    · obtain rfl : i = n := by omega
      rw [List.take_of_length_le (by rw [HL.out]; exact Nat.le_refl _)] at hown
      obtain ⟨hc1, hc2⟩ := own_le hown
      have HCUT := Lib.hid (cut_c wr C M cc (flat xs) (Sl.of_own hown) (ok_flat HO.out) hc1 hc2)
      rw [val_flat] at HCUT
      have hle := length_digs_le h16 (ok_flat HO.out)
      rw [val_flat] at hle
      have hto := own_take hown (m := (halfs (val xs)).length) (Nat.le_trans (show (halfs (val xs)).length ≤ (flat xs).length from hle) (by rw [len_flat, HL.out, hM.out]; exact Nat.le_refl _))
      have e3 : ((flat xs).map wv).take (halfs (val xs)).length = (halfs (val xs)).map wv := by
        have := take_digs h16 (ok_flat HO.out)
        rw [val_flat] at this
        rw [← List.map_take]
        unfold halfs val
        rw [this]
      rw [e3] at hto
      have HTO := Lib.hid hto
      have hM2 := Lib.hid hM
      clear hto e3 hle hown hM hlt
      go_wp2_with fail
      refine (HCUT.out).mono ?_
      rintro e w2 ⟨rfl, rfl⟩
      go_wp2_with fail
      go_ret
      exact ⟨C, cc, rfl, HTO.out, hb⟩

set_option maxRecDepth 100000 in
set_option maxHeartbeats 2000000 in
theorem whole_c (w : World) (A : Option Addr) (n c : Nat) (D : List Nat) (h : Sl w A n (D.map wv)) (ho : OkB 65536 D) (hc : n ≤ c) (hmx : c ≤ maxLen) (hm : n ≤ 4000000000) :
    Calls Tryz.prog 78 #[.slice A n c] w fun e w' => New w (valB 65536 D) e w' := by
  have hl : D.length = n := by simpa using h.1
  obtain ⟨m, hmD⟩ : ∃ m, (halfs (valB 65536 D)).length = m := ⟨_, rfl⟩
  have hle : m ≤ n := by rw [← hmD, ← hl]; exact length_digs_le h16 ho
  have htk : D.take m = halfs (valB 65536 D) := by rw [← hmD]; exact take_digs h16 ho
  have hcut := cut_c w A n c D h ho hc hmx
  rw [hmD] at hcut
  have HCUT := Lib.hid hcut
  have hS0 := sl_take h hle
  rw [← List.map_take, htk] at hS0
  obtain ⟨V, hV⟩ : ∃ V, valB 65536 D = V := ⟨_, rfl⟩
  rw [hV] at hmD hS0 ⊢
  have HMD := Lib.hid hmD
  obtain ⟨ii, hii, hiz, hi1, hi4⟩ := info_parts tNat.info
  clear hl htk hcut h ho hmD hV
  go_enter Tryz.func78, Tryz.ntmps78
  go_wp2_with fail
  refine (HCUT.out).mono ?_
  rintro e w2 ⟨rfl, rfl⟩
  go_wp2_with fail
  go_loopw [3, 4] (fun ov iv wr => ∃ (i j : Nat) (C : Option Addr) (cc : Nat), i ≤ m + 1 ∧ i = 2 * j ∧ iv = .int .i64 (i : Int) ∧ ov = .slice C j cc ∧ wr.ownsRow w.heap.size 75 1 (.slice C j cc) j ((pairTo (halfs V) j).map wv) ∧ Below w.heap.size w wr) (fun _ iv _ => m + 1 - (intOf iv).toNat)
  case atStart => exact ⟨0, 0, none, 0, Nat.zero_le _, rfl, rfl, rfl, ⟨by simp [pairTo], .inl ⟨rfl, rfl⟩⟩, Below.refl _ _⟩
  case round =>
    obtain ⟨i, j, C, cc, hi, hij, rfl, rfl, hown, hb⟩ := hrel
    by_cases hlt : i < m
    · have hD := ok_digs h16 V
      obtain ⟨ad, x, rfl, hxi, hcx0⟩ := hS0.word_ hlt
      have hcx := cell_later hb hcx0
      have hxl : x < 65536 := hD x (List.mem_of_getElem? hxi)
      have hgx : (halfs V).getD (2 * j) 0 = x := by rw [← hij, List.getD_eq_getElem?_getD, hxi]; rfl
      have hj2 : j ≤ 4000000000 := by omega
      by_cases h2 : i + 1 < m
      · obtain ⟨ad', y, hadd, hyi, hcy0⟩ := hS0.word_ h2
        cases hadd
        have hcy : wr.cell? ⟨ad.block, ad.off + (i + 1), none⟩ = some (.int .u32 (y : Int)) := by simpa [Addr.add] using cell_later hb hcy0
        have hyl : y < 65536 := hD y (List.mem_of_getElem? hyi)
        have hgy : (halfs V).getD (2 * j + 1) 0 = y := by rw [← hij, List.getD_eq_getElem?_getD, hyi]; rfl
        have HP : Hid (pairTo (halfs V) (j + 1) = pairTo (halfs V) j ++ [x + 65536 * y]) := Lib.hid (by rw [pairTo_succ, hgx, hgy])
        have HIJ := Lib.hid hij
        have d1 : IntKind.u32.wrap (65536 * (y : Int)) = 65536 * (y : Int) := IntWalk.u32_in _ (by omega)
        have d2 : IntKind.u32.wrap ((x : Int) + 65536 * (y : Int)) = (x : Int) + 65536 * (y : Int) := IntWalk.u32_in _ (by omega)
        have d3 : (i : Int) + 1 < (m : Int) := by omega
        have HJ := Lib.hid hj2
        clear hgx hgy hxi hyi hD hij hj2
        go_wp2_with (at_builtin; refine wpList_push2 rfl _ _ _ rfl tNat hown rfl _ 0 rfl rfl rfl (by simp only [maxLen]; have := HJ.out; omega) (by have := HJ.out; omega) hb.size ?_; intro g' cap w3 hown3 hor hlt3)
        rw [show ((pairTo (halfs V) j).map wv) ++ [Value.int .u32 ((x : Int) + 65536 * (y : Int))] = (pairTo (halfs V) (j + 1)).map wv from by rw [HP.out, List.map_append]; simp [wv]] at hown3
        exact ⟨⟨i + 2, j + 1, _, cap, by omega, by have := HIJ.out; omega, by go_num, rfl, hown3, push_below hb hown hor hb.size⟩, by simp [intOf]; omega⟩
      · have hlast : m = i + 1 := by omega
        have hgy : (halfs V).getD (2 * j + 1) 0 = 0 := by rw [List.getD_eq_getElem?_getD, List.getElem?_eq_none (by rw [HMD.out]; omega)]; rfl
        have HP : Hid (pairTo (halfs V) (j + 1) = pairTo (halfs V) j ++ [x]) := Lib.hid (by rw [pairTo_succ, hgx, hgy]; rfl)
        have HIJ := Lib.hid hij
        have HJ := Lib.hid hj2
        have HLA := Lib.hid hlast
        have d3 : ¬ ((i : Int) + 1 < (m : Int)) := by omega
        clear hgx hgy hxi hD hij hj2 hlast
        go_wp2_with (at_builtin; refine wpList_push2 rfl _ _ _ rfl tNat hown rfl _ 0 rfl rfl rfl (by simp only [maxLen]; have := HJ.out; omega) (by have := HJ.out; omega) hb.size ?_; intro g' cap w3 hown3 hor hlt3)
        rw [show ((pairTo (halfs V) j).map wv) ++ [Value.int .u32 (x : Int)] = (pairTo (halfs V) (j + 1)).map wv from by rw [HP.out, List.map_append]; rfl] at hown3
        exact ⟨⟨i + 2, j + 1, _, cap, by have := HLA.out; omega, by have := HIJ.out; omega, by go_num, rfl, hown3, push_below hb hown hor hb.size⟩, by simp [intOf]; omega⟩
    · have hj : (m + 1) / 2 = j := by omega
      have hall : pairTo (halfs V) j = limbs V := by
        have := pairs_all (ok_digs h16 V) (norm_digs h16 V)
        rw [val_digs h16] at this
        rw [← hj, ← HMD.out]
        exact this
      have hjl : j = (limbs V).length := by rw [← hall, pairTo_len]
      rw [hall, hjl] at hown
      have HN : Hid (New w V (.returned (.slice C (limbs V).length cc)) wr) := Lib.hid ⟨C, cc, rfl, num_own hown, hown, hb⟩
      rw [← hjl] at HN
      clear hall hjl hown hj
      go_wp2_with fail
      go_ret
      exact HN.out
end Go.Proofs.YthilnpfpllplaaaGreatDoor

namespace Go.Proofs.YthilnpfpllplaaaGreatDoor
open Go.RowKit NatP

/-- The digits to the base 65536 of a number in memory. -/
def HalfAt (w : World) (e : Ending) (w' : World) (v : Nat) : Prop := ∃ C cc, e = .returned (.slice C (halfs v).length cc) ∧ w'.ownsRow w.heap.size 75 1 (.slice C (halfs v).length cc) (halfs v).length ((halfs v).map wv) ∧ Below w.heap.size w w'
theorem half_n {w : World} {A : Option Addr} {n c v : Nat} (h : Num w A n c v) (hm : n ≤ 1000000000) : Calls Tryz.prog 77 #[.slice A n c] w fun e w' => HalfAt w e w' v := by
  obtain ⟨xs, a1, b1, s1, o1, rfl⟩ := h
  exact half_c w A n c xs s1 o1 hm
theorem halfs_len {w : World} {A : Option Addr} {n c v : Nat} (h : Num w A n c v) : (halfs v).length ≤ 2 * n := Nat.le_trans (len_half v) (Nat.mul_le_mul_left 2 h.len)
theorem whole_own {w : World} {base C cc n : Nat} {A : Option Addr} {D : List Nat} (h : w.ownsRow base 75 1 (.slice A n cc) n (D.map wv)) (ho : OkB 65536 D) (hm : n ≤ 4000000000) {r : Nat} (hr : valB 65536 D = r) :
    Calls Tryz.prog 78 #[.slice A n cc] w fun e w' => New w r e w' := by
  obtain ⟨h1, h2⟩ := own_le h
  rw [← hr]
  exact whole_c w A n cc D (Sl.of_own h) ho h1 h2 hm
theorem New.back {w w0 : World} {v : Nat} {e : Ending} {w' : World} (h : New w v e w') (hb : Below w0.heap.size w0 w) : New w0 v e w' := by
  obtain ⟨A, c, rfl, hn, ho, hb'⟩ := h
  exact ⟨A, c, rfl, hn, own_base ho hb.size, hb.trans (hb'.mono hb.size)⟩

set_option maxRecDepth 100000 in
set_option maxHeartbeats 2000000 in
theorem refAdd_n {w : World} {A B : Option Addr} {n c m d v u : Nat} (h1 : Num w A n c v) (h2 : Num w B m d u) (m1 : n ≤ 1000000000) (m2 : m ≤ 1000000000) {r : Nat} (hr : v + u = r) :
    Calls Tryz.prog 45 #[.slice A n c, .slice B m d] w fun e w' => New w r e w' := by
  have H1 := Lib.hid (half_n h1 m1)
  have H2 := Lib.hid (fun (wz : World) (hz : Below w.heap.size w wz) => half_n (h2.below hz) m2)
  have hl1 := halfs_len h1
  have hl2 := halfs_len h2
  clear h1 h2
  go_enter Tryz.func45, Tryz.ntmps45
  go_wp2_with fail
  refine (H1.out).mono ?_
  rintro e w1 ⟨C1, c1, rfl, ho1, hb1⟩
  go_wp2_with fail
  refine (H2.out w1 hb1).mono ?_
  rintro e w2 ⟨C2, c2, rfl, ho2, hb2⟩
  have hbw := hb1.trans (hb2.mono hb1.size)
  have hX := (Sl.of_own ho1).below hb2
  have hY := Sl.of_own ho2
  have hXB := ok_digs h16 v
  have hYB := ok_digs h16 u
  have HXB := Lib.hid hXB
  have HYB := Lib.hid hYB
  have hst : AddG 65536 (halfs v) (halfs u) [] 0 0 r := ⟨rfl, fun x hx => by simp at hx, Nat.zero_le _, by simp [valB, halfs, val_digs h16]; exact hr⟩
  obtain ⟨XL, hXL⟩ : ∃ XL, halfs v = XL := ⟨_, rfl⟩
  obtain ⟨YL, hYL⟩ : ∃ YL, halfs u = YL := ⟨_, rfl⟩
  rw [show digs 65536 v = XL from hXL] at HXB
  rw [show digs 65536 u = YL from hYL] at HYB
  rw [hXL] at hl1 hX hst ⊢
  rw [hYL] at hl2 hY hst ⊢
  obtain ⟨lx, hlx⟩ : ∃ lx, XL.length = lx := ⟨_, rfl⟩
  obtain ⟨ly, hly⟩ : ∃ ly, YL.length = ly := ⟨_, rfl⟩
  rw [hlx] at hl1 hX ⊢
  rw [hly] at hl2 hY ⊢
  have HLX := Lib.hid hlx
  have HLY := Lib.hid hly
  clear hXB hYB hXL hYL hlx hly ho1 ho2 hb1 hb2 hr
  go_wp2_with fail
  obtain ⟨mx, hm1, hm2, hm3⟩ : ∃ mx, lx ≤ mx ∧ ly ≤ mx ∧ (mx = lx ∨ mx = ly) := ⟨max lx ly, by omega, by omega, by omega⟩
  have hm4 : mx ≤ 2000000000 := by omega
  have HM3 := Lib.hid hm3
  clear hm3
  go_loopw [7, 8, 9] (fun ov cv iv wr => ∃ (i cr : Nat) (D : List Nat) (C : Option Addr) (cc : Nat), i ≤ mx + 1 ∧ cr ≤ 1 ∧ Hid (i = mx + 1 → cr = 0) ∧ iv = .int .i64 (i : Int) ∧ cv = .int .u32 (cr : Int) ∧ ov = .slice C i cc ∧ Hid (AddG 65536 XL YL D i cr r) ∧ wr.ownsRow w2.heap.size 75 1 (.slice C i cc) i (D.map wv) ∧ Below w2.heap.size w2 wr) (fun _ _ iv _ => mx + 2 - (intOf iv).toNat)
  case atStart => exact ⟨0, 0, [], none, 0, Nat.zero_le _, Nat.zero_le _, Lib.hid fun _ => rfl, rfl, rfl, rfl, Lib.hid hst, ⟨by simp, .inl ⟨rfl, rfl⟩⟩, Below.refl _ _⟩
  case round =>
    clear hst
    obtain ⟨i, cr, D, C, cc, hi, hcr, hend, rfl, rfl, rfl, hD, hown, hbz⟩ := hrel
    have hb := hbw.trans (hbz.mono hbw.size)
    by_cases hx : i < lx
    · by_cases hy : i < ly
      · have hi' : i < mx := by omega
        obtain ⟨adx, x, rfl, hxi, hcx0⟩ := hX.word_ hx
        have hcx := cell_later hbz hcx0
        have hxl : x < 65536 := HXB.out x (List.mem_of_getElem? hxi)
        have gx : XL.getD i 0 = x := by rw [List.getD_eq_getElem?_getD, hxi]; rfl
        obtain ⟨ady, y, rfl, hyi, hcy0⟩ := hY.word_ hy
        have hcy := cell_later hbz hcy0
        have hyl : y < 65536 := HYB.out y (List.mem_of_getElem? hyi)
        have gy : YL.getD i 0 = y := by rw [List.getD_eq_getElem?_getD, hyi]; rfl
        have d1 : IntKind.u32.wrap ((cr : Int) + (x : Int)) = (cr : Int) + (x : Int) := IntWalk.u32_in _ (by omega)
        have d2 : IntKind.u32.wrap ((cr : Int) + (x : Int) + (y : Int)) = (cr : Int) + (x : Int) + (y : Int) := IntWalk.u32_in _ (by omega)
        have hst := hD.out.step h16 HXB.out HYB.out
        rw [gx, gy] at hst
        obtain ⟨S, hS⟩ : ∃ S, cr + x + y = S := ⟨_, rfl⟩
        rw [hS] at hst
        have hSi : (cr : Int) + (x : Int) + (y : Int) = (S : Int) := by omega
        have hS1 : S / 65536 ≤ 1 := by omega
        have e1 : IntKind.u32.wrap ((S : Int) / 65536) = (S : Int) / 65536 := IntWalk.u32_in _ (by omega)
        have e2 : IntKind.u32.wrap ((S : Int) % 65536) = (S : Int) % 65536 := IntWalk.u32_in _ (by omega)
        have e3 : (S : Int).tmod 65536 = (S : Int) % 65536 := Int.tmod_eq_emod_of_nonneg (by omega)
        have hEN : Hid (i + 1 = mx + 1 → S / 65536 = 0) := Lib.hid (fun he => by have := HM3.out; omega)
        have hst' := Lib.hid hst
        clear gx gy hst hS hi'
        go_wp2_with (at_builtin; refine wpList_push2 rfl _ _ _ rfl tWords hown rfl _ 0 rfl rfl rfl (by simp only [maxLen]; omega) (by omega) hbz.size ?_; intro g' cap w3 hown3 hor hlt3)
        rw [show (D.map wv) ++ [Value.int .u32 ((S : Int) % 65536)] = (D ++ [S % 65536]).map wv from by rw [List.map_append]; simp [wv]] at hown3
        exact ⟨⟨i + 1, S / 65536, D ++ [S % 65536], _, cap, by omega, hS1, hEN, by go_num, by simp, rfl, hst', hown3, push_below hbz hown hor hbz.size⟩, by simp [intOf]; omega⟩
      · have hi' : i < mx := by omega
        obtain ⟨adx, x, rfl, hxi, hcx0⟩ := hX.word_ hx
        have hcx := cell_later hbz hcx0
        have hxl : x < 65536 := HXB.out x (List.mem_of_getElem? hxi)
        have gx : XL.getD i 0 = x := by rw [List.getD_eq_getElem?_getD, hxi]; rfl
        have gy : YL.getD i 0 = 0 := by rw [List.getD_eq_getElem?_getD, List.getElem?_eq_none (by rw [HLY.out]; omega)]; rfl
        have hy1 : ¬ ((i : Int) < (ly : Int)) := by omega
        have d1 : IntKind.u32.wrap ((cr : Int) + (x : Int)) = (cr : Int) + (x : Int) := IntWalk.u32_in _ (by omega)
        have hst := hD.out.step h16 HXB.out HYB.out
        rw [gx, gy] at hst
        obtain ⟨S, hS⟩ : ∃ S, cr + x + 0 = S := ⟨_, rfl⟩
        rw [hS] at hst
        have hSi : (cr : Int) + (x : Int) = (S : Int) := by omega
        have hS1 : S / 65536 ≤ 1 := by omega
        have e1 : IntKind.u32.wrap ((S : Int) / 65536) = (S : Int) / 65536 := IntWalk.u32_in _ (by omega)
        have e2 : IntKind.u32.wrap ((S : Int) % 65536) = (S : Int) % 65536 := IntWalk.u32_in _ (by omega)
        have e3 : (S : Int).tmod 65536 = (S : Int) % 65536 := Int.tmod_eq_emod_of_nonneg (by omega)
        have hEN : Hid (i + 1 = mx + 1 → S / 65536 = 0) := Lib.hid (fun he => by have := HM3.out; omega)
        have hst' := Lib.hid hst
        clear gx gy hst hS hi'
        go_wp2_with (at_builtin; refine wpList_push2 rfl _ _ _ rfl tWords hown rfl _ 0 rfl rfl rfl (by simp only [maxLen]; omega) (by omega) hbz.size ?_; intro g' cap w3 hown3 hor hlt3)
        rw [show (D.map wv) ++ [Value.int .u32 ((S : Int) % 65536)] = (D ++ [S % 65536]).map wv from by rw [List.map_append]; simp [wv]] at hown3
        exact ⟨⟨i + 1, S / 65536, D ++ [S % 65536], _, cap, by omega, hS1, hEN, by go_num, by simp, rfl, hst', hown3, push_below hbz hown hor hbz.size⟩, by simp [intOf]; omega⟩
    · by_cases hy : i < ly
      · have hi' : i < mx := by omega
        have gx : XL.getD i 0 = 0 := by rw [List.getD_eq_getElem?_getD, List.getElem?_eq_none (by rw [HLX.out]; omega)]; rfl
        have hx1 : ¬ ((i : Int) < (lx : Int)) := by omega
        obtain ⟨ady, y, rfl, hyi, hcy0⟩ := hY.word_ hy
        have hcy := cell_later hbz hcy0
        have hyl : y < 65536 := HYB.out y (List.mem_of_getElem? hyi)
        have gy : YL.getD i 0 = y := by rw [List.getD_eq_getElem?_getD, hyi]; rfl
        have d1 : IntKind.u32.wrap ((cr : Int) + (y : Int)) = (cr : Int) + (y : Int) := IntWalk.u32_in _ (by omega)
        have hst := hD.out.step h16 HXB.out HYB.out
        rw [gx, gy] at hst
        obtain ⟨S, hS⟩ : ∃ S, cr + 0 + y = S := ⟨_, rfl⟩
        rw [hS] at hst
        have hSi : (cr : Int) + (y : Int) = (S : Int) := by omega
        have hS1 : S / 65536 ≤ 1 := by omega
        have e1 : IntKind.u32.wrap ((S : Int) / 65536) = (S : Int) / 65536 := IntWalk.u32_in _ (by omega)
        have e2 : IntKind.u32.wrap ((S : Int) % 65536) = (S : Int) % 65536 := IntWalk.u32_in _ (by omega)
        have e3 : (S : Int).tmod 65536 = (S : Int) % 65536 := Int.tmod_eq_emod_of_nonneg (by omega)
        have hEN : Hid (i + 1 = mx + 1 → S / 65536 = 0) := Lib.hid (fun he => by have := HM3.out; omega)
        have hst' := Lib.hid hst
        clear gx gy hst hS hi'
        go_wp2_with (at_builtin; refine wpList_push2 rfl _ _ _ rfl tWords hown rfl _ 0 rfl rfl rfl (by simp only [maxLen]; omega) (by omega) hbz.size ?_; intro g' cap w3 hown3 hor hlt3)
        rw [show (D.map wv) ++ [Value.int .u32 ((S : Int) % 65536)] = (D ++ [S % 65536]).map wv from by rw [List.map_append]; simp [wv]] at hown3
        exact ⟨⟨i + 1, S / 65536, D ++ [S % 65536], _, cap, by omega, hS1, hEN, by go_num, by simp, rfl, hst', hown3, push_below hbz hown hor hbz.size⟩, by simp [intOf]; omega⟩
      · by_cases hc : cr = 0
        · subst hc
          have hfin := hD.out.done (by rw [HLX.out]; omega) (by rw [HLY.out]; omega)
          have HW := Lib.hid (whole_own (C := 0) hown hD.out.ok (by omega) hfin)
          have hx1 : ¬ ((i : Int) < (lx : Int)) := by omega
          have hy1 : ¬ ((i : Int) < (ly : Int)) := by omega
          clear hown hfin
          go_wp2_with fail
          refine (HW.out).mono ?_
          rintro e w4 h4
          have HN := Lib.hid (h4.back hb)
          obtain ⟨A2, c2, rfl, _⟩ := h4
          go_wp2_with fail
          go_ret
          exact HN.out
        · have hi' : i < mx + 1 := by
            have := hend.out
            omega
          have hi2 : mx ≤ i := by have := HM3.out; omega
          obtain rfl : cr = 1 := by omega
          have gx : XL.getD i 0 = 0 := by rw [List.getD_eq_getElem?_getD, List.getElem?_eq_none (by rw [HLX.out]; omega)]; rfl
          have hx1 : ¬ ((i : Int) < (lx : Int)) := by omega
          have gy : YL.getD i 0 = 0 := by rw [List.getD_eq_getElem?_getD, List.getElem?_eq_none (by rw [HLY.out]; omega)]; rfl
          have hy1 : ¬ ((i : Int) < (ly : Int)) := by omega
          have hst := hD.out.step h16 HXB.out HYB.out
          rw [gx, gy] at hst
          have hst' : Hid (AddG 65536 XL YL (D ++ [1]) (i + 1) 0 r) := Lib.hid hst
          clear gx gy hst
          go_wp2_with (at_builtin; refine wpList_push2 rfl _ _ _ rfl tWords hown rfl _ 0 rfl rfl rfl (by simp only [maxLen]; omega) (by omega) hbz.size ?_; intro g' cap w3 hown3 hor hlt3)
          exact ⟨⟨i + 1, 0, D ++ [1], _, cap, by omega, Nat.zero_le _, Lib.hid (fun _ => rfl), by go_num, by simp, rfl, hst', by rw [List.map_append]; exact hown3, push_below hbz hown hor hbz.size⟩, by simp [intOf]; omega⟩
end Go.Proofs.YthilnpfpllplaaaGreatDoor

namespace Go.Proofs.YthilnpfpllplaaaGreatDoor
open Go.RowKit NatP

end Go.Proofs.YthilnpfpllplaaaGreatDoor
