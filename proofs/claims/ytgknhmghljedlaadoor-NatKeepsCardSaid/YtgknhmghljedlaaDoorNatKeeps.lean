/- The call of NatKeeps: it returns true. Condition: its numbers read from memory; the error variables hold what E says. -/
import Derived.Test.YtgknhmghljedlaaDoorNatJM
import Derived.Test.YtgknhmghljedlaaDoorNatRing
import Derived.Test.YtgknhmghljedlaaDoorLentN
import Derived.Test.YtgknhmghljedlaaDoorCopyN
import Derived.Test.YtgknhmghljedlaaDoorRangedN
namespace Go.Proofs.YtgknhmghljedlaaDoor
open Go.RowKit NatP

set_option maxRecDepth 100000 in
theorem natKeeps_long (w : World) (E : Nat → Addr) (hE : Errs w E) {A B : Option Addr} {na ca nb cb : Nat} (h : 60 < na ∨ (na ≤ 60 ∧ 60 < nb)) :
    Calls Tryd.prog 5 #[.slice A na ca, .slice B nb cb] w fun e w' => e = .returned (.bool true) ∧ Below w.heap.size w w' := by
  rcases h with h | ⟨h1, h⟩
  all_goals
    go_enter Tryd.func5, Tryd.ntmps5
    go_wp2_with fail
    refine (awake2_c w E hE).mono ?_
    rintro e w1 ⟨rfl, b1⟩
    go_wp2_with fail
    go_ret
    exact ⟨rfl, b1⟩

/-- The limbs of a row are its number. -/
theorem num_row {w : World} {g n m c : Nat} {xs : List Nat} {ys : List Value} (h : Sl w (some ⟨g, 0, none⟩) m (xs.map wv ++ ys)) (hl : xs.length = n) (ho : OkB W32 xs) (hc : n ≤ c) (hm : c ≤ maxLen) : Num w (some ⟨g, 0, none⟩) n c (val xs) :=
  ⟨xs, hc, hm, sl_take' h (by simpa using hl), ho, rfl⟩
theorem rowN_of {w w' : World} {base c v : Nat} {A : Option Addr} (h : w.ownsRow base 37 1 (.slice A (limbs v).length c) (limbs v).length ((limbs v).map wv)) (hb : Below w.heap.size w w') :
    RowN w' base w.heap.size (.slice A (limbs v).length c) (limbs v).length ((limbs v).map wv) := (RowN.of h).below hb

/-- Limbs as values of a list of numbers. -/
def u32s (l : List Nat) : List Int := l.map (fun (x : Nat) => (x : Int))
theorem u32_row {w : World} {lo hi n : Nat} {v : Value} {l : List Nat} (h : RowN w lo hi v n (l.map wv)) : RowN w lo hi v n ((u32s l).map (Value.int .u32)) := by
  have e : (u32s l).map (Value.int .u32) = l.map wv := by unfold u32s; rw [List.map_map]; rfl
  rw [e]; exact h

set_option maxRecDepth 100000 in
set_option maxHeartbeats 8000000 in
theorem natKeeps_main (w : World) (E : Nat → Addr) (hE : Errs w E) {A B : Option Addr} {na ca nb cb a b : Nat} (hA : Num w A na ca a) (hB : Num w B nb cb b) (ma : na ≤ 60) (mb : nb ≤ 60) :
    Calls Tryd.prog 5 #[.slice A na ca, .slice B nb cb] w fun e w' => e = .returned (.bool true) ∧ Below w.heap.size w w' := by
  have HE := Lib.hid hE
  have la := hA.len
  have lb := hB.len
  have k1 := limbs_add a b 60 (by omega) (by omega)
  have k2 := limbs_mul a b 60 60 (by omega) (by omega)
  obtain ⟨xs, a1, a2, s1, o1, va⟩ := id hA
  obtain ⟨ys, b1', b2', s2, o2, vb⟩ := id hB
  have lx : xs.length = na := by simpa using s1.1
  have ly : ys.length = nb := by simpa using s2.1
  have HLX := Lib.hid lx
  have HLY := Lib.hid ly
  have HVA := Lib.hid va
  have HVB := Lib.hid vb
  have HSB := Lib.hid s2
  clear hE va vb lx ly
  go_enter Tryd.func5, Tryd.ntmps5
  go_wp2_with fail
  refine (awake2_c w E HE.out).mono ?_
  rintro e w1 ⟨rfl, b1⟩
  go_wp2_with fail
  refine (lentN_c w1 A na ca (xs.map wv) (s1.below b1) (words_one xs) (by omega)).mono ?_
  rintro e w2 ⟨rfl, hX2, h2⟩
  have b2 := b1.trans (h2.mono b1.size)
  have x2 := (hX2.lt _ rfl).2
  go_wp2_with fail
  refine (lentN_c w2 B nb cb (ys.map wv) (s2.below b2) (words_one ys) (by omega)).mono ?_
  rintro e w3 ⟨rfl, hY3, h3⟩
  have b3 := b2.trans (h3.mono b2.size)
  have y3 := (hY3.lt _ rfl).2
  have s12 := b1.size
  have s23 := h2.size
  have hX3 := own_below hX2 h3
  have nX : Num w3 (some ⟨w1.heap.size, 0, none⟩) na (na + 2) a := by
    rw [← HVA.out]; exact num_row (Sl.of_own hX3) HLX.out o1 (by omega) (by unfold maxLen; omega)
  have nY : Num w3 (some ⟨w2.heap.size, 0, none⟩) nb (nb + 2) b := by
    rw [← HVB.out]; exact num_row (Sl.of_own hY3) HLY.out o2 (by omega) (by unfold maxLen; omega)
  clear hX2 h2 h3
  go_wp2_with fail
  refine (add_n nX nY (by omega) (by omega) (r := a + b) rfl).mono ?_
  rintro e w4 ⟨A4, c4, rfl, _, o4, h4⟩
  have d4 := h4
  have z4 := h4.size
  have r4 := RowN.of o4
  go_wp2_with fail
  refine (add_n (nX.below d4) (nY.below d4) (by omega) (by omega) (r := a + b) rfl).mono ?_
  rintro e w5 ⟨A5, c5, rfl, _, o5, h5⟩
  have d5 := d4.trans (h5.mono d4.size)
  have r4 := r4.below h5
  have z5 := h5.size
  have r5 := RowN.of o5
  go_wp2_with fail
  refine (add_n (nX.below d5) (Num.nil _) (by omega) (by omega) (r := a) rfl).mono ?_
  rintro e w6 ⟨A6, c6, rfl, _, o6, h6⟩
  have d6 := d5.trans (h6.mono d5.size)
  have r4 := r4.below h6
  have r5 := r5.below h6
  have z6 := h6.size
  have r6 := RowN.of o6
  have e6 : Below w6.heap.size w6 (w6.alloc (.cells #[.int .u32 1] 37)) := (Below.refl _ _).alloc (Nat.le_refl _) _
  have d6' := d6.trans (e6.mono d6.size)
  have r4 := r4.below e6
  have r5 := r5.below e6
  have r6 := r6.below e6
  go_wp2_with fail
  refine (mul_n (nX.below d6') (num_lit w6 (x := 1) (by decide) _) (by omega) (by decide) (r := a) (Nat.mul_one a)).mono ?_
  rintro e w7 ⟨A7, c7, rfl, _, o7, h7⟩
  have d7 := d6'.trans (h7.mono d6'.size)
  have r4 := r4.below h7
  have r5 := r5.below h7
  have r6 := r6.below h7
  have z7 := h7.size
  have r7 := RowN.of o7
  go_wp2_with fail
  refine (mul_n (nX.below d7) (nY.below d7) (by omega) (by omega) (r := a * b) rfl).mono ?_
  rintro e w8 ⟨A8, c8, rfl, _, o8, h8⟩
  have d8 := d7.trans (h8.mono d7.size)
  have r4 := r4.below h8
  have r5 := r5.below h8
  have r6 := r6.below h8
  have r7 := r7.below h8
  have z8 := h8.size
  have r8 := RowN.of o8
  have e8 : Below w8.heap.size w8 (w8.alloc (.cells ([(some ⟨w1.heap.size, 0, none⟩, na, na + 2)].map slv).toArray 23)) := (Below.refl _ _).alloc (Nat.le_refl _) _
  have d8' := d8.trans (e8.mono d8.size)
  have hsum : sumV [((some (⟨w1.heap.size, 0, none⟩ : Addr), na, na + 2), a)] = a := by simp [sumV]
  have HSU := sum_c _ _ 1 1 [((some (⟨w1.heap.size, 0, none⟩ : Addr), na, na + 2), a)] (lit_slices w8 [(some ⟨w1.heap.size, 0, none⟩, na, na + 2)] 1 rfl (by decide) 23) (by decide)
    (by intro x hx; simp at hx; subst hx; exact ⟨nX.below d8', by simp only; omega⟩)
  rw [hsum] at HSU
  have HS := Lib.hid HSU
  clear HSU hsum
  go_wp2_with fail
  refine (HS.out).mono ?_
  clear HS
  rintro e w9 ⟨A9, c9, rfl, _, o9, h9⟩
  have r4 := (r4.below e8).below h9
  have r5 := (r5.below e8).below h9
  have r6 := (r6.below e8).below h9
  have r7 := (r7.below e8).below h9
  have r8 := (r8.below e8).below h9
  have d9 := d8'.trans (h9.mono d8'.size)
  have z9 := h9.size
  have r9 := RowN.of o9
  go_wp2_with fail
  refine (sub_n (nX.below d9) (Num.nil _) (by omega) (Nat.zero_le _) (r := a) rfl).mono ?_
  rintro e w10 ⟨A10, c10, rfl, _, o10, h10⟩
  have d10 := d9.trans (h10.mono d9.size)
  have r4 := r4.below h10
  have r5 := r5.below h10
  have r6 := r6.below h10
  have r7 := r7.below h10
  have r8 := r8.below h10
  have r9 := r9.below h10
  have z10 := h10.size
  have r10 := RowN.of o10
  have HOV := over_n (nX.below d10) (d := 1) (by decide) (by decide) (by omega)
  rw [Nat.div_one] at HOV
  go_wp2_with fail
  refine (HOV).mono ?_
  rintro e w11 ⟨A11, c11, rfl, o11, h11⟩
  have d11 := d10.trans (h11.mono d10.size)
  have r4 := r4.below h11
  have r5 := r5.below h11
  have r6 := r6.below h11
  have r7 := r7.below h11
  have r8 := r8.below h11
  have r9 := r9.below h11
  have r10 := r10.below h11
  have z11 := h11.size
  have r11 := RowN.of o11
  simp only [World.size_alloc] at z7 z9
  have hX := own_below hX3 d11
  have hY := own_below hY3 d11
  have bw := b3.trans (d11.mono b3.size)
  have hA11 := hA.below bw
  have hB11 := hB.below bw
  have s1' := s1.below bw
  have s2' := s2.below bw
  have Z := Lib.hid (⟨x2, y3, s12, s23, z4, z5, z6, z7, z8, z9, z10, z11⟩ : w1.heap.size < w2.heap.size ∧ w2.heap.size < w3.heap.size ∧ w.heap.size ≤ w1.heap.size ∧ w1.heap.size ≤ w2.heap.size ∧ w3.heap.size ≤ w4.heap.size ∧ w4.heap.size ≤ w5.heap.size ∧ w5.heap.size ≤ w6.heap.size ∧ w6.heap.size + 1 ≤ w7.heap.size ∧ w7.heap.size ≤ w8.heap.size ∧ w8.heap.size + 1 ≤ w9.heap.size ∧ w9.heap.size ≤ w10.heap.size ∧ w10.heap.size ≤ w11.heap.size)
  have HKX := Lib.hid (fun (wz : World) (hz : Below w11.heap.size w11 wz) => keptN_c wz (some ⟨w1.heap.size, 0, none⟩) A na (na + 2) ca xs (s1'.below hz) ((Sl.of_own hX).below hz) (Nat.le_refl _) (by unfold maxLen; omega))
  have HKY := Lib.hid (fun (wz : World) (hz : Below w11.heap.size w11 wz) => keptN_c wz (some ⟨w2.heap.size, 0, none⟩) B nb (nb + 2) cb ys (s2'.below hz) ((Sl.of_own hY).below hz) (Nat.le_refl _) (by unfold maxLen; omega))
  have HNS := Lib.hid (fun (wz : World) (hz : Below w11.heap.size w11 wz) => nats_n (r4.below hz).own (r5.below hz).own (Below.refl _ _))
  have HCZ := Lib.hid (fun (wz : World) (hz : Below w11.heap.size w11 wz) => cmp_n (num_own (r6.below hz).own) (hA11.below hz) (r := 0) (cmpN_eq a))
  have HCM := Lib.hid (fun (wz : World) (hz : Below w11.heap.size w11 wz) => cmp_n (num_own (r7.below hz).own) (hA11.below hz) (r := 0) (cmpN_eq a))
  have HCU := Lib.hid (fun (wz : World) (hz : Below w11.heap.size w11 wz) => cmp_n (num_own (r9.below hz).own) (hA11.below hz) (r := 0) (cmpN_eq a))
  have HCV := Lib.hid (fun (wz : World) (hz : Below w11.heap.size w11 wz) => cmp_n (num_own (r10.below hz).own) (hA11.below hz) (r := 0) (cmpN_eq a))
  have HCQ := Lib.hid (fun (wz : World) (hz : Below w11.heap.size w11 wz) => cmp_n (num_own (r11.below hz).own) (hA11.below hz) (r := 0) (cmpN_eq a))
  have R := Lib.hid (⟨r4, r5, r6, r7, r8, r9, r10, r11⟩ : _ ∧ _ ∧ _ ∧ _ ∧ _ ∧ _ ∧ _ ∧ _)
  have XY := Lib.hid (⟨hX, hY, bw⟩ : _ ∧ _ ∧ _)
  clear nX nY lb s1 s2 hX3 hY3 hX hY hA11 hB11 s1' s2' bw HOV b1 b2 b3 x2 y3 s12 s23 r4 o4 h4 d4 z4 r5 o5 h5 d5 z5 r6 o6 h6 d6 z6 r7 o7 h7 d7 z7 r8 o8 h8 d8 z8 r9 o9 h9 d9 z9 r10 o10 h10 d10 z10 r11 o11 h11 d11 z11 e6 e8 d6' d8'
  have q11 := Below.refl w11.heap.size w11
  go_wp2_with fail
  refine (HKX.out w11 q11).mono ?_
  rintro e w12 ⟨rfl, h12⟩
  have q12 := q11.trans (h12.mono q11.size)
  clear h12 HKX
  go_wp2_with fail
  refine (HKY.out w12 q12).mono ?_
  rintro e w13 ⟨rfl, h13⟩
  have q13 := q12.trans (h13.mono q12.size)
  clear h13 HKY
  go_wp2_with fail
  refine (HNS.out w13 q13).mono ?_
  rintro e w14 ⟨rfl, h14⟩
  have q14 := q13.trans (h14.mono q13.size)
  clear h14 HNS
  go_wp2_with fail
  refine (HCZ.out w14 q14).mono ?_
  rintro e w15 ⟨rfl, h15⟩
  have q15 := q14.trans (h15.mono q14.size)
  clear h15 HCZ
  go_wp2_with fail
  refine (HCM.out w15 q15).mono ?_
  rintro e w16 ⟨rfl, h16⟩
  have q16 := q15.trans (h16.mono q15.size)
  clear h16 HCM
  go_wp2_with fail
  refine (HCU.out w16 q16).mono ?_
  rintro e w17 ⟨rfl, h17⟩
  have q17 := q16.trans (h17.mono q16.size)
  clear h17 HCU
  go_wp2_with fail
  refine (HCV.out w17 q17).mono ?_
  rintro e w18 ⟨rfl, h18⟩
  have q18 := q17.trans (h18.mono q17.size)
  clear h18 HCV
  go_wp2_with fail
  refine (HCQ.out w18 q18).mono ?_
  rintro e w19 ⟨rfl, h19⟩
  have q19 := q18.trans (h19.mono q18.size)
  clear h19 HCQ
  obtain ⟨r4, r5, r6, r7, r8, r9, r10, r11⟩ := R.out
  obtain ⟨hX, hY, bw⟩ := XY.out
  have HCP := Lib.hid (copyN_c w19 A5 _ c5 _ (r5.below q19).sl (words_one _) (by omega))
  clear r4 r5 r6 r7 r8 r9 r10 r11 hX hY bw
  go_wp2_with fail
  refine (HCP.out).mono ?_
  rintro e w20 ⟨C20, c20, rfl, o20, h20⟩
  have q20 := q19.trans (h20.mono q19.size)
  have S20 := Lib.hid (⟨q19.size, h20.size⟩ : w11.heap.size ≤ w19.heap.size ∧ w19.heap.size ≤ w20.heap.size)
  have hX20 := own_below XY.out.1 q20
  have HST := Lib.hid (fun (wr : World) (hk : Keeps (fun b => b = w1.heap.size) w20 wr) => by
    obtain ⟨r4, r5, r6, r7, r8, r9, r10, r11⟩ := R.out
    obtain ⟨hX, hY, bw⟩ := XY.out
    obtain ⟨y1, y2, y3, y4, y5, y6, y7, y8, y9, y10, y11, y12⟩ := Z.out
    obtain ⟨y13, y14⟩ := S20.out
    exact (⟨(r4.below q20).keeps hk (fun b h h1 h2 => by (try simp only [World.size_alloc] at h1); have h : b = w1.heap.size := h; omega), (r5.below q20).keeps hk (fun b h h1 h2 => by (try simp only [World.size_alloc] at h1); have h : b = w1.heap.size := h; omega), (r6.below q20).keeps hk (fun b h h1 h2 => by (try simp only [World.size_alloc] at h1); have h : b = w1.heap.size := h; omega), (r7.below q20).keeps hk (fun b h h1 h2 => by (try simp only [World.size_alloc] at h1); have h : b = w1.heap.size := h; omega), (r8.below q20).keeps hk (fun b h h1 h2 => by (try simp only [World.size_alloc] at h1); have h : b = w1.heap.size := h; omega), (r9.below q20).keeps hk (fun b h h1 h2 => by (try simp only [World.size_alloc] at h1); have h : b = w1.heap.size := h; omega), (r10.below q20).keeps hk (fun b h h1 h2 => by (try simp only [World.size_alloc] at h1); have h : b = w1.heap.size := h; omega), (r11.below q20).keeps hk (fun b h h1 h2 => by (try simp only [World.size_alloc] at h1); have h : b = w1.heap.size := h; omega), (RowN.of o20).keeps hk (fun b h h1 h2 => by have h : b = w1.heap.size := h; omega),
      own_keeps (own_below hY q20) hk (fun b hb h => by have h : b = w1.heap.size := h; simp [Value.ownBlock] at hb; omega),
      (bw.trans (q20.mono bw.size)).trans (hk.below (by have := bw.size; have := q20.size; omega) (fun b h => by have h : b = w1.heap.size := h; omega))⟩ : _ ∧ _ ∧ _ ∧ _ ∧ _ ∧ _ ∧ _ ∧ _ ∧ _ ∧ _ ∧ _))
  clear HCP o20 h20 q12 q13 q14 q15 q16 q17 q18 q19 q11
  go_wp2_with fail
  go_loopw [19] (fun iv wr => ∃ (j : Nat) (Z : List Nat), j ≤ na ∧ iv = .int .i64 (j : Int) ∧ wr.ownsRow w1.heap.size 37 1 (.slice (some ⟨w1.heap.size, 0, none⟩) (na + 2) (na + 2)) (na + 2) (Z.map wv) ∧ Hid (OkB W32 Z) ∧ Hid (Keeps (fun b => b = w1.heap.size) w20 wr)) (fun iv _ => na - (intOf iv).toNat)
  case atStart => exact ⟨0, xs ++ [7001, 7002], Nat.zero_le _, rfl, own_base (by simpa [wv] using hX20) (by have := Z.out; omega), Lib.hid (fun x hx => by rcases List.mem_append.1 hx with h | h; exact o1 x h; simp at h; unfold W32; omega), Lib.hid (Keeps.refl _ _)⟩
  case round =>
    obtain ⟨j, Y, hj, rfl, hown, hok, hk⟩ := hrel
    clear hX20 q20
    by_cases hlt : j < na
    · have hYl : Y.length = na + 2 := by simpa using (Sl.of_own hown).1
      obtain ⟨z, hz⟩ : ∃ z, Y[j]? = some z := ⟨_, List.getElem?_eq_getElem (by omega)⟩
      have hzl : z < W32 := hok.out z (List.mem_of_getElem? hz)
      have hzl' : z < 4294967296 := hzl
      have hcell : wr.cell? ⟨w1.heap.size, j, none⟩ = some (.int .u32 (z : Int)) := by rw [hown.cellAt j (by omega), List.getElem?_map, hz]; rfl
      have hfr := hown.frozenAt j
      have hst := (hown.stored j (wv ((z + 12345) % W32))).1
      rw [← List.map_set] at hst
      have hk2 := Keeps.of_setCell wr ⟨w1.heap.size, j, none⟩ (wv ((z + 12345) % W32))
      have HK := Lib.hid (hk.out.trans hk2 (fun _ _ h => h))
      have HOK : Hid (OkB W32 (Y.set j ((z + 12345) % W32))) := Lib.hid (fun x hx => by
        rcases List.mem_or_eq_of_mem_set hx with h | h
        · exact hok.out x h
        · rw [h]; exact Nat.mod_lt _ (by decide))
      have hu : wv ((z + 12345) % W32) = .int .u32 (((z : Int) + 12345) % 4294967296) := by unfold wv W32; simp
      rw [hu] at hst HK
      clear hYl hz hzl hown hk hk2 hok HST Z hu
      go_wp2_with fail
      exact ⟨⟨j + 1, _, by omega, by go_num, hst, HOK, HK⟩, by simp [intOf]; omega⟩
    · have hjn : Hid (j = na) := Lib.hid (by omega)
      obtain ⟨r4, r5, r6, r7, r8, r9, r10, r11, r20, hY, bw⟩ := HST.out wr hk.out
      have hYl : Y.length = na + 2 := by simpa using (Sl.of_own hown).1
      obtain ⟨xs2, hx2⟩ : ∃ xs2, Y.take na = xs2 := ⟨_, rfl⟩
      have hlx2 : xs2.length = na := by rw [← hx2, List.length_take]; omega
      have hY2 : Y.map wv = xs2.map wv ++ (Y.drop na).map wv := by rw [← hx2, ← List.map_append, List.take_append_drop]
      have ho2 : OkB W32 xs2 := fun x hx => hok.out x (by rw [← hx2] at hx; exact List.mem_of_mem_take hx)
      rw [hY2] at hown
      have hsx := sl_take' (Sl.of_own hown) (n := na) (by simpa using hlx2)
      have HCP := Lib.hid (copyN_c wr (some ⟨w1.heap.size, 0, none⟩) na (na + 2) (xs2.map wv) hsx (words_one _) (by omega))
      have S20r := Lib.hid hk.out.size
      have HO2 := Lib.hid ho2
      have HLX2 := Lib.hid hlx2
      clear hYl hx2 hY2 hlx2 ho2 hok hk HST
      go_wp2_with fail
      refine (HCP.out).mono ?_
      rintro e w22 ⟨C22, c22, rfl, o22, h22⟩
      have hX22 := own_below hown h22
      have nX : Num w22 (some ⟨w1.heap.size, 0, none⟩) na (na + 2) (val xs2) := num_row (Sl.of_own hX22) HLX2.out HO2.out (by omega) (by unfold maxLen; omega)
      obtain ⟨_, _, hv22, g1, g2⟩ := own_slice o22
      injection hv22 with hCe _ hce
      subst hCe hce
      have nW : Num w22 C22 na c22 (val xs2) := ⟨xs2, g1, g2, Sl.of_own o22, HO2.out, rfl⟩
      have bw22 := bw.trans (h22.mono bw.size)
      have hA22 := hA.below bw22
      have s2' := HSB.out.below bw22
      have r4 := r4.below h22
      have r5 := r5.below h22
      have r6 := r6.below h22
      have r7 := r7.below h22
      have r8 := r8.below h22
      have r9 := r9.below h22
      have r10 := r10.below h22
      have r11 := r11.below h22
      have r20 := r20.below h22
      have hY22 := own_below hY h22
      have S22 := Lib.hid h22.size
      have RW := Lib.hid (RowN.of o22)
      have HNS := Lib.hid (nats_n r4.own r20.own (Below.refl _ _))
      have HCZ := Lib.hid (fun (wz : World) (hz : Below w22.heap.size w22 wz) => cmp_n (num_own (r6.below hz).own) (hA22.below hz) (r := 0) (cmpN_eq a))
      have HAD := Lib.hid (fun (wz : World) (hz : Below w22.heap.size w22 wz) => add_n (nX.below hz) (Num.nil _) (by omega) (by omega) (r := val xs2) rfl)
      have HNW := Lib.hid (fun (wz : World) (hz : Below w22.heap.size w22 wz) => nW.below hz)
      have R2 := Lib.hid (⟨r4, r5, r6, r7, r8, r9, r10, r11⟩ : _ ∧ _ ∧ _ ∧ _ ∧ _ ∧ _ ∧ _ ∧ _)
      have XY2 := Lib.hid (⟨hX22, hY22, bw22⟩ : _ ∧ _ ∧ _)
      clear r4 r5 r6 r7 r8 r9 r10 r11 r20 nX nW hown hX22 hY22 bw22 hY bw o22 h22 HCP hA22 hsx g1 g2
      go_wp2_with fail
      refine (HNS.out).mono ?_
      rintro e w23 ⟨rfl, q23⟩
      go_wp2_with fail
      refine (HCZ.out w23 q23).mono ?_
      rintro e w24 ⟨rfl, h24⟩
      have q24 := q23.trans (h24.mono q23.size)
      clear h24 HNS HCZ
      go_wp2_with fail
      refine (HAD.out w24 q24).mono ?_
      rintro e w25 ⟨A25, c25, rfl, n25, _, h25⟩
      have q25 := q24.trans (h25.mono q24.size)
      have HCW := Lib.hid (cmp_n n25 (HNW.out w25 q25) (r := 0) (cmpN_eq _))
      clear h25 n25 HAD
      go_wp2_with fail
      refine (HCW.out).mono ?_
      rintro e w26 ⟨rfl, h26⟩
      have q26 := q25.trans (h26.mono q25.size)
      clear h26 HCW q23 q24 q25
      have ea : Below w26.heap.size w26 (w26.alloc (.cells #[.slice A4 (limbs (a + b)).length c4, .slice A5 (limbs (a + b)).length c5, .slice A6 (limbs (a)).length c6, .slice A7 (limbs (a)).length c7, .slice A8 (limbs (a * b)).length c8, .slice A9 (limbs (a)).length c9, .slice A10 (limbs (a)).length c10, .slice A11 (limbs (a)).length c11] 23)) := (Below.refl _ _).alloc (Nat.le_refl _) _
      have hlit := World.ownsRow_lit (base := w26.heap.size) (e := 23) (size := 1) w26 #[.slice A4 (limbs (a + b)).length c4, .slice A5 (limbs (a + b)).length c5, .slice A6 (limbs (a)).length c6, .slice A7 (limbs (a)).length c7, .slice A8 (limbs (a * b)).length c8, .slice A9 (limbs (a)).length c9, .slice A10 (limbs (a)).length c10, .slice A11 (limbs (a)).length c11] 8 (Nat.le_refl _) (by decide) rfl
      obtain ⟨wa, hwa⟩ : ∃ wa, w26.alloc (.cells #[.slice A4 (limbs (a + b)).length c4, .slice A5 (limbs (a + b)).length c5, .slice A6 (limbs (a)).length c6, .slice A7 (limbs (a)).length c7, .slice A8 (limbs (a * b)).length c8, .slice A9 (limbs (a)).length c9, .slice A10 (limbs (a)).length c10, .slice A11 (limbs (a)).length c11] 23) = wa := ⟨_, rfl⟩
      have HWA := Lib.hid hwa
      rw [hwa] at ea hlit
      have qa := q26.trans (ea.mono q26.size)
      obtain ⟨r4, r5, r6, r7, r8, r9, r10, r11⟩ := R2.out
      obtain ⟨hX22, hY22, bw22⟩ := XY2.out
      obtain ⟨y1, y2, y3, y4, y5, y6, y7, y8, y9, y10, y11, y12⟩ := Z.out
      obtain ⟨y13, y14⟩ := S20.out
      have y15 := S20r.out
      have y16 := S22.out
      have y17 := q26.size
      have y18 := bw22.size
      have r4 := r4.below qa
      have r5 := r5.below qa
      have r6 := r6.below qa
      have r7 := r7.below qa
      have r8 := r8.below qa
      have r9 := r9.below qa
      have r10 := r10.below qa
      have r11 := r11.below qa
      have hrg : RangedN wa w3.heap.size [(Value.slice A4 (limbs (a + b)).length c4, u32s (limbs (a + b))), (Value.slice A5 (limbs (a + b)).length c5, u32s (limbs (a + b))), (Value.slice A6 (limbs (a)).length c6, u32s (limbs (a))), (Value.slice A7 (limbs (a)).length c7, u32s (limbs (a))), (Value.slice A8 (limbs (a * b)).length c8, u32s (limbs (a * b))), (Value.slice A9 (limbs (a)).length c9, u32s (limbs (a))), (Value.slice A10 (limbs (a)).length c10, u32s (limbs (a))), (Value.slice A11 (limbs (a)).length c11, u32s (limbs (a)))] :=
        .cons (by (try simp only [World.size_alloc]); omega) (by (try simp only [World.size_alloc]); omega) (u32_row r4) (by simp [u32s]) (Nat.le_refl _) (.cons (by (try simp only [World.size_alloc]); omega) (by (try simp only [World.size_alloc]); omega) (u32_row r5) (by simp [u32s]) (Nat.le_refl _) (.cons (by (try simp only [World.size_alloc]); omega) (by (try simp only [World.size_alloc]); omega) (u32_row r6) (by simp [u32s]) (Nat.le_refl _) (.cons (by (try simp only [World.size_alloc]); omega) (by (try simp only [World.size_alloc]); omega) (u32_row r7) (by simp [u32s]) (Nat.le_refl _) (.cons (by (try simp only [World.size_alloc]); omega) (by (try simp only [World.size_alloc]); omega) (u32_row r8) (by simp [u32s]) (Nat.le_refl _) (.cons (by (try simp only [World.size_alloc]); omega) (by (try simp only [World.size_alloc]); omega) (u32_row r9) (by simp [u32s]) (Nat.le_refl _) (.cons (by (try simp only [World.size_alloc]); omega) (by (try simp only [World.size_alloc]); omega) (u32_row r10) (by simp [u32s]) (Nat.le_refl _) (.cons (by (try simp only [World.size_alloc]); omega) (by (try simp only [World.size_alloc]); omega) (u32_row r11) (by simp [u32s]) (Nat.le_refl _) (.nil _ _))))))))
      have hin : ∀ bk, ApartN.Foot [(Value.slice A4 (limbs (a + b)).length c4, u32s (limbs (a + b))), (Value.slice A5 (limbs (a + b)).length c5, u32s (limbs (a + b))), (Value.slice A6 (limbs (a)).length c6, u32s (limbs (a))), (Value.slice A7 (limbs (a)).length c7, u32s (limbs (a))), (Value.slice A8 (limbs (a * b)).length c8, u32s (limbs (a * b))), (Value.slice A9 (limbs (a)).length c9, u32s (limbs (a))), (Value.slice A10 (limbs (a)).length c10, u32s (limbs (a))), (Value.slice A11 (limbs (a)).length c11, u32s (limbs (a)))] bk → w3.heap.size ≤ bk ∧ bk < w11.heap.size := by
        rintro bk ⟨p, hp, hg⟩
        simp only [List.mem_cons, List.not_mem_nil, or_false] at hp
        rcases hp with rfl | rfl | rfl | rfl | rfl | rfl | rfl | rfl
        · have h1 := (r4.own.lt bk hg).1; have h2 := r4.hi bk hg; (try simp only [World.size_alloc] at h1); omega
        · have h1 := (r5.own.lt bk hg).1; have h2 := r5.hi bk hg; (try simp only [World.size_alloc] at h1); omega
        · have h1 := (r6.own.lt bk hg).1; have h2 := r6.hi bk hg; (try simp only [World.size_alloc] at h1); omega
        · have h1 := (r7.own.lt bk hg).1; have h2 := r7.hi bk hg; (try simp only [World.size_alloc] at h1); omega
        · have h1 := (r8.own.lt bk hg).1; have h2 := r8.hi bk hg; (try simp only [World.size_alloc] at h1); omega
        · have h1 := (r9.own.lt bk hg).1; have h2 := r9.hi bk hg; (try simp only [World.size_alloc] at h1); omega
        · have h1 := (r10.own.lt bk hg).1; have h2 := r10.hi bk hg; (try simp only [World.size_alloc] at h1); omega
        · have h1 := (r11.own.lt bk hg).1; have h2 := r11.hi bk hg; (try simp only [World.size_alloc] at h1); omega
      have HAP := Lib.hid (apartN_r wa (some ⟨w26.heap.size, 0, none⟩) 8 8 _ w3.heap.size (Sl.of_own hlit) hrg (fun ad had hf => by
          cases had
          have := hin _ hf
          simp only at this
          omega) (by decide) (fun p hp => by
          simp only [List.mem_cons, List.not_mem_nil, or_false] at hp
          rcases hp with rfl | rfl | rfl | rfl | rfl | rfl | rfl | rfl <;> simp only [u32s, List.length_map] <;> omega))
      have HIN := Lib.hid hin
      have hXa := own_below hX22 qa
      have hYa := own_below hY22 qa
      have rWa := (RW.out).below qa
      have bwa := bw22.trans (qa.mono bw22.size)
      have HXW := Lib.hid (fun (wz : World) (hk : Keeps (ApartN.Foot [(Value.slice A4 (limbs (a + b)).length c4, u32s (limbs (a + b))), (Value.slice A5 (limbs (a + b)).length c5, u32s (limbs (a + b))), (Value.slice A6 (limbs (a)).length c6, u32s (limbs (a))), (Value.slice A7 (limbs (a)).length c7, u32s (limbs (a))), (Value.slice A8 (limbs (a * b)).length c8, u32s (limbs (a * b))), (Value.slice A9 (limbs (a)).length c9, u32s (limbs (a))), (Value.slice A10 (limbs (a)).length c10, u32s (limbs (a))), (Value.slice A11 (limbs (a)).length c11, u32s (limbs (a)))]) wa wz) => by
        have hX := own_keeps hXa hk (fun b hb h => by have h := HIN.out b h; have hb : w1.heap.size = b := by simpa [Value.ownBlock] using hb
                                                      omega)
        have hW := rWa.keeps hk (fun b h h1 h2 => by have h := HIN.out b h; omega)
        have hY := own_keeps hYa hk (fun b hb h => by have h := HIN.out b h; have hb : w2.heap.size = b := by simpa [Value.ownBlock] using hb
                                                      omega)
        have hb := bwa.trans (hk.below (B := w.heap.size) bwa.size (fun b h => by have h := HIN.out b h; omega))
        exact (⟨sl_take' (Sl.of_own hX) (n := na) (by simpa using HLX2.out), hW.sl, hY, hb⟩ : _ ∧ _ ∧ _ ∧ _))
      clear r4 r5 r6 r7 r8 r9 r10 r11 hX22 hY22 bw22 y1 y2 y3 y4 y5 y6 y7 y8 y9 y10 y11 y12 y13 y14 y15 y16 y17 y18 hrg hin hXa hYa rWa bwa hlit ea qa q26 hwa Z S20 S20r S22 R2 XY2 RW R XY
      go_wp2_with fail
      rw [HWA.out]
      refine (HAP.out).mono ?_
      rintro e w28 ⟨rfl, hk28⟩
      obtain ⟨hX28, hW28, hY28, hb28⟩ := HXW.out w28 hk28
      have hN28 := nats_b w28 (some ⟨w1.heap.size, 0, none⟩) C22 na na (na + 2) c22 xs2 xs2 hX28 hW28 (by unfold maxLen; omega)
      rw [decide_eq_true rfl] at hN28
      have HN28 := Lib.hid hN28
      have HB28 := Lib.hid hb28
      have HY28 := Lib.hid hY28
      clear hk28 HXW hX28 hW28 hY28 hN28 hb28 HAP HWA HIN s2'
      go_wp2_with fail
      refine (HN28.out).mono ?_
      rintro e w29 ⟨rfl, h29⟩
      have b29 := HB28.out.trans (h29.mono HB28.out.size)
      have HKY := Lib.hid (keptN_c w29 (some ⟨w2.heap.size, 0, none⟩) B nb (nb + 2) cb ys (HSB.out.below b29) ((Sl.of_own HY28.out).below h29) (Nat.le_refl _) (by unfold maxLen; omega))
      have HB29 := Lib.hid b29
      clear h29 b29
      go_wp2_with fail
      refine (HKY.out).mono ?_
      rintro e w30 ⟨rfl, h30⟩
      have HB30 := Lib.hid (HB29.out.trans (h30.mono HB29.out.size))
      clear h30
      go_wp2_with fail
      go_ret
      exact ⟨rfl, HB30.out⟩

theorem natKeeps_c (w : World) (E : Nat → Addr) (hE : Errs w E) {A B : Option Addr} {na ca nb cb a b : Nat} (hA : Num w A na ca a) (hB : Num w B nb cb b) :
    Calls Tryd.prog 5 #[.slice A na ca, .slice B nb cb] w fun e w' => e = .returned (.bool true) ∧ Below w.heap.size w w' := by
  by_cases h1 : 60 < na
  · exact natKeeps_long w E hE (.inl h1)
  · by_cases h2 : 60 < nb
    · exact natKeeps_long w E hE (.inr ⟨by omega, h2⟩)
    · exact natKeeps_main w E hE hA hB (by omega) (by omega)
end Go.Proofs.YtgknhmghljedlaaDoor
