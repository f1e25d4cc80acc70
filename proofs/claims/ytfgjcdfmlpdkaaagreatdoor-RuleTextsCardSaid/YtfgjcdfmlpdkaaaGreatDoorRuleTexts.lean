/- The call of RuleTexts: it returns true. Condition: the table reads from memory; the error variables hold what E says. -/
import Derived.Test.YtfgjcdfmlpdkaaaGreatDoorTextA
import Derived.Test.YtfgjcdfmlpdkaaaGreatDoorParseA
import Derived.Test.YtfgjcdfmlpdkaaaGreatDoorLaw4A
import Derived.Test.YtfgjcdfmlpdkaaaGreatDoorRawErr
namespace Go.Proofs.YtfgjcdfmlpdkaaaGreatDoor
open Go.RowKit RuleP NatP

theorem valB_digT {k : Nat} (hk : 1 ≤ k) : ∀ n v, v < k ^ n → valB k (digN k n v) = v
  | 0, v, h => by simp [digN, valB] at *; omega
  | n + 1, v, h => by
    have h2 : v / k < k ^ n := Nat.div_lt_of_lt_mul (by rw [Nat.mul_comm, ← Nat.pow_succ]; exact h)
    simp only [digN, valB]
    rw [valB_digT hk n (v / k) h2]
    exact Nat.mod_add_div v k
theorem byte_of {b : UInt8} {n : Nat} (h : b.toNat = n) : b = UInt8.ofNat n := by
  rw [← h]
  simp
/-- What Text writes is read as the rule. -/
theorem text_parseT {k r : Nat} {t : List Nat} (h : IsRule k r t) (hs : t.length ≤ 256) : parseT (textR k r t) = .ok (k, r, t) := by
  have h1 := h.k1
  have h4 := h.k4
  have h3 := h.r3
  have hX := text_len h hs
  obtain ⟨d1, d2⟩ := digN_val h1 h.sym
  have hk : (UInt8.ofNat (48 + k)).toNat = 48 + k := by simp [UInt8.toNat_ofNat]; omega
  have hr : (UInt8.ofNat (48 + r)).toNat = 48 + r := by simp [UInt8.toNat_ofNat]; omega
  obtain ⟨X, hXX⟩ : ∃ X, textB (valB k t) = X := ⟨_, rfl⟩
  have e : textR k r t = UInt8.ofNat (48 + k) :: 46 :: UInt8.ofNat (48 + r) :: 46 :: X := by unfold textR; rw [hXX]; rfl
  rw [e]
  have o0 : okAt (UInt8.ofNat (48 + k) :: 46 :: UInt8.ofNat (48 + r) :: 46 :: X) 0 49 52 = true := by rw [okAt_set (b := UInt8.ofNat (48 + k)) rfl]; exact decide_eq_true (by omega)
  have o1 : okAt (UInt8.ofNat (48 + k) :: 46 :: UInt8.ofNat (48 + r) :: 46 :: X) 1 46 46 = true := by rw [okAt_set (b := 46) rfl]; decide
  have o2 : okAt (UInt8.ofNat (48 + k) :: 46 :: UInt8.ofNat (48 + r) :: 46 :: X) 2 48 51 = true := by rw [okAt_set (b := UInt8.ofNat (48 + r)) rfl]; exact decide_eq_true (by omega)
  have o3 : okAt (UInt8.ofNat (48 + k) :: 46 :: UInt8.ofNat (48 + r) :: 46 :: X) 3 46 46 = true := by rw [okAt_set (b := 46) rfl]; decide
  have hN : headN (UInt8.ofNat (48 + k) :: 46 :: UInt8.ofNat (48 + r) :: 46 :: X) = 4 := by
    unfold headN
    rw [if_neg (by rw [o0]; decide), if_neg (by rw [o1]; decide), if_neg (by rw [o2]; decide), if_neg (by rw [o3]; decide)]
  have hK : headK (UInt8.ofNat (48 + k) :: 46 :: UInt8.ofNat (48 + r) :: 46 :: X) = k := by show (UInt8.ofNat (48 + k)).toNat - 48 = k; omega
  have hR : headR (UInt8.ofNat (48 + k) :: 46 :: UInt8.ofNat (48 + r) :: 46 :: X) = r := by show (UInt8.ofNat (48 + r)).toNat - 48 = r; omega
  rw [hXX] at hX
  have hlen : (UInt8.ofNat (48 + k) :: 46 :: UInt8.ofNat (48 + r) :: 46 :: X).length = X.length + 4 := by simp
  unfold parseT
  rw [if_neg (by omega), hN, if_neg (by decide), hK, hR, ← h.len, if_neg (by omega)]
  have hd : (UInt8.ofNat (48 + k) :: 46 :: UInt8.ofNat (48 + r) :: 46 :: X).drop 4 = X := rfl
  rw [hd, ← hXX, parse_text (by rw [hXX]; omega)]
  simp only
  rw [if_neg (by rw [Nat.div_eq_of_lt d2]; exact Nat.lt_irrefl _), d1]
/-- What is read is written again. -/
theorem parse_textR {l : List UInt8} {p : Nat × Nat × List Nat} (h : parseT l = .ok p) : IsRule p.1 p.2.1 p.2.2 ∧ p.2.2.length ≤ 256 ∧ textR p.1 p.2.1 p.2.2 = l := by
  unfold parseT at h
  split at h
  · cases h
  split at h
  · cases h
  rename_i hh
  split at h
  · cases h
  rename_i hs
  split at h
  · cases h
  · rename_i v hp
    split at h
    · cases h
    · rename_i hv
      injection h with h
      subst h
      obtain ⟨h4, ⟨b0, e0, t0⟩, ⟨b2, e2, t2⟩, k1, k4, r3, o1, o3⟩ := head_four hh
      have hv0 : v / headK l ^ headK l ^ (2 * headR l + 1) = 0 := Nat.eq_zero_of_not_pos hv
      have hvl : v < headK l ^ headK l ^ (2 * headR l + 1) := by
        rcases Nat.lt_or_ge v (headK l ^ headK l ^ (2 * headR l + 1)) with h | h
        · exact h
        · have := Nat.div_pos h (Nat.pow_pos (by omega)); omega
      refine ⟨⟨k1, k4, r3, digN_len _ _ _, digN_sym (by omega) _ _⟩, by rw [digN_len]; omega, ?_⟩
      show headT (headK l) (headR l) ++ textB (valB (headK l) (digN (headK l) (headK l ^ (2 * headR l + 1)) v)) = l
      rw [valB_digT k1 _ _ hvl, text_parse hp]
      obtain ⟨b1, e1, l1, u1⟩ := okAt_some o1
      obtain ⟨b3, e3, l3, u3⟩ := okAt_some o3
      have hl : l.take 4 = headT (headK l) (headR l) := by
        have f0 := byte_of t0
        have f1 : b1 = 46 := byte_of (show b1.toNat = 46 by omega)
        have f2 := byte_of t2
        have f3 : b3 = 46 := byte_of (show b3.toNat = 46 by omega)
        have e : l.take 4 = [b0, b1, b2, b3] := by
          rw [show (4 : Nat) = 0 + 1 + 1 + 1 + 1 from rfl, List.take_add_one, List.take_add_one, List.take_add_one, List.take_add_one]
          simp only [Nat.zero_add, Nat.reduceAdd, e0, e1, e2, e3, List.take_zero, List.nil_append, Option.toList_some, List.cons_append]
        rw [e, f0, f1, f2, f3]
        rfl
      conv => rhs; rw [← List.take_append_drop 4 l, hl]
theorem parseT_ok (l : List UInt8) : TaleOk (wantOf (parseT l)) := by
  intro x h
  unfold parseT at h
  split at h
  · cases h; exact ⟨by simp, by simp⟩
  split at h
  · cases h; exact ⟨by simp, by simp⟩
  split at h
  · cases h; exact ⟨by simp, by simp⟩
  split at h
  · rename_i p hp
    cases h
    exact pTale_ok (l.drop 4) (p.2, [(sNat, (p.1 : Int))]) (pTale_err (i := p.1) (n := p.2) hp)
  · split at h
    · cases h; exact ⟨by simp, by simp⟩
    · cases h

theorem ruleText_u (w : World) (E : Nat → Addr) (hE : Errs w E) (K R : Int) (A : Option Addr) (n c : Nat) (T : List Int) (hT : Sl w A n (T.map (Value.int .i64))) (hm : n ≤ 9223372036854775807) :
    Calls Tryz.prog 5 #[ruleV K R A n c] w fun e w' => ∃ v, e = .returned (.tuple #[.string ⟨(textU K R T).toArray⟩, v]) ∧ ErrV w' E (small K R T) v ∧ Below w.heap.size w w' := by
  cases h : small K R T with
  | some t =>
    refine (ruleText_bad w E hE K R A n c T hT hm t h).mono ?_
    rintro e w' ⟨v, rfl, he, hb⟩
    exact ⟨v, by rw [textU_bad h], he, hb⟩
  | none =>
    obtain ⟨k, r, t, rfl, rfl, rfl, hr, hs⟩ := small_none h
    refine (ruleText_good w E hE k r A n c t hr hs hT).mono ?_
    rintro e w' ⟨rfl, hb⟩
    exact ⟨.nilIface, by rw [textU_good h], rfl, hb⟩
theorem ruleParse_u (w : World) (E : Nat → Addr) (hE : Errs w E) (l : List UInt8) :
    Calls Tryz.prog 7 #[.string ⟨l.toArray⟩] w fun e w' => ∃ C cc v, e = .returned (.tuple #[ruleV (parseV l).1 (parseV l).2.1 C (parseV l).2.2.length cc, v]) ∧ Sl w' C (parseV l).2.2.length ((ints (parseV l).2.2).map (Value.int .i64)) ∧ ErrV w' E (wantOf (parseT l)) v ∧ Below w.heap.size w w' := by
  refine (ruleParse_c w E hE l).mono ?_
  intro e w' h
  unfold ParseRule at h
  cases hp : parseT l with
  | error t =>
    rw [hp] at h
    obtain ⟨v, rfl, he, hb⟩ := h
    rw [parseV_err hp]
    exact ⟨none, 0, v, rfl, Sl.nil _ _, he, hb⟩
  | ok t =>
    rw [hp] at h
    obtain ⟨C, cc, rfl, ho, hb⟩ := h
    rw [parseV_ok hp]
    exact ⟨C, cc, .nilIface, rfl, Sl.of_own ho, rfl, hb⟩
theorem parseV_len (l : List UInt8) : (parseV l).2.2.length ≤ 256 := by
  cases hp : parseT l with
  | error t => rw [parseV_err hp]; simp
  | ok t => rw [parseV_ok hp]; exact (parse_textR hp).2.1

set_option maxRecDepth 100000 in
set_option maxHeartbeats 8000000 in
theorem ruleTexts_c (w : World) (E : Nat → Addr) (hE : Errs w E) (hET : ErrT w) (K R : Int) (A : Option Addr) (n c : Nat) (T : List Int) (l : List UInt8) (hT : Sl w A n (T.map (Value.int .i64))) (hm : n ≤ 9223372036854775807) :
    Calls Tryz.prog 3 #[ruleV K R A n c, .string ⟨l.toArray⟩] w fun e w' => e = .returned (.bool true) ∧ Below w.heap.size w w' := by
  have hb0 := (Below.refl w.heap.size w).alloc (Nat.le_refl _) (.cells #[.int .i64 K, .int .i64 R, .slice A n c] 24)
  have HE := Lib.hid (hE.below hb0)
  have hr0 := RuleAt.new w (.int .i64 K) (.int .i64 R) (.slice A n c)
  have HPU := Lib.hid (fun (wz : World) (hz : Below w.heap.size w wz) => ruleParse_u wz E (hE.below hz) l)
  have HPR := Lib.hid (fun (wz : World) => ref4Parse_c wz l)
  obtain ⟨TX, hTX⟩ : ∃ TX, textU K R T = TX := ⟨_, rfl⟩
  obtain ⟨S, hS⟩ : ∃ S : ByteArray, ⟨l.toArray⟩ = S := ⟨_, rfl⟩
  have HTX := Lib.hid hTX
  have HSS := Lib.hid hS
  rw [hS] at HPU HPR ⊢
  clear hTX hS
  unfold ruleV at *
  go_enter Tryz.func3, Tryz.ntmps3
  go_wp2_with fail
  refine (awake4_c _ E HE.out).mono ?_
  rintro e w1 ⟨rfl, b1⟩
  have hr1 := hr0.below b1 (by simp)
  have hb1 := below_box b1
  obtain ⟨r0, r1, r2, _⟩ := hr1.facts
  have htu := ruleText_u w1 E (hE.below hb1) K R A n c T (hT.below hb1) hm
  rw [HTX.out] at htu
  unfold ruleV at htu
  have HTU := Lib.hid htu
  clear b1 htu hb0 hr0
  go_wp2_with fail
  refine (HTU.out).mono ?_
  rintro e w2 ⟨v2, rfl, he2, b2⟩
  have hr2 := hr1.below b2 hr1.lt
  have hb2 := hb1.trans (b2.mono hb1.size)
  obtain ⟨x0, x1, x2, _⟩ := hr2.facts
  have hrt := ref4Text_c w2 K R A n c T (hT.below hb2) hm
  rw [HTX.out] at hrt
  unfold ruleV at hrt
  have HRT := Lib.hid hrt
  clear hrt b2 hb1 hr1 r0 r1 r2
  go_wp2_with fail
  refine (HRT.out).mono ?_
  rintro e w3 ⟨N3, A3, n3, c3, A4, n4, c4, rfl, hu3, b3⟩
  have b34 : Below w3.heap.size w3 (w3.alloc (.cells #[.int .i64 (N3 : Int), .slice A3 n3 c3, .slice A4 n4 c4] 32)) := (Below.refl _ _).alloc (Nat.le_refl _) _
  have he4 := (he2.below b3).below b34
  have hu4 := hu3.below b34
  have hx4 := WantAt.new w3 (.int .i64 (N3 : Int)) (.slice A3 n3 c3) (.slice A4 n4 c4)
  have hr4 := (hr2.below b3 hr2.lt).alloc (.cells #[.int .i64 (N3 : Int), .slice A3 n3 c3, .slice A4 n4 c4] 32)
  have hb3 := hb2.trans (b3.mono hb2.size)
  have hb4 := hb3.trans (b34.mono hb3.size)
  obtain ⟨w4, hw4⟩ : ∃ w4, w3.alloc (.cells #[.int .i64 (N3 : Int), .slice A3 n3 c3, .slice A4 n4 c4] 32) = w4 := ⟨_, rfl⟩
  have HW4 := Lib.hid hw4
  rw [hw4] at he4 hu4 hx4 hr4 hb4
  have z43 : w3.heap.size < w4.heap.size := by rw [← hw4]; simp
  have z3 := hb3.size
  have zr : w.heap.size < w3.heap.size := by have := hr2.lt; have := b3.size; omega
  have HR4 := Lib.hid hr4
  have HX4 := Lib.hid hx4
  have HE4 := Lib.hid he4
  have HU4 := Lib.hid hu4
  have HB4 := Lib.hid hb4
  clear hw4 b34 he2 hu3 b3 hr2 hb2 hb3 he4 hu4 hx4 hr4 hb4 x0 x1 x2
  obtain ⟨PV, hPV⟩ : ∃ PV, parseV l = PV := ⟨_, rfl⟩
  have HPV := Lib.hid hPV
  obtain ⟨PK, PR, PT⟩ := PV
  have HPL := Lib.hid (show PT.length ≤ 256 by have := parseV_len l; rw [hPV] at this; exact this)
  rw [hPV] at HPU
  dsimp only at HPU
  unfold ParseRef4 at HPR
  rw [hPV] at HPR
  dsimp only at HPR
  unfold ruleV at HPR
  obtain ⟨pl, hpl⟩ : ∃ pl, PT.length = pl := ⟨_, rfl⟩
  rw [hpl] at HPU HPR HPL
  have HPLN := Lib.hid hpl
  clear hPV hpl
  go_wp2_with fail
  rw [HW4.out]
  refine (HPU.out w4 HB4.out).mono ?_
  rintro e w5 ⟨C, cc, v5, rfl, hC5, he5, b5⟩
  have b56 : Below w5.heap.size w5 (w5.alloc (.cells #[.int .i64 PK, .int .i64 PR, .slice C pl cc] 24)) := (Below.refl _ _).alloc (Nat.le_refl _) _
  have b46 := b5.trans (b56.mono b5.size)
  have hC6 := hC5.below b56
  have he6 := he5.below b56
  have hp6 := RuleAt.new w5 (.int .i64 PK) (.int .i64 PR) (.slice C pl cc)
  obtain ⟨w6, hw6⟩ : ∃ w6, w5.alloc (.cells #[.int .i64 PK, .int .i64 PR, .slice C pl cc] 24) = w6 := ⟨_, rfl⟩
  have HW6 := Lib.hid hw6
  have z65 : w5.heap.size < w6.heap.size := by rw [← hw6]; simp
  rw [hw6] at b46 hC6 he6 hp6
  have z54 := b5.size
  clear hw6 b56 hC5 he5 b5
  go_wp2_with fail
  rw [HW6.out]
  refine (HPR.out w6).mono ?_
  rintro e w7 ⟨D, dd, N7, A5, n5, c5, A6, n6, c6, rfl, hD7, hu7, b7⟩
  have b78 : Below w7.heap.size w7 (w7.alloc (.cells #[.int .i64 PK, .int .i64 PR, .slice D pl dd] 24)) := (Below.refl _ _).alloc (Nat.le_refl _) _
  have b79 := b78.alloc (by simp) (.cells #[.int .i64 (N7 : Int), .slice A5 n5 c5, .slice A6 n6 c6] 32)
  have hq9 := (RuleAt.new w7 (.int .i64 PK) (.int .i64 PR) (.slice D pl dd)).alloc (.cells #[.int .i64 (N7 : Int), .slice A5 n5 c5, .slice A6 n6 c6] 32)
  have hy9 := WantAt.new (w7.alloc (.cells #[.int .i64 PK, .int .i64 PR, .slice D pl dd] 24)) (.int .i64 (N7 : Int)) (.slice A5 n5 c5) (.slice A6 n6 c6)
  rw [World.size_alloc] at hy9
  have b69 := b7.trans (b79.mono b7.size)
  have b49 := b46.trans (b69.mono b46.size)
  have hC9 := hC6.below b69
  have hD9 := (Sl.of_own hD7).below b79
  have he9 := he6.below b69
  have hp9 := hp6.below b69 hp6.lt
  have hu9 := hu7.below b79
  have z76 := b7.size
  have c47 := b46.trans (b7.mono b46.size)
  obtain ⟨i0, i1, i2, _⟩ := (HR4.out.below c47 HR4.out.lt).facts
  obtain ⟨m0, m1, m2, _⟩ := (HX4.out.below c47 HX4.out.lt).facts
  obtain ⟨n0, n1, n2, _⟩ := (hp6.below b7 hp6.lt).facts
  have z7a : w.heap.size < w7.heap.size := by omega
  have z7b : w3.heap.size < w7.heap.size := by omega
  have z7c : w5.heap.size < w7.heap.size := by omega
  obtain ⟨w9, hw9⟩ : ∃ w9, (w7.alloc (.cells #[.int .i64 PK, .int .i64 PR, .slice D pl dd] 24)).alloc (.cells #[.int .i64 (N7 : Int), .slice A5 n5 c5, .slice A6 n6 c6] 32) = w9 := ⟨_, rfl⟩
  have HW9 := Lib.hid hw9
  have z97 : w7.heap.size < w9.heap.size := by rw [← hw9]; simp; omega
  rw [hw9] at hq9 hy9 b69 b49 hC9 hD9 he9 hp9 hu9
  have hb9 := HB4.out.trans (b49.mono HB4.out.size)
  have hr9 := HR4.out.below b49 HR4.out.lt
  have hx9 := HX4.out.below b49 HX4.out.lt
  have he49 := HE4.out.below b49
  have hu49 := HU4.out.below b49
  have HIS := Lib.hid (fun (wz : World) (hz : Below w9.heap.size w9 wz) (t : Option Tale) (ht : TaleOk t) (v u : Value) (hv : ErrV wz E t v) (hu : WantV wz t u) => rawIs_c wz E (hE.below (hb9.trans (hz.mono hb9.size))) (hET.below (hb9.trans (hz.mono hb9.size))) t ht v u hv hu)
  have HI1 := Lib.hid (HIS.out w9 (Below.refl _ _) _ (small_ok K R T) _ _ he49 hu49.want)
  have HI2 := Lib.hid (fun (wz : World) (hz : Below w9.heap.size w9 wz) => HIS.out wz hz _ (parseT_ok l) _ _ (he9.below hz) (hu9.below hz).want)
  have hRS := fun (wz : World) (hz : Below w9.heap.size w9 wz) => rules_same wz PK PR C D pl cc dd (ints PT) (hC9.below hz) (hD9.below hz) (by have := HPL.out; omega)
  unfold ruleV at hRS
  have HRS := Lib.hid hRS
  have HF := Lib.hid (fun (wz : World) (hz : Below w9.heap.size w9 wz) => (⟨(hr9.below hz hr9.lt).facts, (hx9.below hz hx9.lt).facts, (hp9.below hz hp9.lt).facts, (hq9.below hz hq9.lt).facts, (hy9.below hz hy9.lt).facts⟩ : _ ∧ _ ∧ _ ∧ _ ∧ _))
  obtain ⟨⟨x0, x1, x2, _⟩, ⟨y0, y1, y2, _⟩, ⟨p0, p1, p2, _⟩, ⟨q0, q1, q2, _⟩, ⟨g0, g1, g2, _⟩⟩ := HF.out w9 (Below.refl _ _)
  have HEV1 := Lib.hid he49
  have HEV2 := Lib.hid he9
  have HB9 := Lib.hid hb9
  have HC9 := Lib.hid hC9
  have HT9 := Lib.hid (fun (wz : World) (hz : Below w9.heap.size w9 wz) => hT.below (hb9.trans (hz.mono hb9.size)))
  have HE9 := Lib.hid (fun (wz : World) (hz : Below w9.heap.size w9 wz) => hE.below (hb9.trans (hz.mono hb9.size)))
  have k1 : True := trivial
  clear hw9 c47 b78 b79 b7 b69 b46 b49 hC6 he6 hp6 hu7 hD7 hq9 hy9 hC9 hD9 he9 hp9 hu9 hb9 hr9 hx9 he49 hu49 hRS hT hE hET
  go_wp2_with fail
  rw [HW9.out]
  refine (HI1.out).mono ?_
  rintro e w10 ⟨rfl, b10⟩
  obtain ⟨⟨x0, x1, x2, _⟩, ⟨y0, y1, y2, _⟩, ⟨p0, p1, p2, _⟩, ⟨q0, q1, q2, _⟩, ⟨g0, g1, g2, _⟩⟩ := HF.out w10 b10
  go_wp2_with fail
  refine (HRS.out w10 b10).mono ?_
  rintro e w11 ⟨rfl, b11⟩
  have c11 := b10.trans (b11.mono b10.size)
  obtain ⟨⟨x0, x1, x2, _⟩, ⟨y0, y1, y2, _⟩, ⟨p0, p1, p2, _⟩, ⟨q0, q1, q2, _⟩, ⟨g0, g1, g2, _⟩⟩ := HF.out w11 c11
  go_wp2_with fail
  refine (HI2.out w11 c11).mono ?_
  rintro e w12 ⟨rfl, b12⟩
  have c12 := c11.trans (b12.mono c11.size)
  obtain ⟨⟨x0, x1, x2, _⟩, _, ⟨p0, p1, p2, _⟩, _, _⟩ := HF.out w12 c12
  have HC12 := Lib.hid c12
  have hev1 := HEV1.out
  have hev2 := HEV2.out
  clear b10 b11 c11 b12 c12 y0 y1 y2 q0 q1 q2 g0 g1 g2 HI1 HI2 HIS
  cases hsm : small K R T with
  | some ts =>
    rw [hsm] at hev1
    obtain ⟨u2, q2, rfl⟩ := ErrIs.iface (show ErrIs w9 E ts.1 ts.2 v2 from hev1)
    clear hev1 hsm
    cases hpt : parseT l with
    | error tl =>
      rw [hpt] at hev2
      obtain ⟨u5, q5, rfl⟩ := ErrIs.iface (show ErrIs w9 E tl.1 tl.2 v5 from hev2)
      clear hev2 hpt
      go_wp2_with fail
      go_ret
      exact ⟨rfl, HB9.out.trans (HC12.out.mono HB9.out.size)⟩
    | ok p =>
      rw [hpt] at hev2
      obtain rfl : v5 = .nilIface := hev2
      obtain ⟨hir, his, hit⟩ := parse_textR hpt
      have hpv := HPV.out
      rw [parseV_ok hpt] at hpv
      obtain ⟨hpa, hpb⟩ := Prod.mk.inj hpv
      obtain ⟨hpc, hpd⟩ := Prod.mk.inj hpb
      subst hpa hpc hpd
      have htg := ruleText_good w12 E (HE9.out _ HC12.out) p.1 p.2.1 C pl cc p.2.2 hir his (HC9.out.below HC12.out)
      rw [hit, HSS.out] at htg
      unfold ruleV at htg
      have HTG := Lib.hid htg
      clear htg hpt hir his hit hpb hpv
      go_wp2_with fail
      refine (HTG.out).mono ?_
      rintro e w15 ⟨rfl, b15⟩
      have HC15 := Lib.hid (HC12.out.trans (b15.mono HC12.out.size))
      clear b15
      go_wp2_with fail
      go_ret
      exact ⟨rfl, HB9.out.trans (HC15.out.mono HB9.out.size)⟩
  | none =>
    rw [hsm] at hev1
    obtain rfl : v2 = .nilIface := hev1
    obtain ⟨k, r, t, rfl, rfl, rfl, hr, hs⟩ := small_none hsm
    have htr : TX = textR k r t := by rw [← HTX.out, textU_good hsm]
    have hback := ruleParse_u w12 E (HE9.out w12 HC12.out) TX
    rw [htr, parseV_ok (text_parseT hr hs), text_parseT hr hs, ← htr] at hback
    dsimp only at hback
    unfold ruleV at hback
    have HBK := Lib.hid hback
    have HRR := Lib.hid hr
    have htl : t.length = n := by simpa [ints] using (HT9.out w12 HC12.out).1
    have HTL := Lib.hid htl
    clear hsm hback htr hr htl
    rw [HTL.out] at HBK
    go_wp2_with fail
    refine (HBK.out).mono ?_
    rintro e w13 ⟨F, ff, v13, rfl, hF13, he13, b13⟩
    obtain rfl : v13 = .nilIface := he13
    have b134 : Below w13.heap.size w13 (w13.alloc (.cells #[.int .i64 (k : Int), .int .i64 (r : Int), .slice F n ff] 24)) := (Below.refl _ _).alloc (Nat.le_refl _) _
    have hf14 := RuleAt.new w13 (.int .i64 (k : Int)) (.int .i64 (r : Int)) (.slice F n ff)
    have c13 := HC12.out.trans (b13.mono HC12.out.size)
    have c14 := c13.trans (b134.mono c13.size)
    have hF14 := hF13.below b134
    have z13 := c13.size
    obtain ⟨w14, hw14⟩ : ∃ w14, w13.alloc (.cells #[.int .i64 (k : Int), .int .i64 (r : Int), .slice F n ff] 24) = w14 := ⟨_, rfl⟩
    have HW14 := Lib.hid hw14
    rw [hw14] at hf14 c14 hF14
    have hrs := rules_same w14 (k : Int) (r : Int) F A n ff c (ints t) hF14 (HT9.out w14 c14) hm
    unfold ruleV at hrs
    have HRS2 := Lib.hid hrs
    obtain ⟨f0, f1, f2, _⟩ := hf14.facts
    obtain ⟨⟨j0, j1, j2, _⟩, _⟩ := HF.out w13 c13
    obtain ⟨⟨x0, x1, x2, _⟩, _, ⟨p0, p1, p2, _⟩, _⟩ := HF.out w14 c14
    have zr9 : w.heap.size < w13.heap.size := by omega
    have zp9 : w5.heap.size < w13.heap.size := by omega
    have HC14 := Lib.hid c14
    clear hw14 hf14 c14 hF14 hrs b134 b13 c13 hF13
    go_wp2_with fail
    rw [HW14.out]
    refine (HRS2.out).mono ?_
    rintro e w16 ⟨rfl, b16⟩
    have c16 := HC14.out.trans (b16.mono HC14.out.size)
    obtain ⟨⟨x0, x1, x2, _⟩, _, ⟨p0, p1, p2, _⟩, _⟩ := HF.out w16 c16
    have HC16 := Lib.hid c16
    clear b16 c16 f0 f1 f2 j0 j1 j2
    cases hpt : parseT l with
    | error tl =>
      rw [hpt] at hev2
      obtain ⟨u5, q5, rfl⟩ := ErrIs.iface (show ErrIs w9 E tl.1 tl.2 v5 from hev2)
      clear hev2 hpt
      go_wp2_with fail
      go_ret
      exact ⟨rfl, HB9.out.trans (HC16.out.mono HB9.out.size)⟩
    | ok p =>
      rw [hpt] at hev2
      obtain rfl : v5 = .nilIface := hev2
      obtain ⟨hir, his, hit⟩ := parse_textR hpt
      have hpv := HPV.out
      rw [parseV_ok hpt] at hpv
      obtain ⟨hpa, hpb⟩ := Prod.mk.inj hpv
      obtain ⟨hpc, hpd⟩ := Prod.mk.inj hpb
      subst hpa hpc hpd
      have htg := ruleText_good w16 E (HE9.out _ HC16.out) p.1 p.2.1 C pl cc p.2.2 hir his (HC9.out.below HC16.out)
      rw [hit, HSS.out] at htg
      unfold ruleV at htg
      have HTG := Lib.hid htg
      clear htg hpt hir his hit hpb hpv
      go_wp2_with fail
      refine (HTG.out).mono ?_
      rintro e w15 ⟨rfl, b15⟩
      have HC15 := Lib.hid (HC16.out.trans (b15.mono HC16.out.size))
      clear b15
      go_wp2_with fail
      go_ret
      exact ⟨rfl, HB9.out.trans (HC15.out.mono HB9.out.size)⟩
end Go.Proofs.YtfgjcdfmlpdkaaaGreatDoor
