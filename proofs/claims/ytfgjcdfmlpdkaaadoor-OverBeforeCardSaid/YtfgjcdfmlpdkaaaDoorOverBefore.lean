/- The call of OverBefore: it returns true. Condition: the lists read from memory; the error variables hold what E says. -/
import Derived.Test.YtfgjcdfmlpdkaaaDoorLentR
import Derived.Test.YtfgjcdfmlpdkaaaDoorLaw8A
import Derived.Test.YtfgjcdfmlpdkaaaDoorR8Q
import Derived.Test.YtfgjcdfmlpdkaaaDoorRuleC
namespace Go.Proofs.YtfgjcdfmlpdkaaaDoor
open Go.RowKit RuleP

/-- What Before answers of any rule, word and number. -/
def BefIs (K R : Int) (T W : List Int) (most : Int) (L : List (List Nat)) (more : Bool) : Prop :=
  match beforeT K R T W most with
  | some _ => L = [] ∧ more = false
  | none => RuleP.Found most.toNat (before K.toNat R.toNat (nats T) (nats W)) L more
theorem BefIs.same {K R : Int} {T W : List Int} {most : Int} {L L' : List (List Nat)} {more more' : Bool} (h : BefIs K R T W most L more) (h' : BefIs K R T W most L' more') : L' = L ∧ more' = more := by
  unfold BefIs at h h'
  cases hb : beforeT K R T W most with
  | some t =>
    rw [hb] at h h'
    exact ⟨by rw [h.1, h'.1], by rw [h.2, h'.2]⟩
  | none =>
    rw [hb] at h h'
    exact ⟨by rw [h.list, h'.list], by rw [h.more, h'.more]⟩
theorem BefIs.bad {K R : Int} {T W : List Int} {most : Int} {t : Tale} (h : beforeT K R T W most = some t) : BefIs K R T W most [] false := by
  unfold BefIs
  rw [h]
  exact ⟨rfl, rfl⟩
theorem BefIs.good {k r q : Nat} {t W : List Nat} {L : List (List Nat)} {more : Bool} (h : beforeT k r (ints t) (ints W) q = none) (hF : RuleP.Found q (before k r t W) L more) : BefIs k r (ints t) (ints W) q L more := by
  unfold BefIs
  rw [h]
  simp only [Int.toNat_natCast, nats_ints]
  exact hF
theorem list_none (w : World) : ListAt w none 0 [] := ⟨[], Sl.nil _ _, rfl, fun j l hj => by simp at hj⟩

theorem before_u (w : World) (E : Nat → Addr) (hE : Errs w E) (K R most : Int) (A B : Option Addr) (n c m d : Nat) (T W : List Int) (hT : Sl w A n (T.map (Value.int .i64))) (hm : n ≤ 9223372036854775807) (hW : Sl w B m (W.map (Value.int .i64))) (hm2 : m ≤ 9223372036854775807) :
    Calls Tryd.prog 16 #[ruleV K R A n c, .slice B m d, .int .i64 most] w fun e w' => ∃ (LA : Option Addr) (lc : Nat) (L : List (List Nat)) (more : Bool) (v : Value), e = .returned (.tuple #[.slice LA L.length lc, .bool more, v]) ∧ ListAt w' LA L.length (L.map ints) ∧
      ErrV w' E (beforeT K R T W most) v ∧ BefIs K R T W most L more ∧ Below w.heap.size w w' := by
  cases h : beforeT K R T W most with
  | some tl =>
    refine (before_bad w E hE K R most A B n c m d T W hT hm hW hm2 tl h).mono ?_
    rintro e w' ⟨v, rfl, he, hb⟩
    exact ⟨none, 0, [], false, v, rfl, list_none _, he, BefIs.bad h, hb⟩
  | none =>
    obtain ⟨k, r, q, t, v, rfl, rfl, rfl, rfl, rfl, hr, hl, hv, hq, hs⟩ := beforeT_none h
    have hvl : v.length = m := by simpa [ints] using hW.1
    refine (before_good w E hE k r q A B n c m d t v hr hl hs hT hW (by omega) hq).mono ?_
    rintro e w' ⟨LA, lc, rows, L, more, rfl, ho, hel, _, hb, hF⟩
    exact ⟨LA, lc, L, more, .nilIface, rfl, bef_list ho rfl hel, rfl, BefIs.good h hF, hb⟩

theorem refBefore_u (w : World) (K R most : Int) (A B : Option Addr) (n c m d : Nat) (T W : List Int) (hT : Sl w A n (T.map (Value.int .i64))) (hm : n ≤ 9223372036854775807) (hW : Sl w B m (W.map (Value.int .i64))) (hm2 : m ≤ 9223372036854775807) :
    Calls Tryd.prog 35 #[ruleV K R A n c, .slice B m d, .int .i64 most] w fun e w' => ∃ (LA : Option Addr) (lc : Nat) (L : List (List Nat)) (more : Bool) (N : Nat) (A1 : Option Addr) (n1 c1 : Nat) (A2 : Option Addr) (n2 c2 : Nat), e = .returned (.tuple #[.slice LA L.length lc, .bool more, .agg #[.int .i64 (N : Int), .slice A1 n1 c1, .slice A2 n2 c2]]) ∧ ListAt w' LA L.length (L.map ints) ∧
      WantB w' w.heap.size (beforeT K R T W most) (.agg #[.int .i64 (N : Int), .slice A1 n1 c1, .slice A2 n2 c2]) ∧ BefIs K R T W most L more ∧ Below w.heap.size w w' := by
  cases hck : checkO K R T W 256 with
  | some tl =>
    have h : beforeT K R T W most = some tl := by unfold beforeT; rw [hck]
    refine (refBefore_bad w K R A B n c m d most T W hT hm hW hm2 tl hck).mono ?_
    rintro e w' ⟨N, A1, n1, c1, A2, n2, c2, rfl, hu, hb⟩
    exact ⟨none, 0, [], false, N, A1, n1, c1, A2, n2, c2, rfl, list_none _, by rw [h]; exact hu, BefIs.bad h, hb⟩
  | none =>
    obtain ⟨k, r, t, v, rfl, rfl, rfl, rfl, hr, hl, hv, hs⟩ := checkO_none hck
    have hvl : v.length = m := by simpa [ints] using hW.1
    by_cases h1 : most < 0
    · have h : beforeT k r (ints t) (ints v) most = some (3, [(sOver, 2)]) := by unfold beforeT; rw [hck]; simp only; rw [if_pos h1]
      refine (refBefore_neg w k r A B n c m d t v most h1 hr hl hs hT hW (by omega)).mono ?_
      rintro e w' ⟨N, A1, n1, c1, A2, n2, c2, rfl, hu, hb⟩
      exact ⟨none, 0, [], false, N, A1, n1, c1, A2, n2, c2, rfl, list_none _, by rw [h]; exact hu, BefIs.bad h, hb⟩
    · by_cases h2 : 256 < most
      · have h : beforeT k r (ints t) (ints v) most = some (4, [(sOver, 2)]) := by unfold beforeT; rw [hck]; simp only; rw [if_neg h1, if_pos h2]
        refine (refBefore_big w k r A B n c m d t v most h2 hr hl hs hT hW (by omega)).mono ?_
        rintro e w' ⟨N, A1, n1, c1, A2, n2, c2, rfl, hu, hb⟩
        exact ⟨none, 0, [], false, N, A1, n1, c1, A2, n2, c2, rfl, list_none _, by rw [h]; exact hu, BefIs.bad h, hb⟩
      · have h : beforeT k r (ints t) (ints v) most = none := by unfold beforeT; rw [hck]; simp only; rw [if_neg h1, if_neg h2]
        obtain ⟨q, rfl⟩ : ∃ q : Nat, most = (q : Int) := ⟨most.toNat, by omega⟩
        refine (refBefore_good w k r A B n c m d t v q (by omega) hr hl hs hT hW (by omega)).mono ?_
        rintro e w' ⟨LA, lc, rows, L, more, rfl, ho, hel, hF, hb⟩
        exact ⟨LA, lc, L, more, 0, none, 0, 0, none, 0, 0, rfl, bef_list ho rfl hel, by rw [h]; exact WantB.zero _ _, BefIs.good h hF, hb⟩

set_option maxRecDepth 100000 in
set_option maxHeartbeats 4000000 in
theorem overBefore_c (w : World) (E : Nat → Addr) (hE : Errs w E) (hT : ErrT w) (K R most : Int) (A B : Option Addr) (n c m d : Nat) (T W : List Int) (hS : Sl w A n (T.map (Value.int .i64))) (hn : n ≤ c) (hz : c * 8 ≤ 140737488351232)
    (hS1 : Sl w B m (W.map (Value.int .i64))) (hn1 : m ≤ d) (hz1 : d * 8 ≤ 140737488351232) :
    Calls Tryd.prog 8 #[ruleV K R A n c, .slice B m d, .int .i64 most] w fun e w' => e = .returned (.bool true) ∧ Below w.heap.size w w' := by
  have hb0 := (Below.refl w.heap.size w).alloc (Nat.le_refl _) (.cells #[.int .i64 K, .int .i64 R, .slice A n c] 24)
  have HE := Lib.hid (hE.below hb0)
  have hr0 := RuleAt.new w (.int .i64 K) (.int .i64 R) (.slice A n c)
  have HLR := Lib.hid (fun (wz : World) (hz' : Below w.heap.size w wz) => lentRule_c wz K R A n c _ (hS.below hz') (ints_one T) (by omega))
  unfold ruleV at *
  go_enter Tryd.func8, Tryd.ntmps8
  go_wp2_with fail
  refine (awake8_c _ E HE.out).mono ?_
  rintro e w1 ⟨rfl, b1⟩
  have hr1 := hr0.below b1 (by simp)
  have hb1 := below_box b1
  obtain ⟨r0, r1, r2, _⟩ := hr1.facts
  clear b1
  go_wp2_with fail
  refine (HLR.out w1 hb1).mono ?_
  rintro e w2 ⟨g, rfl, hg, hown, b2⟩
  have hb2 := hb1.trans (b2.mono hb1.size)
  have hr2 := hr1.below b2 hr1.lt
  have hm3 := RuleAt.new w2 (.int .i64 K) (.int .i64 R) (.slice (some ⟨g, 0, none⟩) n (n + 2))
  have hr3 := hr2.alloc (.cells #[.int .i64 K, .int .i64 R, .slice (some ⟨g, 0, none⟩) n (n + 2)] 24)
  have hb3 := hb2.alloc hb2.size (.cells #[.int .i64 K, .int .i64 R, .slice (some ⟨g, 0, none⟩) n (n + 2)] 24)
  have ho3 := hown.alloc (.cells #[.int .i64 K, .int .i64 R, .slice (some ⟨g, 0, none⟩) n (n + 2)] 24)
  obtain ⟨w3, hw3⟩ : ∃ w3, w2.alloc (.cells #[.int .i64 K, .int .i64 R, .slice (some ⟨g, 0, none⟩) n (n + 2)] 24) = w3 := ⟨_, rfl⟩
  have HW3 := Lib.hid hw3
  rw [hw3] at hm3 hr3 hb3 ho3
  have HLE := Lib.hid (lent_c w3 B m d _ (hS1.below hb3) (ints_one W) (by omega))
  have hlr0 := hr3.lt
  have hlm0 := hm3.lt
  obtain ⟨x0, x1, x2, _⟩ := hr3.facts
  obtain ⟨y0, y1, y2, _⟩ := hm3.facts
  have HR3 := Lib.hid hr3
  have HM3 := Lib.hid hm3
  clear r0 r1 r2 hb2 b2 hr2 hr3 hm3 hw3
  go_wp2_with fail
  rw [HW3.out]
  refine (HLE.out).mono ?_
  rintro e w4 ⟨rfl, hown4, b4⟩
  have hb4 := hb3.trans (b4.mono hb3.size)
  have hr4 := HR3.out.below b4 HR3.out.lt
  have hm4 := HM3.out.below b4 HM3.out.lt
  have hS3 := (Sl.of_own ho3).below b4
  have hA3 : Sl w4 (some ⟨g, 0, none⟩) n (T.map (Value.int .i64)) := sl_take' hS3 (by simpa using hS.1)
  have hS4 := Sl.of_own hown4
  have hA4 : Sl w4 (some ⟨w3.heap.size, 0, none⟩) m (W.map (Value.int .i64)) := sl_take' hS4 (by simpa using hS1.1)
  have hSB := hS.below hb4
  have hSC := hS1.below hb4
  have HBE := Lib.hid (fun (wz : World) (hz : Below w4.heap.size w4 wz) => before_u wz E (hE.below (hb4.trans (hz.mono hb4.size))) K R most (some ⟨g, 0, none⟩) (some ⟨w3.heap.size, 0, none⟩) n (n + 2) m (m + 2) T W (hA3.below hz) (by omega) (hA4.below hz) (by omega))
  have HRB := Lib.hid (fun (wz : World) (hz : Below w4.heap.size w4 wz) => refBefore_u wz K R most A B n c m d T W (hSB.below hz) (by omega) (hSC.below hz) (by omega))
  have HKP := Lib.hid (fun (wz : World) (hz : Below w4.heap.size w4 wz) => keptRule_c wz K R (some ⟨g, 0, none⟩) A n (n + 2) c T (hSB.below hz) (hS3.below hz) (Nat.le_refl _) (by simp only [maxLen]; omega))
  have HKW := Lib.hid (fun (wz : World) (hz : Below w4.heap.size w4 wz) => kept_c wz (some ⟨w3.heap.size, 0, none⟩) B m (m + 2) d W (hSC.below hz) (hS4.below hz) (Nat.le_refl _) (by simp only [maxLen]; omega))
  have HIS := Lib.hid (fun (wz : World) (hz : Below w4.heap.size w4 wz) (t : Option Tale) (ht : TaleOk t) (v u : Value) (hv : ErrV wz E t v) (hu : WantV wz t u) => rawIs_c wz E (hE.below (hb4.trans (hz.mono hb4.size))) (hT.below (hb4.trans (hz.mono hb4.size))) t ht v u hv hu)
  have HF := Lib.hid (fun (wz : World) (hz : Below w4.heap.size w4 wz) => (⟨cell_later hz hr4.facts.1, cell_later hz hr4.facts.2.1, cell_later hz hr4.facts.2.2.1, cell_later hz hm4.facts.1, cell_later hz hm4.facts.2.1, cell_later hz hm4.facts.2.2.1⟩ :
    wz.cell? ⟨w.heap.size, 0, none⟩ = some (.int .i64 K) ∧ wz.cell? ⟨w.heap.size, 1, none⟩ = some (.int .i64 R) ∧ wz.cell? ⟨w.heap.size, 2, none⟩ = some (.slice A n c) ∧
    wz.cell? ⟨w2.heap.size, 0, none⟩ = some (.int .i64 K) ∧ wz.cell? ⟨w2.heap.size, 1, none⟩ = some (.int .i64 R) ∧ wz.cell? ⟨w2.heap.size, 2, none⟩ = some (.slice (some ⟨g, 0, none⟩) n (n + 2))))
  have HB4 := Lib.hid hb4
  have hlr := hr4.lt
  have hlm := hm4.lt
  clear hE hT hS hS1 hb3 ho3 hS3 hA3 hSB hSC hown hr1 hb1 HLR hr0 hb0 hr4 hm4 hb4 hown4 b4 hS4 hA4 x0 x1 x2 y0 y1 y2
  unfold ruleV at *
  obtain ⟨x0, x1, x2, y0, y1, y2⟩ := HF.out w4 (Below.refl _ _)
  go_wp2_with fail
  refine (HBE.out w4 (Below.refl _ _)).mono ?_
  rintro e w5 ⟨LA, lc, L, more, v5, rfl, hL5, he5, hI5, b5⟩
  have HI5 := Lib.hid hI5
  obtain ⟨x0, x1, x2, y0, y1, y2⟩ := HF.out w5 b5
  obtain ⟨len, hlen⟩ : ∃ len, L.length = len := ⟨_, rfl⟩
  have HLN := Lib.hid hlen
  rw [hlen] at hL5 ⊢
  clear hI5 hlen
  go_wp2_with fail
  refine (HRB.out w5 b5).mono ?_
  rintro e w6 ⟨LB, ld, L2, more2, N6, A6, n6, c6, D6, m6, d6, rfl, hL6, hu6, hI6, b6⟩
  obtain ⟨rfl, rfl⟩ := HI5.out.same hI6
  rw [HLN.out] at hL6 ⊢
  have c6' := b5.trans (b6.mono b5.size)
  have b67 : Below w6.heap.size w6 (w6.alloc (.cells #[.int .i64 (N6 : Int), .slice A6 n6 c6, .slice D6 m6 d6] 60)) := (Below.refl _ _).alloc (Nat.le_refl _) _
  have he7 := (he5.below b6).below b67
  have hu7 := hu6.below b67
  have hL7 := (hL5.keep b6).keep b67
  have hL8 := hL6.keep b67
  have hx7 := WantAt.new w6 (.int .i64 (N6 : Int)) (.slice A6 n6 c6) (.slice D6 m6 d6)
  have c7 := c6'.trans (b67.mono c6'.size)
  obtain ⟨w7, hw7⟩ : ∃ w7, w6.alloc (.cells #[.int .i64 (N6 : Int), .slice A6 n6 c6, .slice D6 m6 d6] 60) = w7 := ⟨_, rfl⟩
  have HW7 := Lib.hid hw7
  rw [hw7] at c7 he7 hu7 hx7 hL7 hL8
  have hlt1 : w2.heap.size < w6.heap.size := by have := c6'.size; omega
  have hlt2 : w.heap.size < w6.heap.size := by have := c6'.size; omega
  obtain ⟨j0, j1, j2, j3, j4, j5⟩ := HF.out w6 c6'
  have hlL : L2.length ≤ 9223372036854775807 := by
    obtain ⟨vs, s1, s2, _⟩ := hL7
    have h3 := HI5.out
    unfold BefIs at h3
    split at h3
    · rw [h3.1]; simp
    · rename_i hb
      obtain ⟨_, _, q, _, _, _, _, rfl, _, _, _, _, _, hq, _⟩ := beforeT_none hb
      have := h3.list
      rw [this, List.length_take]
      omega
  have HLS := Lib.hid (lists_same w7 LA LB len lc ld _ hL7 hL8 (by have := HLN.out; omega))
  have HX := Lib.hid (fun (wz : World) (hz : Below w7.heap.size w7 wz) => (hx7.below hz hx7.lt).facts)
  have HIS1 := Lib.hid (fun (wz : World) (hz : Below w7.heap.size w7 wz) => HIS.out wz (c7.trans (hz.mono c7.size)) _ (beforeT_ok K R T W most) _ _ (he7.below hz) (hu7.below hz).want)
  have k1 : (more2 == more2) = true := by simp
  have HC7 := Lib.hid c7
  clear hw7 b67 he5 hu6 he7 hu7 hL5 hL6 hL7 hL8 hx7 b6 c6' c7 hI6 hlL b5
  go_wp2_with fail
  rw [HW7.out]
  refine (HLS.out).mono ?_
  rintro e w8 ⟨rfl, b8⟩
  obtain ⟨s0, s1, s2, _⟩ := HX.out w8 b8
  go_wp2_with fail
  refine (HIS1.out w8 b8).mono ?_
  rintro e w9 ⟨rfl, b9⟩
  have c9 := b8.trans (b9.mono b8.size)
  have c49 := HC7.out.trans (c9.mono HC7.out.size)
  obtain ⟨x0, x1, x2, y0, y1, y2⟩ := HF.out w9 c49
  go_wp2_with fail
  refine (HKP.out w9 c49).mono ?_
  rintro e w10 ⟨rfl, b10⟩
  have c410 := c49.trans (b10.mono c49.size)
  go_wp2_with fail
  refine (HKW.out w10 c410).mono ?_
  rintro e w11 ⟨rfl, b11⟩
  have HBW := Lib.hid (HB4.out.trans ((c410.trans (b11.mono c410.size)).mono HB4.out.size))
  clear b8 b9 b10 b11 c9 c49 c410
  go_wp2_with fail
  go_ret
  exact ⟨rfl, HBW.out⟩
end Go.Proofs.YtfgjcdfmlpdkaaaDoor
