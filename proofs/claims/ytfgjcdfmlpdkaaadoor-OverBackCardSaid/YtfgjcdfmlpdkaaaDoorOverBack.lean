/- The call of OverBack: it returns true. Condition: the lists read from memory; the error variables hold what E says. -/
import Derived.Test.YtfgjcdfmlpdkaaaDoorLaw8A
import Derived.Test.YtfgjcdfmlpdkaaaDoorOverS
import Derived.Deep.RegionHeld3
import Derived.Test.YtfgjcdfmlpdkaaaDoorRuleC
import Derived.Deep.RegionLaw
namespace Go.Proofs.YtfgjcdfmlpdkaaaDoor
open Go.RowKit RuleP

/-- A list of a result, and the tale of a refusal. -/
def okB : Except Tale (List Int) → List Int
  | .ok l => l
  | .error _ => []
def wantB' {α : Type} : Except Tale α → Option Tale
  | .ok _ => none
  | .error t => some t
theorem stepB_u (w : World) (E : Nat → Addr) (hE : Errs w E) (K R : Int) (A B : Option Addr) (n c m d : Nat) (T W : List Int) (hT : Sl w A n (T.map (Value.int .i64))) (hm : n ≤ 9223372036854775807) (hW : Sl w B m (W.map (Value.int .i64))) (hm2 : m ≤ 9223372036854775807) :
    Calls Tryd.prog 24 #[ruleV K R A n c, .slice B m d] w fun e w' => ∃ (C : Option Addr) (M cc : Nat) (v : Value), e = .returned (.tuple #[.slice C M cc, v]) ∧ w'.ownsRow w.heap.size 3 1 (.slice C M cc) M ((okB (RuleP.step K R T W)).map (Value.int .i64)) ∧ ErrV w' E (wantB' (RuleP.step K R T W)) v ∧ Below w.heap.size w w' := by
  have hl : W.length = m := by simpa using hW.1
  cases hs : RuleP.step K R T W with
  | error tl =>
    refine (step_bad w E hE K R A B n c m d T W hT hm hW hm2 tl hs).mono ?_
    rintro e w' ⟨v, rfl, he, hb⟩
    exact ⟨none, 0, 0, v, rfl, ⟨rfl, .inl ⟨rfl, rfl⟩⟩, he, hb⟩
  | ok l =>
    unfold RuleP.step at hs
    split at hs
    · cases hs
    · rename_i hc
      obtain ⟨k, r, t, rfl, rfl, rfl, hr⟩ := check_none hc
      split at hs
      · cases hs
      · rename_i h4
        split at hs
        · cases hs
        · rename_i ho
          obtain ⟨v, rfl, hv⟩ := odd_nat ho
          injection hs with hs
          subst hs
          refine (step_good w E hE k r A B n c m d t v hr hv hT hW (by omega)).mono ?_
          rintro e w' ⟨C, cc, rfl, hown, hb⟩
          rw [Int.toNat_natCast, Int.toNat_natCast, nats_ints, nats_ints]
          exact ⟨C, _, cc, .nilIface, rfl, hown, rfl, hb⟩

set_option maxRecDepth 100000 in
set_option maxHeartbeats 1000000 in
theorem overBack_bad (w : World) (E : Nat → Addr) (hE : Errs w E) (K R : Int) (A B : Option Addr) (n c m d : Nat) (V : Value) (T W : List Int) (hS : Sl w A n (T.map (Value.int .i64))) (hn : n ≤ 9223372036854775807)
    (hS1 : Sl w B m (W.map (Value.int .i64))) (hm : m ≤ 9223372036854775807) (tl : Tale) (hbad : beforeT K R T W 200 = some tl) :
    Calls Tryd.prog 6 #[ruleV K R A n c, .slice B m d, V] w fun e w' => e = .returned (.bool true) ∧ Below w.heap.size w w' := by
  have hb0 := (Below.refl w.heap.size w).alloc (Nat.le_refl _) (.cells #[.int .i64 K, .int .i64 R, .slice A n c] 24)
  have HE := Lib.hid (hE.below hb0)
  have hr0 := RuleAt.new w (.int .i64 K) (.int .i64 R) (.slice A n c)
  unfold ruleV at *
  go_enter Tryd.func6, Tryd.ntmps6
  go_wp2_with fail
  refine (awake8_c _ E HE.out).mono ?_
  rintro e w1 ⟨rfl, b1⟩
  have hr1 := hr0.below b1 (by simp)
  have hb1 := below_box b1
  obtain ⟨r0, r1, r2, _⟩ := hr1.facts
  have HB := Lib.hid (before_bad w1 E (hE.below hb1) K R 200 A B n c m d T W (hS.below hb1) hn (hS1.below hb1) hm tl hbad)
  have HB1 := Lib.hid hb1
  unfold ruleV at HB
  clear b1 hb0 hr0 hr1 hb1 hS hS1 hbad
  go_wp2_with fail
  refine (HB.out).mono ?_
  rintro e w3 ⟨v3, rfl, he3, b3⟩
  obtain ⟨u, q, rfl⟩ := ErrIs.iface (show ErrIs w3 E tl.1 tl.2 v3 from he3)
  have HBW := Lib.hid (HB1.out.trans (b3.mono HB1.out.size))
  clear he3 b3
  go_wp2_with fail
  go_ret
  exact ⟨rfl, HBW.out⟩

/-- Is X among the first i of the list? -/
def foundTo (L : List (List Nat)) (X : List Int) (i : Nat) : Bool := decide (X ∈ (L.take i).map ints)
theorem foundTo_succ {L : List (List Nat)} {X : List Int} {i : Nat} {l : List Nat} (h : L[i]? = some l) : foundTo L X (i + 1) = (foundTo L X i || decide (ints l = X)) := by
  unfold foundTo
  rw [List.take_add_one, h, Option.toList_some, List.map_append, List.map_singleton]
  by_cases h1 : X ∈ (L.take i).map ints
  · rw [decide_eq_true h1, decide_eq_true (List.mem_append_left _ h1)]; rfl
  · rw [decide_eq_false h1, Bool.false_or]
    by_cases h2 : ints l = X
    · rw [decide_eq_true h2]; exact decide_eq_true (List.mem_append_right _ (by rw [h2]; exact List.mem_singleton.2 rfl))
    · rw [decide_eq_false h2]
      refine decide_eq_false (fun h => ?_)
      rcases List.mem_append.1 h with h | h
      · exact h1 h
      · exact h2 (List.mem_singleton.1 h).symm
theorem has_len {k r : Nat} {t W : List Nat} {L : List (List Nat)} {more : Bool} (h : RuleP.Found 200 (before k r t W) L more) : hasB k r t W = decide (0 < L.length) := by
  unfold hasB
  have e := h.list
  subst e
  cases before k r t W with
  | nil => rfl
  | cons a b => simp

/-- What is read of the list of words: word i, of q symbols. -/
def WordAt (w : World) (LA : Option Addr) (q : Nat) (L : List (List Nat)) (i : Nat) : Prop :=
  ∃ ad P pc l, LA = some ad ∧ L[i]? = some l ∧ w.cell? (ad.add i) = some (.slice P q pc) ∧ Sl w P q ((ints l).map (Value.int .i64))
theorem word_at {w : World} {LA : Option Addr} {n q i : Nat} {L : List (List Nat)} (h : ListAt w LA n (L.map ints)) (hi : i < n) (hq : ∀ l ∈ L, l.length = q) : WordAt w LA q L i := by
  obtain ⟨ad, l, P, c, e, hl, hc, _, hs⟩ := h.at_ hi
  rw [List.getElem?_map] at hl
  cases hl' : L[i]? with
  | none => rw [hl'] at hl; cases hl
  | some l' =>
    rw [hl'] at hl
    have e2 : ints l' = l := Option.some.inj hl
    have e3 : l.length = q := by rw [← e2, ints_len]; exact hq l' (List.mem_of_getElem? hl')
    rw [e3] at hc hs
    exact ⟨ad, P, c, l', e, hl', hc, by rw [e2]; exact hs⟩

set_option maxRecDepth 100000 in
set_option maxHeartbeats 4000000 in
theorem overBack_main (w : World) (E : Nat → Addr) (hE : Errs w E) (k r : Nat) (A B XA : Option Addr) (n c m d xn xc : Nat) (t W : List Nat) (X : List Int) (hS : Sl w A n ((ints t).map (Value.int .i64))) (hS1 : Sl w B m ((ints W).map (Value.int .i64)))
    (hS2 : Sl w XA xn (X.map (Value.int .i64))) (hxn : xn ≤ 9223372036854775807) (hr : IsRule k r t) (hsm : t.length ≤ 256) (hs : ∀ x ∈ W, x < k) (hm : m ≤ 256) :
    Calls Tryd.prog 6 #[ruleV k r A n c, .slice B m d, .slice XA xn xc] w fun e w' => e = .returned (.bool true) ∧ Below w.heap.size w w' := by
  have hb0 := (Below.refl w.heap.size w).alloc (Nat.le_refl _) (.cells #[.int .i64 (k : Int), .int .i64 (r : Int), .slice A n c] 24)
  have HE := Lib.hid (hE.below hb0)
  have hr0 := RuleAt.new w (.int .i64 k) (.int .i64 r) (.slice A n c)
  have hWl : W.length = m := by simpa [ints] using hS1.1
  have hXl : X.length = xn := by simpa using hS2.1
  have hr3 := hr.r3
  have hk1 := hr.k1
  unfold ruleV at *
  go_enter Tryd.func6, Tryd.ntmps6
  go_wp2_with fail
  refine (awake8_c _ E HE.out).mono ?_
  rintro e w1 ⟨rfl, b1⟩
  have hr1 := hr0.below b1 (by simp)
  have hb1 := below_box b1
  obtain ⟨r0, r1, r2, _⟩ := hr1.facts
  have HB := Lib.hid (before_good w1 E (hE.below hb1) k r 200 A B n c m d t W hr hsm hs (hS.below hb1) (hS1.below hb1) hm (by decide))
  unfold ruleV at HB
  clear b1 hb0 hr0
  go_wp2_with fail
  refine (HB.out).mono ?_
  rintro e w2 ⟨LA, lc, rows, L, more, rfl, ho2, hel2, _, b2, hF⟩
  have hb2 := hb1.trans (b2.mono hb1.size)
  have hr2 := hr1.below b2 hr1.lt
  have hLL := bef_list ho2 rfl hel2
  obtain ⟨q0, q1, q2, _⟩ := hr2.facts
  have hhs := has_good w2 E (hE.below hb2) k r A B n c m d t W hr hsm hs (hS.below hb2) (hS1.below hb2) hm
  rw [has_len hF] at hhs
  have HH := Lib.hid hhs
  unfold ruleV at HH
  have hLm : L.length ≤ 200 := by rw [hF.list]; simp; omega
  have hmem : ∀ l ∈ L, l ∈ before k r t W := fun l hl => by rw [hF.list] at hl; exact List.mem_of_mem_take hl
  have hword : ∀ l ∈ L, l.length = m + 2 * r ∧ (∀ x ∈ l, x < k) ∧ image k r t l = W := fun l hl => by
    obtain ⟨a1, a2, a3⟩ := (before_iff (by omega)).1 (hmem l hl)
    exact ⟨by omega, a2, a3⟩
  have HWD := Lib.hid hword
  have HF := Lib.hid hF
  clear ho2 hel2 b2 hb1 hr1 r0 r1 r2 hmem hword hhs
  go_wp2_with fail
  refine (HH.out).mono ?_
  rintro e w3 ⟨rfl, b3⟩
  have hb3 := hb2.trans (b3.mono hb2.size)
  have hr3' := hr2.below b3 hr2.lt
  have hL3 := hLL.keep b3
  -- what is told of every world behind this one
  have HRL := Lib.hid (fun (wz : World) (hz : Below w3.heap.size w3 wz) => (hr3'.below hz hr3'.lt).facts)
  have HWA := Lib.hid (fun (wz : World) (hz : Below w3.heap.size w3 wz) (i : Nat) (hi : i < L.length) => word_at (hL3.keep hz) hi (fun l hl => (HWD.out l hl).1))
  have HSW := Lib.hid (fun (wz : World) (hz : Below w3.heap.size w3 wz) => hS1.below (hb3.trans (hz.mono hb3.size)))
  have HSX := Lib.hid (fun (wz : World) (hz : Below w3.heap.size w3 wz) => hS2.below (hb3.trans (hz.mono hb3.size)))
  have HST := Lib.hid (fun (wz : World) (hz : Below w3.heap.size w3 wz) (P : Option Addr) (pc : Nat) (l : List Nat) (hl : l ∈ L) (hsl : Sl wz P (m + 2 * r) ((ints l).map (Value.int .i64))) =>
    step_m wz E (hE.below (hb3.trans (hz.mono hb3.size))) k r A P n c (m + 2 * r) pc m t l hr (HWD.out l hl).2.1 (hS.below (hb3.trans (hz.mono hb3.size))) hsl (by omega) (by have := (HWD.out l hl).1; omega))
  have HSU := Lib.hid (fun (wz : World) (hz : Below w3.heap.size w3 wz) => stepB_u wz E (hE.below (hb3.trans (hz.mono hb3.size))) k r A XA n c xn xc (ints t) X (hS.below (hb3.trans (hz.mono hb3.size))) (by have := hS.1; simp [ints] at this; omega) (hS2.below (hb3.trans (hz.mono hb3.size))) hxn)
  have HR := Lib.hid hr
  have HB3 := Lib.hid hb3
  unfold ruleV at HST HSU
  obtain ⟨q, hq⟩ : ∃ q, m + 2 * r = q := ⟨_, rfl⟩
  rw [hq] at HWA HST
  have HQ := Lib.hid hq
  clear hq
  have hhne : (decide (0 < L.length) != decide (0 < L.length)) = false := by simp
  clear hLL hr2 hb2 hb3 hr3' hL3 b3 hE hS hS1 hS2 hr q0 q1 q2 hs
  obtain ⟨x0, x1, x2, _⟩ := HRL.out w3 (Below.refl _ _)
  go_wp2_with fail
  generalize decide (0 < L.length) = hv
  go_loopw [12, 13] (fun fv iv wr => ∃ i : Nat, i ≤ L.length ∧ iv = .int .i64 (i : Int) ∧ fv = .bool (foundTo L X i) ∧ Hid (Below w3.heap.size w3 wr)) (fun _ iv _ => L.length - (intOf iv).toNat)
  case atStart => exact ⟨0, Nat.zero_le _, rfl, by simp [foundTo], Lib.hid (Below.refl _ _)⟩
  case round =>
    clear x0 x1 x2 hhne
    obtain ⟨i, hi, rfl, rfl, hb⟩ := hrel
    obtain ⟨x0, x1, x2, _⟩ := HRL.out wr hb.out
    by_cases hlt : i < L.length
    · obtain ⟨ad, P, pc, l, hLA, hl, hcell, hsl⟩ := HWA.out wr hb.out i hlt
      have hlm : l ∈ L := List.mem_of_getElem? hl
      have himg := (HWD.out l hlm).2.2
      have hst := HST.out wr.drew hb.out.drew P pc l hlm hsl
      rw [himg] at hst
      have HST1 := Lib.hid hst
      have HLA := Lib.hid hLA
      have HLM := Lib.hid hlm
      have HLI := Lib.hid hl
      have HW5 := Lib.hid (fun (wz : World) (hz : Below w3.heap.size w3 wz) => (by
        obtain ⟨ad', P', pc', l', e1, e2, e3, e4⟩ := HWA.out wz hz i hlt
        rw [hLA] at e1
        cases e1
        rw [hl] at e2
        cases e2
        exact ⟨P', pc', e3, e4⟩ : ∃ P' pc', wz.cell? (ad.add i) = some (.slice P' q pc') ∧ Sl wz P' q ((ints l).map (Value.int .i64))))
      have hsame : Hid (∀ wz, Below wr.heap.size wr wz → wz.cell? (ad.add i) = some (.slice P q pc) ∧ Sl wz P q ((ints l).map (Value.int .i64))) := Lib.hid (fun wz hz => ⟨cell_later hz hcell, hsl.below hz⟩)
      clear hst himg hlm hl hsl
      subst hLA
      go_wp2_with fail
      go_region_held3 (fun w' => w'.cell? ⟨w.heap.size, 0, none⟩ = some (.int .i64 (k : Int)) ∧ w'.cell? ⟨w.heap.size, 1, none⟩ = some (.int .i64 (r : Int)) ∧ w'.cell? ⟨w.heap.size, 2, none⟩ = some (.slice A n c) ∧ w'.cell? (ad.add i) = some (.slice P q pc))
        (first | (refine ⟨?_, ?_, ?_, ?_⟩ <;> assumption) | go_keep)
        (first
          | (go_at_call 24
             refine (HST1.out).mono ?_
             rintro e5 w5 ⟨C, cc, rfl, ho5, b5⟩
             have hb5 := hb.out.drew.trans (b5.mono hb.out.size)
             have hbr5 := (Below.refl wr.heap.size wr).drew.trans b5
             obtain ⟨y0, y1, y2, _⟩ := HRL.out w5 hb5
             obtain ⟨y3, y4⟩ := hsame.out w5 hbr5))
      have hi5 := ints_b w5.drew C B m m cc d (ints W) (ints W) (Sl.of_own ho5) (HSW.out w5 hb5) (by omega) (by omega)
      rw [decide_eq_true rfl] at hi5
      have HI5 := Lib.hid hi5
      have HSX2 := Lib.hid (fun (wz : World) (hz : Below wr.heap.size wr wz) => (by
        have h1 := ints_b wz P XA q xn pc xc (ints l) X (hsame.out wz hz).2 (HSX.out wz (hb.out.trans (hz.mono hb.out.size))) (by have := HQ.out; omega) hxn
        exact h1 : Calls Tryd.prog 26 #[.slice P q pc, .slice XA xn xc] wz fun e w' => e = .returned (.bool (decide (ints l = X))) ∧ Below wz.heap.size wz w'))
      have HFS := Lib.hid (foundTo_succ (X := X) HLI.out)
      have s1 : IntKind.i64.wrap (2 * (r : Int)) = 2 * (r : Int) := IntWalk.i64_in _ (by omega)
      have s2 : IntKind.i64.wrap ((m : Int) + 2 * (r : Int)) = (q : Int) := by
        rw [show (m : Int) + 2 * (r : Int) = (q : Int) by have := HQ.out; omega]
        exact IntWalk.i64_in _ (by have := HQ.out; omega)
      have HB5 := Lib.hid hb5
      have HBR5 := Lib.hid hbr5
      have HBB := Lib.hid hb.out
      obtain ⟨f0, hf0⟩ : ∃ f0, foundTo L X i = f0 := ⟨_, rfl⟩
      rw [hf0] at HFS ⊢
      obtain ⟨g0, hg0⟩ : ∃ g0, decide (ints l = X) = g0 := ⟨_, rfl⟩
      rw [hg0] at HFS HSX2
      have HO5 := Lib.hid ho5
      clear hi5 ho5 b5 hb5 hbr5 hcell x0 x1 x2 hf0 hg0 y4
      rcases Nat.eq_zero_or_pos i with rfl | hip
      · have hz0 : decide ((0 : Int) < ((0 : Nat) : Int)) = false := by decide
        have hqq : ((q : Int) != (q : Int)) = false := by simp
        have y5 : w5.cell? ad = some (.slice P q pc) := by simpa [Addr.add] using y3
        clear y3
        have HQ5 := Lib.hid (fun (nq : Nat) => (by
          have h1 := ints_c (w5.drewN nq) C B m m cc d (ints W) (ints W) (Sl.of_own HO5.out) (HSW.out w5 HB5.out) (by omega) (by omega)
          rw [decide_eq_true rfl] at h1
          exact h1 : Calls Tryd.prog 26 #[.slice C m cc, .slice B m d] (w5.drewN nq) fun e w' => e = .returned (.bool true) ∧ ∃ k, w' = (w5.drewN nq).drewN k))
        go_wp2_with fail
        go_quiet (first
          | (go_at_call 26; refine Calls.quiet_of (HQ5.out _)))
        have hbr6 := HBR5.out.trans ((pure_drewN w5 nq).mono HBR5.out.size)
        have HI6 := Lib.hid (HSX2.out (w5.drewN nq) hbr6)
        have HBR6 := Lib.hid hbr6
        clear hbr6 y1 HQ5
        cases f0 with
        | true =>
          go_wp2_with fail
          exact ⟨⟨0 + 1, by omega, by go_num, by rw [HFS.out]; rfl, Lib.hid (HBB.out.trans (HBR6.out.mono HBB.out.size))⟩, by simp [intOf]; omega⟩
        | false =>
          go_wp2_with fail
          refine (HI6.out).mono ?_
          rintro e7 w7 ⟨rfl, b7⟩
          have HBR7 := Lib.hid (HBR6.out.trans (b7.mono HBR6.out.size))
          clear b7
          go_wp2_with fail
          exact ⟨⟨0 + 1, by omega, by go_num, by rw [HFS.out]; rfl, Lib.hid (HBB.out.trans (HBR7.out.mono HBB.out.size))⟩, by simp [intOf]; omega⟩
      · obtain ⟨z, hzi⟩ : ∃ z, z + 1 = i := ⟨i - 1, by omega⟩
        have hzl : z < L.length := by omega
        obtain ⟨adz, Pz, pcz, lz, hLAz, hlz, hcz, hsz⟩ := HWA.out w5 HB5.out z hzl
        obtain rfl : ad = adz := by
          exact Option.some.inj hLAz
        have HCMP := Lib.hid (fun (wz : World) (hz : Below w5.heap.size w5 wz) => (by
          have h1 := wordCmp_c wz Pz P q pcz pc lz l (hsz.below hz) ((hsame.out w5 HBR5.out).2.below hz) (by have := HQ.out; omega)
          rw [back_order HR.out HF.out hlz HLI.out (by omega)] at h1
          exact h1 : Calls Tryd.prog 28 #[.slice Pz q pcz, .slice P q pc] wz fun e w' => e = .returned (.int .i64 (-1)) ∧ Below wz.heap.size wz w'))
        have hz1 : IntKind.i64.wrap ((i : Int) - 1) = (z : Int) := by
          rw [show (i : Int) - 1 = (z : Int) by omega]
          exact IntWalk.i64_in _ (by omega)
        have hz0 : decide ((0 : Int) < (i : Int)) = true := decide_eq_true (by omega)
        have hqq : ((q : Int) != (q : Int)) = false := by simp
        have hi0 : (0 : Int) ≤ (i : Int) := by omega
        have hzz0 : (0 : Int) ≤ (z : Int) := by omega
        have hil : (i : Int) < (L.length : Int) := by omega
        have hzll : (z : Int) < (L.length : Int) := by omega
        have HZI := Lib.hid hzi
        clear hzi hLAz hlz hsz
        go_wp2_with fail
        go_region_held3 (fun w' => w'.cell? ⟨w.heap.size, 1, none⟩ = some (.int .i64 (r : Int)) ∧ w'.cell? (ad.add z) = some (.slice Pz q pcz) ∧ w'.cell? (ad.add i) = some (.slice P q pc))
          (first | (refine ⟨?_, ?_, ?_⟩ <;> assumption) | go_keep)
          (first
            | (go_at_call 26
               refine (HI5.out).mono ?_
               rintro e6 w6 ⟨rfl, b6⟩
               have b6' := (Below.refl w5.heap.size w5).drew.trans b6
               have z1 := cell_later b6 y1
               have z2 := cell_later b6 hcz
               have z3 := cell_later b6 y3)
            | (go_at_call 28
               refine (HCMP.out _ b6').mono ?_
               rintro e7 w7 ⟨rfl, b7⟩
               have v1 := cell_later b7 z1
               have v2 := cell_later b7 z2
               have v3 := cell_later b7 z3))
        have hbr7 := HBR5.out.trans ((b6'.trans (b7.mono b6'.size)).mono HBR5.out.size)
        have HI7 := Lib.hid (HSX2.out w7 hbr7)
        have HBR7 := Lib.hid hbr7
        clear hbr7 b6 b6' b7 z1 z2 z3 v1 v2 y1 y3 hcz hz1 hz0 hqq
        cases f0 with
        | true =>
          go_wp2_with fail
          exact ⟨⟨i + 1, by omega, by go_num, by rw [HFS.out]; rfl, Lib.hid (HBB.out.trans (HBR7.out.mono HBB.out.size))⟩, by simp [intOf]; omega⟩
        | false =>
          go_wp2_with fail
          refine (HI7.out).mono ?_
          rintro e8 w8 ⟨rfl, b8⟩
          have HBR8 := Lib.hid (HBR7.out.trans (b8.mono HBR7.out.size))
          clear b8
          go_wp2_with fail
          exact ⟨⟨i + 1, by omega, by go_num, by rw [HFS.out]; rfl, Lib.hid (HBB.out.trans (HBR8.out.mono HBB.out.size))⟩, by simp [intOf]; omega⟩
    · obtain rfl : i = L.length := by omega
      have hfe : foundTo L X L.length = decide (X ∈ L.map ints) := by unfold foundTo; rw [List.take_length]
      rw [hfe]
      have s1 : IntKind.i64.wrap (2 * (r : Int)) = 2 * (r : Int) := IntWalk.i64_in _ (by omega)
      have s2 : IntKind.i64.wrap ((m : Int) + 2 * (r : Int)) = (q : Int) := by
        rw [show (m : Int) + 2 * (r : Int) = (q : Int) by have := HQ.out; omega]
        exact IntWalk.i64_in _ (by have := HQ.out; omega)
      have HBB := Lib.hid hb.out
      have hfd : X ∈ L.map ints → RuleP.step k r (ints t) X = .ok (ints W) ∧ X.length = W.length + 2 * r := back_found HR.out HF.out (by omega)
      have hlo := back_lost (X := X) HR.out HF.out
      have hsu := HSU.out wr hb.out
      have hx2 : xn = q ↔ X.length = W.length + 2 * r := by have := HQ.out; omega
      have HIW := Lib.hid (fun (wz : World) (C : Option Addr) (M cc : Nat) (y : List Int) (hz : Below w3.heap.size w3 wz) (ho : wz.ownsRow wr.heap.size 3 1 (.slice C M cc) M (y.map (Value.int .i64))) => (by
        obtain ⟨_, _, e1, e2, e3⟩ := own_slice ho
        cases e1
        exact ints_b wz C B M m cc d y (ints W) (Sl.of_own ho) (HSW.out wz hz) (by unfold maxLen at e3; omega) (by omega) : Calls Tryd.prog 26 #[.slice C M cc, .slice B m d] wz fun e w' => e = .returned (.bool (decide (y = ints W))) ∧ Below wz.heap.size wz w'))
      have HWL := Lib.hid (fun (wz : World) (hz : Below w3.heap.size w3 wz) (hL : 199 < L.length) => HWA.out wz hz 199 hL)
      obtain ⟨LN, hLN⟩ : ∃ LN, L.length = LN := ⟨_, rfl⟩
      rw [hLN] at hlo HWL ⊢
      have HLN := Lib.hid hLN
      clear hi hlt hfe hXl hWl hLm hLN
      by_cases hxq : xn = q
      · have hXl2 := hx2.1 hxq
        clear hx2
        subst hxq
        have hxe : ((xn : Int) != (xn : Int)) = false := by simp
        cases hst : RuleP.step k r (ints t) X with
        | error tl =>
          have hnf : decide (X ∈ L.map ints) = false := decide_eq_false (fun h => by have := (hfd h).1; rw [hst] at this; cases this)
          rw [hnf]
          rw [hst] at hsu
          have HSU1 := Lib.hid hsu
          clear hst hnf hfd hlo hsu hXl2
          go_wp2_with fail
          refine (HSU1.out).mono ?_
          rintro e w4 ⟨C, M, cc, v, rfl, ho, he, b4⟩
          obtain ⟨u, p, rfl⟩ := ErrIs.iface (show ErrIs w4 E tl.1 tl.2 v from he)
          have HB4 := Lib.hid (HBB.out.trans (b4.mono HBB.out.size))
          clear ho he b4
          go_wp2_with fail
          go_ret
          exact ⟨rfl, HB3.out.trans (HB4.out.mono HB3.out.size)⟩
        | ok y =>
          rw [hst] at hsu hlo hfd
          have HSU1 := Lib.hid hsu
          clear hst hsu
          by_cases hy : y = ints W
          · subst hy
            by_cases hfx : X ∈ L.map ints
            · rw [decide_eq_true hfx]
              clear hfx hfd hlo hXl2
              go_wp2_with fail
              refine (HSU1.out).mono ?_
              rintro e w4 ⟨C, M, cc, v, rfl, ho, rfl, b4⟩
              have hb4 := HBB.out.trans (b4.mono HBB.out.size)
              have hiw := HIW.out w4 C M cc (ints W) hb4 ho
              rw [decide_eq_true rfl] at hiw
              have HIW1 := Lib.hid hiw
              have HB4 := Lib.hid hb4
              clear ho b4 hb4 hiw
              go_wp2_with fail
              refine (HIW1.out).mono ?_
              rintro e w5 ⟨rfl, b5⟩
              have HB5 := Lib.hid (HB4.out.trans (b5.mono HB4.out.size))
              clear b5
              go_wp2_with fail
              go_ret
              exact ⟨rfl, HB3.out.trans (HB5.out.mono HB3.out.size)⟩
            · obtain ⟨hmore, hL2, l9, x9, hl9, hx9, hcm⟩ := hlo hXl2 rfl hfx
              rw [decide_eq_false hfx]
              subst hmore
              subst hL2
              have HX9 := Lib.hid hx9
              have HL9 := Lib.hid hl9
              have HCM := Lib.hid hcm
              clear hfx hfd hlo hXl2 hl9 hx9 hcm
              go_wp2_with fail
              refine (HSU1.out).mono ?_
              rintro e w4 ⟨C, M, cc, v, rfl, ho, rfl, b4⟩
              have hb4 := HBB.out.trans (b4.mono HBB.out.size)
              have hiw := HIW.out w4 C M cc (ints W) hb4 ho
              rw [decide_eq_true rfl] at hiw
              have HIW1 := Lib.hid hiw
              have HB4 := Lib.hid hb4
              clear ho b4 hb4 hiw
              go_wp2_with fail
              refine (HIW1.out).mono ?_
              rintro e w5 ⟨rfl, b5⟩
              have hb5 := HB4.out.trans (b5.mono HB4.out.size)
              obtain ⟨ad, P, pc, l, rfl, hl, hcell, hsl⟩ := HWL.out w5 hb5 (by decide)
              have hcell2 : w5.cell? ⟨ad.block, ad.off + 199, none⟩ = some (.slice P xn pc) := hcell
              rw [HL9.out] at hl
              obtain rfl : l9 = l := Option.some.inj hl
              have hsx := HSX.out w5 hb5
              rw [HX9.out] at hsx
              have hwc := wordCmp_c w5 P XA xn pc xc l9 x9 hsl hsx (by have := HQ.out; omega)
              rw [HCM.out] at hwc
              have HWC := Lib.hid hwc
              have HB5 := Lib.hid hb5
              clear b5 hb5 hl hsl hsx hwc
              go_wp2_with fail
              refine (HWC.out).mono ?_
              rintro e w6 ⟨rfl, b6⟩
              have HB6 := Lib.hid (HB5.out.trans (b6.mono HB5.out.size))
              clear b6
              go_wp2_with fail
              go_ret
              exact ⟨rfl, HB3.out.trans (HB6.out.mono HB3.out.size)⟩
          · have hnf : decide (X ∈ L.map ints) = false := decide_eq_false (fun h => hy (by have := (hfd h).1; injection this))
            rw [hnf]
            have HY := Lib.hid (decide_eq_false hy)
            clear hnf hfd hlo hXl2 hy
            go_wp2_with fail
            refine (HSU1.out).mono ?_
            rintro e w4 ⟨C, M, cc, v, rfl, ho, rfl, b4⟩
            have hb4 := HBB.out.trans (b4.mono HBB.out.size)
            have hiw := HIW.out w4 C M cc y hb4 ho
            rw [HY.out] at hiw
            have HIW1 := Lib.hid hiw
            have HB4 := Lib.hid hb4
            clear ho b4 hb4 hiw
            go_wp2_with fail
            refine (HIW1.out).mono ?_
            rintro e w5 ⟨rfl, b5⟩
            have HB5 := Lib.hid (HB4.out.trans (b5.mono HB4.out.size))
            clear b5
            go_wp2_with fail
            go_ret
            exact ⟨rfl, HB3.out.trans (HB5.out.mono HB3.out.size)⟩
      · have hnf : decide (X ∈ L.map ints) = false := decide_eq_false (fun h => hxq (hx2.2 (hfd h).2))
        rw [hnf]
        have hxe : ((xn : Int) != (q : Int)) = true := by simp; omega
        clear hnf hfd hlo hx2 hsu
        go_wp2_with fail
        go_ret
        exact ⟨rfl, HB3.out.trans (HBB.out.mono HB3.out.size)⟩

theorem overBack_c (w : World) (E : Nat → Addr) (hE : Errs w E) (K R : Int) (A B XA : Option Addr) (n c m d xn xc : Nat) (T W X : List Int) (hS : Sl w A n (T.map (Value.int .i64))) (hn : n ≤ 9223372036854775807)
    (hS1 : Sl w B m (W.map (Value.int .i64))) (hm : m ≤ 9223372036854775807) (hS2 : Sl w XA xn (X.map (Value.int .i64))) (hxn : xn ≤ 9223372036854775807) :
    Calls Tryd.prog 6 #[ruleV K R A n c, .slice B m d, .slice XA xn xc] w fun e w' => e = .returned (.bool true) ∧ Below w.heap.size w w' := by
  cases h : beforeT K R T W 200 with
  | some tl => exact overBack_bad w E hE K R A B n c m d _ T W hS hn hS1 hm tl h
  | none =>
    obtain ⟨k, r, q, t, v, rfl, rfl, _, rfl, rfl, hr, hl, hv, _, hs⟩ := beforeT_none h
    have hvl : v.length = m := by simpa [ints] using hS1.1
    exact overBack_main w E hE k r A B XA n c m d xn xc t v X hS hS1 hS2 hxn hr hl hs (by omega)
end Go.Proofs.YtfgjcdfmlpdkaaaDoor
