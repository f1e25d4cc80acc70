/- The call of BagApart: it returns true. Condition: its two lists read from memory. -/
import Derived.Test.YtmephmijeepcnaaDoorBagLaw
import Derived.Test.YtmephmijeepcnaaDoorApartC
import Derived.Test.YtmephmijeepcnaaDoorSetsP
import Derived.StillTailTactics
import Derived.Deep.RegionWith
import Derived.OpenShut
namespace Go.Proofs.YtmephmijeepcnaaDoor
open Go.RowKit BagP

theorem nodup_sub {α : Type} [DecidableEq α] : ∀ (L S : List α), S.Nodup → (∀ x ∈ S, x ∈ L) → S.length ≤ L.length := by
  intro L
  induction L with
  | nil =>
    intro S _ h
    cases S with
    | nil => exact Nat.le_refl _
    | cons x S => exact absurd (h x (by simp)) (by simp)
  | cons a L ih =>
    intro S hn h
    have h2 := ih (S.erase a) (hn.erase a) (fun x hx => by
      obtain ⟨h3, h4⟩ := (hn.mem_erase_iff).1 hx
      rcases List.mem_cons.1 (h x h4) with h5 | h5
      · exact absurd h5 h3
      · exact h5)
    have h3 := List.length_erase (a := a) (l := S)
    simp only [List.length_cons]
    split at h3 <;> omega

theorem tmod4 (x : Int) : -3 ≤ x.tmod 4 ∧ x.tmod 4 ≤ 3 := by
  rcases Int.lt_or_le x 0 with h | h
  · have : x.tmod 4 = -((-x) % 4) := by
      rw [← Int.tmod_eq_emod_of_nonneg (by omega : 0 ≤ -x), Int.neg_tmod, Int.neg_neg]
    omega
  · rw [Int.tmod_eq_emod_of_nonneg h]; omega

theorem div4_fits (x : Int) (h : (Lit.int .i64 x).wf = true) : IntKind.i64.wrap (x.tdiv 4) = x.tdiv 4 := by
  have hb := bounds_i64 h
  have h4 : -9223372036854775808 ≤ x.tdiv 4 ∧ x.tdiv 4 ≤ 9223372036854775807 := by
    rcases Int.lt_or_le x 0 with h | h
    · have e : x.tdiv 4 = -((-x) / 4) := by
        rw [← Int.tdiv_eq_ediv_of_nonneg (by omega : 0 ≤ -x), Int.neg_tdiv, Int.neg_neg]
      omega
    · rw [Int.tdiv_eq_ediv_of_nonneg h]; omega
  exact IntWalk.i64_in _ h4

def One4 (S : List (List Nat)) : Prop := ∀ l ∈ S, l ∈ [[1], [2], [4], [8]]
theorem one4 {S : List (List Nat)} (h : One4 S) (hn : S.Nodup) : S.length ≤ 4 := nodup_sub [[1], [2], [4], [8]] S hn h
theorem one4_add {S : List (List Nat)} (h : One4 S) {y : Int} (h0 : 0 ≤ y) (h4 : y < 4) : One4 (addS S (bitsOf 4 [y])) := by
  have hy : bitsOf 4 [y] ∈ [[1], [2], [4], [8]] := by
    have : y = 0 ∨ y = 1 ∨ y = 2 ∨ y = 3 := by omega
    rcases this with rfl | rfl | rfl | rfl <;> decide
  unfold addS
  split
  · exact h
  · intro l hl
    rcases List.mem_append.1 hl with h1 | h1
    · exact h l h1
    · simp only [List.mem_singleton] at h1; rw [h1]; exact hy
theorem addS_len (S : List (List Nat)) (l : List Nat) : (addS S l).length = S.length + (if l ∈ S then 0 else 1) := by
  unfold addS; split <;> simp
theorem BagIs.nodup {w : World} {p : Value} {n : Nat} {S : List (List Nat)} {O : Nat → Prop} (h : BagIs w p n S O) : S.Nodup := by
  obtain ⟨bb, mb, sv, rows, D, _, hb⟩ := h
  exact hb.nd
theorem BagIs.lt {w : World} {p : Value} {n : Nat} {S : List (List Nat)} {O : Nat → Prop} (h : BagIs w p n S O) : BagIs w p n S (fun k => O k ∧ k < w.heap.size) := h.restrict

/-- Two bags that share nothing, in blocks from H on. -/
structure Two (w : World) (H : Nat) (p q : Value) (S T : List (List Nat)) (O O' : Nat → Prop) : Prop where
  b : BagIs w p 4 S O
  c : BagIs w q 4 T O'
  far : ∀ k, O k → ¬ O' k
  ob : ∀ k, O k → H ≤ k ∧ k < w.heap.size
  oc : ∀ k, O' k → H ≤ k ∧ k < w.heap.size
theorem Two.pure {w w' : World} {H : Nat} {p q : Value} {S T : List (List Nat)} {O O' : Nat → Prop} (h : Two w H p q S T O O') (hb : Below w.heap.size w w') : Two w' H p q S T O O' :=
  ⟨h.b.below hb, h.c.below hb, h.far, fun k hk => ⟨(h.ob k hk).1, Nat.lt_of_lt_of_le (h.ob k hk).2 hb.size⟩, fun k hk => ⟨(h.oc k hk).1, Nat.lt_of_lt_of_le (h.oc k hk).2 hb.size⟩⟩
theorem Two.putb {w w' : World} {H : Nat} {p q : Value} {S S' T : List (List Nat)} {O O' : Nat → Prop} (h : Two w H p q S T O O') (hH : H ≤ w.heap.size) (hB : BagIs w' p 4 S' (fun k => O k ∨ w.heap.size ≤ k)) (hk : Keeps O w w') :
    Two w' H p q S' T (fun k => (O k ∨ w.heap.size ≤ k) ∧ k < w'.heap.size) O' :=
  ⟨hB.restrict, h.c.keeps hk (fun k h1 h2 => h.far k h2 h1), fun k h1 h2 => by
    rcases h1.1 with h3 | h3
    · exact h.far k h3 h2
    · have := (h.oc k h2).2; omega, fun k h1 => ⟨by rcases h1.1 with h3 | h3; exact (h.ob k h3).1; omega, h1.2⟩, fun k h1 => ⟨(h.oc k h1).1, Nat.lt_of_lt_of_le (h.oc k h1).2 hk.size⟩⟩
theorem Two.putc {w w' : World} {H : Nat} {p q : Value} {S T T' : List (List Nat)} {O O' : Nat → Prop} (h : Two w H p q S T O O') (hH : H ≤ w.heap.size) (hB : BagIs w' q 4 T' (fun k => O' k ∨ w.heap.size ≤ k)) (hk : Keeps O' w w') :
    Two w' H p q S T' O (fun k => (O' k ∨ w.heap.size ≤ k) ∧ k < w'.heap.size) :=
  ⟨h.b.keeps hk (fun k h1 h2 => h.far k h1 h2), hB.restrict, fun k h1 h2 => by
    rcases h2.1 with h3 | h3
    · exact h.far k h1 h3
    · have := (h.ob k h1).2; omega, fun k h1 => ⟨(h.ob k h1).1, Nat.lt_of_lt_of_le (h.ob k h1).2 hk.size⟩, fun k h1 => ⟨by rcases h1.1 with h3 | h3; exact (h.oc k h3).1; omega, h1.2⟩⟩

set_option maxRecDepth 100000 in
set_option maxHeartbeats 400000 in
theorem bagApart_long (w : World) (A1 A2 : Option Addr) (n1 n2 c1 c2 : Nat) (h : 100 < n1 ∨ 100 < n2) :
    Calls Tryd.prog 3 #[.slice A1 n1 c1, .slice A2 n2 c2] w fun e w' => e = .returned (.bool true) ∧ Below w.heap.size w w' := by
  by_cases h1 : 100 < n1
  · go_enter Tryd.func3, Tryd.ntmps3
    go_wp2_with fail
    refine (awake_c w).mono ?_
    rintro e w1 ⟨rfl, hb1⟩
    go_wp2_with fail
    go_ret
    exact ⟨rfl, hb1⟩
  · have h2 : 100 < n2 := by omega
    go_enter Tryd.func3, Tryd.ntmps3
    go_wp2_with fail
    refine (awake_c w).mono ?_
    rintro e w1 ⟨rfl, hb1⟩
    go_wp2_with fail
    go_ret
    exact ⟨rfl, hb1⟩

set_option maxRecDepth 100000 in
set_option maxHeartbeats 4000000 in
theorem bagApart_short (w : World) (A1 A2 : Option Addr) (n1 n2 c1 c2 : Nat) (xs ys : List Int) (hx : Sl w A1 n1 (xs.map (Value.int .i64))) (hy : Sl w A2 n2 (ys.map (Value.int .i64))) (hyw : ∀ x ∈ ys, (Lit.int .i64 x).wf = true) (l1 : n1 ≤ 100) (l2 : n2 ≤ 100) :
    Calls Tryd.prog 3 #[.slice A1 n1 c1, .slice A2 n2 c2] w fun e w' => e = .returned (.bool true) ∧ Below w.heap.size w w' := by
  have hlx : xs.length = n1 := by simpa using hx.1
  have hly : ys.length = n2 := by simpa using hy.1
  have HLX := Lib.hid hlx
  have HLY := Lib.hid hly
  clear hlx hly
  go_enter Tryd.func3, Tryd.ntmps3
  go_wp2_with fail
  refine (awake_c w).mono ?_
  rintro e w1 ⟨rfl, hb1⟩
  go_wp2_with fail
  refine (newBag_c w1 4 (by decide)).mono ?_
  rintro e w2 ⟨rfl, hB2, hb2⟩
  go_wp2_with fail
  refine (newBag_c w2 4 (by decide)).mono ?_
  rintro e w3 ⟨rfl, hB3, hb3⟩
  have hs1 := hb1.size
  have hs2 := hb2.size
  have hs3 := hb3.size
  have hbw3 : Below w.heap.size w w3 := (hb1.trans (hb2.mono hs1)).trans (hb3.mono (by omega))
  have hT : Two w3 w1.heap.size (.pointer (some ⟨w1.heap.size + 1, 0, none⟩)) (.pointer (some ⟨w2.heap.size + 1, 0, none⟩)) [] [] (fun k => w1.heap.size ≤ k ∧ k < w2.heap.size) (fun k => w2.heap.size ≤ k ∧ k < w3.heap.size) :=
    ⟨hB2.restrict.below hb3, hB3.restrict, fun k h1 h2 => by omega, fun k h => by omega, fun k h => by omega⟩
  clear hB2 hB3 hb2 hb3 hb1
  go_wp2_with fail
  go_loopw [9, 10] (fun nn i wr => ∃ (k : Nat) (S : List (List Nat)) (O O' : Nat → Prop), k ≤ n1 ∧ i = .int .i64 k ∧ nn = .int .i64 (S.length : Nat) ∧ Two wr w1.heap.size (.pointer (some ⟨w1.heap.size + 1, 0, none⟩)) (.pointer (some ⟨w2.heap.size + 1, 0, none⟩)) S [] O O' ∧ One4 S ∧ w1.heap.size ≤ wr.heap.size ∧ Below w.heap.size w wr) (fun _ i _ => n1 - (intOf i).toNat)
  case atStart => exact ⟨0, [], _, _, Nat.zero_le _, rfl, rfl, hT, fun l hl => by simp at hl, by omega, hbw3⟩
  case round =>
    clear hT hbw3
    obtain ⟨k, S, O, O', hk, rfl, rfl, hT, hone, hsz, hb⟩ := hrel
    have h4 := one4 hone hT.b.nodup
    by_cases hlt : k < n1
    · obtain ⟨ad, x, rfl, hxk, hcx⟩ := (hx.below hb).int_ hlt
      obtain ⟨t1, t2⟩ := tmod4 x
      obtain ⟨y, hy⟩ : ∃ y, y = (x.tmod 4 + 4) % 4 := ⟨_, rfl⟩
      have y0 : 0 ≤ y := by omega
      have y4 : y < 4 := by omega
      have hy' := hy.symm
      clear hxk hy
      go_wp2_with fail
      have hw0 : w.heap.size ≤ wr.heap.size := hb.size
      have hTa := hT.pure ((Below.refl _ _).alloc (Nat.le_refl _) (.cells #[.int .i64 y] 3))
      refine (Put_c hTa.b _ 1 _ [y] (by omega) (lit_sl wr [y] 1 rfl (by decide)) (by intro z hz; simp at hz; subst hz; omega) (.inr (by omega))).mono ?_
      rintro e w4 ⟨rfl, hB4, hk4⟩
      have hT4 := hTa.putb (by simp; omega) hB4 hk4
      have hone4 := one4_add hone y0 y4
      have hlen := addS_len S (bitsOf 4 [y])
      have hb4 : Below w.heap.size w w4 := (hb.alloc (by omega) _).trans (hk4.below (by simp; omega) (fun k h => by have := (hTa.ob k h).1; omega))
      have hs4 := hk4.size
      simp only [World.size_alloc] at hs4
      clear hTa hT hB4 hk4 hb
      by_cases hin : bitsOf 4 [y] ∈ S
      · rw [if_pos hin] at hlen
        have HLEN := Lib.hid hlen
        clear hlen
        go_wp2_with fail
        exact ⟨⟨k + 1, _, _, _, by omega, by go_num, by rw [HLEN.out]; rfl, hT4, hone4, by omega, hb4⟩, by simp [intOf]; omega⟩
      · rw [if_neg hin] at hlen
        have HLEN := Lib.hid hlen
        clear hlen
        go_wp2_with fail
        exact ⟨⟨k + 1, _, _, _, by omega, by go_num, by rw [HLEN.out]; go_num, hT4, hone4, by omega, hb4⟩, by simp [intOf]; omega⟩
    · obtain rfl : k = n1 := by omega
      clear hlt hk
      go_wp2_with fail
      go_loopw [14] (fun i wr => ∃ (j : Nat) (T : List (List Nat)) (O O' : Nat → Prop), j ≤ n2 ∧ i = .int .i64 j ∧ T.length ≤ j ∧ Two wr w1.heap.size (.pointer (some ⟨w1.heap.size + 1, 0, none⟩)) (.pointer (some ⟨w2.heap.size + 1, 0, none⟩)) S T O O' ∧ w1.heap.size ≤ wr.heap.size ∧ Below w.heap.size w wr) (fun i _ => n2 - (intOf i).toNat)
      case atStart => exact ⟨0, [], _, _, Nat.zero_le _, rfl, Nat.le_refl _, hT, hsz, hb⟩
      case round =>
        clear hT hb hsz
        obtain ⟨j, T, O, O', hj, rfl, hTl, hT, hsz, hb⟩ := hrel
        by_cases hlt : j < n2
        · obtain ⟨ad, x, rfl, hxk, hcx⟩ := (hy.below hb).int_ hlt
          obtain ⟨t1, t2⟩ := tmod4 x
          obtain ⟨t3, t4⟩ := tmod4 (x.tdiv 4)
          have hxm := List.mem_of_getElem? hxk
          clear hxk
          obtain ⟨y, hy'⟩ : ∃ y, (x.tmod 4 + 4) % 4 = y := ⟨_, rfl⟩
          obtain ⟨z, hz'⟩ : ∃ z, ((x.tdiv 4).tmod 4 + 4) % 4 = z := ⟨_, rfl⟩
          have y0 : 0 ≤ y := by omega
          have y4 : y < 4 := by omega
          have z0 : 0 ≤ z := by omega
          have z4 : z < 4 := by omega
          have q5 : IntKind.i64.wrap (x.tdiv 4) = x.tdiv 4 := div4_fits x (hyw x hxm)
          have q1 : IntKind.i64.wrap (x.tmod 4 + 4) = x.tmod 4 + 4 := IntWalk.i64_in _ (by omega)
          have q2 : IntKind.i64.wrap ((x.tdiv 4).tmod 4 + 4) = (x.tdiv 4).tmod 4 + 4 := IntWalk.i64_in _ (by omega)
          have q3 : (x.tmod 4 + 4).tmod 4 = y := by rw [Int.tmod_eq_emod_of_nonneg (by omega)]; exact hy'
          have q4 : ((x.tdiv 4).tmod 4 + 4).tmod 4 = z := by rw [Int.tmod_eq_emod_of_nonneg (by omega)]; exact hz'
          go_wp2_with fail
          have hw0 : w.heap.size ≤ wr.heap.size := hb.size
          have hbd : Below wr.heap.size wr ((wr.alloc (.cells #[.int .i64 y, .int .i64 z] 3)).drew) := ((Below.refl _ _).alloc (Nat.le_refl _) _).drew
          have hTd := hT.pure hbd
          have hsd : Sl ((wr.alloc (.cells #[.int .i64 y, .int .i64 z] 3)).drew) (some ⟨wr.heap.size, 0, none⟩) 2 ([y, z].map (Value.int .i64)) := lit_sl wr [y, z] 2 rfl (by decide)
          have hput := Put_c hTd.c _ 2 2 [y, z] (by omega) hsd (by intro v hv; simp at hv; rcases hv with rfl | rfl <;> omega) (.inr (by omega))
          have HPUT := Lib.hid hput
          clear hput hsd
          go_region_with (go_at_call 9; refine (HPUT.out).mono ?_; rintro e w4 ⟨rfl, hB4, hk4⟩)
          all_goals
            have hT4 := hTd.putc (by simp; omega) hB4 hk4
            have hs4 := hk4.size
            simp only [World.size_drew, World.size_alloc] at hs4
            have hb4 : Below w.heap.size w w4 := (hb.trans (hbd.mono hw0)).trans (hk4.below (by simp; omega) (fun k h => by have := (hTd.oc k h).1; omega))
            have hlen := addS_len T (bitsOf 4 [y, z])
            have hlen2 : (addS T (bitsOf 4 [y, z])).length ≤ j + 1 := by split at hlen <;> omega
            clear hlen hTd hB4 hk4 q1 q2 q3 q4 q5 hy' hz' hT hb hbd
            go_wp2_with fail
            exact ⟨⟨j + 1, _, _, _, by omega, by go_num, hlen2, hT4, by omega, hb4⟩, by simp [intOf]; omega⟩
        · obtain rfl : j = n2 := by omega
          clear hlt hj
          obtain ⟨wo, rfl⟩ : ∃ wo : World, wo = wr := ⟨_, rfl⟩
          have hw0 : w.heap.size ≤ wo.heap.size := hb.size
          have t1 : ((S.length : Int) != (S.length : Int)) = false := by simp
          go_wp2_with fail
          refine (Len_c hT.b).mono ?_
          rintro e w4 ⟨rfl, rfl⟩
          go_wp2_with fail
          have hTa := hT.pure ((Below.refl _ _).alloc (Nat.le_refl _) (.cells #[.int .i64 0, .int .i64 1, .int .i64 2, .int .i64 3] 3))
          have hl15 : bitsOf 4 [0, 1, 2, 3] = [15] := by decide
          have hput := Put_c hTa.b _ 4 4 [0, 1, 2, 3] (by omega) (lit_sl wo [0, 1, 2, 3] 4 rfl (by decide)) (by decide) (.inr (by omega))
          rw [hl15] at hput
          have hidx : (addS S [15])[(addS S [15]).idxOf [15]]? = some [15] := idx_get (by unfold addS; split; assumption; simp)
          generalize (addS S [15]).idxOf [15] = id at hput hidx
          have HID := Lib.hid hidx
          have HPUT := Lib.hid hput
          clear hput hidx hl15
          refine (HPUT.out).mono ?_
          rintro e w4 ⟨rfl, hB4, hk4⟩
          have hT4 := hTa.putb (by simp; omega) hB4 hk4
          have hs4 := hk4.size
          simp only [World.size_alloc] at hs4
          have hb4 : Below w.heap.size w w4 := (hb.alloc (by omega) _).trans (hk4.below (by simp; omega) (fun k h => by have := (hTa.ob k h).1; omega))
          clear hTa hT hB4 hk4 hb
          go_wp2_with fail
          refine (Get_c hT4.b id [15] HID.out).mono ?_
          rintro e w5 ⟨vp, rfl, hp5, hb5⟩
          have hs5 := hb5.size
          have hget : getL 4 [15] = [0, 1, 2, 3] := by decide
          rw [hget] at hp5
          obtain ⟨PA, pc, rfl, _, _⟩ := own_slice hp5
          go_wp2_with fail
          refine (Get_c (hT4.b.below hb5) id [15] HID.out).mono ?_
          rintro e w6 ⟨vq, rfl, hq6, hb6⟩
          have hs6 := hb6.size
          rw [hget] at hq6
          obtain ⟨QA, qc, rfl, _, _⟩ := own_slice hq6
          go_wp2_with fail
          have hp6 := own_below hp5 hb6
          refine (ints_b _ PA _ 4 4 pc _ [0, 1, 2, 3] [0, 1, 2, 3] ((Sl.of_own hp6).alloc _) (lit_sl w6 [0, 1, 2, 3] 4 rfl (by decide)) (by decide) (by decide)).mono ?_
          rintro e w7 ⟨rfl, hb7⟩
          have hs7 := hb7.size
          simp only [World.size_alloc] at hs7
          have hb67 : Below w6.heap.size w6 w7 := ((Below.refl _ _).alloc (Nat.le_refl _) _).trans (hb7.mono (by simp))
          have hp7 := own_below hp6 hb67
          have hq7 := own_below hq6 hb67
          go_wp2_with fail
          refine (ints_b _ QA PA 4 4 qc pc [0, 1, 2, 3] [0, 1, 2, 3] (Sl.of_own hq7) (Sl.of_own hp7) (by decide) (by decide)).mono ?_
          rintro e w8 ⟨rfl, hb8⟩
          have hs8 := hb8.size
          have hp8 := own_below hp7 hb8
          have hq8 := own_below hq7 hb8
          go_wp2_with fail
          have hlit := World.ownsRow_lit (base := w8.heap.size) (e := 22) (size := 1) w8 #[.slice PA 4 pc, .slice QA 4 qc] 2 (Nat.le_refl _) (by decide) rfl
          have hfp : ∀ g, (Value.slice PA 4 pc).ownBlock = some g → w4.heap.size ≤ g ∧ g < w5.heap.size := fun g hg => hp5.lt g hg
          have hfq : ∀ g, (Value.slice QA 4 qc).ownBlock = some g → w5.heap.size ≤ g ∧ g < w6.heap.size := fun g hg => hq6.lt g hg
          refine (apart_c _ _ 2 2 [(.slice PA 4 pc, [0, 1, 2, 3]), (.slice QA 4 qc, [0, 1, 2, 3])] (Sl.of_own hlit) ⟨?_⟩ ?_ ?_ (by decide) ?_).mono ?_
          · intro i p hp
            match i, hp with
            | 0, hp => cases hp; exact own_base (hp8.alloc _) (Nat.zero_le _)
            | 1, hp => cases hp; exact own_base (hq8.alloc _) (Nat.zero_le _)
          · intro i1 i2 p q g hne h1 h2 hg1 hg2
            match i1, i2, h1, h2 with
            | 0, 0, _, _ => exact hne rfl
            | 0, 1, h1, h2 => cases h1; cases h2; have := hfp g hg1; have := hfq g hg2; omega
            | 1, 0, h1, h2 => cases h1; cases h2; have := hfq g hg1; have := hfp g hg2; omega
            | 1, 1, _, _ => exact hne rfl
          · rintro ad had ⟨p, hp, hg⟩
            cases had
            simp only [List.mem_cons, List.not_mem_nil, or_false] at hp
            rcases hp with rfl | rfl
            · have := hfp w8.heap.size hg; omega
            · have := hfq w8.heap.size hg; omega
          · intro p hp
            simp only [List.mem_cons, List.not_mem_nil, or_false] at hp
            rcases hp with rfl | rfl <;> simp
          rintro e w9 ⟨rfl, hk9⟩
          have hfoot : ∀ k, Apart.Foot [(.slice PA 4 pc, [0, 1, 2, 3]), (.slice QA 4 qc, [0, 1, 2, 3])] k → w4.heap.size ≤ k := by
            rintro k ⟨p, hp, hg⟩
            simp only [List.mem_cons, List.not_mem_nil, or_false] at hp
            rcases hp with rfl | rfl
            · exact (hfp _ hg).1
            · have := hfq _ hg; omega
          have hs9 := hk9.size
          simp only [World.size_alloc] at hs9
          have hb49 : Below w4.heap.size w4 w9 := (((hb5.trans (hb6.mono hs5)).trans (hb67.mono (by omega))).trans (hb8.mono (by omega))).trans (((Below.refl w4.heap.size w8).alloc (by omega) (.cells #[.slice PA 4 pc, .slice QA 4 qc] 22)).trans (hk9.below (by simp; omega) hfoot))
          go_wp2_with fail
          refine (Get_c (hT4.b.below hb49) id [15] HID.out).mono ?_
          rintro e w10 ⟨vs, rfl, hs10, hb10⟩
          rw [hget] at hs10
          obtain ⟨SA, sc, rfl, _, _⟩ := own_slice hs10
          have hs10' := hb10.size
          go_wp2_with fail
          refine (ints_b _ SA _ 4 4 sc _ [0, 1, 2, 3] [0, 1, 2, 3] ((Sl.of_own hs10).alloc _) (lit_sl w10 [0, 1, 2, 3] 4 rfl (by decide)) (by decide) (by decide)).mono ?_
          rintro e w11 ⟨rfl, hb11⟩
          go_wp2_with fail
          go_ret
          refine ⟨rfl, ((hb4.trans (hb49.mono (by omega))).trans (hb10.mono (by omega))).trans (((Below.refl w.heap.size w10).alloc (by omega) _).trans (hb11.mono (by simp; omega)))⟩

end Go.Proofs.YtmephmijeepcnaaDoor
