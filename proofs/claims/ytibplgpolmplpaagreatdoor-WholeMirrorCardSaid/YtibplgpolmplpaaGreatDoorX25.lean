/- The tops' own checks: counts of edentop, and the fair share. Condition: the error variables hold what E says. One language of a rule and its narrow form, as the walks over the subsets see it: the narrow rule's walk is never too big where the wide one's is not. Plain lists, no program. No condition. Lists that share no memory: edenraw.Apart returns true. Condition: each list is a slice in a row of its own, no two in one row. Lists that share no memory: the call of edenraw.Apart. Condition: each list is a slice in a row of its own, no two in one row. Lists in rows of their own, one behind the other: what edenraw.Apart asks. No condition. Lists of lists in memory of their own, side by side: what Apart asks of them. Plain lemmas. No condition. The walk with and without a stop; how long words and rows get. Plain lists, no program. No condition. The call of WholeOnto: it returns true. Condition: the lists read from memory; the error variables hold what E says. By a sum all words that have preimages have as many, rings too; the table of factors. Plain lists, no program. No condition. The factors of a sum: additive.numbers where all are symbols. Condition: the list reads from memory. -/
import Derived.Test.YtibplgpolmplpaaGreatDoorX1
import Derived.Test.YtibplgpolmplpaaGreatDoorX3
import Derived.Test.YtibplgpolmplpaaGreatDoorX7
import Derived.Test.YtibplgpolmplpaaGreatDoorX8
import Derived.Test.YtibplgpolmplpaaGreatDoorX19
import Derived.Test.YtibplgpolmplpaaGreatDoorX22
import Derived.Test.YtibplgpolmplpaaGreatDoorX23
import Derived.Test.YtibplgpolmplpaaGreatDoorX24
namespace Go.Proofs.YtibplgpolmplpaaGreatDoor
open Go.RowKit RuleP

theorem small_parts {K R : Int} {T : List Int} (h : small K R T = none) : ∃ (k r : Nat) (t : List Nat), K = (k : Int) ∧ R = (r : Int) ∧ T = ints t ∧ IsRule k r t ∧ t.length ≤ 256 := by
  unfold small at h
  split at h
  · cases h
  · rename_i hc
    split at h
    · cases h
    · rename_i h2
      obtain ⟨k, r, t, rfl, rfl, rfl, hr⟩ := check_none hc
      exact ⟨k, r, t, rfl, rfl, rfl, hr, by rw [ints_len] at h2; omega⟩
theorem eca_pre3 : (preL 2 1 [0, 1, 1, 1, 0, 1, 1, 0] [0]).length = 3 := by decide +kernel
theorem eca_pre0 : (preL 2 1 [0, 1, 1, 1, 0, 1, 1, 0] [0, 1, 0, 1, 0]).length = 0 := by decide +kernel
theorem eca_words3 : wordsV 2 1 (ints (ecaT 110 8)) [0] = (3, none) := by
  rw [ecaT_110]
  exact (wordsV_good eca_rule110 (by decide) (x := [0]) (by decide) (by decide)).trans (by rw [eca_pre3])
theorem eca_words0 : wordsV 2 1 (ints (ecaT 110 8)) [0, 1, 0, 1, 0] = (0, none) := by
  rw [ecaT_110]
  exact (wordsV_good eca_rule110 (by decide) (x := [0, 1, 0, 1, 0]) (by decide) (by decide)).trans (by rw [eca_pre0])
theorem limbs_3 : limbs 3 = [3] := by decide
theorem limbs_0 : limbs 0 = [] := by decide

set_option maxRecDepth 100000 in
theorem count3_c (w : World) (E : Nat → Addr) (hE : ErrW w E) (A : Option Addr) (c : Nat) (hT : Sl w A 8 ((ints (ecaT 110 8)).map (Value.int .i64))) (B : Option Addr) (d : Nat) (hX : Sl w B 1 (([0] : List Int).map (Value.int .i64))) :
    Calls Tryz.prog 13 #[ruleV 2 1 A 8 c, .slice B 1 d] w fun e w' => ∃ (C : Option Addr) (cc : Nat), e = .returned (.tuple #[.slice C 1 cc, .nilIface]) ∧ Sl w' C 1 (([3] : List Nat).map wv) ∧ Below w.heap.size w w' := by
  have h := cWords_c w E hE.1 2 1 A 8 c _ hT (by decide) B 1 d _ hX (by decide)
  rw [eca_words3] at h
  refine h.mono fun _ _ h => ?_
  obtain ⟨C, cc, v, rfl, ho, hv, hb⟩ := h
  obtain rfl : v = .nilIface := hv
  rw [limbs_3] at ho ⊢
  exact ⟨C, cc, rfl, Sl.of_own ho, hb⟩
theorem count0_c (w : World) (E : Nat → Addr) (hE : ErrW w E) (A : Option Addr) (c : Nat) (hT : Sl w A 8 ((ints (ecaT 110 8)).map (Value.int .i64))) (B : Option Addr) (d : Nat) (hX : Sl w B 5 (([0, 1, 0, 1, 0] : List Int).map (Value.int .i64))) :
    Calls Tryz.prog 13 #[ruleV 2 1 A 8 c, .slice B 5 d] w fun e w' => ∃ (C : Option Addr) (cc : Nat), e = .returned (.tuple #[.slice C 0 cc, .nilIface]) ∧ Below w.heap.size w w' := by
  have h := cWords_c w E hE.1 2 1 A 8 c _ hT (by decide) B 5 d _ hX (by decide)
  rw [eca_words0] at h
  refine h.mono fun _ _ h => ?_
  obtain ⟨C, cc, v, rfl, _, hv, hb⟩ := h
  obtain rfl : v = .nilIface := hv
  rw [limbs_0]
  exact ⟨C, cc, rfl, hb⟩

set_option maxRecDepth 100000 in
set_option maxHeartbeats 2000000 in
theorem counts_c (w : World) (E : Nat → Addr) (hE : ErrW w E) : Calls Tryz.prog 8 #[] w fun e w' => e = .returned (.bool true) ∧ Below w.heap.size w w' := by
  have HE := Lib.hid (fun (wz : World) (hz : Below w.heap.size w wz) => hE.below hz)
  clear hE
  go_enter Tryz.func8, Tryz.ntmps8
  have HC1 := Lib.hid (eca_c w 110 (by decide))
  go_wp2_with fail
  refine (HC1.out).mono ?_
  rintro e w1 ⟨A1, c1, rfl, hT1, hb1⟩
  have hl := lit_ints w1 [0] 1 rfl (by decide) 3
  have b2 := (Below.refl w1.heap.size w1).alloc (Nat.le_refl _) (.cells #[.int .i64 0] 3)
  obtain ⟨w2, hw2⟩ : ∃ w2, w1.alloc (.cells #[.int .i64 0] 3) = w2 := ⟨_, rfl⟩
  change Sl (w1.alloc (.cells #[.int .i64 0] 3)) _ _ _ at hl
  rw [hw2] at hl b2
  have hb02 := hb1.trans (b2.mono hb1.size)
  have HO1 := count3_c w2 E (HE.out w2 hb02) A1 c1 (hT1.below b2) (some ⟨w1.heap.size, 0, none⟩) 1 hl
  unfold ruleV at HO1
  have HO1 := Lib.hid HO1
  have HB2 := Lib.hid hb02
  have HW2 := Lib.hid hw2
  clear hT1 hb1 HC1 hl b2 hw2 hb02
  go_wp2_with fail
  rw [HW2.out]
  refine (HO1.out).mono ?_
  rintro e w3 ⟨C3, c3, rfl, hs3, hb3⟩
  have HB3 := Lib.hid (HB2.out.trans (hb3.mono HB2.out.size))
  have HS3 := Lib.hid (fun (wz : World) (hz : Below w3.heap.size w3 wz) => hs3.below hz)
  have HC3 := Lib.hid (eca_c w3 110 (by decide))
  clear hb3 hs3 HO1
  go_wp2_with fail
  refine (HC3.out).mono ?_
  rintro e w4 ⟨A4, c4, rfl, hT4, hb4⟩
  have hl := lit_ints w4 [0, 1, 0, 1, 0] 5 rfl (by decide) 3
  have b5 := (Below.refl w4.heap.size w4).alloc (Nat.le_refl _) (.cells #[.int .i64 0, .int .i64 1, .int .i64 0, .int .i64 1, .int .i64 0] 3)
  obtain ⟨w5, hw5⟩ : ∃ w5, w4.alloc (.cells #[.int .i64 0, .int .i64 1, .int .i64 0, .int .i64 1, .int .i64 0] 3) = w5 := ⟨_, rfl⟩
  change Sl (w4.alloc (.cells #[.int .i64 0, .int .i64 1, .int .i64 0, .int .i64 1, .int .i64 0] 3)) _ _ _ at hl
  rw [hw5] at hl b5
  have hb35 := hb4.trans (b5.mono hb4.size)
  have hb05 := HB3.out.trans (hb35.mono HB3.out.size)
  have HO4 := count0_c w5 E (HE.out w5 hb05) A4 c4 (hT4.below b5) (some ⟨w4.heap.size, 0, none⟩) 5 hl
  unfold ruleV at HO4
  have HO4 := Lib.hid HO4
  have HB5 := Lib.hid (And.intro hb35 hb05)
  have HW5 := Lib.hid hw5
  clear hT4 hb4 HC3 hl b5 hw5 hb35 hb05
  go_wp2_with fail
  rw [HW5.out]
  refine (HO4.out).mono ?_
  rintro e w6 ⟨C6, c6, rfl, hb6⟩
  have hb36 := HB5.out.1.trans (hb6.mono HB5.out.1.size)
  have hb06 := HB5.out.2.trans (hb6.mono HB5.out.2.size)
  have HD := Lib.hid (decides_c w6 E (HE.out w6 hb06))
  have HB6 := Lib.hid (And.intro hb36 hb06)
  clear hb6 hb36 hb06 HO4
  go_wp2_with fail
  refine (HD.out).mono ?_
  rintro e w7 ⟨rfl, hb7⟩
  have hb37 := HB6.out.1.trans (hb7.mono HB6.out.1.size)
  have hb07 := HB6.out.2.trans (hb7.mono HB6.out.2.size)
  have b8 := (Below.refl w7.heap.size w7).alloc (Nat.le_refl _) (.cells #[.int .u32 3] 64)
  have hl8 : Sl (w7.alloc (.cells #[.int .u32 3] 64)) (some ⟨w7.heap.size, 0, none⟩) 1 (([3] : List Nat).map wv) := by
    refine ⟨rfl, fun j v hv => ⟨_, rfl, ?_⟩⟩
    match j, hv with
    | 0, hv =>
      have : v = .int .u32 3 := by simpa [wv] using hv.symm
      subst this
      simp [Addr.add]
  obtain ⟨w8, hw8⟩ : ∃ w8, w7.alloc (.cells #[.int .u32 3] 64) = w8 := ⟨_, rfl⟩
  rw [hw8] at b8 hl8
  have hb38 := hb37.trans (b8.mono hb37.size)
  have hb08 := hb07.trans (b8.mono hb07.size)
  have HN := Lib.hid (nats_b w8 C3 (some ⟨w7.heap.size, 0, none⟩) 1 1 c3 1 [3] [3] (HS3.out w8 hb38) hl8 (by decide))
  rw [decide_eq_true rfl] at HN
  have HB8 := Lib.hid hb08
  have HW8 := Lib.hid hw8
  clear hb37 hb07 b8 hl8 hw8 hb38 hb08 hb7 HD
  go_wp2_with fail
  rw [HW8.out]
  refine (HN.out).mono ?_
  rintro e w9 ⟨rfl, hb9⟩
  have HB9 := Lib.hid (HB8.out.trans (hb9.mono HB8.out.size))
  clear hb9 HN
  go_wp2_with fail
  go_ret
  exact ⟨rfl, HB9.out⟩

set_option maxRecDepth 100000 in
set_option maxHeartbeats 1000000 in
theorem share_c (w : World) (E : Nat → Addr) (hE : Errs w E) (k r n c : Nat) (A : Option Addr) (t : List Nat) (hT : Sl w A n ((ints t).map (Value.int .i64))) (hr : IsRule k r t) (h256 : t.length ≤ 256) :
    Calls Tryz.prog 15 #[ruleV (k : Int) (r : Int) A n c] w fun e w' => New w (k ^ (2 * r)) e w' := by
  have hn : t.length = n := by simpa [ints] using hT.1
  have hb1 := (Below.refl w.heap.size w).alloc (Nat.le_refl _) (.cells #[.int .i64 (k : Int), .int .i64 (r : Int), .slice A n c] 24)
  have hr1 := RuleAt.new w (.int .i64 (k : Int)) (.int .i64 (r : Int)) (.slice A n c)
  obtain ⟨r0, r1, r2, _⟩ := hr1.facts
  obtain ⟨w1, hw1⟩ : ∃ w1, w.alloc (.cells #[.int .i64 (k : Int), .int .i64 (r : Int), .slice A n c] 24) = w1 := ⟨_, rfl⟩
  rw [hw1] at hb1
  have hN4 : k ^ (2 * r) ≤ 256 := by
    obtain ⟨_, hln⟩ := nodes_div hr
    have := Nat.le_mul_of_pos_right (k ^ (2 * r)) hr.k1
    omega
  have hso : smallO (k : Int) (r : Int) (ints t) = none := by
    unfold smallO
    rw [small_rule hr h256]
    rfl
  have hno := overNodes_c w1 E (hE.below hb1) (k : Int) (r : Int) A n c (ints t) (hT.below hb1) (by omega)
  rw [hso, if_pos rfl, show nodesN (k : Int) (r : Int) = k ^ (2 * r) from rfl] at hno
  obtain ⟨N, hN⟩ : ∃ N, k ^ (2 * r) = N := ⟨_, rfl⟩
  rw [hN] at hno hN4 ⊢
  unfold ruleV at hno ⊢
  have HNO := Lib.hid hno
  have HW1 := Lib.hid hw1
  have HB1 := Lib.hid hb1
  clear hno hw1 hb1 hr1 hE hT hso hN
  go_enter Tryz.func15, Tryz.ntmps15
  go_wp2_with fail
  rw [HW1.out]
  refine (HNO.out).mono ?_
  rintro e w2 ⟨v, rfl, _, hb2⟩
  have HB2 := Lib.hid (HB1.out.trans (hb2.mono HB1.out.size))
  have HFR := Lib.hid (fromL_n w2 N (by omega))
  have hNu : IntKind.u64.wrap (N : Int) = (N : Int) := IntWalk.u64_in _ (by omega)
  clear hb2 HNO
  go_wp2_with fail
  refine (HFR.out).mono ?_
  rintro e w3 ⟨C, c3, rfl, hn3, ho3, hb3⟩
  have HX : Hid (New w N (.returned (.slice C (limbs N).length c3)) w3) := Lib.hid ⟨C, c3, rfl, hn3, own_base ho3 HB2.out.size, HB2.out.trans (hb3.mono HB2.out.size)⟩
  clear hn3 ho3 hb3 HFR
  go_wp2_with fail
  go_ret
  exact HX.out
end Go.Proofs.YtibplgpolmplpaaGreatDoor

namespace Go.Proofs.YtibplgpolmplpaaGreatDoor
namespace SubP
open BagP RuleP

/-- The nodes behind a word. -/
def aft (k N : Nat) (t : List Nat) (w : List Nat) : List Bool := w.foldl (fun B c => beh k N t B c) (List.replicate N true)
theorem aft_snoc (k N : Nat) (t w : List Nat) (c : Nat) : aft k N t (w ++ [c]) = beh k N t (aft k N t w) c := by simp [aft]
/-- What holds of the sets as they are found: unlike, not empty, each behind some word. -/
structure Met (k N : Nat) (t : List Nat) (S : St) : Prop where
  nd : S.sets.Nodup
  ne : ∀ B ∈ S.sets, nodesOf B ≠ []
  word : ∀ B ∈ S.sets, ∃ w : List Nat, (∀ c ∈ w, c < k) ∧ B = aft k N t w
/-- One set more than there may be. -/
def Much (k N : Nat) (t : List Nat) : Prop := ∃ S : St, Met k N t S ∧ 4096 < S.sets.length
theorem Met.init {k N : Nat} {t : List Nat} (hN : 0 < N) : Met k N t (init N) where
  nd := by simp [SubP.init]
  ne := (Inv.init hN).some
  word := fun B hB => by
    simp [SubP.init] at hB
    exact ⟨[], fun c hc => by simp at hc, hB⟩
theorem Met.more {k N : Nat} {t : List Nat} {S : St} (h : Met k N t S) {i s : Nat} (hi : i < S.sets.length) (hs : s < k) (h1 : nodesOf (beh k N t (S.sets.getD i []) s) ≠ []) (h2 : beh k N t (S.sets.getD i []) s ∉ S.sets) {W : List (List Nat)} {X : List (List Int)} :
    Met k N t ⟨S.sets ++ [beh k N t (S.sets.getD i []) s], W, X⟩ := by
  have hm : S.sets.getD i [] ∈ S.sets := by
    rw [List.getD_eq_getElem?_getD, List.getElem?_eq_getElem hi]
    exact List.getElem_mem hi
  obtain ⟨w, hw1, hw2⟩ := h.word _ hm
  refine ⟨?_, ?_, ?_⟩
  · rw [List.nodup_append]
    exact ⟨h.nd, by simp, fun a ha b hb e => by simp at hb; subst hb; subst e; exact h2 ha⟩
  · intro B hB
    rcases List.mem_append.1 hB with hB | hB
    · exact h.ne B hB
    · simp at hB; subst hB; exact h1
  · intro B hB
    rcases List.mem_append.1 hB with hB | hB
    · exact h.word B hB
    · obtain rfl := List.mem_singleton.1 hB
      refine ⟨w ++ [s], fun c hc => ?_, by rw [aft_snoc, ← hw2]⟩
      rcases List.mem_append.1 hc with hc | hc
      · exact hw1 c hc
      · rw [List.mem_singleton.1 hc]; exact hs
theorem Met.sym {k N : Nat} {t : List Nat} {S : St} (h : Met k N t S) {i s : Nat} {row : List Int} (hi : i < S.sets.length) (hs : s < k) :
    (∃ S' row', sym k N t false i S row s = .go S' row' ∧ Met k N t S' ∧ S.sets.length ≤ S'.sets.length) ∨ (sym k N t false i S row s = .over ∧ Much k N t) := by
  unfold SubP.sym
  by_cases h1 : nodesOf (beh k N t (S.sets.getD i []) s) = []
  · rw [if_pos h1]
    exact .inl ⟨_, _, rfl, h, Nat.le_refl _⟩
  · rw [if_neg h1]
    by_cases h2 : beh k N t (S.sets.getD i []) s ∈ S.sets
    · rw [if_pos h2]
      exact .inl ⟨_, _, rfl, h, Nat.le_refl _⟩
    · rw [if_neg h2]
      by_cases h3 : 4096 ≤ S.sets.length
      · rw [if_pos h3]
        exact .inr ⟨rfl, _, h.more hi hs h1 h2 (W := []) (X := []), by simp; omega⟩
      · rw [if_neg h3]
        exact .inl ⟨_, _, rfl, h.more hi hs h1 h2, by simp⟩
theorem Met.rowTo {k N : Nat} {t : List Nat} {S : St} (h : Met k N t S) {i : Nat} (hi : i < S.sets.length) : ∀ {s : Nat}, s ≤ k →
    (∃ S' row', rowTo k N t false i S s = .go S' row' ∧ Met k N t S' ∧ S.sets.length ≤ S'.sets.length) ∨ (rowTo k N t false i S s = .over ∧ Much k N t)
  | 0, _ => .inl ⟨S, [], rfl, h, Nat.le_refl _⟩
  | s + 1, hs => by
    rw [SubP.rowTo]
    rcases Met.rowTo h hi (s := s) (by omega) with ⟨S', row', e, h', hl⟩ | ⟨e, hm⟩
    · rw [e]
      rcases h'.sym (row := row') (show i < S'.sets.length by omega) (show s < k by omega) with ⟨S2, row2, e2, h2, hl2⟩ | ⟨e2, hm⟩
      · exact .inl ⟨S2, row2, e2, h2, by omega⟩
      · exact .inr ⟨e2, hm⟩
    · rw [e]
      exact .inr ⟨rfl, hm⟩
theorem Met.round {k N : Nat} {t : List Nat} (hN : 0 < N) : ∀ (n : Nat), (∃ S row, roundTo k N t false n = .go S row ∧ Met k N t S) ∨ (roundTo k N t false n = .over ∧ Much k N t)
  | 0 => .inl ⟨_, _, rfl, Met.init hN⟩
  | n + 1 => by
    rw [roundTo]
    rcases Met.round hN n with ⟨S, row, e, h⟩ | ⟨e, hm⟩
    · rw [e]
      dsimp only
      by_cases hl : n < S.sets.length
      · rw [if_pos hl]
        rcases h.rowTo hl (Nat.le_refl k) with ⟨S', row', e', h', _⟩ | ⟨e', hm⟩
        · rw [e']
          exact .inl ⟨_, _, rfl, ⟨h'.nd, h'.ne, h'.word⟩⟩
        · rw [e']
          exact .inr ⟨rfl, hm⟩
      · rw [if_neg hl]
        exact .inl ⟨_, _, rfl, h⟩
    · rw [e]
      exact .inr ⟨rfl, hm⟩
end SubP
end Go.Proofs.YtibplgpolmplpaaGreatDoor

namespace Go.Proofs.YtibplgpolmplpaaGreatDoor
open Go.RowKit
namespace Apart

def mk (i : Nat) : Int := -2 * (i : Int) - 1
/-- What list i holds, when k lists have been marked, and j places of the next. -/
def cont (k j i : Nat) (xs : List Int) : List Int := if i < k then List.replicate xs.length (mk i) else if i = k then List.replicate j (mk i) ++ xs.drop j else xs

theorem cont_zero (k i : Nat) (xs : List Int) : cont k 0 i xs = if i < k then List.replicate xs.length (mk i) else xs := by
  unfold cont; split
  · rfl
  · split <;> simp
/-- Every list in a row of its own. -/
structure Rows (w : World) (R : List (Value × List Int)) (k j : Nat) : Prop where
  own : ∀ (i : Nat) (p : Value × List Int), R[i]? = some p → w.ownsRow 0 3 1 p.1 p.2.length ((cont k j i p.2).map (Value.int .i64))
def Far (R : List (Value × List Int)) : Prop := ∀ (i j : Nat) (p q : Value × List Int) (g : Nat), i ≠ j → R[i]? = some p → R[j]? = some q → p.1.ownBlock = some g → q.1.ownBlock ≠ some g
def Foot (R : List (Value × List Int)) (b : Nat) : Prop := ∃ p ∈ R, p.1.ownBlock = some b

end Apart
end Go.Proofs.YtibplgpolmplpaaGreatDoor

namespace Go.Proofs.YtibplgpolmplpaaGreatDoor
open Go.RowKit Apart

end Go.Proofs.YtibplgpolmplpaaGreatDoor

namespace Go.Proofs.YtibplgpolmplpaaGreatDoor
open Go.RowKit

/-- A row of the call's own whose block lies from lo on and before hi. -/
structure Row (w : World) (lo hi : Nat) (v : Value) (n : Nat) (xs : List Value) : Prop where
  own : w.ownsRow lo 3 1 v n xs
  hi : ∀ g, v.ownBlock = some g → g < hi
namespace Row
variable {w w' : World} {lo hi n : Nat} {v : Value} {xs : List Value}
theorem of (h : w.ownsRow lo 3 1 v n xs) : Row w lo w.heap.size v n xs := ⟨h, fun g hg => (h.lt g hg).2⟩
theorem keeps {O : Nat → Prop} (h : Row w lo hi v n xs) (hk : Keeps O w w') (ho : ∀ b, O b → lo ≤ b → b < hi → False) : Row w' lo hi v n xs :=
  ⟨own_keeps h.own hk (fun g hg hO => ho g hO (h.own.lt g hg).1 (h.hi g hg)), h.hi⟩
theorem below (h : Row w lo hi v n xs) (hb : Below w.heap.size w w') : Row w' lo hi v n xs := ⟨own_below h.own hb, h.hi⟩
theorem sl {A : Option Addr} {c : Nat} (h : Row w lo hi (.slice A n c) n xs) : Sl w A n xs := Sl.of_own h.own
end Row

/-- Rows one behind the other, from block lo on. -/
def Ranged (w : World) : Nat → List (Value × List Int) → Prop
  | _, [] => True
  | lo, p :: R => ∃ l hi, lo ≤ l ∧ l ≤ hi ∧ Row w l hi p.1 p.2.length (p.2.map (Value.int .i64)) ∧ Ranged w hi R
namespace Ranged
variable {w : World}
theorem at_ : ∀ {R : List (Value × List Int)} {lo : Nat}, Ranged w lo R → ∀ (i : Nat) (p : Value × List Int), R[i]? = some p → ∃ l hi, lo ≤ l ∧ l ≤ hi ∧ Row w l hi p.1 p.2.length (p.2.map (Value.int .i64))
  | [], _, _, i, p, h => by simp at h
  | q :: R, lo, ⟨l, hi, h1, h2, h3, h4⟩, 0, p, h => by simp at h; subst h; exact ⟨l, hi, h1, h2, h3⟩
  | q :: R, lo, ⟨l, hi, h1, h2, h3, h4⟩, i + 1, p, h => by
    obtain ⟨l', hi', a, b, c⟩ := at_ h4 i p (by simpa using h)
    exact ⟨l', hi', by omega, b, c⟩
theorem rows {R : List (Value × List Int)} {lo : Nat} (h : Ranged w lo R) : Apart.Rows w R 0 0 := ⟨fun i p hp => by
  obtain ⟨l, hi, _, _, hr⟩ := h.at_ i p hp
  rw [Apart.cont_zero, if_neg (by omega)]
  exact own_base hr.own (Nat.zero_le _)⟩
theorem foot {R : List (Value × List Int)} {lo b : Nat} (h : Ranged w lo R) (hb : Apart.Foot R b) : lo ≤ b := by
  obtain ⟨p, hp, hg⟩ := hb
  obtain ⟨i, hi⟩ := List.getElem?_of_mem hp
  obtain ⟨l, hi', h1, _, hr⟩ := h.at_ i p hi
  have := (hr.own.lt b hg).1
  omega
theorem far : ∀ {R : List (Value × List Int)} {lo : Nat}, Ranged w lo R → Apart.Far R
  | [], _, _ => fun i j p q g _ hi => by simp at hi
  | r :: R, lo, ⟨l, hi, h1, h2, h3, h4⟩ => by
    have ih := far h4
    have hd : ∀ (j : Nat) (q : Value × List Int) (g : Nat), R[j]? = some q → r.1.ownBlock = some g → q.1.ownBlock ≠ some g := fun j q g hq hg hq' => by
      have := h3.hi g hg
      have := h4.foot ⟨q, List.mem_of_getElem? hq, hq'⟩
      omega
    intro i j p q g hij hp hq hg hq'
    match i, j, hij, hp, hq with
    | 0, 0, hij, _, _ => exact hij rfl
    | 0, j + 1, _, hp, hq =>
      simp at hp hq
      subst hp
      exact hd j q g hq hg hq'
    | i + 1, 0, _, hp, hq =>
      simp at hp hq
      subst hq
      exact hd i p g hp hq' hg
    | i + 1, j + 1, hij, hp, hq =>
      simp at hp hq
      exact ih i j p q g (by omega) hp hq hg hq'
theorem mono {R : List (Value × List Int)} {lo lo' : Nat} (h : Ranged w lo R) (hl : lo' ≤ lo) : Ranged w lo' R := by
  cases R with
  | nil => trivial
  | cons p R => obtain ⟨l, hi, h1, h2, h3, h4⟩ := h; exact ⟨l, hi, by omega, h2, h3, h4⟩
theorem cons {R : List (Value × List Int)} {lo l hi hi' : Nat} {v : Value} {xs : List Int} {n : Nat} (h1 : lo ≤ l) (h2 : l ≤ hi) (hr : Row w l hi v n (xs.map (Value.int .i64))) (hn : xs.length = n) (h3 : hi ≤ hi') (h : Ranged w hi' R) : Ranged w lo ((v, xs) :: R) := by
  subst hn
  exact ⟨l, hi, h1, h2, hr, h.mono h3⟩
theorem nil (w : World) (lo : Nat) : Ranged w lo [] := trivial
end Ranged

end Go.Proofs.YtibplgpolmplpaaGreatDoor

namespace Go.Proofs.YtibplgpolmplpaaGreatDoor
open Go.RowKit RuleP

namespace FarR
/-- Rows and what they hold. -/
def rowsI (rows : List Value) (L : List (List Int)) : List (Value × List Int) := rows.zip L
theorem rowsI_at {rows : List Value} {L : List (List Int)} {i : Nat} {p : Value × List Int} (hp : (rowsI rows L)[i]? = some p) : rows[i]? = some p.1 ∧ L[i]? = some p.2 := by
  unfold rowsI at hp
  rw [List.getElem?_zip_eq_some] at hp
  exact hp
theorem far_of {rows : List Value} {L : List (List Int)} (h : FarV rows) : Apart.Far (rowsI rows L) := fun i j p q g hij hp hq hg => h i j p.1 q.1 g hij (rowsI_at hp).1 (rowsI_at hq).1 hg
/-- A group of rows: they lie in blocks from lo to hi, none longer than m. -/
structure Grp (w : World) (lo hi m : Nat) (R : List (Value × List Int)) : Prop where
  own : ∀ p ∈ R, w.ownsRow 0 3 1 p.1 p.2.length (p.2.map (Value.int .i64))
  blk : ∀ p ∈ R, ∀ g, p.1.ownBlock = some g → lo ≤ g ∧ g < hi
  len : ∀ p ∈ R, p.2.length ≤ m
  far : Apart.Far R
theorem Grp.pure {w w' : World} {lo hi m : Nat} {R : List (Value × List Int)} (h : Grp w lo hi m R) (hb : Below w.heap.size w w') : Grp w' lo hi m R :=
  { h with own := fun p hp => own_below (h.own p hp) hb }
theorem Grp.list {w : World} {B m : Nat} {lv : Value} {rows : List Value} {L : List (List Int)} {X : Nat → Prop} (h : RowsAt w B lv rows L X) (hm : ∀ l ∈ L, l.length ≤ m) : Grp w B w.heap.size m (rowsI rows L) where
  own := fun p hp => by
    obtain ⟨i, hi⟩ := List.getElem?_of_mem hp
    obtain ⟨a, b⟩ := rowsI_at hi
    obtain ⟨v, h1, h2, _⟩ := h.el i p.2 b
    rw [a] at h1
    cases h1
    exact own_base h2 (Nat.zero_le _)
  blk := fun p hp g hg => by
    obtain ⟨i, hi⟩ := List.getElem?_of_mem hp
    obtain ⟨a, b⟩ := rowsI_at hi
    obtain ⟨v, h1, h2, _⟩ := h.el i p.2 b
    rw [a] at h1
    cases h1
    exact h2.lt g hg
  len := fun p hp => by
    obtain ⟨i, hi⟩ := List.getElem?_of_mem hp
    exact hm _ (List.mem_of_getElem? (rowsI_at hi).2)
  far := far_of h.far
theorem Grp.one {w : World} {B m : Nat} {v : Value} {l : List Int} (h : w.ownsRow B 3 1 v l.length (l.map (Value.int .i64))) (hm : l.length ≤ m) : Grp w B w.heap.size m [(v, l)] where
  own := fun p hp => by rw [List.mem_singleton] at hp; rw [hp]; exact own_base h (Nat.zero_le _)
  blk := fun p hp g hg => by rw [List.mem_singleton] at hp; rw [hp] at hg; exact h.lt g hg
  len := fun p hp => by rw [List.mem_singleton] at hp; rw [hp]; exact hm
  far := fun i j p q g hij hp hq _ _ => by
    match i, j, hij, hp, hq with
    | 0, 0, hij, _, _ => exact hij rfl
    | i + 1, _, _, hp, _ => simp at hp
    | 0, j + 1, _, _, hq => simp at hq
end FarR
end Go.Proofs.YtibplgpolmplpaaGreatDoor

namespace Go.Proofs.YtibplgpolmplpaaGreatDoor
open BagP RuleP
namespace SubP
variable {k N : Nat} {t : List Nat}

theorem sym_stop {i s : Nat} {S : St} {row : List Int} {o : Out} (h : sym k N t true i S row s = o) (ho : ∀ x, o ≠ .orphan x) : sym k N t false i S row s = o := by
  unfold sym at h ⊢
  split at h
  · rw [if_pos rfl] at h
    exact absurd h.symm (ho _)
  · rename_i hn
    rw [if_neg hn]
    exact h
theorem row_stop {i : Nat} {S : St} : ∀ {s : Nat} {o : Out}, rowTo k N t true i S s = o → (∀ x, o ≠ .orphan x) → rowTo k N t false i S s = o
  | 0, _, h, _ => h
  | s + 1, o, h, ho => by
    unfold rowTo at h ⊢
    split at h
    · rename_i S' row e
      rw [row_stop e (fun x hx => by cases hx)]
      exact sym_stop h ho
    · exact absurd h.symm (ho _)
    · rename_i e
      rw [row_stop e (fun x hx => by cases hx)]
      exact h
theorem round_stop : ∀ {n : Nat} {o : Out}, roundTo k N t true n = o → (∀ x, o ≠ .orphan x) → roundTo k N t false n = o
  | 0, _, h, _ => h
  | n + 1, o, h, ho => by
    unfold roundTo at h ⊢
    split at h
    · rename_i S row e
      rw [round_stop e (fun x hx => by cases hx)]
      simp only
      split at h
      · rename_i hl
        rw [if_pos hl]
        split at h
        · rename_i S' row' e'
          rw [row_stop e' (fun x hx => by cases hx)]
          exact h
        · exact absurd h.symm (ho _)
        · rename_i e'
          rw [row_stop e' (fun x hx => by cases hx)]
          exact h
      · rename_i hl
        rw [if_neg hl]
        exact h
    · exact absurd h.symm (ho _)
    · rename_i e
      rw [round_stop e (fun x hx => by cases hx)]
      exact h
end SubP
end Go.Proofs.YtibplgpolmplpaaGreatDoor

namespace Go.Proofs.YtibplgpolmplpaaGreatDoor
open Go.RowKit RuleP SubP NatP

theorem limbs_nz {v : Nat} (h : v ≠ 0) : (limbs v).length ≠ 0 := fun e => h (limbs_zero e)

end Go.Proofs.YtibplgpolmplpaaGreatDoor

namespace Go.Proofs.YtibplgpolmplpaaGreatDoor
namespace RuleP

def negW (k : Nat) (s : List Nat) : List Nat := s.map fun x => (k - x) % k
def zeroW (n : Nat) : List Nat := List.replicate n 0
theorem negW_len (k : Nat) (s : List Nat) : (negW k s).length = s.length := by simp [negW]
theorem negW_sym {k : Nat} (hk : 0 < k) (s : List Nat) : ∀ x ∈ negW k s, x < k := fun x hx => by
  obtain ⟨y, _, rfl⟩ := List.mem_map.1 hx
  exact Nat.mod_lt _ hk
theorem add_neg {k : Nat} : ∀ {s : List Nat}, (∀ x ∈ s, x < k) → addW k s (negW k s) = zeroW s.length
  | [], _ => rfl
  | x :: s, h => by
    have ih := add_neg (s := s) fun y hy => h y (List.mem_cons_of_mem _ hy)
    have hx := h x (List.mem_cons_self ..)
    unfold addW negW zeroW at ih ⊢
    rw [List.map_cons, List.zipWith_cons_cons, ih, List.length_cons, List.replicate_succ]
    congr 1
    rw [Nat.add_mod_mod, show x + (k - x) = k by omega, Nat.mod_self]
theorem zero_add {k : Nat} : ∀ {w : List Nat}, (∀ x ∈ w, x < k) → addW k (zeroW w.length) w = w
  | [], _ => rfl
  | x :: w, h => by
    have ih := zero_add (w := w) fun y hy => h y (List.mem_cons_of_mem _ hy)
    have hx := h x (List.mem_cons_self ..)
    unfold addW zeroW at ih ⊢
    rw [List.length_cons, List.replicate_succ, List.zipWith_cons_cons, ih, Nat.zero_add, Nat.mod_eq_of_lt hx]
theorem add_inj {k : Nat} : ∀ {a b c : List Nat}, a.length = c.length → b.length = c.length → (∀ x ∈ a, x < k) → (∀ x ∈ b, x < k) → addW k a c = addW k b c → a = b
  | [], [], _, _, _, _, _, _ => rfl
  | [], _ :: _, [], _, h, _, _, _ => by simp at h
  | [], _ :: _, _ :: _, h, _, _, _, _ => by simp at h
  | _ :: _, [], [], h, _, _, _, _ => by simp at h
  | _ :: _, [], _ :: _, _, h, _, _, _ => by simp at h
  | _ :: _, _ :: _, [], h, _, _, _, _ => by simp at h
  | x :: a, y :: b, z :: c, h1, h2, ha, hb, h => by
    unfold addW at h
    rw [List.zipWith_cons_cons, List.zipWith_cons_cons] at h
    injection h with e1 e2
    have hx := ha x (List.mem_cons_self ..)
    have hy := hb y (List.mem_cons_self ..)
    have ih := add_inj (a := a) (b := b) (c := c) (by simpa using h1) (by simpa using h2) (fun q hq => ha q (List.mem_cons_of_mem _ hq)) (fun q hq => hb q (List.mem_cons_of_mem _ hq)) e2
    have e3 : x = y := by
      have h3 := Nat.mod_lt z (show 0 < k by omega)
      rw [← Nat.add_mod_mod x z k, ← Nat.add_mod_mod y z k] at e1
      obtain ⟨m, hm⟩ : ∃ m, z % k = m := ⟨_, rfl⟩
      rw [hm] at e1 h3
      rcases Nat.lt_or_ge (x + m) k with hxm | hxm <;> rcases Nat.lt_or_ge (y + m) k with hym | hym
      · rw [Nat.mod_eq_of_lt hxm, Nat.mod_eq_of_lt hym] at e1; omega
      · rw [Nat.mod_eq_of_lt hxm, Nat.mod_eq_sub_mod hym, Nat.mod_eq_of_lt (by omega)] at e1; omega
      · rw [Nat.mod_eq_sub_mod hxm, Nat.mod_eq_of_lt (by omega), Nat.mod_eq_of_lt hym] at e1; omega
      · rw [Nat.mod_eq_sub_mod hxm, Nat.mod_eq_of_lt (by omega), Nat.mod_eq_sub_mod hym, Nat.mod_eq_of_lt (by omega)] at e1; omega
    rw [e3, ih]
theorem img_add {k r : Nat} {t f a b : List Nat} (h : SumT k r t f) (k1 : 1 ≤ k) (hl : a.length = b.length) (ha : ∀ x ∈ a, x < k) (hb : ∀ x ∈ b, x < k) : image k r t (addW k a b) = addW k (image k r t a) (image k r t b) := by
  apply List.ext_getElem?
  intro i
  rcases Nat.lt_or_ge i (a.length - 2 * r) with hi | hi
  · have ha1 : i < (image k r t a).length := by rw [image_len]; exact hi
    have hb1 : i < (image k r t b).length := by rw [image_len]; omega
    rw [image_add h k1 hl ha hb (List.getElem?_eq_getElem ha1) (List.getElem?_eq_getElem hb1)]
    unfold addW
    rw [List.getElem?_zipWith, List.getElem?_eq_getElem ha1, List.getElem?_eq_getElem hb1]
  · rw [List.getElem?_eq_none (by rw [image_len, addW_len hl]; exact hi), List.getElem?_eq_none (by rw [addW_len (by rw [image_len, image_len, hl]), image_len]; exact hi)]
theorem lin_zero (k n : Nat) (f : List Nat) : lin k (zeroW n) f = 0 := by
  have : ∀ (n : Nat) (f : List Nat), (List.zipWith (· * ·) (zeroW n) f).sum = 0 := by
    intro n
    induction n with
    | zero => intro f; simp [zeroW]
    | succ n ih =>
      intro f
      cases f with
      | nil => simp [zeroW]
      | cons y f =>
        have := ih f
        unfold zeroW at this ⊢
        rw [List.replicate_succ, List.zipWith_cons_cons, List.sum_cons, this]
        simp
  unfold lin
  rw [this, Nat.zero_mod]
theorem zero_sym {k : Nat} (hk : 0 < k) (n : Nat) : ∀ x ∈ zeroW n, x < k := fun x hx => by
  rw [List.eq_of_mem_replicate hx]; exact hk
theorem win_zero {n i m : Nat} (h : i + m ≤ n) : win (zeroW n) i m = zeroW m := by
  unfold win zeroW
  rw [List.drop_replicate, List.take_replicate]
  congr 1
  omega
theorem img_zero {k r : Nat} {t f : List Nat} (h : SumT k r t f) (k1 : 1 ≤ k) (n : Nat) : image k r t (zeroW n) = zeroW (n - 2 * r) := by
  have hz : (zeroW n).length = n := by simp [zeroW]
  apply List.ext_getElem?
  intro i
  rcases Nat.lt_or_ge i (n - 2 * r) with hi | hi
  · rw [image_at (by rw [hz]; omega), win_zero (by omega), h.at_ k1 (by simp [zeroW]) (zero_sym k1 _), lin_zero]
    unfold zeroW
    rw [List.getElem?_replicate, if_pos hi]
  · rw [List.getElem?_eq_none (by rw [image_len, hz]; exact hi), List.getElem?_eq_none (by simp [zeroW]; omega)]
theorem words_sum {k r : Nat} {t f w : List Nat} (h : SumT k r t f) (k1 : 1 ≤ k) (hw : ∀ x ∈ w, x < k) : preL k r t w = [] ∨ (preL k r t w).length = (preL k r t (zeroW w.length)).length := by
  cases hp : preL k r t w with
  | nil => exact .inl rfl
  | cons s0 L =>
    refine .inr ?_
    rw [← hp]
    have hs0 : s0 ∈ preL k r t w := by rw [hp]; exact List.mem_cons_self ..
    obtain ⟨l0, b0, i0⟩ := mem_preL.1 hs0
    have hzl : (zeroW w.length).length = w.length := by simp [zeroW]
    refine Nat.le_antisymm ?_ ?_
    · refine inj_le (fun y => addW k y (negW k s0)) (preL_nodup k1) (fun y hy => ?_) (fun x hx y hy e => ?_)
      · obtain ⟨l1, b1, i1⟩ := mem_preL.1 hy
        refine mem_preL.2 ⟨by rw [addW_len (by rw [negW_len, l1, l0]), hzl, l1], addW_sym k1 _ _, ?_⟩
        have e1 := img_add h k1 (a := s0) (b := negW k s0) (negW_len k s0).symm b0 (negW_sym k1 s0)
        rw [add_neg b0, img_zero h k1, i0, l0, Nat.add_sub_cancel] at e1
        rw [img_add h k1 (by rw [negW_len, l1, l0]) b1 (negW_sym k1 s0), i1, ← e1]
      · exact add_inj (by rw [negW_len, (mem_preL.1 hx).1, l0]) (by rw [negW_len, (mem_preL.1 hy).1, l0]) (mem_preL.1 hx).2.1 (mem_preL.1 hy).2.1 e
    · refine inj_le (fun y => addW k y s0) (preL_nodup k1) (fun y hy => ?_) (fun x hx y hy e => ?_)
      · obtain ⟨l1, b1, i1⟩ := mem_preL.1 hy
        rw [hzl] at l1
        refine mem_preL.2 ⟨by rw [addW_len (by rw [l1, l0]), l1], addW_sym k1 _ _, ?_⟩
        rw [img_add h k1 (by rw [l1, l0]) b1 b0, i1, i0, zero_add hw]
      · have lx := (mem_preL.1 hx).1
        have ly := (mem_preL.1 hy).1
        rw [hzl] at lx ly
        exact add_inj (by rw [lx, l0]) (by rw [ly, l0]) (mem_preL.1 hx).2.1 (mem_preL.1 hy).2.1 e
/-! ### rings -/
def fitQ (t w : List Nat) : Nat → Nat → Bool := fun i x => decide (t.getD x 0 = w.getD i 0)
theorem addW_get {k : Nat} {a b : List Nat} {i : Nat} (ha : i < a.length) (hb : i < b.length) : (addW k a b).getD i 0 = (a.getD i 0 + b.getD i 0) % k := by
  unfold addW
  rw [List.getD_eq_getElem?_getD, List.getElem?_zipWith, List.getD_eq_getElem?_getD, List.getD_eq_getElem?_getD, List.getElem?_eq_getElem ha, List.getElem?_eq_getElem hb]
  rfl
theorem cy_addW {k : Nat} {a b : List Nat} (hl : a.length = b.length) (h0 : a ≠ []) (z : Int) : cy (addW k a b) z = (cy a z + cy b z) % k := by
  have hp : 0 < a.length := List.length_pos_iff.2 h0
  have h1 := Int.emod_nonneg z (show (a.length : Int) ≠ 0 by omega)
  have h2 := Int.emod_lt_of_pos z (show (0 : Int) < a.length by omega)
  unfold cy
  rw [addW_len hl, ← hl]
  exact addW_get (by omega) (by omega)
theorem winC_add {k : Nat} {a b : List Nat} (hl : a.length = b.length) (h0 : a ≠ []) (m : Nat) (z : Int) : winC (addW k a b) m z = addW k (winC a m z) (winC b m z) := by
  apply List.ext_getElem?
  intro j
  rcases Nat.lt_or_ge j m with hj | hj
  · unfold addW winC
    rw [List.getElem?_zipWith, List.getElem?_map, List.getElem?_map, List.getElem?_map, List.getElem?_range hj]
    exact congrArg some (cy_addW hl h0 _)
  · rw [List.getElem?_eq_none (by rw [winC_len]; exact hj), List.getElem?_eq_none (by rw [addW_len (by rw [winC_len, winC_len]), winC_len]; exact hj)]
theorem zeroW_ne {n : Nat} (hn : 0 < n) : zeroW n ≠ [] := fun e => by
  have := congrArg List.length e
  simp [zeroW] at this
  omega
theorem mem_ringF {k r n : Nat} {t f w s : List Nat} (h : SumT k r t f) (k1 : 1 ≤ k) (hn : 0 < n) : s ∈ ringL k r n (fitQ t w) ↔ s.length = n ∧ (∀ x ∈ s, x < k) ∧ ∀ j, j < n → lin k (winC s (2 * r + 1) ((j : Int) - ((2 * r : Nat) : Int))) f = w.getD j 0 := by
  rw [mem_ringL]
  constructor
  · rintro ⟨h1, h2, h3⟩
    have h0 : s ≠ [] := fun e => by subst e; simp at h1; omega
    refine ⟨h1, h2, fun j hj => ?_⟩
    rw [← h.at_ k1 (winC_len _ _ _) (winC_sym h2 h0 _ _)]
    exact of_decide_eq_true (h3 j hj)
  · rintro ⟨h1, h2, h3⟩
    have h0 : s ≠ [] := fun e => by subst e; simp at h1; omega
    refine ⟨h1, h2, fun j hj => decide_eq_true ?_⟩
    rw [h.at_ k1 (winC_len _ _ _) (winC_sym h2 h0 _ _)]
    exact h3 j hj
theorem ne_of_len {s : List Nat} {n : Nat} (h : s.length = n) (hn : 0 < n) : s ≠ [] := fun e => by subst e; simp at h; omega
theorem rings_sum {k r n : Nat} {t f w : List Nat} (h : SumT k r t f) (k1 : 1 ≤ k) (hn : 0 < n) (hwl : w.length = n) (hw : ∀ x ∈ w, x < k) : ringL k r n (fitQ t w) = [] ∨ (ringL k r n (fitQ t w)).length = (ringL k r n (fitQ t (zeroW n))).length := by
  have hz : ∀ {j : Nat}, j < n → (zeroW n).getD j 0 = 0 := fun {j} hj => by
    unfold zeroW
    rw [List.getD_eq_getElem?_getD, List.getElem?_replicate, if_pos hj]
    rfl
  have hadd : ∀ {a b : List Nat} {j : Nat}, a.length = n → b.length = n → lin k (winC (addW k a b) (2 * r + 1) ((j : Int) - ((2 * r : Nat) : Int))) f = (lin k (winC a (2 * r + 1) ((j : Int) - ((2 * r : Nat) : Int))) f + lin k (winC b (2 * r + 1) ((j : Int) - ((2 * r : Nat) : Int))) f) % k := fun {a b j} ha hb => by
    rw [winC_add (by rw [ha, hb]) (ne_of_len ha hn), lin_add f (by rw [winC_len, winC_len])]
  cases hp : ringL k r n (fitQ t w) with
  | nil => exact .inl rfl
  | cons s0 L =>
    refine .inr ?_
    rw [← hp]
    have hs0 : s0 ∈ ringL k r n (fitQ t w) := by rw [hp]; exact List.mem_cons_self ..
    obtain ⟨l0, b0, i0⟩ := (mem_ringF h k1 hn).1 hs0
    refine Nat.le_antisymm ?_ ?_
    · refine inj_le (fun y => addW k y (negW k s0)) (ringL_nodup k1 _) (fun y hy => ?_) (fun x hx y hy e => ?_)
      · obtain ⟨l1, b1, i1⟩ := (mem_ringF h k1 hn).1 hy
        refine (mem_ringF h k1 hn).2 ⟨by rw [addW_len (by rw [negW_len, l1, l0]), l1], addW_sym k1 _ _, fun j hj => ?_⟩
        have e1 := hadd (a := s0) (b := negW k s0) (j := j) l0 (by rw [negW_len, l0])
        have e2 : lin k (winC (zeroW n) (2 * r + 1) ((j : Int) - ((2 * r : Nat) : Int))) f = 0 := by
          have : winC (zeroW n) (2 * r + 1) ((j : Int) - ((2 * r : Nat) : Int)) = zeroW (2 * r + 1) := by
            apply List.ext_getElem?
            intro q
            rcases Nat.lt_or_ge q (2 * r + 1) with hq | hq
            · unfold winC
              rw [List.getElem?_map, List.getElem?_range hq]
              have hc : ∀ z : Int, cy (zeroW n) z = 0 := fun z => by
                have := cy_lt (k := 1) (s := zeroW n) (fun x hx => by rw [List.eq_of_mem_replicate hx]; decide) (zeroW_ne hn) z
                omega
              simp only [Option.map_some]
              rw [hc]
              unfold zeroW
              rw [List.getElem?_replicate, if_pos hq]
            · rw [List.getElem?_eq_none (by rw [winC_len]; exact hq), List.getElem?_eq_none (by simp [zeroW]; exact hq)]
          rw [this, lin_zero]
        rw [add_neg b0, l0, e2, i0 j hj] at e1
        rw [hadd l1 (by rw [negW_len, l0]), i1 j hj, ← e1, hz hj]
      · exact add_inj (by rw [negW_len, ((mem_ringF h k1 hn).1 hx).1, l0]) (by rw [negW_len, ((mem_ringF h k1 hn).1 hy).1, l0]) ((mem_ringF h k1 hn).1 hx).2.1 ((mem_ringF h k1 hn).1 hy).2.1 e
    · refine inj_le (fun y => addW k y s0) (ringL_nodup k1 _) (fun y hy => ?_) (fun x hx y hy e => ?_)
      · obtain ⟨l1, b1, i1⟩ := (mem_ringF h k1 hn).1 hy
        refine (mem_ringF h k1 hn).2 ⟨by rw [addW_len (by rw [l1, l0]), l1], addW_sym k1 _ _, fun j hj => ?_⟩
        rw [hadd l1 l0, i1 j hj, i0 j hj, hz hj, Nat.zero_add, Nat.mod_eq_of_lt]
        rw [List.getD_eq_getElem?_getD, List.getElem?_eq_getElem (by omega)]
        exact hw _ (List.getElem_mem _)
      · exact add_inj (by rw [((mem_ringF h k1 hn).1 hx).1, l0]) (by rw [((mem_ringF h k1 hn).1 hy).1, l0]) ((mem_ringF h k1 hn).1 hx).2.1 ((mem_ringF h k1 hn).1 hy).2.1 e
/-! ### the table of factors -/
def sumStep (k x : Nat) (tb : List Nat) : List Nat := tb.flatMap fun y => (List.range k).map fun s => (y + x * s) % k
def sumTab (k : Nat) (f : List Nat) : List Nat := f.foldl (fun tb x => sumStep k x tb) [0]
theorem flat_get {α β : Type} {k : Nat} (hk : 0 < k) (g : α → List β) (hg : ∀ y, (g y).length = k) : ∀ (l : List α) (i : Nat), (l.flatMap g)[i]? = (l[i / k]?).bind fun y => (g y)[i % k]?
  | [], i => by simp
  | y :: l, i => by
    rw [List.flatMap_cons]
    rcases Nat.lt_or_ge i k with h | h
    · rw [List.getElem?_append_left (by rw [hg]; exact h), Nat.div_eq_of_lt h, Nat.mod_eq_of_lt h]
      rfl
    · rw [List.getElem?_append_right (by rw [hg]; exact h), hg, flat_get hk g hg l (i - k)]
      have e1 : i / k = (i - k) / k + 1 := by
        conv => lhs; rw [show i = i - k + k by omega]
        exact Nat.add_div_right _ hk
      have e2 : i % k = (i - k) % k := by
        conv => lhs; rw [show i = i - k + k by omega]
        exact Nat.add_mod_right _ _
      rw [e1, List.getElem?_cons_succ, e2]
theorem sumTab_snoc (k : Nat) (f : List Nat) (x : Nat) : sumTab k (f ++ [x]) = sumStep k x (sumTab k f) := by
  unfold sumTab
  rw [List.foldl_append]
  rfl
theorem sumTab_at {k : Nat} (hk : 0 < k) : ∀ (n : Nat) (f : List Nat), f.length = n → (sumTab k f).length = k ^ n ∧ ∀ i, i < k ^ n → (sumTab k f)[i]? = some (lin k (digB k n i) f)
  | 0, f, h => by
    obtain rfl := List.eq_nil_of_length_eq_zero h
    refine ⟨rfl, fun i hi => ?_⟩
    obtain rfl : i = 0 := by simpa using hi
    simp [sumTab, lin, digB]
  | n + 1, f, h => by
    obtain ⟨g, x, rfl, hg⟩ := list_snoc h
    obtain ⟨h1, h2⟩ := sumTab_at hk n g hg
    rw [sumTab_snoc]
    unfold sumStep
    refine ⟨?_, fun i hi => ?_⟩
    · rw [List.length_flatMap]
      have : ((sumTab k g).map fun y => ((List.range k).map fun s => (y + x * s) % k).length) = (sumTab k g).map fun _ => k := List.map_congr_left fun y _ => by simp
      rw [this, List.map_const', List.sum_replicate_nat, h1, Nat.pow_succ]
    · have hd : i / k < k ^ n := by
        rw [Nat.pow_succ] at hi
        exact Nat.div_lt_of_lt_mul (by rw [Nat.mul_comm]; exact hi)
      rw [flat_get hk _ (fun y => by simp), h2 _ hd]
      simp only [Option.bind_some]
      rw [List.getElem?_map, List.getElem?_range (Nat.mod_lt _ hk)]
      simp only [Option.map_some]
      congr 1
      have hdl := digB_len k n (i / k)
      have e1 : (digB k n (i / k) ++ [i % k])[n]? = some (i % k) := by rw [List.getElem?_append_right (by omega), hdl, Nat.sub_self]; rfl
      have e2 : (g ++ [x])[n]? = some x := by rw [List.getElem?_append_right (by omega), hg, Nat.sub_self]; rfl
      have hs := linP_succ (k := k) e1 e2
      rw [linP_all (.inl (by rw [List.length_append, hdl]; exact Nat.le_refl _))] at hs
      rw [digB, hs]
      have e3 : linP k (digB k n (i / k) ++ [i % k]) (g ++ [x]) n = lin k (digB k n (i / k)) g := by
        unfold linP lin
        rw [List.take_append_of_le_length (by omega), List.take_of_length_le (by omega), List.take_append_of_le_length (by omega), List.take_of_length_le (by omega)]
      rw [e3, Nat.mul_comm]
theorem sumTab_sum {k r : Nat} (hk : 0 < k) {f : List Nat} (hf : f.length = 2 * r + 1) : SumT k r (sumTab k f) f := sumTab_at hk (2 * r + 1) f hf
end RuleP
end Go.Proofs.YtibplgpolmplpaaGreatDoor

namespace Go.Proofs.YtibplgpolmplpaaGreatDoor
open Go.RowKit RuleP

theorem addOddF_c (w : World) (x k : Int) (b : Nat) (hb : w.cell? ⟨b, 0, none⟩ = some (.int .i64 k)) :
    Calls Tryz.prog 96 #[.int .i64 x, .pointer (some ⟨b, 0, none⟩)] w fun e w' => e = .returned (.bool (decide (x < 0 ∨ k ≤ x))) ∧ w = w' := by
  by_cases h : x < 0
  · have h1 : decide (x < 0) = true := decide_eq_true h
    have hd : Hid (decide (x < 0 ∨ k ≤ x) = true) := Lib.hid (decide_eq_true (.inl h))
    go_enter Tryz.func96, Tryz.ntmps96
    go_wp2_with fail
    go_ret
    exact ⟨by first | rfl | (rw [hd.out]; rfl), rfl⟩
  · have h1 : decide (x < 0) = false := decide_eq_false h
    have hd : Hid (decide (x < 0 ∨ k ≤ x) = decide (k ≤ x)) := Lib.hid (by simp [h])
    go_enter Tryz.func96, Tryz.ntmps96
    go_wp2_with fail
    go_ret
    exact ⟨by first | rfl | (rw [hd.out]; rfl), rfl⟩

set_option maxRecDepth 100000 in
set_option maxHeartbeats 2000000 in
theorem addNumbers_c (w : World) (k : Nat) (B : Option Addr) (m d : Nat) (g : List Nat) (hW : Sl w B m ((ints g).map (Value.int .i64))) (hm2 : m ≤ 9223372036854775807) (hg : ∀ x ∈ g, x < k) (from' : Int) :
    Calls Tryz.prog 48 #[.int .i64 (k : Int), .slice B m d, .int .i64 from'] w fun e w' => e = .returned .nilIface ∧ Below w.heap.size w w' := by
  have hb0 := (Below.refl w.heap.size w).alloc (Nat.le_refl _) (.cells #[.int .i64 (k : Int)] 3)
  have hc0 : (w.alloc (.cells #[.int .i64 (k : Int)] 3)).cell? ⟨w.heap.size, 0, none⟩ = some (.int .i64 (k : Int)) := by rw [cell_of_row _ _ _ _ _ _ (heap_new _ _)]; rfl
  obtain ⟨wb, hwb⟩ : ∃ wb, w.alloc (.cells #[.int .i64 (k : Int)] 3) = wb := ⟨_, rfl⟩
  rw [hwb] at hb0 hc0
  have hi := indexFunc_c wb 96 ⟨w.heap.size, 0, none⟩ (fun x => decide (x < 0 ∨ (k : Int) ≤ x)) B m d (ints g) (hW.below hb0) hm2
      (fun x wz => run_enter Tryz.func96 (by kernel_rfl) (by kernel_rfl) _ _) (fun x => addOddF_c _ x (k : Int) _ hc0)
  change Calls _ _ _ _ (fun e w' => e = .returned (.int .i64 (place (odd (k : Int) (ints g)))) ∧ _ = w') at hi
  rw [odd_ints hg, show place none = -1 from rfl] at hi
  have HI := Lib.hid hi
  have HWB := Lib.hid hwb
  have HB := Lib.hid hb0
  clear hi hwb hb0 hc0 hW hg
  go_enter Tryz.func48, Tryz.ntmps48
  go_wp2_with fail
  rw [HWB.out]
  refine (HI.out).mono ?_
  rintro e w2 ⟨rfl, rfl⟩
  go_wp2_with fail
  go_ret
  exact ⟨rfl, HB.out⟩
end Go.Proofs.YtibplgpolmplpaaGreatDoor
