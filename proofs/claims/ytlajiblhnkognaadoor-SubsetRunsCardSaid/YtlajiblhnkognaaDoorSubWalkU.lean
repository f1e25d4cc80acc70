/- Whether every word has a preimage, of any rule: the two texts' answers, as one function of the rule. Condition: the rule's table reads from memory; the error variables hold what E says. The laws' helper awake of chapter 10: it returns true. Condition: the error variables hold what E says. Automata held against each other: edenraw.Autos. Condition: the lists read from memory. The sets of states, in the order of their finding: subset.Sets. Condition: the rule's table reads from memory; the error variables hold what E says. The document's automaton of the subsets: edenref10.Walk. Condition: the rule's table reads from memory. The document's sets of states: edenref10.Sets. Condition: the rule's table reads from memory. The automaton and the sets, of any rule: the two texts' answers, as functions of the rule. Condition: the rule's table reads from memory; the error variables hold what E says. -/
import Derived.Test.YtlajiblhnkognaaDoorSubOn
import Derived.Test.YtlajiblhnkognaaDoorSubGoOn
import Derived.Test.YtlajiblhnkognaaDoorCopyM
import Derived.Test.YtlajiblhnkognaaDoorLists
import Derived.Test.YtlajiblhnkognaaDoorRowsL
import Derived.Test.YtlajiblhnkognaaDoorBagT
namespace Go.Proofs.YtlajiblhnkognaaDoor
open Go.RowKit BagP RuleP SubP

theorem toNat_ints (l : List Nat) : (ints l).map Int.toNat = l := by
  unfold ints
  rw [List.map_map]
  conv => rhs; rw [← List.map_id l]
  exact List.map_congr_left fun x _ => by simp
theorem small_none' {K R : Int} {T : List Int} (h : small K R T = none) : ∃ (k r : Nat) (t : List Nat), K = (k : Int) ∧ R = (r : Int) ∧ T = ints t ∧ IsRule k r t ∧ t.length ≤ 256 := by
  unfold small at h
  split at h
  · cases h
  · rename_i hc
    split at h
    · cases h
    · rename_i h2
      obtain ⟨k, r, t, rfl, rfl, rfl, hr⟩ := check_none hc
      exact ⟨k, r, t, rfl, rfl, rfl, hr, by rw [ints_len] at h2; omega⟩
/-- What Onto answers. -/
def ontoF (K R : Int) (T : List Int) : Bool × List Int × Option Tale :=
  match small K R T with
  | some tl => (false, [], some (tl.1, (sSubset, 0) :: tl.2))
  | none => match fin K.toNat (K.toNat ^ (2 * R.toNat)) (T.map Int.toNat) true with
    | .go _ _ => (true, [], none)
    | .orphan x => (false, ints x, none)
    | .over => (false, [], some (4, [(sSubset, 0)]))
theorem ontoF_bad {K R : Int} {T : List Int} {tl : Tale} (h : small K R T = some tl) : ontoF K R T = (false, [], some (tl.1, (sSubset, 0) :: tl.2)) := by unfold ontoF; rw [h]
theorem ontoF_good {k r : Nat} {t : List Nat} {o : Out} (hr : IsRule k r t) (h256 : t.length ≤ 256) (h : fin k (k ^ (2 * r)) t true = o) :
    ontoF (k : Int) (r : Int) (ints t) = match (generalizing := false) o with
    | .go _ _ => (true, [], none)
    | .orphan x => (false, ints x, none)
    | .over => (false, [], some (4, [(sSubset, 0)])) := by
  unfold ontoF
  rw [small_rule hr h256, Int.toNat_natCast, Int.toNat_natCast, toNat_ints, h]
theorem ontoF_ok (K R : Int) (T : List Int) : TaleOk (ontoF K R T).2.2 := by
  cases hs : small K R T with
  | some tl =>
    rw [ontoF_bad hs]
    intro x hx
    cases hx
    exact small_ok K R T tl hs
  | none =>
    obtain ⟨k, r, t, rfl, rfl, rfl, hr, hl⟩ := small_none' hs
    obtain ⟨o, ho⟩ : ∃ o, fin k (k ^ (2 * r)) t true = o := ⟨_, rfl⟩
    rw [ontoF_good hr hl ho]
    intro x hx
    cases o with
    | go S row => cases hx
    | orphan x => cases hx
    | over => cases hx; exact ⟨by decide, by decide⟩

theorem onto_u (w : World) (E : Nat → Addr) (hE : Errs w E) (hEt : ErrT w) (hA : Apart12 E) (hB : ErrBlk w E) (K R : Int) (A : Option Addr) (n c : Nat) (T : List Int) (hT : Sl w A n (T.map (Value.int .i64))) (hm : n ≤ 9223372036854775807) :
    Calls Tryd.prog 10 #[ruleV K R A n c] w fun e w' => ∃ (C : Option Addr) (M cc : Nat) (v : Value), e = .returned (.tuple #[.bool (ontoF K R T).1, .slice C M cc, v]) ∧
      w'.ownsRow w.heap.size 3 1 (.slice C M cc) M ((ontoF K R T).2.1.map (Value.int .i64)) ∧ ErrV w' E (ontoF K R T).2.2 v ∧ Below w.heap.size w w' := by
  cases hs : small K R T with
  | some tl =>
    rw [ontoF_bad hs]
    refine (onto_bad w E hE hEt hA hB K R A n c T hT hm tl hs).mono ?_
    rintro e w' ⟨v, rfl, hv, hb⟩
    exact ⟨none, 0, 0, v, rfl, ⟨rfl, .inl ⟨rfl, rfl⟩⟩, hv, hb⟩
  | none =>
    obtain ⟨k, r, t, rfl, rfl, rfl, hr, hl⟩ := small_none' hs
    obtain ⟨o, ho⟩ : ∃ o, fin k (k ^ (2 * r)) t true = o := ⟨_, rfl⟩
    rw [ontoF_good hr hl ho]
    refine (onto_good w E hE hEt hA hB k r A n c t hT hr hl).mono ?_
    rintro e w' ⟨h1, h2, h3⟩
    cases o with
    | go S row =>
      have hrow : row = [] := (fin_inv (Nat.pow_pos hr.k1) ho).1
      subst hrow
      obtain ⟨rfl, hb⟩ := h1 S ho
      exact ⟨none, 0, 0, .nilIface, rfl, ⟨rfl, .inl ⟨rfl, rfl⟩⟩, rfl, hb⟩
    | orphan x =>
      obtain ⟨v, rfl, ho', hb⟩ := h2 x ho
      obtain ⟨C, cc, rfl, _, _⟩ := own_slice ho'
      exact ⟨C, x.length, cc, .nilIface, rfl, ho', rfl, hb⟩
    | over =>
      obtain ⟨v, rfl, hv, hb⟩ := h3 ho
      exact ⟨none, 0, 0, v, rfl, ⟨rfl, .inl ⟨rfl, rfl⟩⟩, hv, hb⟩

theorem refOnto_u (w : World) (K R : Int) (A : Option Addr) (n c : Nat) (T : List Int) (hT : Sl w A n (T.map (Value.int .i64))) (hm : n ≤ 9223372036854775807) :
    Calls Tryd.prog 11 #[ruleV K R A n c] w fun e w' => ∃ (C : Option Addr) (M cc : Nat) (N : Nat) (A1 : Option Addr) (n1 c1 : Nat) (A2 : Option Addr) (n2 c2 : Nat),
      e = .returned (.tuple #[.bool (ontoF K R T).1, .slice C M cc, .agg #[.int .i64 (N : Int), .slice A1 n1 c1, .slice A2 n2 c2]]) ∧
      w'.ownsRow w.heap.size 3 1 (.slice C M cc) M ((ontoF K R T).2.1.map (Value.int .i64)) ∧ WantV w' (ontoF K R T).2.2 (.agg #[.int .i64 (N : Int), .slice A1 n1 c1, .slice A2 n2 c2]) ∧ Below w.heap.size w w' := by
  cases hs : small K R T with
  | some tl =>
    rw [ontoF_bad hs]
    refine (refOnto_bad w K R A n c T hT hm tl hs).mono ?_
    rintro e w' ⟨N, A1, n1, c1, A2, n2, c2, rfl, hv, hb⟩
    exact ⟨none, 0, 0, N, A1, n1, c1, A2, n2, c2, rfl, ⟨rfl, .inl ⟨rfl, rfl⟩⟩, hv.want, hb⟩
  | none =>
    obtain ⟨k, r, t, rfl, rfl, rfl, hr, hl⟩ := small_none' hs
    obtain ⟨o, ho⟩ : ∃ o, fin k (k ^ (2 * r)) t true = o := ⟨_, rfl⟩
    rw [ontoF_good hr hl ho]
    refine (refOnto_good w k r A n c t hT hr hl).mono ?_
    rintro e w' ⟨h1, h2, h3⟩
    cases o with
    | go S row =>
      have hrow : row = [] := (fin_inv (Nat.pow_pos hr.k1) ho).1
      subst hrow
      obtain ⟨rfl, hb⟩ := h1 S ho
      exact ⟨none, 0, 0, 0, none, 0, 0, none, 0, 0, rfl, ⟨rfl, .inl ⟨rfl, rfl⟩⟩, rfl, hb⟩
    | orphan x =>
      obtain ⟨v, rfl, ho', hb⟩ := h2 x ho
      obtain ⟨C, cc, rfl, _, _⟩ := own_slice ho'
      exact ⟨C, x.length, cc, 0, none, 0, 0, none, 0, 0, rfl, ho', rfl, hb⟩
    | over =>
      obtain ⟨N, A1, n1, c1, A2, n2, c2, rfl, hv, hb⟩ := h3 ho
      exact ⟨none, 0, 0, N, A1, n1, c1, A2, n2, c2, rfl, ⟨rfl, .inl ⟨rfl, rfl⟩⟩, hv.want, hb⟩
end Go.Proofs.YtlajiblhnkognaaDoor

namespace Go.Proofs.YtlajiblhnkognaaDoor
open Go.RowKit RuleP SubP

theorem rule110 : IsRule 2 1 [0, 1, 1, 1, 0, 1, 1, 0] := ⟨by decide, by decide, by decide, by decide, by decide⟩
theorem rule150 : IsRule 2 1 [0, 1, 0, 1, 1, 0, 1, 0] := ⟨by decide, by decide, by decide, by decide, by decide⟩
theorem round110 : ∃ n, n ≤ 4097 ∧ roundTo 2 4 [0, 1, 1, 1, 0, 1, 1, 0] true n = .orphan [0, 1, 0, 1, 0] := ⟨16, by decide, by kernel_rfl⟩
theorem fin110 : fin 2 (2 ^ (2 * 1)) [0, 1, 1, 1, 0, 1, 1, 0] true = .orphan [0, 1, 0, 1, 0] := by
  obtain ⟨n, hn, h⟩ := round110
  have := round_over (.inl ⟨_, rfl⟩) h (4097 - n)
  rw [Nat.add_sub_cancel' hn] at this
  exact this
theorem round150 : roundTo 2 4 [0, 1, 0, 1, 1, 0, 1, 0] true 1 = .go ⟨[[true, true, true, true]], [[]], [[0, 0]]⟩ [] := by kernel_rfl
theorem fin150 : ∃ S, fin 2 (2 ^ (2 * 1)) [0, 1, 0, 1, 1, 0, 1, 0] true = .go S [] := ⟨_, fin_go round150 (by decide) (by decide)⟩
theorem onto110 : ontoF 2 1 (ints [0, 1, 1, 1, 0, 1, 1, 0]) = (false, [0, 1, 0, 1, 0], none) := (ontoF_good rule110 (by decide) fin110).trans rfl
theorem onto150 : ontoF 2 1 (ints [0, 1, 0, 1, 1, 0, 1, 0]) = (true, [], none) := by
  obtain ⟨S, h⟩ := fin150
  exact (ontoF_good rule150 (by decide) h).trans rfl

set_option maxRecDepth 100000 in
set_option maxHeartbeats 4000000 in
theorem awake10_c (w : World) (E : Nat → Addr) (hE : Errs w E) (hEt : ErrT w) (hAp : Apart12 E) (hB : ErrBlk w E) :
    Calls Tryd.prog 8 #[] w fun e w' => e = .returned (.bool true) ∧ Below w.heap.size w w' := by
  have HER := Lib.hid (fun (wz : World) (hz : Below w.heap.size w wz) => (⟨hE.below hz, hEt.below hz, hB.below hz⟩ : _ ∧ _ ∧ _))
  clear hE hEt hB
  go_enter Tryd.func8, Tryd.ntmps8
  have hA := lit_ints w (ints [0, 1, 1, 1, 0, 1, 1, 0]) 8 rfl (by decide) 3
  have hb1 := (Below.refl w.heap.size w).alloc (Nat.le_refl _) (.cells #[.int .i64 0, .int .i64 1, .int .i64 1, .int .i64 1, .int .i64 0, .int .i64 1, .int .i64 1, .int .i64 0] 3)
  obtain ⟨w1, hw1⟩ : ∃ w1, w.alloc (.cells #[.int .i64 0, .int .i64 1, .int .i64 1, .int .i64 1, .int .i64 0, .int .i64 1, .int .i64 1, .int .i64 0] 3) = w1 := ⟨_, rfl⟩
  change Sl (w.alloc (.cells #[.int .i64 0, .int .i64 1, .int .i64 1, .int .i64 1, .int .i64 0, .int .i64 1, .int .i64 1, .int .i64 0] 3)) _ _ _ at hA
  rw [hw1] at hA hb1
  obtain ⟨q1, q2, q3⟩ := HER.out w1 hb1
  have hon := onto_u w1 E q1 q2 hAp q3 2 1 (some ⟨w.heap.size, 0, none⟩) 8 8 _ hA (by decide)
  rw [onto110] at hon
  have HON := Lib.hid hon
  have HW1 := Lib.hid hw1
  have HB1 := Lib.hid hb1
  clear hon hw1 hb1 hA q1 q2 q3
  unfold ruleV at HON
  go_wp2_with fail
  rw [HW1.out]
  refine (HON.out).mono ?_
  rintro e w2 ⟨C2, M2, c2, v2, rfl, ho2, hv2, b2⟩
  obtain rfl : v2 = .nilIface := hv2
  have hb2 := HB1.out.trans (b2.mono HB1.out.size)
  have hx2 : Sl w2 C2 M2 (([0, 1, 0, 1, 0] : List Int).map (Value.int .i64)) := Sl.of_own ho2
  have hl2 : M2 = 5 := hx2.1.symm
  have hA3 := lit_ints w2 (ints [0, 1, 0, 1, 1, 0, 1, 0]) 8 rfl (by decide) 3
  have b3 := (Below.refl w2.heap.size w2).alloc (Nat.le_refl _) (.cells #[.int .i64 0, .int .i64 1, .int .i64 0, .int .i64 1, .int .i64 1, .int .i64 0, .int .i64 1, .int .i64 0] 3)
  obtain ⟨w3, hw3⟩ : ∃ w3, w2.alloc (.cells #[.int .i64 0, .int .i64 1, .int .i64 0, .int .i64 1, .int .i64 1, .int .i64 0, .int .i64 1, .int .i64 0] 3) = w3 := ⟨_, rfl⟩
  change Sl (w2.alloc (.cells #[.int .i64 0, .int .i64 1, .int .i64 0, .int .i64 1, .int .i64 1, .int .i64 0, .int .i64 1, .int .i64 0] 3)) _ _ _ at hA3
  rw [hw3] at hA3 b3
  have hb3 := hb2.trans (b3.mono hb2.size)
  obtain ⟨q1, q2, q3⟩ := HER.out w3 hb3
  have hon := onto_u w3 E q1 q2 hAp q3 2 1 (some ⟨w2.heap.size, 0, none⟩) 8 8 _ hA3 (by decide)
  rw [onto150] at hon
  have HON := Lib.hid hon
  have HW3 := Lib.hid hw3
  have HB3 := Lib.hid hb3
  have HX3 := Lib.hid (hx2.below b3)
  have HL2 := Lib.hid hl2
  clear hon hw3 hb3 hA3 q1 q2 q3 hx2 hl2 ho2 b2 hb2 b3
  unfold ruleV at HON
  go_wp2_with fail
  rw [HW3.out]
  refine (HON.out).mono ?_
  rintro e w4 ⟨C4, M4, c4, v4, rfl, ho4, hv4, b4⟩
  obtain rfl : v4 = .nilIface := hv4
  obtain rfl : M4 = 0 := (Sl.of_own ho4).1.symm
  have hb4 := HB3.out.trans (b4.mono HB3.out.size)
  have hl := lit_ints w4 [0, 1, 0, 1, 0] 5 rfl (by decide) 3
  have b5 := (Below.refl w4.heap.size w4).alloc (Nat.le_refl _) (.cells #[.int .i64 0, .int .i64 1, .int .i64 0, .int .i64 1, .int .i64 0] 3)
  change Sl (w4.alloc (.cells #[.int .i64 0, .int .i64 1, .int .i64 0, .int .i64 1, .int .i64 0] 3)) _ _ _ at hl
  have hin := ints_b (w4.alloc (.cells #[.int .i64 0, .int .i64 1, .int .i64 0, .int .i64 1, .int .i64 0] 3)) C2 (some ⟨w4.heap.size, 0, none⟩) M2 5 c2 5 [0, 1, 0, 1, 0] [0, 1, 0, 1, 0] ((HX3.out.below b4).below b5) hl (by rw [HL2.out]; decide) (by decide)
  rw [decide_eq_true rfl] at hin
  have HIN := Lib.hid hin
  have HB5 := Lib.hid (hb4.trans (b5.mono hb4.size))
  clear hin hl b5 hb4 b4 ho4 HB3 HX3 HON
  go_wp2_with fail
  refine (HIN.out).mono ?_
  rintro e w6 ⟨rfl, b6⟩
  have HB6 := Lib.hid (HB5.out.trans (b6.mono HB5.out.size))
  clear b6
  go_wp2_with fail
  go_ret
  exact ⟨rfl, HB6.out⟩
end Go.Proofs.YtlajiblhnkognaaDoor

namespace Go.Proofs.YtlajiblhnkognaaDoor
open Go.RowKit RuleP

theorem RowsAt.list {w : World} {B lc : Nat} {LA : Option Addr} {rows : List Value} {L : List (List Int)} {X : Nat → Prop} (h : RowsAt w B (.slice LA L.length lc) rows L X) : ListAt w LA L.length L :=
  ⟨rows, Sl.of_own h.lst, rfl, fun j l hj => by
    obtain ⟨v, h1, h2, _⟩ := h.el j l hj
    obtain ⟨P, c, rfl, h3, h4⟩ := own_slice h2
    exact ⟨P, c, h1, by unfold maxLen at h4; omega, Sl.of_own h2⟩⟩

set_option maxRecDepth 100000 in
set_option maxHeartbeats 1000000 in
theorem autos_same (w : World) (K : Int) (A B : Option Addr) (n c d : Nat) (L : List (List Int)) (hA : ListAt w A n L) (hB : ListAt w B n L) (hn : n ≤ 9223372036854775807) :
    Calls Tryd.prog 19 #[autoV K (.slice A n c), autoV K (.slice B n d)] w fun e w' => e = .returned (.bool true) ∧ Below w.heap.size w w' := by
  have hb1 := (Below.refl w.heap.size w).alloc (Nat.le_refl _) (.cells #[.int .i64 K, .slice A n c] 42)
  have hb2 := hb1.alloc (by simp) (.cells #[.int .i64 K, .slice B n d] 42)
  obtain ⟨w2, hw2⟩ : ∃ w2, (w.alloc (.cells #[.int .i64 K, .slice A n c] 42)).alloc (.cells #[.int .i64 K, .slice B n d] 42) = w2 := ⟨_, rfl⟩
  have ha1 : AutoAt (w.alloc (.cells #[.int .i64 K, .slice A n c] 42)) w.heap.size (.int .i64 K) (.slice A n c) := heap_new w (.cells #[.int .i64 K, .slice A n c] 42)
  have ha2 : AutoAt w2 w.heap.size (.int .i64 K) (.slice A n c) := by
    rw [← hw2]
    exact ha1.below ((Below.refl _ _).alloc (Nat.le_refl _) _) (by simp)
  have hb2' : AutoAt w2 (w.heap.size + 1) (.int .i64 K) (.slice B n d) := by
    rw [← hw2]
    have := heap_new (w.alloc (.cells #[.int .i64 K, .slice A n c] 42)) (.cells #[.int .i64 K, .slice B n d] 42)
    unfold AutoAt
    simpa using this
  rw [hw2] at hb2
  obtain ⟨x0, x1, _, _⟩ := ha2.facts
  obtain ⟨y0, y1, _, _⟩ := hb2'.facts
  have HLS := Lib.hid (lists_same w2 A B n c d L (hA.keep hb2) (hB.keep hb2) hn)
  have HB := Lib.hid hb2
  have HW := Lib.hid hw2
  have hkk : (K == K) = true := by simp
  clear hb1 hb2 ha1 ha2 hb2' hA hB hw2
  unfold autoV
  go_enter Tryd.func19, Tryd.ntmps19
  go_wp2_with fail
  rw [HW.out]
  refine (HLS.out).mono ?_
  rintro e w3 ⟨rfl, hb3⟩
  go_wp2_with fail
  go_ret
  exact ⟨rfl, HB.out.trans (hb3.mono HB.out.size)⟩
end Go.Proofs.YtlajiblhnkognaaDoor

namespace Go.Proofs.YtlajiblhnkognaaDoor
open Go.RowKit BagP RuleP SubP

/-- The sets as lists of numbers. -/
def setsL (S : St) : List (List Int) := S.sets.map fun B => ints (nodesOf B)
theorem fin_ok {k N : Nat} {t : List Nat} {stop : Bool} {S : St} {row : List Int} (hN : 0 < N) (h : fin k N t stop = .go S row) : (∀ B ∈ S.sets, B.length = N) ∧ S.sets.length ≤ 4096 := by
  unfold fin at h
  obtain ⟨_, j, hI, _⟩ := Inv.round hN h
  exact ⟨hI.ok, hI.big⟩
/-- A list of lists, one place stored. -/
theorem RowsAt.stored {w : World} {B g n c i : Nat} {rows : List Value} {L : List (List Int)} {X : Nat → Prop} (h : RowsAt w B (.slice (some ⟨g, 0, none⟩) n c) rows L X) {v : Value} {l : List Int} (hi : i < L.length)
    (hv : w.ownsRow B 3 1 v l.length (l.map (Value.int .i64))) (hX : ∀ g', v.ownBlock = some g' → ¬ X g') (hnew : ∀ g', v.ownBlock = some g' → ∀ u ∈ rows, u.ownBlock ≠ some g') :
    RowsAt (w.setCell ⟨g, i, none⟩ v) B (.slice (some ⟨g, 0, none⟩) n c) (rows.set i v) (L.set i l) X := by
  have hrl := h.len
  have hn : n = L.length := by
    obtain ⟨A, c', e, _, _⟩ := own_slice h.lst
    cases e
    rfl
  subst hn
  have hk := Keeps.of_setCell w ⟨g, i, none⟩ v
  have hne : ∀ {m : Nat} {u : Value} {xs : List Value}, w.ownsRow B 3 1 u m xs → ∀ g', u.ownBlock = some g' → ¬ g' = g := fun ho g' hg e => own_ne_own ho h.lst (by decide) hg (by rw [e]; rfl)
  refine RowsAt.mk' (by rw [List.length_set]; exact (h.lst.stored i v).1) (fun j l' hj => ?_) (fun a b u u' g' hab hu hu' hg hg' => ?_)
  · by_cases hji : i = j
    · subst hji
      rw [List.getElem?_set_self hi] at hj
      cases hj
      exact ⟨v, List.getElem?_set_self (by omega), own_keeps hv hk (hne hv), hX⟩
    · rw [List.getElem?_set_ne hji] at hj
      obtain ⟨u, h1, h2, h3⟩ := h.el j l' hj
      exact ⟨u, by rw [List.getElem?_set_ne hji]; exact h1, own_keeps h2 hk (hne h2), h3⟩
  · by_cases ha : i = a
    · subst ha
      have hb : i ≠ b := hab
      have hlt : i < rows.length := by omega
      rw [List.getElem?_set_self hlt] at hu
      cases hu
      rw [List.getElem?_set_ne hb] at hu'
      exact hnew g' hg u' (List.mem_of_getElem? hu') hg'
    · rw [List.getElem?_set_ne ha] at hu
      by_cases hb : i = b
      · subst hb
        have hlt : i < rows.length := by omega
        rw [List.getElem?_set_self hlt] at hu'
        cases hu'
        exact hnew g' hg' u (List.mem_of_getElem? hu) hg
      · rw [List.getElem?_set_ne hb] at hu'
        exact h.far a b u u' g' hab hu hu' hg hg'
/-- A made list of lists: all empty. -/
theorem RowsAt.made (w : World) (n : Nat) (hn : n ≤ maxLen) : RowsAt (w.alloc (.cells (madeCells #[.slice none 0 0] n) 22)) w.heap.size (.slice (some ⟨w.heap.size, 0, none⟩) n n) (List.replicate n (.slice none 0 0)) (List.replicate n []) (fun _ => False) := by
  have h := World.ownsRow_lit (base := w.heap.size) (e := 22) (size := 1) w (madeCells #[.slice none 0 0] n) n (Nat.le_refl _) hn (by rw [size_madeCells]; simp)
  rw [toList_madeCells_one] at h
  refine RowsAt.mk' (by rw [List.length_replicate]; exact h) (fun j l hj => ?_) (fun a b u u' g' _ hu _ hg => ?_)
  · rw [List.getElem?_replicate] at hj
    split at hj
    · rename_i hlt
      cases hj
      exact ⟨.slice none 0 0, by rw [List.getElem?_replicate, if_pos hlt], ⟨rfl, .inl ⟨rfl, rfl⟩⟩, fun g hg => by cases hg⟩
    · cases hj
  · rw [List.getElem?_replicate] at hu
    split at hu
    · cases hu; cases hg
    · cases hu
theorem fill_rows {L : List (List Int)} {n j : Nat} (hn : L.length = n) (hj : j < n) {l : List Int} (h : L[j]? = some l) : (L.take j ++ List.replicate (n - j) []).set j l = L.take (j + 1) ++ List.replicate (n - (j + 1)) [] := by
  have hl : (L.take j).length = j := by rw [List.length_take]; omega
  rw [List.set_append_right _ _ (by omega), hl, Nat.sub_self, show n - j = (n - (j + 1)) + 1 by omega, List.replicate_succ, List.set_cons_zero, List.take_add_one, h]
  simp

set_option maxRecDepth 100000 in
set_option maxHeartbeats 2000000 in
theorem sets_bad (w : World) (E : Nat → Addr) (hE : Errs w E) (hEt : ErrT w) (hA : Apart12 E) (hB : ErrBlk w E) (K R : Int) (A : Option Addr) (n c : Nat) (T : List Int) (hT : Sl w A n (T.map (Value.int .i64))) (hm : n ≤ 9223372036854775807) (tl : Tale) (h : small K R T = some tl) :
    Calls Tryd.prog 17 #[ruleV K R A n c] w fun e w' => ∃ v, e = .returned (.tuple #[.slice none 0 0, v]) ∧ ErrV w' E (some (tl.1, (sSubset, 0) :: tl.2)) v ∧ Below w.heap.size w w' := by
  have hb1 := (Below.refl w.heap.size w).alloc (Nat.le_refl _) (.cells #[.int .i64 K, .int .i64 R, .slice A n c] 24)
  have hb3 := hb1.alloc (by simp) (.cells #[.int .i64 K, .int .i64 R, .slice A n c, .pointer none, .slice none 0 0, .slice none 0 0, .bool false] 65)
  obtain ⟨w2, hw2⟩ : ∃ w2, w.alloc (.cells #[.int .i64 K, .int .i64 R, .slice A n c] 24) = w2 := ⟨_, rfl⟩
  rw [hw2] at hb3
  have hz2 : w2.heap.size = w.heap.size + 1 := by rw [← hw2]; simp
  have hw0 : Walk0 (w2.alloc (.cells #[.int .i64 K, .int .i64 R, .slice A n c, .pointer none, .slice none 0 0, .slice none 0 0, .bool false] 65)) w2.heap.size K R A n c false := heap_new _ _
  have HAL := Lib.hid (all_bad _ E (hE.below hb3) K R A n c w2.heap.size T false (hT.below hb3) hm hw0 tl h)
  have HSM := Lib.hid (small_ok K R T tl h)
  have HER := Lib.hid (fun (wz : World) (hz : Below w.heap.size w wz) => (⟨hE.below hz, hEt.below hz, hB.below hz⟩ : _ ∧ _ ∧ _))
  have HB3 := Lib.hid hb3
  rw [hz2] at HAL
  have HW2 := Lib.hid hw2
  clear hb1 hb3 hw0 hE hEt hB hT h hw2 hz2
  unfold ruleV
  go_enter Tryd.func17, Tryd.ntmps17
  go_wp2_with fail
  rw [HW2.out]
  refine (HAL.out).mono ?_
  rintro e w4 ⟨v, rfl, hv, hb4⟩
  clear HAL
  have hb4' := HB3.out.trans (hb4.mono HB3.out.size)
  have hv4 : ErrIs w4 E tl.1 ((sSubset, 0) :: tl.2) v := hv
  obtain ⟨u, p, rfl⟩ := hv4.iface
  obtain ⟨q1, q2, q3⟩ := HER.out w4 hb4'
  have HTD := Lib.hid (told_c w4 E q1 q2 hA q3 tl.1 HSM.out.1 HSM.out.2 sSubset 0 tl.2 _ hv4)
  have HB4 := Lib.hid hb4'
  clear hv hv4 hb4 hb4' q1 q2 q3
  go_wp2_with fail
  refine (HTD.out).mono ?_
  rintro e w7 ⟨v7, rfl, hv7, hb7⟩
  clear HTD
  have e7 : toldT sSubset tl.1 ((sSubset, 0) :: tl.2) = (sSubset, 0) :: tl.2 := if_neg (fun h => absurd h.2 (by decide))
  rw [e7] at hv7
  have HV7 := Lib.hid hv7
  have HB7 := Lib.hid (HB4.out.trans (hb7.mono HB4.out.size))
  clear hv7 hb7 e7
  go_wp2_with fail
  go_ret2
  exact ⟨_, rfl, HV7.out, HB7.out⟩

/-- What Sets of a small rule answers. -/
def SetsPost (w : World) (E : Nat → Addr) (k r : Nat) (t : List Nat) (e : Ending) (w' : World) : Prop :=
  (∀ S, fin k (k ^ (2 * r)) t false = .go S [] → ∃ sv rows, e = .returned (.tuple #[sv, .nilIface]) ∧ RowsAt w' w.heap.size sv rows (setsL S) (fun _ => False) ∧ Below w.heap.size w w') ∧
  (fin k (k ^ (2 * r)) t false = .over → ∃ v, e = .returned (.tuple #[.slice none 0 0, v]) ∧ ErrV w' E (some (4, [(sSubset, 0)])) v ∧ Below w.heap.size w w')

set_option maxRecDepth 100000 in
set_option maxHeartbeats 4000000 in
theorem sets_good (w : World) (E : Nat → Addr) (hE : Errs w E) (hEt : ErrT w) (hA : Apart12 E) (hB : ErrBlk w E) (k r : Nat) (A : Option Addr) (n c : Nat) (t : List Nat) (hT : Sl w A n ((ints t).map (Value.int .i64))) (hr : IsRule k r t) (h256 : t.length ≤ 256) :
    Calls Tryd.prog 17 #[ruleV (k : Int) (r : Int) A n c] w (SetsPost w E k r t) := by
  have hn : t.length = n := by simpa [ints] using hT.1
  subst hn
  have hb2 := (Below.refl w.heap.size w).alloc (Nat.le_refl _) (.cells #[.int .i64 (k : Int), .int .i64 (r : Int), .slice A t.length c] 24)
  obtain ⟨w2, hw2⟩ : ∃ w2, w.alloc (.cells #[.int .i64 (k : Int), .int .i64 (r : Int), .slice A t.length c] 24) = w2 := ⟨_, rfl⟩
  rw [hw2] at hb2
  have hz2 : w2.heap.size = w.heap.size + 1 := by rw [← hw2]; simp
  have hw0 : Walk0 (w2.alloc (.cells #[.int .i64 (k : Int), .int .i64 (r : Int), .slice A t.length c, .pointer none, .slice none 0 0, .slice none 0 0, .bool false] 65)) w2.heap.size (k : Int) (r : Int) A t.length c false := heap_new _ _
  have HAL := Lib.hid (all_c w2 k r t A c w2.heap.size false hw0 hr h256 (hT.below hb2) ((Below.refl _ _).alloc (Nat.le_refl _) _) (Nat.le_refl _) (hE.below hb2))
  have HFO := Lib.hid (fin_go_or_over (k := k) (N := k ^ (2 * r)) (t := t) (show 0 < k ^ (2 * r) from Nat.pow_pos hr.k1))
  have HN0 := Lib.hid (show 0 < k ^ (2 * r) from Nat.pow_pos hr.k1)
  have HER := Lib.hid (fun (wz : World) (hz : Below w.heap.size w wz) => (⟨hE.below hz, hEt.below hz, hB.below hz⟩ : _ ∧ _ ∧ _))
  have HB2 := Lib.hid hb2
  have HZ2 := Lib.hid hz2
  rw [hz2] at HAL
  have HW2 := Lib.hid hw2
  clear hb2 hw0 hE hEt hB hT hw2 hz2 hr h256
  unfold ruleV
  go_enter Tryd.func17, Tryd.ntmps17
  go_wp2_with fail
  rw [HW2.out]
  refine (HAL.out).mono ?_
  clear HAL
  rintro e w4 hp
  unfold AllPost at hp
  rcases HFO.out with ⟨S, hS⟩ | hS
  · rw [hS] at hp
    have HS := Lib.hid hS
    obtain ⟨bp, nv, wv, nr, ws, rfl, hwk⟩ := hp
    obtain ⟨hok, hbig⟩ := fin_ok HN0.out hS
    obtain ⟨N, hN⟩ : ∃ N, k ^ (2 * r) = N := ⟨_, rfl⟩
    have hbag : BagT w4 w2.heap.size bp (k ^ (2 * r)) (S.sets.map (wordsOf (k ^ (2 * r)))) := hwk.bag
    rw [hN] at hok hbag
    have hblk : w4.heap[w.heap.size + 1]? = some (.cells #[.int .i64 (k : Int), .int .i64 (r : Int), .slice A t.length c, bp, nv, wv, .bool false] 65 (0, 0)) := hwk.blk
    have hb4 : Below w2.heap.size w2 w4 := hwk.old
    have hlt4 : w.heap.size + 1 < w4.heap.size := (Array.getElem?_eq_some_iff.1 hblk).1
    obtain ⟨m, hm⟩ : ∃ m, S.sets.length = m := ⟨_, rfl⟩
    have HLN := Lib.hid (by have := Len_c hbag; rw [List.length_map, hm] at this; exact this)
    have hm4 : m ≤ 4096 := by omega
    have c3 : w4.cell? ⟨w.heap.size + 1, 3, none⟩ = some bp := by rw [cell_of_row w4 _ _ _ _ _ hblk]; rfl
    have HB4 := Lib.hid (HB2.out.trans (hb4.mono HB2.out.size))
    have HOK := Lib.hid hok
    have HM := Lib.hid hm
    have HBAG := Lib.hid hbag
    have HBLK := Lib.hid hblk
    clear hwk hS hok hbag hblk hb4 hN hm hbig HN0
    go_wp2_with fail
    refine (HLN.out).mono ?_
    rintro e w5 ⟨rfl, rfl⟩
    have hmk := run_make_row' (P := Tryd.prog) 40 22 (.slice none 0 0) 24 tIntss.und tIntss.info rfl .i64 .i64 m (by omega) (by omega)
    have HRM := Lib.hid (RowsAt.made w4 m (by simp only [maxLen]; omega))
    have hmade := (Below.refl w4.heap.size w4).alloc (Nat.le_refl _) (.cells (madeCells #[.slice none 0 0] m) 22)
    have HMD := Lib.hid hmade
    have HMB := Lib.hid (heap_new w4 (.cells (madeCells #[.slice none 0 0] m) 22))
    clear hmade
    go_wp2_with fail
    clear hmk c3
    obtain ⟨wm, hwm⟩ : ∃ wm, w4.alloc (.cells (madeCells #[.slice none 0 0] m) 22) = wm := ⟨_, rfl⟩
    rw [hwm] at HRM HMD HMB
    have hzm : wm.heap.size = w4.heap.size + 1 := by rw [← hwm]; simp
    rw [hwm]
    have HZM := Lib.hid hzm
    clear hwm hzm
    obtain ⟨gm, hgm⟩ : ∃ gm, w4.heap.size = gm := ⟨_, rfl⟩
    have HGM := Lib.hid hgm
    rw [hgm] at HRM HMB hlt4
    rw [hgm]
    clear hgm
    go_loopw [25] (fun iv wr => ∃ (j : Nat) (rows : List Value), j ≤ m ∧ iv = .int .i64 (j : Int) ∧ Hid (RowsAt wr gm (.slice (some ⟨gm, 0, none⟩) m m) rows ((setsL S).take j ++ List.replicate (m - j) []) (fun _ => False)) ∧ Hid (Keeps (fun b => b = gm) wm wr)) (fun iv _ => m - (intOf iv).toNat)
    case atStart => exact ⟨0, _, Nat.zero_le _, rfl, Lib.hid (by simpa using HRM.out), Lib.hid (Keeps.refl _ _)⟩
    case round =>
      obtain ⟨j, rows, hj, rfl, hR, hK⟩ := hrel
      by_cases hlt : j < m
      · have hz : gm < wm.heap.size := by rw [HZM.out, HGM.out]; omega
        have hbw : BagT wr w2.heap.size bp N (S.sets.map (wordsOf N)) := BagT.keeps (HBAG.out.below HMD.out) hK.out (fun b hb hB => by
          rw [show b = gm from hb] at hB
          exact notBT_blk HMB.out (by decide) hB.1)
        have hblk' := (hK.out.block (w.heap.size + 1) (by omega) (by omega)).trans ((HMD.out.block _ (by rw [HGM.out]; exact hlt4)).trans HBLK.out)
        have c3 : wr.cell? ⟨w.heap.size + 1, 3, none⟩ = some bp := by rw [cell_of_row wr _ _ _ _ _ hblk']; rfl
        obtain ⟨B, hB⟩ : ∃ B, S.sets[j]? = some B := ⟨_, List.getElem?_eq_getElem (by rw [HM.out]; exact hlt)⟩
        have hget := Get_c hbw j (wordsOf N B) (by rw [List.getElem?_map, hB]; rfl)
        rw [getL_words (HOK.out B (List.mem_of_getElem? hB))] at hget
        have HG := Lib.hid hget
        have HLB := Lib.hid (show (setsL S)[j]? = some (ints (nodesOf B)) by unfold setsL; rw [List.getElem?_map, hB]; rfl)
        clear hget hbw hblk' hB
        go_wp2_with fail
        refine (HG.out).mono ?_
        rintro e w6 ⟨v, rfl, hown, hb6⟩
        clear HG c3
        obtain ⟨P, cc, rfl, _, _⟩ := own_slice hown
        rw [List.length_map] at hown
        have hR6 := hR.out.pure hb6
        have hll : ((setsL S).take j ++ List.replicate (m - j) []).length = m := by
          rw [List.length_append, List.length_take, List.length_replicate]
          have : (setsL S).length = m := by unfold setsL; rw [List.length_map, HM.out]
          omega
        have hls := hR6.lst
        rw [hll] at hls
        obtain ⟨u0, hu0⟩ : ∃ u0, rows[j]? = some u0 := ⟨_, List.getElem?_eq_getElem (by have := hR6.len; omega)⟩
        have cs : w6.cell? ⟨gm, j, none⟩ = some u0 := by rw [hls.cellAt j (by omega), hu0]
        have fs := hls.frozenAt j
        have hst := RowsAt.stored hR6 (i := j) (by rw [hll]; exact hlt) (own_base hown (by have := hK.out.size; omega)) (fun _ _ hf => hf) (fun g' hg' u hu => (hR.out.not_new (b := g') (hown.lt g' hg').1).2 u hu)
        rw [fill_rows (by unfold setsL; rw [List.length_map, HM.out]) hlt HLB.out] at hst
        have HST := Lib.hid hst
        have HKK := Lib.hid ((hK.out.trans (Keeps.of_pure hb6 (fun b => b = gm)) (fun _ _ h => h)).trans (Keeps.of_setCell w6 ⟨gm, j, none⟩ (.slice P (ints (nodesOf B)).length cc)) (fun _ _ h => h))
        rw [List.length_map]
        clear hst hown hb6 hR6 hll hls hu0 hR hK
        go_wp2_with fail
        exact ⟨⟨j + 1, _, by omega, by go_num, HST, HKK⟩, by simp [intOf]; omega⟩
      · obtain rfl : j = m := by omega
        go_wp2_with fail
        go_ret2
        have hle : (setsL S).length = j := by unfold setsL; rw [List.length_map, HM.out]
        have h1 := hR.out
        rw [Nat.sub_self, List.replicate_zero, List.append_nil, List.take_of_length_le (by omega)] at h1
        refine ⟨fun S' hS' => ?_, fun h => (by rw [HS.out] at h; cases h)⟩
        rw [HS.out] at hS'
        injection hS' with e _
        subst e
        exact ⟨_, rows, rfl, h1.base (by omega), (HB4.out.trans (HMD.out.mono HB4.out.size)).trans (hK.out.below (by have := HMD.out.size; have := HB4.out.size; omega) (fun b hb => by rw [show b = gm from hb]; omega))⟩
  · rw [hS] at hp
    have HS := Lib.hid hS
    obtain ⟨b, rfl, he4, hb4⟩ := hp
    have hb4' := HB2.out.trans (hb4.mono HB2.out.size)
    obtain ⟨q1, q2, q3⟩ := HER.out w4 hb4'
    have HTD := Lib.hid (told_c w4 E q1 q2 hA q3 4 (by decide) (by decide) sBag 0 [] _ he4)
    have HB4 := Lib.hid hb4'
    clear he4 hb4 hb4' q1 q2 q3 hS
    unfold errV at *
    go_wp2_with fail
    refine (HTD.out).mono ?_
    rintro e w7 ⟨v7, rfl, hv7, hb7⟩
    clear HTD
    have e7 : toldT sBag 4 [(sBag, 0)] = [(sSubset, 0)] := if_pos ⟨rfl, rfl⟩
    rw [e7] at hv7
    have HV7 := Lib.hid hv7
    have HB7 := Lib.hid (HB4.out.trans (hb7.mono HB4.out.size))
    clear hv7 hb7 e7
    go_wp2_with fail
    go_ret2
    exact ⟨fun S' hx => (by rw [HS.out] at hx; cases hx), fun _ => ⟨_, rfl, HV7.out, HB7.out⟩⟩
end Go.Proofs.YtlajiblhnkognaaDoor

namespace Go.Proofs.YtlajiblhnkognaaDoor
open Go.RowKit BagP RuleP SubP

/-- An automaton and an error beside it, both written. -/
def setPair (w : World) (g h : Nat) (x0 x1 y0 y1 y2 : Value) : World :=
  ((((w.setCell ⟨g, 0, none⟩ x0).setCell ⟨g, 1, none⟩ x1).setCell ⟨h, 0, none⟩ y0).setCell ⟨h, 1, none⟩ y1).setCell ⟨h, 2, none⟩ y2
theorem keeps_pair (w : World) (g h : Nat) (x0 x1 y0 y1 y2 : Value) : Keeps (fun b => b = g ∨ b = h) w (setPair w g h x0 x1 y0 y1 y2) :=
  (((Keeps.of_setCell w ⟨g, 0, none⟩ x0).trans (Keeps.of_setCell _ ⟨g, 1, none⟩ x1) (fun _ _ h => h)).mono (O' := fun b => b = g ∨ b = h) (fun _ _ e => .inl e)).trans ((keeps_set3 _ h y0 y1 y2).mono (O' := fun b => b = g ∨ b = h) (fun _ _ e => .inr e)) (fun _ _ h => h)
theorem below_pair {w0 w : World} {B g h : Nat} (hb : Below B w0 w) (hg : B ≤ g) (hh : B ≤ h) (x0 x1 y0 y1 y2 : Value) : Below B w0 (setPair w g h x0 x1 y0 y1 y2) :=
  below_set3 ((hb.setCell (p := ⟨g, 0, none⟩) hg x0).setCell (p := ⟨g, 1, none⟩) hg x1) hh y0 y1 y2
theorem pair_facts {w : World} {g h : Nat} {a0 a1 b0 b1 b2 : Value} (ha : AutoAt w g a0 a1) (hw : WantAt w h b0 b1 b2) (hne : g ≠ h) (x0 x1 y0 y1 y2 : Value) :
    AutoAt (setPair w g h x0 x1 y0 y1 y2) g x0 x1 ∧ WantAt (setPair w g h x0 x1 y0 y1 y2) h y0 y1 y2 := by
  have h1 := ha.set2 x0 x1
  have h2 : WantAt ((w.setCell ⟨g, 0, none⟩ x0).setCell ⟨g, 1, none⟩ x1) h b0 b1 b2 := by
    have hk := (Keeps.of_setCell w ⟨g, 0, none⟩ x0).trans (Keeps.of_setCell _ ⟨g, 1, none⟩ x1) (fun _ _ h => h)
    exact (hk.block h (Array.getElem?_eq_some_iff.1 hw).1 (fun e => hne (show h = g from e).symm)).trans hw
  refine ⟨?_, h2.set3 y0 y1 y2⟩
  have hk := keeps_set3 ((w.setCell ⟨g, 0, none⟩ x0).setCell ⟨g, 1, none⟩ x1) h y0 y1 y2
  exact (hk.block g (Array.getElem?_eq_some_iff.1 h1).1 hne).trans h1

set_option maxRecDepth 100000 in
set_option maxHeartbeats 2000000 in
theorem refWalk_bad (w : World) (K R : Int) (A : Option Addr) (n c : Nat) (T : List Int) (hT : Sl w A n (T.map (Value.int .i64))) (hm : n ≤ 9223372036854775807) (tl : Tale) (hbad : small K R T = some tl) :
    Calls Tryd.prog 16 #[ruleV K R A n c] w fun e w' => ∃ (N : Nat) (A1 : Option Addr) (n1 c1 : Nat) (A2 : Option Addr) (n2 c2 : Nat), e = .returned (.tuple #[autoV 0 (.slice none 0 0), .agg #[.int .i64 (N : Int), .slice A1 n1 c1, .slice A2 n2 c2]]) ∧
      WantB w' w.heap.size (some (tl.1, (sSubset, 0) :: tl.2)) (.agg #[.int .i64 (N : Int), .slice A1 n1 c1, .slice A2 n2 c2]) ∧ Below w.heap.size w w' := by
  have hsmall : under sSubset 0 (small K R T) = some (tl.1, (sSubset, 0) :: tl.2) := by unfold under; rw [hbad]
  have hr0 := ((RuleAt.new w (.int .i64 K) (.int .i64 R) (.slice A n c)).alloc (.cells #[.int .i64 0, .slice none 0 0] 42)).alloc (.cells #[.int .i64 0, .slice none 0 0, .slice none 0 0] 33)
  have hw0 := WantAt.new ((w.alloc (.cells #[.int .i64 K, .int .i64 R, .slice A n c] 24)).alloc (.cells #[.int .i64 0, .slice none 0 0] 42)) (.int .i64 0) (.slice none 0 0) (.slice none 0 0)
  rw [World.size_alloc, World.size_alloc] at hw0
  change WantAt _ (w.heap.size + 2) _ _ _ at hw0
  have ha0 : AutoAt (((w.alloc (.cells #[.int .i64 K, .int .i64 R, .slice A n c] 24)).alloc (.cells #[.int .i64 0, .slice none 0 0] 42)).alloc (.cells #[.int .i64 0, .slice none 0 0, .slice none 0 0] 33)) (w.heap.size + 1) (.int .i64 0) (.slice none 0 0) := by
    have h1 : AutoAt ((w.alloc (.cells #[.int .i64 K, .int .i64 R, .slice A n c] 24)).alloc (.cells #[.int .i64 0, .slice none 0 0] 42)) (w.heap.size + 1) (.int .i64 0) (.slice none 0 0) := by
      unfold AutoAt
      have := heap_new (w.alloc (.cells #[.int .i64 K, .int .i64 R, .slice A n c] 24)) (.cells #[.int .i64 0, .slice none 0 0] 42)
      simpa using this
    exact h1.below ((Below.refl _ _).alloc (Nat.le_refl _) _) (by simp)
  have hb0 := (((Below.refl w.heap.size w).alloc (Nat.le_refl _) (.cells #[.int .i64 K, .int .i64 R, .slice A n c] 24)).alloc (by simp) (.cells #[.int .i64 0, .slice none 0 0] 42)).alloc (by simp; omega) (.cells #[.int .i64 0, .slice none 0 0, .slice none 0 0] 33)
  have hT0 := hT.below hb0
  obtain ⟨wx, hwx⟩ : ∃ wx, ((w.alloc (.cells #[.int .i64 K, .int .i64 R, .slice A n c] 24)).alloc (.cells #[.int .i64 0, .slice none 0 0] 42)).alloc (.cells #[.int .i64 0, .slice none 0 0, .slice none 0 0] 33) = wx := ⟨_, rfl⟩
  have hsx : wx.heap.size = w.heap.size + 3 := by rw [← hwx]; simp
  have HWX := Lib.hid hwx
  rw [hwx] at hr0 hw0 hb0 hT0 ha0
  have HA0 := Lib.hid ha0
  clear ha0
  have HC := Lib.hid (refFault_c wx sSubset K R A n c T hT0 hm)
  have HW0 := Lib.hid hw0
  have HB0 := Lib.hid hb0
  have HR0 := Lib.hid hr0
  have HT0 := Lib.hid hT0
  obtain ⟨r0, r1, r2, _⟩ := hr0.facts
  clear hw0 hb0 hT hT0 hr0 hwx
  unfold ruleV at *
  go_enter Tryd.func16, Tryd.ntmps16
  go_wp2_with fail
  rw [HWX.out]
  refine (HC.out).mono ?_
  rintro e w1 ⟨N, A1, n1, c1, A2, n2, c2, rfl, hu, hb1⟩
  rw [hsmall] at hu
  have hw1 := HW0.out.below hb1 (by omega)
  have hr1 := HR0.out.below hb1 (by omega)
  have ha1 := HA0.out.below hb1 (by omega)
  have ha2 : AutoAt (w1.alloc (.cells #[.int .i64 (N : Int), .slice A1 n1 c1, .slice A2 n2 c2] 33)) (w.heap.size + 1) (.int .i64 0) (.slice none 0 0) := ha1.below ((Below.refl w1.heap.size w1).alloc (Nat.le_refl _) _) (by have := hb1.size; omega)
  have hw2 := hw1.alloc (.cells #[.int .i64 (N : Int), .slice A1 n1 c1, .slice A2 n2 c2] 33)
  have hr2 := hr1.alloc (.cells #[.int .i64 (N : Int), .slice A1 n1 c1, .slice A2 n2 c2] 33)
  have hv2 := WantAt.new w1 (.int .i64 (N : Int)) (.slice A1 n1 c1) (.slice A2 n2 c2)
  have hb2 := (HB0.out.trans (hb1.mono HB0.out.size)).alloc (by have := HB0.out.size; have := hb1.size; omega) (.cells #[.int .i64 (N : Int), .slice A1 n1 c1, .slice A2 n2 c2] 33)
  have hu2 := hu.below ((Below.refl w1.heap.size w1).alloc (Nat.le_refl _) (.cells #[.int .i64 (N : Int), .slice A1 n1 c1, .slice A2 n2 c2] 33))
  have ht2 := HT0.out.below (pure_trans hb1 ((Below.refl w1.heap.size w1).alloc (Nat.le_refl _) (.cells #[.int .i64 (N : Int), .slice A1 n1 c1, .slice A2 n2 c2] 33)))
  obtain ⟨wy, hwy⟩ : ∃ wy, w1.alloc (.cells #[.int .i64 (N : Int), .slice A1 n1 c1, .slice A2 n2 c2] 33) = wy := ⟨_, rfl⟩
  have HWY := Lib.hid hwy
  have hsy : w1.heap.size < wy.heap.size := by rw [← hwy]; simp
  have hs1 := hb1.size
  rw [hwy] at hw2 hr2 hv2 hb2 hu2 ht2 ha2
  have HA2 := Lib.hid ha2
  clear ha1 ha2
  obtain ⟨ge, hge⟩ : ∃ ge, w1.heap.size = ge := ⟨_, rfl⟩
  have HGE := Lib.hid hge
  rw [hge] at hv2 hs1 hsy
  have HBAD := Lib.hid (errBad_c wy N A1 n1 c1 A2 n2 c2)
  have HW2 := Lib.hid hw2
  have HR2 := Lib.hid hr2
  have HV2 := Lib.hid hv2
  have HB2 := Lib.hid hb2
  have HU2 := Lib.hid hu2
  have HT2 := Lib.hid ht2
  obtain ⟨v0, v1, v2, _⟩ := hv2.facts
  clear hw1 hr1 hw2 hr2 hv2 hb2 hu2 ht2 hu hb1 hwy r0 r1 r2 hge
  have hN := HU2.out.num
  have ht := (small_ok K R T tl hbad).1
  have hNz : decide (N ≠ 0) = true := decide_eq_true (by simp only [tnum] at hN; omega)
  rw [hNz] at HBAD
  clear hN ht hNz hbad hsmall
  go_wp2_with fail
  rw [HWY.out, HGE.out]
  refine (HBAD.out).mono ?_
  rintro e w3 ⟨rfl, hb3⟩
  have k0 := cell_later hb3 v0
  have k1 := cell_later hb3 v1
  have k2 := cell_later hb3 v2
  have hw3 := HW2.out.below hb3 (by omega)
  have ha3 : AutoAt w3 (w.heap.size + 1) (.int .i64 0) (.slice none 0 0) := (HA2.out).below hb3 (by omega)
  obtain ⟨d0, d1, d2, f0, f1, f2⟩ := hw3.facts
  obtain ⟨g0, g1, h0, h1⟩ := ha3.facts
  have HU := Lib.hid (((HU2.out.below hb3).keeps (keeps_pair w3 (w.heap.size + 1) (w.heap.size + 2) (.int .i64 0) (.slice none 0 0) (.int .i64 (N : Int)) (.slice A1 n1 c1) (.slice A2 n2 c2)) (fun b hb => by rcases hb with rfl | rfl <;> omega)).base (base' := w.heap.size) (by omega))
  have HB := Lib.hid (below_pair (HB2.out.trans (hb3.mono HB2.out.size)) (g := w.heap.size + 1) (h := w.heap.size + 2) (by omega) (by omega) (.int .i64 0) (.slice none 0 0) (.int .i64 (N : Int)) (.slice A1 n1 c1) (.slice A2 n2 c2))
  have HPF := Lib.hid (pair_facts ha3 hw3 (by omega) (.int .i64 0) (.slice none 0 0) (.int .i64 (N : Int)) (.slice A1 n1 c1) (.slice A2 n2 c2))
  have HW := Lib.hid (show ((((w3.setCell ⟨w.heap.size + 1, 0, none⟩ (.int .i64 0)).setCell ⟨w.heap.size + 1, 1, none⟩ (.slice none 0 0)).setCell ⟨w.heap.size + 2, 0, none⟩ (.int .i64 (N : Int))).setCell ⟨w.heap.size + 2, 1, none⟩ (.slice A1 n1 c1)).setCell ⟨w.heap.size + 2, 2, none⟩ (.slice A2 n2 c2) = setPair w3 (w.heap.size + 1) (w.heap.size + 2) (.int .i64 0) (.slice none 0 0) (.int .i64 (N : Int)) (.slice A1 n1 c1) (.slice A2 n2 c2) from rfl)
  clear v0 v1 v2 hb3 hw3 ha3
  go_wp2_with fail
  go_region
  go_wp2_with fail
  rw [HW.out]
  obtain ⟨⟨g0, g1, _, _⟩, d0, d1, d2, _⟩ := (⟨HPF.out.1.facts, HPF.out.2.facts⟩ : _ ∧ _)
  obtain ⟨W, hW⟩ : ∃ W, setPair w3 (w.heap.size + 1) (w.heap.size + 2) (.int .i64 0) (.slice none 0 0) (.int .i64 (N : Int)) (.slice A1 n1 c1) (.slice A2 n2 c2) = W := ⟨_, rfl⟩
  have HUW := HU.out
  have HBW := HB.out
  rw [hW] at g0 g1 d0 d1 d2 HUW HBW
  rw [hW]
  have hdr := (Below.refl W.heap.size W).drew
  exact bodyPost_ret (v := .tuple #[autoV 0 (.slice none 0 0), .agg #[.int .i64 (N : Int), .slice A1 n1 c1, .slice A2 n2 c2]]) (by simp [results, Tryd.results16, go_sem, autoV, g0, g1, d0, d1, d2]) rfl ⟨N, A1, n1, c1, A2, n2, c2, rfl, HUW.below hdr, HBW.trans (hdr.mono HBW.size)⟩
/-- What the document's Walk answers of a small rule. -/
def RefWalkPost (w : World) (k r : Nat) (t : List Nat) (e : Ending) (w' : World) : Prop :=
  (∀ S, fin k (k ^ (2 * r)) t false = .go S [] → ∃ nv nr, e = .returned (.tuple #[autoV (k : Int) nv, .agg #[.int .i64 0, .slice none 0 0, .slice none 0 0]]) ∧ RowsAt w' w.heap.size nv nr S.next (fun _ => False) ∧ Below w.heap.size w w') ∧
  (fin k (k ^ (2 * r)) t false = .over → ∃ (N : Nat) (A1 : Option Addr) (n1 c1 : Nat) (A2 : Option Addr) (n2 c2 : Nat), e = .returned (.tuple #[autoV 0 (.slice none 0 0), .agg #[.int .i64 (N : Int), .slice A1 n1 c1, .slice A2 n2 c2]]) ∧
      WantB w' w.heap.size (some (4, [(sSubset, 0)])) (.agg #[.int .i64 (N : Int), .slice A1 n1 c1, .slice A2 n2 c2]) ∧ Below w.heap.size w w')

set_option maxRecDepth 100000 in
set_option maxHeartbeats 2000000 in
theorem refWalk_good (w : World) (k r : Nat) (A : Option Addr) (n c : Nat) (t : List Nat) (hT : Sl w A n ((ints t).map (Value.int .i64))) (hr : IsRule k r t) (h256 : t.length ≤ 256) :
    Calls Tryd.prog 16 #[ruleV (k : Int) (r : Int) A n c] w (RefWalkPost w k r t) := by
  obtain ⟨K, hK⟩ : ∃ K : Int, (k : Int) = K := ⟨_, rfl⟩
  obtain ⟨R, hR⟩ : ∃ R : Int, (r : Int) = R := ⟨_, rfl⟩
  obtain ⟨T, hTT⟩ : ∃ T : List Int, ints t = T := ⟨_, rfl⟩
  have hm : n ≤ 9223372036854775807 := by have : t.length = n := by simpa [ints] using hT.1
                                          omega
  have hsmall : under sSubset 0 (small K R T) = none := by rw [← hK, ← hR, ← hTT, small_rule hr h256]; rfl
  rw [hK, hR]
  rw [hTT] at hT
  have HKR := Lib.hid (⟨hK, hR, hTT⟩ : _ ∧ _ ∧ _)
  have HRU := Lib.hid hr
  have H256 := Lib.hid h256
  clear hK hR hTT hr h256
  have hr0 := ((RuleAt.new w (.int .i64 K) (.int .i64 R) (.slice A n c)).alloc (.cells #[.int .i64 0, .slice none 0 0] 42)).alloc (.cells #[.int .i64 0, .slice none 0 0, .slice none 0 0] 33)
  have hw0 := WantAt.new ((w.alloc (.cells #[.int .i64 K, .int .i64 R, .slice A n c] 24)).alloc (.cells #[.int .i64 0, .slice none 0 0] 42)) (.int .i64 0) (.slice none 0 0) (.slice none 0 0)
  rw [World.size_alloc, World.size_alloc] at hw0
  change WantAt _ (w.heap.size + 2) _ _ _ at hw0
  have ha0 : AutoAt (((w.alloc (.cells #[.int .i64 K, .int .i64 R, .slice A n c] 24)).alloc (.cells #[.int .i64 0, .slice none 0 0] 42)).alloc (.cells #[.int .i64 0, .slice none 0 0, .slice none 0 0] 33)) (w.heap.size + 1) (.int .i64 0) (.slice none 0 0) := by
    have h1 : AutoAt ((w.alloc (.cells #[.int .i64 K, .int .i64 R, .slice A n c] 24)).alloc (.cells #[.int .i64 0, .slice none 0 0] 42)) (w.heap.size + 1) (.int .i64 0) (.slice none 0 0) := by
      unfold AutoAt
      have := heap_new (w.alloc (.cells #[.int .i64 K, .int .i64 R, .slice A n c] 24)) (.cells #[.int .i64 0, .slice none 0 0] 42)
      simpa using this
    exact h1.below ((Below.refl _ _).alloc (Nat.le_refl _) _) (by simp)
  have hb0 := (((Below.refl w.heap.size w).alloc (Nat.le_refl _) (.cells #[.int .i64 K, .int .i64 R, .slice A n c] 24)).alloc (by simp) (.cells #[.int .i64 0, .slice none 0 0] 42)).alloc (by simp; omega) (.cells #[.int .i64 0, .slice none 0 0, .slice none 0 0] 33)
  have hT0 := hT.below hb0
  obtain ⟨wx, hwx⟩ : ∃ wx, ((w.alloc (.cells #[.int .i64 K, .int .i64 R, .slice A n c] 24)).alloc (.cells #[.int .i64 0, .slice none 0 0] 42)).alloc (.cells #[.int .i64 0, .slice none 0 0, .slice none 0 0] 33) = wx := ⟨_, rfl⟩
  have hsx : wx.heap.size = w.heap.size + 3 := by rw [← hwx]; simp
  have HWX := Lib.hid hwx
  rw [hwx] at hr0 hw0 hb0 hT0 ha0
  have HA0 := Lib.hid ha0
  clear ha0
  have HC := Lib.hid (refFault_c wx sSubset K R A n c T hT0 hm)
  have HW0 := Lib.hid hw0
  have HB0 := Lib.hid hb0
  have HR0 := Lib.hid hr0
  have HT0 := Lib.hid hT0
  obtain ⟨r0, r1, r2, _⟩ := hr0.facts
  clear hw0 hb0 hT hT0 hr0 hwx
  unfold ruleV at *
  go_enter Tryd.func16, Tryd.ntmps16
  go_wp2_with fail
  rw [HWX.out]
  refine (HC.out).mono ?_
  rintro e w1 ⟨N, A1, n1, c1, A2, n2, c2, rfl, hu, hb1⟩
  rw [hsmall] at hu
  have hw1 := HW0.out.below hb1 (by omega)
  have hr1 := HR0.out.below hb1 (by omega)
  have ha1 := HA0.out.below hb1 (by omega)
  have ha2 : AutoAt (w1.alloc (.cells #[.int .i64 (N : Int), .slice A1 n1 c1, .slice A2 n2 c2] 33)) (w.heap.size + 1) (.int .i64 0) (.slice none 0 0) := ha1.below ((Below.refl w1.heap.size w1).alloc (Nat.le_refl _) _) (by have := hb1.size; omega)
  have hw2 := hw1.alloc (.cells #[.int .i64 (N : Int), .slice A1 n1 c1, .slice A2 n2 c2] 33)
  have hr2 := hr1.alloc (.cells #[.int .i64 (N : Int), .slice A1 n1 c1, .slice A2 n2 c2] 33)
  have hv2 := WantAt.new w1 (.int .i64 (N : Int)) (.slice A1 n1 c1) (.slice A2 n2 c2)
  have hb2 := (HB0.out.trans (hb1.mono HB0.out.size)).alloc (by have := HB0.out.size; have := hb1.size; omega) (.cells #[.int .i64 (N : Int), .slice A1 n1 c1, .slice A2 n2 c2] 33)
  have hu2 := hu.below ((Below.refl w1.heap.size w1).alloc (Nat.le_refl _) (.cells #[.int .i64 (N : Int), .slice A1 n1 c1, .slice A2 n2 c2] 33))
  have ht2 := HT0.out.below (pure_trans hb1 ((Below.refl w1.heap.size w1).alloc (Nat.le_refl _) (.cells #[.int .i64 (N : Int), .slice A1 n1 c1, .slice A2 n2 c2] 33)))
  obtain ⟨wy, hwy⟩ : ∃ wy, w1.alloc (.cells #[.int .i64 (N : Int), .slice A1 n1 c1, .slice A2 n2 c2] 33) = wy := ⟨_, rfl⟩
  have HWY := Lib.hid hwy
  have hsy : w1.heap.size < wy.heap.size := by rw [← hwy]; simp
  have hs1 := hb1.size
  rw [hwy] at hw2 hr2 hv2 hb2 hu2 ht2 ha2
  have HA2 := Lib.hid ha2
  clear ha1 ha2
  obtain ⟨ge, hge⟩ : ∃ ge, w1.heap.size = ge := ⟨_, rfl⟩
  have HGE := Lib.hid hge
  rw [hge] at hv2 hs1 hsy
  have HBAD := Lib.hid (errBad_c wy N A1 n1 c1 A2 n2 c2)
  have HW2 := Lib.hid hw2
  have HR2 := Lib.hid hr2
  have HV2 := Lib.hid hv2
  have HB2 := Lib.hid hb2
  have HU2 := Lib.hid hu2
  have HT2 := Lib.hid ht2
  obtain ⟨v0, v1, v2, _⟩ := hv2.facts
  clear hw1 hr1 hw2 hr2 hv2 hb2 hu2 ht2 hu hb1 hwy r0 r1 r2 hge
  have hN := HU2.out.num
  obtain rfl : N = 0 := hN
  obtain ⟨rfl, rfl, rfl, rfl, rfl, rfl⟩ : A1 = none ∧ n1 = 0 ∧ c1 = 0 ∧ A2 = none ∧ n2 = 0 ∧ c2 = 0 := by
    have e := HU2.out.none_eq
    simp at e
    obtain ⟨⟨q1, q2, q3⟩, q4, q5, q6⟩ := e
    exact ⟨q1, q2, q3, q4, q5, q6⟩
  rw [show decide ((0 : Nat) ≠ 0) = false from rfl, show ((0 : Nat) : Int) = 0 from rfl] at HBAD
  rw [show ((0 : Nat) : Int) = 0 from rfl] at HWY v0
  clear hsmall HU2 HV2
  go_wp2_with fail
  rw [HWY.out, HGE.out]
  refine (HBAD.out).mono ?_
  rintro e w3 ⟨rfl, hb3⟩
  clear HBAD v0 v1 v2
  have hr3 := HR2.out.below hb3 (by omega)
  obtain ⟨r0, r1, r2, _⟩ := hr3.facts
  have HGO := go_c w3 k r t A n c false (by rw [HKR.out.2.2]; exact HT2.out.below hb3) HRU.out H256.out
  unfold ruleV at HGO
  rw [HKR.out.1, HKR.out.2.1] at HGO
  have HG := Lib.hid HGO
  have HW3 := Lib.hid (HW2.out.below hb3 (by omega))
  have HA3 := Lib.hid (HA2.out.below hb3 (by omega))
  have HR3 := Lib.hid hr3
  have HB3 := Lib.hid (HB2.out.trans (hb3.mono HB2.out.size))
  have hs3 : w.heap.size + 2 < w3.heap.size := by have := hb3.size; omega
  have HFO := Lib.hid (fin_go_or_over (k := k) (N := k ^ (2 * r)) (t := t) (show 0 < k ^ (2 * r) from Nat.pow_pos HRU.out.k1))
  clear hb3 hr3 HGO HR2 HT2 HW2 HA2 HB2 HWY HWX
  go_wp2_with fail
  refine (HG.out).mono ?_
  rintro e w4 ⟨gb, sv, nv, fv, yv, ov, has, over, rfl, hg, hb4, p1, p2, p3⟩
  clear HG r0 r1 r2 p2
  have hw4 := HW3.out.below hb4 hs3
  have ha4 := HA3.out.below hb4 (by omega)
  have hr4 := HR3.out.below hb4 (by omega)
  have hb4' := HB3.out.trans (hb4.mono HB3.out.size)
  obtain ⟨r0, r1, r2, _⟩ := hr4.facts
  have c1 : w4.cell? ⟨gb, 1, none⟩ = some nv := by rw [cell_of_row w4 gb _ _ _ _ hg]; rfl
  have c6 : w4.cell? ⟨gb, 6, none⟩ = some (.bool over) := by rw [cell_of_row w4 gb _ _ _ _ hg]; rfl
  obtain ⟨d0, d1, d2, f0, f1, f2⟩ := hw4.facts
  obtain ⟨g0, g1, h0, h1⟩ := ha4.facts
  have HW4 := Lib.hid hw4
  have HA4 := Lib.hid ha4
  have HB4 := Lib.hid hb4'
  have hs4 : w.heap.size + 2 < w4.heap.size := Nat.lt_of_lt_of_le hs3 hb4.size
  rcases HFO.out with ⟨S, hS⟩ | hS
  · obtain ⟨rfl, _, sr, nr, _, hnx⟩ := p1 S hS
    have HS := Lib.hid hS
    obtain ⟨NA, nc, rfl, _, _⟩ := own_slice hnx.lst
    have HPF := Lib.hid (pair_facts ha4 hw4 (by omega) (.int .i64 K) (.slice NA S.next.length nc) (.int .i64 0) (.slice none 0 0) (.slice none 0 0))
    have HBE := Lib.hid (below_pair hb4' (g := w.heap.size + 1) (h := w.heap.size + 2) (by omega) (by omega) (.int .i64 K) (.slice NA S.next.length nc) (.int .i64 0) (.slice none 0 0) (.slice none 0 0))
    have HN := Lib.hid ((hnx.keeps (keeps_pair w4 (w.heap.size + 1) (w.heap.size + 2) (.int .i64 K) (.slice NA S.next.length nc) (.int .i64 0) (.slice none 0 0) (.slice none 0 0))
      (fun b hb => hb.elim (fun e => e ▸ hnx.not_lst ha4 (by decide)) (fun e => e ▸ hnx.not_lst hw4 (by decide)))
      (fun b hb => hb.elim (fun e => e ▸ hnx.not_el ha4 (by decide)) (fun e => e ▸ hnx.not_el hw4 (by decide)))).base HB3.out.size)
    have HW := Lib.hid (show ((((w4.setCell ⟨w.heap.size + 1, 0, none⟩ (.int .i64 K)).setCell ⟨w.heap.size + 1, 1, none⟩ (.slice NA S.next.length nc)).setCell ⟨w.heap.size + 2, 0, none⟩ (.int .i64 0)).setCell ⟨w.heap.size + 2, 1, none⟩ (.slice none 0 0)).setCell ⟨w.heap.size + 2, 2, none⟩ (.slice none 0 0) = setPair w4 (w.heap.size + 1) (w.heap.size + 2) (.int .i64 K) (.slice NA S.next.length nc) (.int .i64 0) (.slice none 0 0) (.slice none 0 0) from rfl)
    clear p1 p3 hS hw4 ha4 hr4 hb4 hb4' hg hnx
    go_wp2_with fail
    go_region
    go_wp2_with fail
    rw [HW.out]
    obtain ⟨⟨g0, g1, _, _⟩, d0, d1, d2, _⟩ := (⟨HPF.out.1.facts, HPF.out.2.facts⟩ : _ ∧ _)
    obtain ⟨W, hW⟩ : ∃ W, setPair w4 (w.heap.size + 1) (w.heap.size + 2) (.int .i64 K) (.slice NA S.next.length nc) (.int .i64 0) (.slice none 0 0) (.slice none 0 0) = W := ⟨_, rfl⟩
    have HNW := HN.out
    have HBW := HBE.out
    rw [hW] at g0 g1 d0 d1 d2 HNW HBW
    rw [hW]
    have hdr := (Below.refl W.heap.size W).drew
    refine bodyPost_ret (v := .tuple #[autoV K (.slice NA S.next.length nc), .agg #[.int .i64 0, .slice none 0 0, .slice none 0 0]]) (by simp [results, Tryd.results16, go_sem, autoV, g0, g1, d0, d1, d2]) rfl ⟨fun S' h => ?_, fun h => (by rw [HS.out] at h; cases h)⟩
    rw [HS.out] at h
    injection h with h _
    subst h
    exact ⟨_, nr, by rw [HKR.out.1], HNW.pure hdr, HBW.trans (hdr.mono HBW.size)⟩
  · obtain ⟨rfl, _⟩ := p3 hS
    have HS := Lib.hid hS
    have HNW := Lib.hid (newB_c w4 sSubset 0 4)
    clear p1 p3 hS hw4 ha4 hr4 hb4 hb4' hg
    unfold sSubset at *
    go_wp2_with fail
    refine (HNW.out).mono ?_
    rintro e w5 ⟨A1, n1, c1, A2, n2, c2, rfl, hu, hb5⟩
    have hw5 := HW4.out.below hb5 hs4
    have ha5 := HA4.out.below hb5 (by omega)
    obtain ⟨d0, d1, d2, f0, f1, f2⟩ := hw5.facts
    obtain ⟨g0, g1, h0, h1⟩ := ha5.facts
    have HU := Lib.hid ((hu.keeps (keeps_pair w5 (w.heap.size + 1) (w.heap.size + 2) (.int .i64 0) (.slice none 0 0) (.int .i64 4) (.slice A1 n1 c1) (.slice A2 n2 c2)) (fun b hb => by rcases hb with rfl | rfl <;> omega)).base (base' := w.heap.size) HB4.out.size)
    have HBE := Lib.hid (below_pair (HB4.out.trans (hb5.mono HB4.out.size)) (g := w.heap.size + 1) (h := w.heap.size + 2) (by omega) (by omega) (.int .i64 0) (.slice none 0 0) (.int .i64 4) (.slice A1 n1 c1) (.slice A2 n2 c2))
    have HPF := Lib.hid (pair_facts ha5 hw5 (by omega) (.int .i64 0) (.slice none 0 0) (.int .i64 4) (.slice A1 n1 c1) (.slice A2 n2 c2))
    have HW := Lib.hid (show ((((w5.setCell ⟨w.heap.size + 1, 0, none⟩ (.int .i64 0)).setCell ⟨w.heap.size + 1, 1, none⟩ (.slice none 0 0)).setCell ⟨w.heap.size + 2, 0, none⟩ (.int .i64 4)).setCell ⟨w.heap.size + 2, 1, none⟩ (.slice A1 n1 c1)).setCell ⟨w.heap.size + 2, 2, none⟩ (.slice A2 n2 c2) = setPair w5 (w.heap.size + 1) (w.heap.size + 2) (.int .i64 0) (.slice none 0 0) (.int .i64 4) (.slice A1 n1 c1) (.slice A2 n2 c2) from rfl)
    clear hu hb5 c6 hw5 ha5
    go_wp2_with fail
    rw [HW.out]
    obtain ⟨⟨g0, g1, _, _⟩, d0, d1, d2, _⟩ := (⟨HPF.out.1.facts, HPF.out.2.facts⟩ : _ ∧ _)
    obtain ⟨W, hW⟩ : ∃ W, setPair w5 (w.heap.size + 1) (w.heap.size + 2) (.int .i64 0) (.slice none 0 0) (.int .i64 4) (.slice A1 n1 c1) (.slice A2 n2 c2) = W := ⟨_, rfl⟩
    have HUW := HU.out
    have HBW := HBE.out
    rw [hW] at g0 g1 d0 d1 d2 HUW HBW
    rw [hW]
    exact bodyPost_ret (v := .tuple #[autoV 0 (.slice none 0 0), .agg #[.int .i64 4, .slice A1 n1 c1, .slice A2 n2 c2]]) (by simp [results, Tryd.results16, go_sem, autoV, g0, g1, d0, d1, d2]) rfl ⟨fun S h => (by rw [HS.out] at h; cases h), fun _ => ⟨4, A1, n1, c1, A2, n2, c2, rfl, HUW, HBW⟩⟩
end Go.Proofs.YtlajiblhnkognaaDoor

namespace Go.Proofs.YtlajiblhnkognaaDoor
open Go.RowKit BagP RuleP SubP

set_option maxRecDepth 100000 in
set_option maxHeartbeats 2000000 in
theorem refSets_bad (w : World) (K R : Int) (A : Option Addr) (n c : Nat) (T : List Int) (hT : Sl w A n (T.map (Value.int .i64))) (hm : n ≤ 9223372036854775807) (tl : Tale) (hbad : small K R T = some tl) :
    Calls Tryd.prog 18 #[ruleV K R A n c] w fun e w' => ∃ (N : Nat) (A1 : Option Addr) (n1 c1 : Nat) (A2 : Option Addr) (n2 c2 : Nat), e = .returned (.tuple #[.slice none 0 0, .agg #[.int .i64 (N : Int), .slice A1 n1 c1, .slice A2 n2 c2]]) ∧
      WantB w' w.heap.size (some (tl.1, (sSubset, 0) :: tl.2)) (.agg #[.int .i64 (N : Int), .slice A1 n1 c1, .slice A2 n2 c2]) ∧ Below w.heap.size w w' := by
  have hsmall : under sSubset 0 (small K R T) = some (tl.1, (sSubset, 0) :: tl.2) := by unfold under; rw [hbad]
  have hr0 := (RuleAt.new w (.int .i64 K) (.int .i64 R) (.slice A n c)).alloc (.cells #[.int .i64 0, .slice none 0 0, .slice none 0 0] 33)
  have hw0 := WantAt.new (w.alloc (.cells #[.int .i64 K, .int .i64 R, .slice A n c] 24)) (.int .i64 0) (.slice none 0 0) (.slice none 0 0)
  rw [World.size_alloc] at hw0
  have hb0 := ((Below.refl w.heap.size w).alloc (Nat.le_refl _) (.cells #[.int .i64 K, .int .i64 R, .slice A n c] 24)).alloc (by simp) (.cells #[.int .i64 0, .slice none 0 0, .slice none 0 0] 33)
  have hT0 := hT.below hb0
  obtain ⟨wx, hwx⟩ : ∃ wx, (w.alloc (.cells #[.int .i64 K, .int .i64 R, .slice A n c] 24)).alloc (.cells #[.int .i64 0, .slice none 0 0, .slice none 0 0] 33) = wx := ⟨_, rfl⟩
  have hsx : wx.heap.size = w.heap.size + 2 := by rw [← hwx]; simp
  have HWX := Lib.hid hwx
  rw [hwx] at hr0 hw0 hb0 hT0
  have HC := Lib.hid (refFault_c wx sSubset K R A n c T hT0 hm)
  have HW0 := Lib.hid hw0
  have HB0 := Lib.hid hb0
  have HR0 := Lib.hid hr0
  have HT0 := Lib.hid hT0
  obtain ⟨r0, r1, r2, _⟩ := hr0.facts
  clear hw0 hb0 hT hT0 hr0 hwx
  unfold ruleV at *
  go_enter Tryd.func18, Tryd.ntmps18
  go_wp2_with fail
  rw [HWX.out]
  refine (HC.out).mono ?_
  rintro e w1 ⟨N, A1, n1, c1, A2, n2, c2, rfl, hu, hb1⟩
  rw [hsmall] at hu
  have hw1 := HW0.out.below hb1 (by omega)
  have hr1 := HR0.out.below hb1 (by omega)
  have hw2 := hw1.alloc (.cells #[.int .i64 (N : Int), .slice A1 n1 c1, .slice A2 n2 c2] 33)
  have hr2 := hr1.alloc (.cells #[.int .i64 (N : Int), .slice A1 n1 c1, .slice A2 n2 c2] 33)
  have hv2 := WantAt.new w1 (.int .i64 (N : Int)) (.slice A1 n1 c1) (.slice A2 n2 c2)
  have hb2 := (HB0.out.trans (hb1.mono HB0.out.size)).alloc (by have := HB0.out.size; have := hb1.size; omega) (.cells #[.int .i64 (N : Int), .slice A1 n1 c1, .slice A2 n2 c2] 33)
  have hu2 := hu.below ((Below.refl w1.heap.size w1).alloc (Nat.le_refl _) (.cells #[.int .i64 (N : Int), .slice A1 n1 c1, .slice A2 n2 c2] 33))
  have ht2 := HT0.out.below (pure_trans hb1 ((Below.refl w1.heap.size w1).alloc (Nat.le_refl _) (.cells #[.int .i64 (N : Int), .slice A1 n1 c1, .slice A2 n2 c2] 33)))
  obtain ⟨wy, hwy⟩ : ∃ wy, w1.alloc (.cells #[.int .i64 (N : Int), .slice A1 n1 c1, .slice A2 n2 c2] 33) = wy := ⟨_, rfl⟩
  have HWY := Lib.hid hwy
  have hsy : w1.heap.size < wy.heap.size := by rw [← hwy]; simp
  have hs1 := hb1.size
  rw [hwy] at hw2 hr2 hv2 hb2 hu2 ht2
  obtain ⟨ge, hge⟩ : ∃ ge, w1.heap.size = ge := ⟨_, rfl⟩
  have HGE := Lib.hid hge
  rw [hge] at hv2 hs1 hsy
  have HBAD := Lib.hid (errBad_c wy N A1 n1 c1 A2 n2 c2)
  have HW2 := Lib.hid hw2
  have HR2 := Lib.hid hr2
  have HV2 := Lib.hid hv2
  have HB2 := Lib.hid hb2
  have HU2 := Lib.hid hu2
  have HT2 := Lib.hid ht2
  obtain ⟨v0, v1, v2, _⟩ := hv2.facts
  clear hw1 hr1 hw2 hr2 hv2 hb2 hu2 ht2 hu hb1 hwy r0 r1 r2 hge
  have hN := HU2.out.num
  have ht := (small_ok K R T tl hbad).1
  have hNz : decide (N ≠ 0) = true := decide_eq_true (by simp only [tnum] at hN; omega)
  rw [hNz] at HBAD
  clear hN ht hNz hbad hsmall
  go_wp2_with fail
  rw [HWY.out, HGE.out]
  refine (HBAD.out).mono ?_
  rintro e w3 ⟨rfl, hb3⟩
  have k0 := cell_later hb3 v0
  have k1 := cell_later hb3 v1
  have k2 := cell_later hb3 v2
  obtain ⟨d0, d1, d2, f0, f1, f2⟩ := (HW2.out.below hb3 (by omega)).facts
  have HU := Lib.hid (((HU2.out.below hb3.drew).set3 (g := w.heap.size + 1) (by omega) (.int .i64 (N : Int)) (.slice A1 n1 c1) (.slice A2 n2 c2)).base (base' := w.heap.size) (by omega))
  have HB := Lib.hid (below_set3 (HB2.out.trans (hb3.drew.mono HB2.out.size)) (Nat.le_succ _) (.int .i64 (N : Int)) (.slice A1 n1 c1) (.slice A2 n2 c2))
  clear v0 v1 v2 hb3
  go_wp2_with fail
  go_still_tail 2, (by kernel_rfl)
  change wpList _ _ _ _ _ (World.drew w3)
  go_wp2_with fail
  exact bodyPost_ret (v := .tuple #[.slice none 0 0, .agg #[.int .i64 (N : Int), .slice A1 n1 c1, .slice A2 n2 c2]]) (by simp [results, Tryd.results18, go_sem, d0, d1, d2]) rfl ⟨N, A1, n1, c1, A2, n2, c2, rfl, HU.out, HB.out⟩

/-- What the document's Sets answers of a small rule. -/
def RefSetsPost (w : World) (k r : Nat) (t : List Nat) (e : Ending) (w' : World) : Prop :=
  (∀ S, fin k (k ^ (2 * r)) t false = .go S [] → ∃ sv rows, e = .returned (.tuple #[sv, .agg #[.int .i64 0, .slice none 0 0, .slice none 0 0]]) ∧ RowsAt w' w.heap.size sv rows (setsL S) (fun _ => False) ∧ Below w.heap.size w w') ∧
  (fin k (k ^ (2 * r)) t false = .over → ∃ (N : Nat) (A1 : Option Addr) (n1 c1 : Nat) (A2 : Option Addr) (n2 c2 : Nat), e = .returned (.tuple #[.slice none 0 0, .agg #[.int .i64 (N : Int), .slice A1 n1 c1, .slice A2 n2 c2]]) ∧
      WantB w' w.heap.size (some (4, [(sSubset, 0)])) (.agg #[.int .i64 (N : Int), .slice A1 n1 c1, .slice A2 n2 c2]) ∧ Below w.heap.size w w')

set_option maxRecDepth 100000 in
set_option maxHeartbeats 2000000 in
theorem refSets_good (w : World) (k r : Nat) (A : Option Addr) (n c : Nat) (t : List Nat) (hT : Sl w A n ((ints t).map (Value.int .i64))) (hr : IsRule k r t) (h256 : t.length ≤ 256) :
    Calls Tryd.prog 18 #[ruleV (k : Int) (r : Int) A n c] w (RefSetsPost w k r t) := by
  obtain ⟨K, hK⟩ : ∃ K : Int, (k : Int) = K := ⟨_, rfl⟩
  obtain ⟨R, hR⟩ : ∃ R : Int, (r : Int) = R := ⟨_, rfl⟩
  obtain ⟨T, hTT⟩ : ∃ T : List Int, ints t = T := ⟨_, rfl⟩
  have hm : n ≤ 9223372036854775807 := by have : t.length = n := by simpa [ints] using hT.1
                                          omega
  have hsmall : under sSubset 0 (small K R T) = none := by rw [← hK, ← hR, ← hTT, small_rule hr h256]; rfl
  rw [hK, hR]
  rw [hTT] at hT
  have HKR := Lib.hid (⟨hK, hR, hTT⟩ : _ ∧ _ ∧ _)
  have HRU := Lib.hid hr
  have H256 := Lib.hid h256
  clear hK hR hTT hr h256
  have hr0 := (RuleAt.new w (.int .i64 K) (.int .i64 R) (.slice A n c)).alloc (.cells #[.int .i64 0, .slice none 0 0, .slice none 0 0] 33)
  have hw0 := WantAt.new (w.alloc (.cells #[.int .i64 K, .int .i64 R, .slice A n c] 24)) (.int .i64 0) (.slice none 0 0) (.slice none 0 0)
  rw [World.size_alloc] at hw0
  have hb0 := ((Below.refl w.heap.size w).alloc (Nat.le_refl _) (.cells #[.int .i64 K, .int .i64 R, .slice A n c] 24)).alloc (by simp) (.cells #[.int .i64 0, .slice none 0 0, .slice none 0 0] 33)
  have hT0 := hT.below hb0
  obtain ⟨wx, hwx⟩ : ∃ wx, (w.alloc (.cells #[.int .i64 K, .int .i64 R, .slice A n c] 24)).alloc (.cells #[.int .i64 0, .slice none 0 0, .slice none 0 0] 33) = wx := ⟨_, rfl⟩
  have hsx : wx.heap.size = w.heap.size + 2 := by rw [← hwx]; simp
  have HWX := Lib.hid hwx
  rw [hwx] at hr0 hw0 hb0 hT0
  have HC := Lib.hid (refFault_c wx sSubset K R A n c T hT0 hm)
  have HW0 := Lib.hid hw0
  have HB0 := Lib.hid hb0
  have HR0 := Lib.hid hr0
  have HT0 := Lib.hid hT0
  obtain ⟨r0, r1, r2, _⟩ := hr0.facts
  clear hw0 hb0 hT hT0 hr0 hwx
  unfold ruleV at *
  go_enter Tryd.func18, Tryd.ntmps18
  go_wp2_with fail
  rw [HWX.out]
  refine (HC.out).mono ?_
  rintro e w1 ⟨N, A1, n1, c1, A2, n2, c2, rfl, hu, hb1⟩
  rw [hsmall] at hu
  have hw1 := HW0.out.below hb1 (by omega)
  have hr1 := HR0.out.below hb1 (by omega)
  have hw2 := hw1.alloc (.cells #[.int .i64 (N : Int), .slice A1 n1 c1, .slice A2 n2 c2] 33)
  have hr2 := hr1.alloc (.cells #[.int .i64 (N : Int), .slice A1 n1 c1, .slice A2 n2 c2] 33)
  have hv2 := WantAt.new w1 (.int .i64 (N : Int)) (.slice A1 n1 c1) (.slice A2 n2 c2)
  have hb2 := (HB0.out.trans (hb1.mono HB0.out.size)).alloc (by have := HB0.out.size; have := hb1.size; omega) (.cells #[.int .i64 (N : Int), .slice A1 n1 c1, .slice A2 n2 c2] 33)
  have hu2 := hu.below ((Below.refl w1.heap.size w1).alloc (Nat.le_refl _) (.cells #[.int .i64 (N : Int), .slice A1 n1 c1, .slice A2 n2 c2] 33))
  have ht2 := HT0.out.below (pure_trans hb1 ((Below.refl w1.heap.size w1).alloc (Nat.le_refl _) (.cells #[.int .i64 (N : Int), .slice A1 n1 c1, .slice A2 n2 c2] 33)))
  obtain ⟨wy, hwy⟩ : ∃ wy, w1.alloc (.cells #[.int .i64 (N : Int), .slice A1 n1 c1, .slice A2 n2 c2] 33) = wy := ⟨_, rfl⟩
  have HWY := Lib.hid hwy
  have hsy : w1.heap.size < wy.heap.size := by rw [← hwy]; simp
  have hs1 := hb1.size
  rw [hwy] at hw2 hr2 hv2 hb2 hu2 ht2
  obtain ⟨ge, hge⟩ : ∃ ge, w1.heap.size = ge := ⟨_, rfl⟩
  have HGE := Lib.hid hge
  rw [hge] at hv2 hs1 hsy
  have HBAD := Lib.hid (errBad_c wy N A1 n1 c1 A2 n2 c2)
  have HW2 := Lib.hid hw2
  have HR2 := Lib.hid hr2
  have HV2 := Lib.hid hv2
  have HB2 := Lib.hid hb2
  have HU2 := Lib.hid hu2
  have HT2 := Lib.hid ht2
  obtain ⟨v0, v1, v2, _⟩ := hv2.facts
  clear hw1 hr1 hw2 hr2 hv2 hb2 hu2 ht2 hu hb1 hwy r0 r1 r2 hge
  have hN := HU2.out.num
  obtain rfl : N = 0 := hN
  obtain ⟨rfl, rfl, rfl, rfl, rfl, rfl⟩ : A1 = none ∧ n1 = 0 ∧ c1 = 0 ∧ A2 = none ∧ n2 = 0 ∧ c2 = 0 := by
    have e := HU2.out.none_eq
    simp at e
    obtain ⟨⟨q1, q2, q3⟩, q4, q5, q6⟩ := e
    exact ⟨q1, q2, q3, q4, q5, q6⟩
  rw [show decide ((0 : Nat) ≠ 0) = false from rfl, show ((0 : Nat) : Int) = 0 from rfl] at HBAD
  rw [show ((0 : Nat) : Int) = 0 from rfl] at HWY v0
  clear hsmall HU2 HV2
  go_wp2_with fail
  rw [HWY.out, HGE.out]
  refine (HBAD.out).mono ?_
  rintro e w3 ⟨rfl, hb3⟩
  clear HBAD v0 v1 v2
  have hr3 := HR2.out.below hb3 (by omega)
  obtain ⟨r0, r1, r2, _⟩ := hr3.facts
  have HGO := go_c w3 k r t A n c false (by rw [HKR.out.2.2]; exact HT2.out.below hb3) HRU.out H256.out
  unfold ruleV at HGO
  rw [HKR.out.1, HKR.out.2.1] at HGO
  have HG := Lib.hid HGO
  have HW3 := Lib.hid (HW2.out.below hb3 (by omega))
  have HB3 := Lib.hid (HB2.out.trans (hb3.mono HB2.out.size))
  have hs3 : w.heap.size + 1 < w3.heap.size := by have := hb3.size; omega
  have HN0 := Lib.hid (show 0 < k ^ (2 * r) from Nat.pow_pos HRU.out.k1)
  have HFO := Lib.hid (fin_go_or_over (k := k) (N := k ^ (2 * r)) (t := t) HN0.out)
  have hN256 : k ^ (2 * r) ≤ 256 := by
    have h1 := (nodes_div HRU.out).2
    have h2 := H256.out
    have h3 := HRU.out.k1
    have : k ^ (2 * r) * 1 ≤ k ^ (2 * r) * k := Nat.mul_le_mul_left _ h3
    omega
  clear hb3 hr3 HGO HR2 HT2 HW2 HB2 HWY HWX
  go_wp2_with fail
  refine (HG.out).mono ?_
  rintro e w4 ⟨gb, sv, nv, fv, yv, ov, has, over, rfl, hg, hb4, p1, p2, p3⟩
  clear HG r0 r1 r2 p2
  have hw4 := HW3.out.below hb4 hs3
  have hb4' := HB3.out.trans (hb4.mono HB3.out.size)
  have c0 : w4.cell? ⟨gb, 0, none⟩ = some sv := by rw [cell_of_row w4 gb _ _ _ _ hg]; rfl
  have c6 : w4.cell? ⟨gb, 6, none⟩ = some (.bool over) := by rw [cell_of_row w4 gb _ _ _ _ hg]; rfl
  obtain ⟨d0, d1, d2, f0, f1, f2⟩ := hw4.facts
  have HW4 := Lib.hid hw4
  have HB4 := Lib.hid hb4'
  have HG4 := Lib.hid hg
  have hs4 : w.heap.size + 1 < w4.heap.size := Nat.lt_of_lt_of_le hs3 hb4.size
  rcases HFO.out with ⟨S, hS⟩ | hS
  · obtain ⟨rfl, _, sr, nr, hsr, _⟩ := p1 S hS
    have HS := Lib.hid hS
    obtain ⟨hok, hbig⟩ := fin_ok HN0.out hS
    have hsl := hsr.lst
    rw [show (bVs S.sets).length = S.sets.length from List.length_map ..] at hsl
    obtain ⟨SA, sc, rfl, _, _⟩ := own_slice hsl
    obtain ⟨N, hN⟩ : ∃ N, k ^ (2 * r) = N := ⟨_, rfl⟩
    rw [hN] at hok hN256
    have hslS := Sl.of_own hsl
    have HEL := Lib.hid hsr.el
    have HSL := Lib.hid hslS
    have HOK := Lib.hid hok
    have HLS := Lib.hid (show (setsL S).length = S.sets.length by unfold setsL; rw [List.length_map])
    have HE1 := Lib.hid (hslS.1)
    clear p1 p3 hS hw4 hb4 hb4' hg hsr hsl hslS HN0 hN hok
    go_wp2_with fail
    go_loopw [6, 7] (fun lv iv wr => ∃ (i : Nat) (rows : List Value), i ≤ S.sets.length ∧ iv = .int .i64 (i : Int) ∧ Hid (RowsAt wr w4.heap.size lv rows ((setsL S).take i) (fun _ => False)) ∧ Hid (Below w4.heap.size w4 wr)) (fun _ iv _ => S.sets.length - (intOf iv).toNat)
    case atStart => exact ⟨0, [], Nat.zero_le _, rfl, Lib.hid (RowsAt.nil _ _ _), Lib.hid (Below.refl _ _)⟩
    case round =>
      obtain ⟨i, rows, hi, rfl, hR, hb⟩ := hrel
      obtain ⟨wi, rfl⟩ : ∃ wi : World, wi = wr := ⟨_, rfl⟩
      have cS : ∀ wz : World, Below w4.heap.size w4 wz → wz.cell? ⟨gb, 0, none⟩ = some (.slice SA S.sets.length sc) := fun wz hz => by
        have hg' := (hz.block gb (Array.getElem?_eq_some_iff.1 HG4.out).1).trans HG4.out
        rw [cell_of_row wz gb _ _ _ _ hg']; rfl
      have HCS := Lib.hid cS
      clear cS c0
      have c0 := HCS.out wi hb.out
      by_cases hlt : i < S.sets.length
      · obtain ⟨B, hB⟩ : ∃ B, S.sets[i]? = some B := ⟨_, List.getElem?_eq_getElem hlt⟩
        have hBN := HOK.out B (List.mem_of_getElem? hB)
        obtain ⟨bv, hbv, hbo, _⟩ := HEL.out i (B.map Value.bool) (by unfold bVs; rw [List.getElem?_map, hB]; rfl)
        rw [List.length_map, hBN] at hbo
        obtain ⟨PA, pc, rfl, _, _⟩ := own_slice hbo
        obtain ⟨sad, v0, rfl, hv0, hc0⟩ := (HSL.out).at_ hlt
        rw [hbv] at hv0
        obtain rfl := Option.some.inj hv0
        have HPS := Lib.hid (Sl.of_own hbo)
        have HC0 := Lib.hid hc0
        have HBB := Lib.hid hB
        have HBN := Lib.hid hBN
        clear hbv hbo hv0 hB hBN hc0
        go_wp2_with fail
        go_loopw [8, 9] (fun s jv wr => ∃ j : Nat, j ≤ N ∧ jv = .int .i64 (j : Int) ∧ wr.ownsRow wi.heap.size 3 1 s ((ints (nodesTo B j)).map (Value.int .i64)).length ((ints (nodesTo B j)).map (Value.int .i64)) ∧ Hid (Below wi.heap.size wi wr)) (fun _ jv _ => N - (intOf jv).toNat)
        case atStart => exact ⟨0, Nat.zero_le _, rfl, World.ownsRow_nil _ _ _ _, Lib.hid (Below.refl _ _)⟩
        case round =>
          obtain ⟨j, hj, rfl, hown, hbi⟩ := hrel
          have hbz := hb.out.trans (hbi.out.mono hb.out.size)
          have c0 := HCS.out wr hbz
          have c1 := cell_later hbz HC0.out
          by_cases hjl : j < N
          · have hkl : ((ints (nodesTo B j)).map (Value.int .i64)).length ≤ j := by rw [List.length_map, ints_len]; exact nodesTo_len B j
            have HNS := Lib.hid (nodesTo_succ B j)
            obtain ⟨pad, u, rfl, hu, hcu⟩ := (HPS.out.below hbz).at_ hjl
            obtain ⟨x, hx⟩ : ∃ x, B[j]? = some x := ⟨_, List.getElem?_eq_getElem (by rw [HBN.out]; exact hjl)⟩
            rw [List.getElem?_map, hx] at hu
            obtain rfl := Option.some.inj hu
            have HX := Lib.hid (getD_of (d := false) hx)
            clear hu hx
            cases x with
            | true =>
              rw [HX.out, if_pos rfl] at HNS
              have hbw := hbi.out.size
              go_wp2_with (at_builtin; refine wpList_push rfl _ _ _ rfl tInts hown rfl _ 0 rfl rfl rfl (by simp only [maxLen]; omega) (by omega) hbw ?_; intro g cap w3 hown3 hg3 hat3 hlt3)
              refine ⟨⟨j + 1, by omega, by go_num, ?_, Lib.hid (hbi.out.grown hg3 hbw (fun q hq => (hown.lt q hq).1))⟩, by simp [intOf]; omega⟩
              rw [HNS.out]
              simpa [ints] using hown3
            | false =>
              rw [HX.out, if_neg (by simp), List.append_nil] at HNS
              go_wp2_with fail
              exact ⟨⟨j + 1, by omega, by go_num, by rw [HNS.out]; exact hown, hbi⟩, by simp [intOf]; omega⟩
          · obtain rfl : j = N := by omega
            have hR' := hR.out.pure hbi.out
            have hRl := hR'.lst
            have hti : ((setsL S).take i).length = i := by rw [List.length_take, HLS.out]; omega
            rw [hti] at hRl
            have hBw := Nat.le_trans hb.out.size hbi.out.size
            have hm1 : i + 1 ≤ maxLen := by simp only [maxLen]; omega
            have hm2 : (i + 1) * 24 ≤ 140737488355328 := by omega
            obtain ⟨SS, ssc, rfl, _, _⟩ := own_slice hown
            have HOW := Lib.hid hown
            have hR0 := hR
            have HR' := Lib.hid hR'
            have HTI := Lib.hid hti
            have HBZ := Lib.hid hbz
            have HBI := Lib.hid hbi.out
            have HL := Lib.hid (show (setsL S)[i]? = some (ints (nodesOf B)) by unfold setsL; rw [List.getElem?_map, HBB.out]; rfl)
            clear hR' hti hown hbi hbz hR
            go_wp2_with (at_builtin; refine wpList_push rfl _ _ _ rfl tIntss hRl rfl _ 0 rfl rfl rfl hm1 hm2 hBw ?_; intro g cap w3 hown3 hg3 hat3 hlt3)
            have hk := Keeps.of_grown hg3
            have hno := HOW.out
            rw [List.length_map] at hno
            have hput := HR'.out.put (l := ints (nodesTo B j)) (own_base hno hb.out.size) (fun _ _ hf => hf) (fun g' hg' u hu => (hR0.out.not_new (b := g') (hno.lt g' hg').1).2 u hu) (by rw [HTI.out]; exact hown3) hk
            have e : (setsL S).take i ++ [ints (nodesTo B j)] = (setsL S).take (i + 1) := by
              rw [List.take_add_one, HL.out]
              unfold nodesOf
              rw [HBN.out]
              rfl
            rw [e] at hput
            exact ⟨⟨i + 1, _, by omega, by go_num, Lib.hid hput, Lib.hid (HBZ.out.grown hg3 hBw (fun q hq => (hRl.lt q hq).1))⟩, by simp [intOf]; omega⟩
      · obtain rfl : i = S.sets.length := by omega
        have h1 := hR.out
        rw [List.take_of_length_le (Nat.le_of_eq HLS.out)] at h1
        obtain ⟨LA, lc, rfl, _, _⟩ := own_slice h1.lst
        have hwe := HW4.out.below hb.out hs4
        obtain ⟨d0, d1, d2, f0, f1, f2⟩ := hwe.facts
        have HWE := Lib.hid (hwe.set3 (.int .i64 0) (.slice none 0 0) (.slice none 0 0))
        have hks := keeps_set3 wi (w.heap.size + 1) (.int .i64 0) (.slice none 0 0) (.slice none 0 0)
        have HRE := Lib.hid ((h1.keeps hks (fun b hb => by rw [show b = w.heap.size + 1 from hb]; exact h1.not_lst hwe (by decide)) (fun b hb => by rw [show b = w.heap.size + 1 from hb]; exact h1.not_el hwe (by decide))).base (B' := w.heap.size) HB4.out.size)
        have HBE := Lib.hid (below_set3 (HB4.out.trans (hb.out.mono HB4.out.size)) (Nat.le_succ w.heap.size) (.int .i64 0) (.slice none 0 0) (.slice none 0 0))
        clear hwe hks h1 hR hb
        go_wp2_with fail
        obtain ⟨d0, d1, d2, f0, f1, f2⟩ := HWE.out.facts
        refine bodyPost_ret (v := .tuple #[.slice LA (setsL S).length lc, .agg #[.int .i64 0, .slice none 0 0, .slice none 0 0]]) (by simp [results, Tryd.results18, go_sem, d0, d1, d2]) rfl ⟨fun S' h => ?_, fun h => (by rw [HS.out] at h; cases h)⟩
        rw [HS.out] at h
        injection h with h _
        subst h
        exact ⟨_, rows, rfl, HRE.out, HBE.out⟩
  · obtain ⟨rfl, _⟩ := p3 hS
    have HS := Lib.hid hS
    have HNW := Lib.hid (newB_c w4 sSubset 0 4)
    clear p1 p3 hS hw4 hb4 hb4' hg
    unfold sSubset at *
    go_wp2_with fail
    refine (HNW.out).mono ?_
    rintro e w5 ⟨A1, n1, c1, A2, n2, c2, rfl, hu, hb5⟩
    obtain ⟨d0, d1, d2, f0, f1, f2⟩ := (HW4.out.below hb5 hs4).facts
    have HU := Lib.hid ((hu.set3 (g := w.heap.size + 1) hs4 (.int .i64 4) (.slice A1 n1 c1) (.slice A2 n2 c2)).base (base' := w.heap.size) HB4.out.size)
    have HBE := Lib.hid (below_set3 (HB4.out.trans (hb5.mono HB4.out.size)) (Nat.le_succ w.heap.size) (.int .i64 4) (.slice A1 n1 c1) (.slice A2 n2 c2))
    have HWE := Lib.hid ((HW4.out.below hb5 hs4).set3 (.int .i64 4) (.slice A1 n1 c1) (.slice A2 n2 c2))
    clear hu hb5 c6
    go_wp2_with fail
    obtain ⟨d0, d1, d2, f0, f1, f2⟩ := HWE.out.facts
    exact bodyPost_ret (v := .tuple #[.slice none 0 0, .agg #[.int .i64 4, .slice A1 n1 c1, .slice A2 n2 c2]]) (by simp [results, Tryd.results18, go_sem, d0, d1, d2]) rfl ⟨fun S h => (by rw [HS.out] at h; cases h), fun _ => ⟨4, A1, n1, c1, A2, n2, c2, rfl, HU.out, HBE.out⟩⟩
end Go.Proofs.YtlajiblhnkognaaDoor

namespace Go.Proofs.YtlajiblhnkognaaDoor
open Go.RowKit BagP RuleP SubP

/-- What Walk and Sets answer: the alphabet, the rows, the sets, the error. -/
def walkF (K R : Int) (T : List Int) : Int × List (List Int) × List (List Int) × Option Tale :=
  match small K R T with
  | some tl => (0, [], [], some (tl.1, (sSubset, 0) :: tl.2))
  | none => match fin K.toNat (K.toNat ^ (2 * R.toNat)) (T.map Int.toNat) false with
    | .go S _ => (K, S.next, setsL S, none)
    | .orphan _ => (0, [], [], none)
    | .over => (0, [], [], some (4, [(sSubset, 0)]))
theorem walkF_bad {K R : Int} {T : List Int} {tl : Tale} (h : small K R T = some tl) : walkF K R T = (0, [], [], some (tl.1, (sSubset, 0) :: tl.2)) := by unfold walkF; rw [h]
theorem walkF_good {k r : Nat} {t : List Nat} {o : Out} (hr : IsRule k r t) (h256 : t.length ≤ 256) (h : fin k (k ^ (2 * r)) t false = o) :
    walkF (k : Int) (r : Int) (ints t) = match (generalizing := false) o with
    | .go S _ => ((k : Int), S.next, setsL S, none)
    | .orphan _ => (0, [], [], none)
    | .over => (0, [], [], some (4, [(sSubset, 0)])) := by
  unfold walkF
  rw [small_rule hr h256, Int.toNat_natCast, Int.toNat_natCast, toNat_ints, h]
theorem walkF_cases (K R : Int) (T : List Int) : (∃ tl, small K R T = some tl) ∨ (∃ (k r : Nat) (t : List Nat) (S : St), K = (k : Int) ∧ R = (r : Int) ∧ T = ints t ∧ IsRule k r t ∧ t.length ≤ 256 ∧ fin k (k ^ (2 * r)) t false = .go S []) ∨
    (∃ (k r : Nat) (t : List Nat), K = (k : Int) ∧ R = (r : Int) ∧ T = ints t ∧ IsRule k r t ∧ t.length ≤ 256 ∧ fin k (k ^ (2 * r)) t false = .over) := by
  cases hs : small K R T with
  | some tl => exact .inl ⟨tl, rfl⟩
  | none =>
    obtain ⟨k, r, t, rfl, rfl, rfl, hr, hl⟩ := small_none' hs
    rcases fin_go_or_over (k := k) (N := k ^ (2 * r)) (t := t) (Nat.pow_pos hr.k1) with ⟨S, h⟩ | h
    · exact .inr (.inl ⟨k, r, t, S, rfl, rfl, rfl, hr, hl, h⟩)
    · exact .inr (.inr ⟨k, r, t, rfl, rfl, rfl, hr, hl, h⟩)
theorem walkF_ok (K R : Int) (T : List Int) : TaleOk (walkF K R T).2.2.2 := by
  rcases walkF_cases K R T with ⟨tl, h⟩ | ⟨k, r, t, S, rfl, rfl, rfl, hr, hl, h⟩ | ⟨k, r, t, rfl, rfl, rfl, hr, hl, h⟩
  · rw [walkF_bad h]
    intro x hx
    cases hx
    exact small_ok K R T tl h
  · rw [walkF_good hr hl h]
    intro x hx
    cases hx
  · rw [walkF_good hr hl h]
    intro x hx
    cases hx
    exact ⟨by decide, by decide⟩

theorem walk_u (w : World) (E : Nat → Addr) (hE : Errs w E) (hEt : ErrT w) (hA : Apart12 E) (hB : ErrBlk w E) (K R : Int) (A : Option Addr) (n c : Nat) (T : List Int) (hT : Sl w A n (T.map (Value.int .i64))) (hm : n ≤ 9223372036854775807) :
    Calls Tryd.prog 15 #[ruleV K R A n c] w fun e w' => ∃ (C : Option Addr) (cc : Nat) (rows : List Value) (v : Value), e = .returned (.tuple #[autoV (walkF K R T).1 (.slice C (walkF K R T).2.1.length cc), v]) ∧
      RowsAt w' w.heap.size (.slice C (walkF K R T).2.1.length cc) rows (walkF K R T).2.1 (fun _ => False) ∧ ErrV w' E (walkF K R T).2.2.2 v ∧ Below w.heap.size w w' := by
  rcases walkF_cases K R T with ⟨tl, h⟩ | ⟨k, r, t, S, rfl, rfl, rfl, hr, hl, h⟩ | ⟨k, r, t, rfl, rfl, rfl, hr, hl, h⟩
  · rw [walkF_bad h]
    refine (walk_bad w E hE hEt hA hB K R A n c T hT hm tl h).mono ?_
    rintro e w' ⟨v, rfl, hv, hb⟩
    exact ⟨none, 0, [], v, rfl, RowsAt.nil _ _ _, hv, hb⟩
  · rw [walkF_good hr hl h]
    refine (walk_good w E hE hEt hA hB k r A n c t hT hr hl).mono ?_
    rintro e w' ⟨h1, _⟩
    obtain ⟨nv, nr, rfl, hR, hb⟩ := h1 S h
    obtain ⟨C, cc, rfl, _, _⟩ := own_slice hR.lst
    exact ⟨C, cc, nr, .nilIface, rfl, hR, rfl, hb⟩
  · rw [walkF_good hr hl h]
    refine (walk_good w E hE hEt hA hB k r A n c t hT hr hl).mono ?_
    rintro e w' ⟨_, h2⟩
    obtain ⟨v, rfl, hv, hb⟩ := h2 h
    exact ⟨none, 0, [], v, rfl, RowsAt.nil _ _ _, hv, hb⟩
theorem sets_u (w : World) (E : Nat → Addr) (hE : Errs w E) (hEt : ErrT w) (hA : Apart12 E) (hB : ErrBlk w E) (K R : Int) (A : Option Addr) (n c : Nat) (T : List Int) (hT : Sl w A n (T.map (Value.int .i64))) (hm : n ≤ 9223372036854775807) :
    Calls Tryd.prog 17 #[ruleV K R A n c] w fun e w' => ∃ (C : Option Addr) (cc : Nat) (rows : List Value) (v : Value), e = .returned (.tuple #[.slice C (walkF K R T).2.2.1.length cc, v]) ∧
      RowsAt w' w.heap.size (.slice C (walkF K R T).2.2.1.length cc) rows (walkF K R T).2.2.1 (fun _ => False) ∧ ErrV w' E (walkF K R T).2.2.2 v ∧ Below w.heap.size w w' := by
  rcases walkF_cases K R T with ⟨tl, h⟩ | ⟨k, r, t, S, rfl, rfl, rfl, hr, hl, h⟩ | ⟨k, r, t, rfl, rfl, rfl, hr, hl, h⟩
  · rw [walkF_bad h]
    refine (sets_bad w E hE hEt hA hB K R A n c T hT hm tl h).mono ?_
    rintro e w' ⟨v, rfl, hv, hb⟩
    exact ⟨none, 0, [], v, rfl, RowsAt.nil _ _ _, hv, hb⟩
  · rw [walkF_good hr hl h]
    refine (sets_good w E hE hEt hA hB k r A n c t hT hr hl).mono ?_
    rintro e w' ⟨h1, _⟩
    obtain ⟨nv, nr, rfl, hR, hb⟩ := h1 S h
    obtain ⟨C, cc, rfl, _, _⟩ := own_slice hR.lst
    exact ⟨C, cc, nr, .nilIface, rfl, hR, rfl, hb⟩
  · rw [walkF_good hr hl h]
    refine (sets_good w E hE hEt hA hB k r A n c t hT hr hl).mono ?_
    rintro e w' ⟨_, h2⟩
    obtain ⟨v, rfl, hv, hb⟩ := h2 h
    exact ⟨none, 0, [], v, rfl, RowsAt.nil _ _ _, hv, hb⟩
theorem refWalk_u (w : World) (K R : Int) (A : Option Addr) (n c : Nat) (T : List Int) (hT : Sl w A n (T.map (Value.int .i64))) (hm : n ≤ 9223372036854775807) :
    Calls Tryd.prog 16 #[ruleV K R A n c] w fun e w' => ∃ (C : Option Addr) (cc : Nat) (rows : List Value) (N : Nat) (A1 : Option Addr) (n1 c1 : Nat) (A2 : Option Addr) (n2 c2 : Nat),
      e = .returned (.tuple #[autoV (walkF K R T).1 (.slice C (walkF K R T).2.1.length cc), .agg #[.int .i64 (N : Int), .slice A1 n1 c1, .slice A2 n2 c2]]) ∧
      RowsAt w' w.heap.size (.slice C (walkF K R T).2.1.length cc) rows (walkF K R T).2.1 (fun _ => False) ∧ WantV w' (walkF K R T).2.2.2 (.agg #[.int .i64 (N : Int), .slice A1 n1 c1, .slice A2 n2 c2]) ∧ Below w.heap.size w w' := by
  rcases walkF_cases K R T with ⟨tl, h⟩ | ⟨k, r, t, S, rfl, rfl, rfl, hr, hl, h⟩ | ⟨k, r, t, rfl, rfl, rfl, hr, hl, h⟩
  · rw [walkF_bad h]
    refine (refWalk_bad w K R A n c T hT hm tl h).mono ?_
    rintro e w' ⟨N, A1, n1, c1, A2, n2, c2, rfl, hv, hb⟩
    exact ⟨none, 0, [], N, A1, n1, c1, A2, n2, c2, rfl, RowsAt.nil _ _ _, hv.want, hb⟩
  · rw [walkF_good hr hl h]
    refine (refWalk_good w k r A n c t hT hr hl).mono ?_
    rintro e w' ⟨h1, _⟩
    obtain ⟨nv, nr, rfl, hR, hb⟩ := h1 S h
    obtain ⟨C, cc, rfl, _, _⟩ := own_slice hR.lst
    exact ⟨C, cc, nr, 0, none, 0, 0, none, 0, 0, rfl, hR, rfl, hb⟩
  · rw [walkF_good hr hl h]
    refine (refWalk_good w k r A n c t hT hr hl).mono ?_
    rintro e w' ⟨_, h2⟩
    obtain ⟨N, A1, n1, c1, A2, n2, c2, rfl, hv, hb⟩ := h2 h
    exact ⟨none, 0, [], N, A1, n1, c1, A2, n2, c2, rfl, RowsAt.nil _ _ _, hv.want, hb⟩
theorem refSets_u (w : World) (K R : Int) (A : Option Addr) (n c : Nat) (T : List Int) (hT : Sl w A n (T.map (Value.int .i64))) (hm : n ≤ 9223372036854775807) :
    Calls Tryd.prog 18 #[ruleV K R A n c] w fun e w' => ∃ (C : Option Addr) (cc : Nat) (rows : List Value) (N : Nat) (A1 : Option Addr) (n1 c1 : Nat) (A2 : Option Addr) (n2 c2 : Nat),
      e = .returned (.tuple #[.slice C (walkF K R T).2.2.1.length cc, .agg #[.int .i64 (N : Int), .slice A1 n1 c1, .slice A2 n2 c2]]) ∧
      RowsAt w' w.heap.size (.slice C (walkF K R T).2.2.1.length cc) rows (walkF K R T).2.2.1 (fun _ => False) ∧ WantV w' (walkF K R T).2.2.2 (.agg #[.int .i64 (N : Int), .slice A1 n1 c1, .slice A2 n2 c2]) ∧ Below w.heap.size w w' := by
  rcases walkF_cases K R T with ⟨tl, h⟩ | ⟨k, r, t, S, rfl, rfl, rfl, hr, hl, h⟩ | ⟨k, r, t, rfl, rfl, rfl, hr, hl, h⟩
  · rw [walkF_bad h]
    refine (refSets_bad w K R A n c T hT hm tl h).mono ?_
    rintro e w' ⟨N, A1, n1, c1, A2, n2, c2, rfl, hv, hb⟩
    exact ⟨none, 0, [], N, A1, n1, c1, A2, n2, c2, rfl, RowsAt.nil _ _ _, hv.want, hb⟩
  · rw [walkF_good hr hl h]
    refine (refSets_good w k r A n c t hT hr hl).mono ?_
    rintro e w' ⟨h1, _⟩
    obtain ⟨nv, nr, rfl, hR, hb⟩ := h1 S h
    obtain ⟨C, cc, rfl, _, _⟩ := own_slice hR.lst
    exact ⟨C, cc, nr, 0, none, 0, 0, none, 0, 0, rfl, hR, rfl, hb⟩
  · rw [walkF_good hr hl h]
    refine (refSets_good w k r A n c t hT hr hl).mono ?_
    rintro e w' ⟨_, h2⟩
    obtain ⟨N, A1, n1, c1, A2, n2, c2, rfl, hv, hb⟩ := h2 h
    exact ⟨none, 0, [], N, A1, n1, c1, A2, n2, c2, rfl, RowsAt.nil _ _ _, hv.want, hb⟩
end Go.Proofs.YtlajiblhnkognaaDoor
