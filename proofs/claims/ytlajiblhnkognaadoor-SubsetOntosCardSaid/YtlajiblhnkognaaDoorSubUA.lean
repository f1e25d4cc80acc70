/- Whether every word has a preimage, of any rule: the two texts' answers, as one function of the rule. Condition: the rule's table reads from memory; the error variables hold what E says. The laws' helper awake of chapter 10: it returns true. Condition: the error variables hold what E says. -/
import Derived.Test.YtlajiblhnkognaaDoorSubOn
import Derived.Test.YtlajiblhnkognaaDoorSubGoOn
import Derived.Test.YtlajiblhnkognaaDoorCopyM
namespace Go.Proofs.YtlajiblhnkognaaDoor
open Go.RowKit BagP RuleP SubP

theorem toNat_ints (l : List Nat) : (ints l).map Int.toNat = l := by
  unfold ints
  rw [List.map_map]
  conv => rhs; rw [← List.map_id l]
  exact List.map_congr_left fun x _ => by simp
theorem small_none' {K R : Int} {T : List Int} (h : small K R T = none) : ∃ (k r : Nat) (t : List Nat), K = (k : Int) ∧ R = (r : Int) ∧ T = ints t ∧ IsRule k r t ∧ t.length ≤ 256 := by
  unfold small at h
  split at h
  · cases h
  · rename_i hc
    split at h
    · cases h
    · rename_i h2
      obtain ⟨k, r, t, rfl, rfl, rfl, hr⟩ := check_none hc
      exact ⟨k, r, t, rfl, rfl, rfl, hr, by rw [ints_len] at h2; omega⟩
/-- What Onto answers. -/
def ontoF (K R : Int) (T : List Int) : Bool × List Int × Option Tale :=
  match small K R T with
  | some tl => (false, [], some (tl.1, (sSubset, 0) :: tl.2))
  | none => match fin K.toNat (K.toNat ^ (2 * R.toNat)) (T.map Int.toNat) true with
    | .go _ _ => (true, [], none)
    | .orphan x => (false, ints x, none)
    | .over => (false, [], some (4, [(sSubset, 0)]))
theorem ontoF_bad {K R : Int} {T : List Int} {tl : Tale} (h : small K R T = some tl) : ontoF K R T = (false, [], some (tl.1, (sSubset, 0) :: tl.2)) := by unfold ontoF; rw [h]
theorem ontoF_good {k r : Nat} {t : List Nat} {o : Out} (hr : IsRule k r t) (h256 : t.length ≤ 256) (h : fin k (k ^ (2 * r)) t true = o) :
    ontoF (k : Int) (r : Int) (ints t) = match (generalizing := false) o with
    | .go _ _ => (true, [], none)
    | .orphan x => (false, ints x, none)
    | .over => (false, [], some (4, [(sSubset, 0)])) := by
  unfold ontoF
  rw [small_rule hr h256, Int.toNat_natCast, Int.toNat_natCast, toNat_ints, h]
theorem ontoF_ok (K R : Int) (T : List Int) : TaleOk (ontoF K R T).2.2 := by
  cases hs : small K R T with
  | some tl =>
    rw [ontoF_bad hs]
    intro x hx
    cases hx
    exact small_ok K R T tl hs
  | none =>
    obtain ⟨k, r, t, rfl, rfl, rfl, hr, hl⟩ := small_none' hs
    obtain ⟨o, ho⟩ : ∃ o, fin k (k ^ (2 * r)) t true = o := ⟨_, rfl⟩
    rw [ontoF_good hr hl ho]
    intro x hx
    cases o with
    | go S row => cases hx
    | orphan x => cases hx
    | over => cases hx; exact ⟨by decide, by decide⟩

theorem onto_u (w : World) (E : Nat → Addr) (hE : Errs w E) (hEt : ErrT w) (hA : Apart12 E) (hB : ErrBlk w E) (K R : Int) (A : Option Addr) (n c : Nat) (T : List Int) (hT : Sl w A n (T.map (Value.int .i64))) (hm : n ≤ 9223372036854775807) :
    Calls Tryd.prog 10 #[ruleV K R A n c] w fun e w' => ∃ (C : Option Addr) (M cc : Nat) (v : Value), e = .returned (.tuple #[.bool (ontoF K R T).1, .slice C M cc, v]) ∧
      w'.ownsRow w.heap.size 3 1 (.slice C M cc) M ((ontoF K R T).2.1.map (Value.int .i64)) ∧ ErrV w' E (ontoF K R T).2.2 v ∧ Below w.heap.size w w' := by
  cases hs : small K R T with
  | some tl =>
    rw [ontoF_bad hs]
    refine (onto_bad w E hE hEt hA hB K R A n c T hT hm tl hs).mono ?_
    rintro e w' ⟨v, rfl, hv, hb⟩
    exact ⟨none, 0, 0, v, rfl, ⟨rfl, .inl ⟨rfl, rfl⟩⟩, hv, hb⟩
  | none =>
    obtain ⟨k, r, t, rfl, rfl, rfl, hr, hl⟩ := small_none' hs
    obtain ⟨o, ho⟩ : ∃ o, fin k (k ^ (2 * r)) t true = o := ⟨_, rfl⟩
    rw [ontoF_good hr hl ho]
    refine (onto_good w E hE hEt hA hB k r A n c t hT hr hl).mono ?_
    rintro e w' ⟨h1, h2, h3⟩
    cases o with
    | go S row =>
      have hrow : row = [] := (fin_inv (Nat.pow_pos hr.k1) ho).1
      subst hrow
      obtain ⟨rfl, hb⟩ := h1 S ho
      exact ⟨none, 0, 0, .nilIface, rfl, ⟨rfl, .inl ⟨rfl, rfl⟩⟩, rfl, hb⟩
    | orphan x =>
      obtain ⟨v, rfl, ho', hb⟩ := h2 x ho
      obtain ⟨C, cc, rfl, _, _⟩ := own_slice ho'
      exact ⟨C, x.length, cc, .nilIface, rfl, ho', rfl, hb⟩
    | over =>
      obtain ⟨v, rfl, hv, hb⟩ := h3 ho
      exact ⟨none, 0, 0, v, rfl, ⟨rfl, .inl ⟨rfl, rfl⟩⟩, hv, hb⟩

theorem refOnto_u (w : World) (K R : Int) (A : Option Addr) (n c : Nat) (T : List Int) (hT : Sl w A n (T.map (Value.int .i64))) (hm : n ≤ 9223372036854775807) :
    Calls Tryd.prog 11 #[ruleV K R A n c] w fun e w' => ∃ (C : Option Addr) (M cc : Nat) (N : Nat) (A1 : Option Addr) (n1 c1 : Nat) (A2 : Option Addr) (n2 c2 : Nat),
      e = .returned (.tuple #[.bool (ontoF K R T).1, .slice C M cc, .agg #[.int .i64 (N : Int), .slice A1 n1 c1, .slice A2 n2 c2]]) ∧
      w'.ownsRow w.heap.size 3 1 (.slice C M cc) M ((ontoF K R T).2.1.map (Value.int .i64)) ∧ WantV w' (ontoF K R T).2.2 (.agg #[.int .i64 (N : Int), .slice A1 n1 c1, .slice A2 n2 c2]) ∧ Below w.heap.size w w' := by
  cases hs : small K R T with
  | some tl =>
    rw [ontoF_bad hs]
    refine (refOnto_bad w K R A n c T hT hm tl hs).mono ?_
    rintro e w' ⟨N, A1, n1, c1, A2, n2, c2, rfl, hv, hb⟩
    exact ⟨none, 0, 0, N, A1, n1, c1, A2, n2, c2, rfl, ⟨rfl, .inl ⟨rfl, rfl⟩⟩, hv.want, hb⟩
  | none =>
    obtain ⟨k, r, t, rfl, rfl, rfl, hr, hl⟩ := small_none' hs
    obtain ⟨o, ho⟩ : ∃ o, fin k (k ^ (2 * r)) t true = o := ⟨_, rfl⟩
    rw [ontoF_good hr hl ho]
    refine (refOnto_good w k r A n c t hT hr hl).mono ?_
    rintro e w' ⟨h1, h2, h3⟩
    cases o with
    | go S row =>
      have hrow : row = [] := (fin_inv (Nat.pow_pos hr.k1) ho).1
      subst hrow
      obtain ⟨rfl, hb⟩ := h1 S ho
      exact ⟨none, 0, 0, 0, none, 0, 0, none, 0, 0, rfl, ⟨rfl, .inl ⟨rfl, rfl⟩⟩, rfl, hb⟩
    | orphan x =>
      obtain ⟨v, rfl, ho', hb⟩ := h2 x ho
      obtain ⟨C, cc, rfl, _, _⟩ := own_slice ho'
      exact ⟨C, x.length, cc, 0, none, 0, 0, none, 0, 0, rfl, ho', rfl, hb⟩
    | over =>
      obtain ⟨N, A1, n1, c1, A2, n2, c2, rfl, hv, hb⟩ := h3 ho
      exact ⟨none, 0, 0, N, A1, n1, c1, A2, n2, c2, rfl, ⟨rfl, .inl ⟨rfl, rfl⟩⟩, hv.want, hb⟩
end Go.Proofs.YtlajiblhnkognaaDoor

namespace Go.Proofs.YtlajiblhnkognaaDoor
open Go.RowKit RuleP SubP

theorem rule110 : IsRule 2 1 [0, 1, 1, 1, 0, 1, 1, 0] := ⟨by decide, by decide, by decide, by decide, by decide⟩
theorem rule150 : IsRule 2 1 [0, 1, 0, 1, 1, 0, 1, 0] := ⟨by decide, by decide, by decide, by decide, by decide⟩
theorem round110 : ∃ n, n ≤ 4097 ∧ roundTo 2 4 [0, 1, 1, 1, 0, 1, 1, 0] true n = .orphan [0, 1, 0, 1, 0] := ⟨16, by decide, by kernel_rfl⟩
theorem fin110 : fin 2 (2 ^ (2 * 1)) [0, 1, 1, 1, 0, 1, 1, 0] true = .orphan [0, 1, 0, 1, 0] := by
  obtain ⟨n, hn, h⟩ := round110
  have := round_over (.inl ⟨_, rfl⟩) h (4097 - n)
  rw [Nat.add_sub_cancel' hn] at this
  exact this
theorem round150 : roundTo 2 4 [0, 1, 0, 1, 1, 0, 1, 0] true 1 = .go ⟨[[true, true, true, true]], [[]], [[0, 0]]⟩ [] := by kernel_rfl
theorem fin150 : ∃ S, fin 2 (2 ^ (2 * 1)) [0, 1, 0, 1, 1, 0, 1, 0] true = .go S [] := ⟨_, fin_go round150 (by decide) (by decide)⟩
theorem onto110 : ontoF 2 1 (ints [0, 1, 1, 1, 0, 1, 1, 0]) = (false, [0, 1, 0, 1, 0], none) := (ontoF_good rule110 (by decide) fin110).trans rfl
theorem onto150 : ontoF 2 1 (ints [0, 1, 0, 1, 1, 0, 1, 0]) = (true, [], none) := by
  obtain ⟨S, h⟩ := fin150
  exact (ontoF_good rule150 (by decide) h).trans rfl

set_option maxRecDepth 100000 in
set_option maxHeartbeats 4000000 in
theorem awake10_c (w : World) (E : Nat → Addr) (hE : Errs w E) (hEt : ErrT w) (hAp : Apart12 E) (hB : ErrBlk w E) :
    Calls Tryd.prog 8 #[] w fun e w' => e = .returned (.bool true) ∧ Below w.heap.size w w' := by
  have HER := Lib.hid (fun (wz : World) (hz : Below w.heap.size w wz) => (⟨hE.below hz, hEt.below hz, hB.below hz⟩ : _ ∧ _ ∧ _))
  clear hE hEt hB
  go_enter Tryd.func8, Tryd.ntmps8
  have hA := lit_ints w (ints [0, 1, 1, 1, 0, 1, 1, 0]) 8 rfl (by decide) 3
  have hb1 := (Below.refl w.heap.size w).alloc (Nat.le_refl _) (.cells #[.int .i64 0, .int .i64 1, .int .i64 1, .int .i64 1, .int .i64 0, .int .i64 1, .int .i64 1, .int .i64 0] 3)
  obtain ⟨w1, hw1⟩ : ∃ w1, w.alloc (.cells #[.int .i64 0, .int .i64 1, .int .i64 1, .int .i64 1, .int .i64 0, .int .i64 1, .int .i64 1, .int .i64 0] 3) = w1 := ⟨_, rfl⟩
  change Sl (w.alloc (.cells #[.int .i64 0, .int .i64 1, .int .i64 1, .int .i64 1, .int .i64 0, .int .i64 1, .int .i64 1, .int .i64 0] 3)) _ _ _ at hA
  rw [hw1] at hA hb1
  obtain ⟨q1, q2, q3⟩ := HER.out w1 hb1
  have hon := onto_u w1 E q1 q2 hAp q3 2 1 (some ⟨w.heap.size, 0, none⟩) 8 8 _ hA (by decide)
  rw [onto110] at hon
  have HON := Lib.hid hon
  have HW1 := Lib.hid hw1
  have HB1 := Lib.hid hb1
  clear hon hw1 hb1 hA q1 q2 q3
  unfold ruleV at HON
  go_wp2_with fail
  rw [HW1.out]
  refine (HON.out).mono ?_
  rintro e w2 ⟨C2, M2, c2, v2, rfl, ho2, hv2, b2⟩
  obtain rfl : v2 = .nilIface := hv2
  have hb2 := HB1.out.trans (b2.mono HB1.out.size)
  have hx2 : Sl w2 C2 M2 (([0, 1, 0, 1, 0] : List Int).map (Value.int .i64)) := Sl.of_own ho2
  have hl2 : M2 = 5 := hx2.1.symm
  have hA3 := lit_ints w2 (ints [0, 1, 0, 1, 1, 0, 1, 0]) 8 rfl (by decide) 3
  have b3 := (Below.refl w2.heap.size w2).alloc (Nat.le_refl _) (.cells #[.int .i64 0, .int .i64 1, .int .i64 0, .int .i64 1, .int .i64 1, .int .i64 0, .int .i64 1, .int .i64 0] 3)
  obtain ⟨w3, hw3⟩ : ∃ w3, w2.alloc (.cells #[.int .i64 0, .int .i64 1, .int .i64 0, .int .i64 1, .int .i64 1, .int .i64 0, .int .i64 1, .int .i64 0] 3) = w3 := ⟨_, rfl⟩
  change Sl (w2.alloc (.cells #[.int .i64 0, .int .i64 1, .int .i64 0, .int .i64 1, .int .i64 1, .int .i64 0, .int .i64 1, .int .i64 0] 3)) _ _ _ at hA3
  rw [hw3] at hA3 b3
  have hb3 := hb2.trans (b3.mono hb2.size)
  obtain ⟨q1, q2, q3⟩ := HER.out w3 hb3
  have hon := onto_u w3 E q1 q2 hAp q3 2 1 (some ⟨w2.heap.size, 0, none⟩) 8 8 _ hA3 (by decide)
  rw [onto150] at hon
  have HON := Lib.hid hon
  have HW3 := Lib.hid hw3
  have HB3 := Lib.hid hb3
  have HX3 := Lib.hid (hx2.below b3)
  have HL2 := Lib.hid hl2
  clear hon hw3 hb3 hA3 q1 q2 q3 hx2 hl2 ho2 b2 hb2 b3
  unfold ruleV at HON
  go_wp2_with fail
  rw [HW3.out]
  refine (HON.out).mono ?_
  rintro e w4 ⟨C4, M4, c4, v4, rfl, ho4, hv4, b4⟩
  obtain rfl : v4 = .nilIface := hv4
  obtain rfl : M4 = 0 := (Sl.of_own ho4).1.symm
  have hb4 := HB3.out.trans (b4.mono HB3.out.size)
  have hl := lit_ints w4 [0, 1, 0, 1, 0] 5 rfl (by decide) 3
  have b5 := (Below.refl w4.heap.size w4).alloc (Nat.le_refl _) (.cells #[.int .i64 0, .int .i64 1, .int .i64 0, .int .i64 1, .int .i64 0] 3)
  change Sl (w4.alloc (.cells #[.int .i64 0, .int .i64 1, .int .i64 0, .int .i64 1, .int .i64 0] 3)) _ _ _ at hl
  have hin := ints_b (w4.alloc (.cells #[.int .i64 0, .int .i64 1, .int .i64 0, .int .i64 1, .int .i64 0] 3)) C2 (some ⟨w4.heap.size, 0, none⟩) M2 5 c2 5 [0, 1, 0, 1, 0] [0, 1, 0, 1, 0] ((HX3.out.below b4).below b5) hl (by rw [HL2.out]; decide) (by decide)
  rw [decide_eq_true rfl] at hin
  have HIN := Lib.hid hin
  have HB5 := Lib.hid (hb4.trans (b5.mono hb4.size))
  clear hin hl b5 hb4 b4 ho4 HB3 HX3 HON
  go_wp2_with fail
  refine (HIN.out).mono ?_
  rintro e w6 ⟨rfl, b6⟩
  have HB6 := Lib.hid (HB5.out.trans (b6.mono HB5.out.size))
  clear b6
  go_wp2_with fail
  go_ret
  exact ⟨rfl, HB6.out⟩
end Go.Proofs.YtlajiblhnkognaaDoor
