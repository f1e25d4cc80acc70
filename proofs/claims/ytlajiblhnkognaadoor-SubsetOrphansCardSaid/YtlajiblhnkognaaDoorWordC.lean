/- Words of one length compared: word.Cmp, slices.Compare, cmp.Compare, cmp.Or. Condition: the words read from memory and have one length. -/
import Derived.Test.YtlajiblhnkognaaDoorTypes
import Derived.Test.YtlajiblhnkognaaDoorRuleP
import Derived.Test.YtlajiblhnkognaaDoorErr
namespace Go.Proofs.YtlajiblhnkognaaDoor
open Go.RowKit RuleP

namespace RuleP
/-- By the first place that differs. -/
def cmpL : List Nat → List Nat → Int
  | x :: a, y :: b => if x < y then -1 else if y < x then 1 else cmpL a b
  | _, _ => 0
theorem cmpL_drop {a b : List Nat} {i : Nat} (ha : i < a.length) (hb : i < b.length) : cmpL (a.drop i) (b.drop i) = if a.getD i 0 < b.getD i 0 then -1 else if b.getD i 0 < a.getD i 0 then 1 else cmpL (a.drop (i + 1)) (b.drop (i + 1)) := by
  rw [List.drop_eq_getElem_cons ha, List.drop_eq_getElem_cons hb, cmpL]
  simp only [List.getD_eq_getElem?_getD, List.getElem?_eq_getElem ha, List.getElem?_eq_getElem hb, Option.getD_some]
theorem cmpL_end {a b : List Nat} : cmpL (a.drop a.length) (b.drop a.length) = 0 := by
  rw [List.drop_length]
  simp [cmpL]
theorem wval_cons (k x : Nat) (a : List Nat) : wval k (x :: a) = x * k ^ a.length + wval k a := by
  have := wval_append k [x] a
  simpa [wval] using this
/-- Of words of one length: as their numbers. -/
theorem cmpL_lt {k : Nat} : ∀ {a b : List Nat}, a.length = b.length → (∀ x ∈ a, x < k) → (∀ x ∈ b, x < k) → wval k a < wval k b → cmpL a b = -1
  | [], [], _, _, _, h => by simp [wval] at h
  | [], _ :: _, h, _, _, _ => by simp at h
  | _ :: _, [], h, _, _, _ => by simp at h
  | x :: a, y :: b, hl, ha, hb, h => by
    have hl' : a.length = b.length := by simpa using hl
    have h1 := wval_lt (k := k) (w := a) (fun z hz => ha z (by simp [hz]))
    have h2 := wval_lt (k := k) (w := b) (fun z hz => hb z (by simp [hz]))
    rw [wval_cons, wval_cons, hl'] at h
    rw [hl'] at h1
    rw [cmpL]
    rcases Nat.lt_trichotomy x y with hxy | hxy | hxy
    · rw [if_pos hxy]
    · subst hxy
      rw [if_neg (by omega), if_neg (by omega)]
      exact cmpL_lt hl' (fun z hz => ha z (by simp [hz])) (fun z hz => hb z (by simp [hz])) (by omega)
    · have : (y + 1) * k ^ b.length ≤ x * k ^ b.length := Nat.mul_le_mul_right _ hxy
      rw [Nat.add_mul, Nat.one_mul] at this
      omega
end RuleP

theorem cmpI_c (w : World) (a b : Nat) : Calls Tryd.prog 42 #[.int .i64 (a : Int), .int .i64 (b : Int)] w fun e w' => e = .returned (.int .i64 (if a < b then -1 else if b < a then 1 else 0)) ∧ w = w' := by
  rcases Nat.lt_trichotomy a b with h | h | h
  · have c1 : decide ((a : Int) < (b : Int)) = true := decide_eq_true (by omega)
    rw [if_pos h]
    go_enter Tryd.func42, Tryd.ntmps42
    go_wp2
    go_ret
    exact ⟨rfl, rfl⟩
  · subst h
    rw [if_neg (Nat.lt_irrefl _), if_neg (Nat.lt_irrefl _)]
    go_enter Tryd.func42, Tryd.ntmps42
    go_wp2
    go_ret
    exact ⟨rfl, rfl⟩
  · have c1 : decide ((a : Int) < (b : Int)) = false := decide_eq_false (by omega)
    have c2 : decide ((b : Int) < (a : Int)) = true := decide_eq_true (by omega)
    have c3 : ¬ a < b := by omega
    rw [if_neg c3, if_pos h]
    go_enter Tryd.func42, Tryd.ntmps42
    go_wp2
    go_ret
    exact ⟨rfl, rfl⟩

set_option maxRecDepth 100000 in
theorem cmpS_c (w : World) (A B : Option Addr) (n c d : Nat) (a b : List Nat) (hA : Sl w A n ((ints a).map (Value.int .i64))) (hB : Sl w B n ((ints b).map (Value.int .i64))) (hn : n ≤ 9223372036854775807) :
    Calls Tryd.prog 43 #[.slice A n c, .slice B n d] w fun e w' => e = .returned (.int .i64 (cmpL a b)) ∧ w = w' := by
  have hla : a.length = n := by simpa [ints] using hA.1
  have hlb : b.length = n := by simpa [ints] using hB.1
  rw [ints_map] at hA hB
  have HA := Lib.hid hA
  have HB := Lib.hid hB
  have HLA := Lib.hid hla
  have HLB := Lib.hid hlb
  clear hla hlb hA hB
  go_enter Tryd.func43, Tryd.ntmps43
  go_wp2_with fail
  go_loop [11] (fun i => ∃ j : Nat, j ≤ n ∧ i = .int .i64 (j : Int) ∧ Hid (cmpL a b = cmpL (a.drop j) (b.drop j))) (fun i => n - (intOf i).toNat)
  case atStart => exact ⟨0, Nat.zero_le _, rfl, Lib.hid (by simp)⟩
  case round =>
    obtain ⟨j, hj, rfl, hI⟩ := hrel
    by_cases hlt : j < n
    · obtain ⟨ad, x, rfl, hx, hc⟩ := HA.out.word_ hlt
      obtain ⟨ad2, y, rfl, hy, hc2⟩ := HB.out.word_ hlt
      have hstep := cmpL_drop (a := a) (b := b) (i := j) (by rw [HLA.out]; exact hlt) (by rw [HLB.out]; exact hlt)
      rw [List.getD_eq_getElem?_getD, hx, List.getD_eq_getElem?_getD, hy, ← hI.out] at hstep
      simp only [Option.getD_some] at hstep
      have HS := Lib.hid hstep
      have HC := Lib.hid (cmpI_c w x y)
      have hnj : decide ((n : Int) ≤ (j : Int)) = false := decide_eq_false (by omega)
      clear hstep hx hy
      rcases Nat.lt_trichotomy x y with h | h | h
      · have hv : Hid (cmpL a b = -1) := Lib.hid (by rw [HS.out, if_pos h])
        rw [if_pos h] at HC
        clear h
        go_wp2_with fail
        refine (HC.out).mono ?_
        rintro e w' ⟨rfl, rfl⟩
        go_wp2_with fail
        go_ret
        exact ⟨by rw [hv.out]; rfl, rfl⟩
      · subst h
        have hv : Hid (cmpL a b = cmpL (a.drop (j + 1)) (b.drop (j + 1))) := Lib.hid (by rw [HS.out, if_neg (Nat.lt_irrefl _), if_neg (Nat.lt_irrefl _)])
        rw [if_neg (Nat.lt_irrefl _), if_neg (Nat.lt_irrefl _)] at HC
        go_wp2_with fail
        refine (HC.out).mono ?_
        rintro e w' ⟨rfl, rfl⟩
        go_wp2_with fail
        exact ⟨⟨j + 1, by omega, by go_num, hv⟩, by simp [intOf]; omega⟩
      · have hv : Hid (cmpL a b = 1) := Lib.hid (by rw [HS.out, if_neg (by omega), if_pos h])
        rw [if_neg (by omega), if_pos h] at HC
        clear h
        go_wp2_with fail
        refine (HC.out).mono ?_
        rintro e w' ⟨rfl, rfl⟩
        go_wp2_with fail
        go_ret
        exact ⟨by rw [hv.out]; rfl, rfl⟩
    · obtain rfl : j = n := by omega
      have hv : Hid (cmpL a b = 0) := Lib.hid (by rw [hI.out, ← HLA.out]; exact cmpL_end)
      go_wp2_with fail
      go_ret
      exact ⟨by rw [hv.out]; rfl, rfl⟩

set_option maxRecDepth 100000 in
theorem or_c (w : World) (g : Nat) (x : Int) (h0 : w.cell? ⟨g, 0, none⟩ = some (.int .i64 0)) (h1 : w.cell? ⟨g, 1, none⟩ = some (.int .i64 x)) (hx : x = -1 ∨ x = 0 ∨ x = 1) :
    Calls Tryd.prog 41 #[.slice (some ⟨g, 0, none⟩) 2 2] w fun e w' => e = .returned (.int .i64 x) ∧ w = w' := by
  by_cases h : x = 0
  · subst h
    go_enter Tryd.func41, Tryd.ntmps41
    go_wp2_with fail
    go_loop [8] (fun i => ∃ j : Nat, j ≤ 2 ∧ i = .int .i64 (j : Int)) (fun i => 2 - (intOf i).toNat)
    case atStart => exact ⟨0, Nat.zero_le _, rfl⟩
    case round =>
      obtain ⟨j, hj, rfl⟩ := hrel
      have hjj : j = 0 ∨ j = 1 ∨ j = 2 := by omega
      rcases hjj with rfl | rfl | rfl
      · go_wp2_with fail
        exact ⟨⟨1, by decide, rfl⟩, by decide⟩
      · go_wp2_with fail
        exact ⟨⟨2, by decide, rfl⟩, by decide⟩
      · go_wp2_with fail
        go_ret
        exact ⟨rfl, rfl⟩
  · have hx0 : (x != 0) = true := by simpa using h
    clear hx
    go_enter Tryd.func41, Tryd.ntmps41
    go_wp2_with fail
    go_loop [8] (fun i => ∃ j : Nat, j ≤ 1 ∧ i = .int .i64 (j : Int)) (fun i => 2 - (intOf i).toNat)
    case atStart => exact ⟨0, Nat.zero_le _, rfl⟩
    case round =>
      obtain ⟨j, hj, rfl⟩ := hrel
      have hjj : j = 0 ∨ j = 1 := by omega
      rcases hjj with rfl | rfl
      · go_wp2_with fail
        exact ⟨⟨1, by decide, rfl⟩, by decide⟩
      · go_wp2_with fail
        go_ret
        exact ⟨rfl, rfl⟩
theorem cmpL_range : ∀ (a b : List Nat), cmpL a b = -1 ∨ cmpL a b = 0 ∨ cmpL a b = 1
  | [], _ => by simp [cmpL]
  | _ :: _, [] => by simp [cmpL]
  | x :: a, y :: b => by
    rw [cmpL]
    split
    · exact Or.inl rfl
    · split
      · exact Or.inr (Or.inr rfl)
      · exact cmpL_range a b

set_option maxRecDepth 100000 in
/-- Words of one length. -/
theorem wordCmp_c (w : World) (A B : Option Addr) (n c d : Nat) (a b : List Nat) (hA : Sl w A n ((ints a).map (Value.int .i64))) (hB : Sl w B n ((ints b).map (Value.int .i64))) (hn : n ≤ 9223372036854775807) :
    Calls Tryd.prog 25 #[.slice A n c, .slice B n d] w fun e w' => e = .returned (.int .i64 (cmpL a b)) ∧ Below w.heap.size w w' := by
  have h1 := cmpI_c w n n
  rw [if_neg (Nat.lt_irrefl _), if_neg (Nat.lt_irrefl _)] at h1
  have H1 := Lib.hid h1
  have H2 := Lib.hid (cmpS_c w A B n c d a b hA hB hn)
  have hr := cmpL_range a b
  obtain ⟨x, hx⟩ : ∃ x, cmpL a b = x := ⟨_, rfl⟩
  rw [hx] at hr H2 ⊢
  have hb := (Below.refl w.heap.size w).alloc (Nat.le_refl _) (.cells #[.int .i64 0, .int .i64 x] 3)
  have h0 := heap_new w (.cells #[.int .i64 0, .int .i64 x] 3)
  have H3 := Lib.hid (or_c (w.alloc (.cells #[.int .i64 0, .int .i64 x] 3)) w.heap.size x ((cell_of_row _ w.heap.size 0 _ _ _ h0).trans rfl) ((cell_of_row _ w.heap.size 1 _ _ _ h0).trans rfl) hr)
  have HB := Lib.hid hb
  clear h1 hx hr h0 hb hA hB
  go_enter Tryd.func25, Tryd.ntmps25
  go_wp2_with fail
  refine (H1.out).mono ?_
  rintro e w1 ⟨rfl, rfl⟩
  go_wp2_with fail
  refine (H2.out).mono ?_
  rintro e w1 ⟨rfl, rfl⟩
  go_wp2_with fail
  refine (H3.out).mono ?_
  rintro e w1 ⟨rfl, rfl⟩
  go_wp2_with fail
  go_ret
  exact ⟨rfl, HB.out⟩
end Go.Proofs.YtlajiblhnkognaaDoor
