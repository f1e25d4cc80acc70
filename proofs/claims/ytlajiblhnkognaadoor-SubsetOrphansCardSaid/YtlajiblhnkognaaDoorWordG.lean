/- Words of any lengths compared: word.Cmp. Condition: the words read from memory. -/
import Derived.Test.YtlajiblhnkognaaDoorWordC
namespace Go.Proofs.YtlajiblhnkognaaDoor
open Go.RowKit RuleP

def SomeNum (w : World) (e : Ending) (w' : World) : Prop := (∃ x : Int, e = .returned (.int .i64 x)) ∧ w = w'

set_option maxRecDepth 100000 in
theorem cmpS_any (w : World) (A B : Option Addr) (n m c d : Nat) (a b : List Nat) (hA : Sl w A n ((ints a).map (Value.int .i64))) (hB : Sl w B m ((ints b).map (Value.int .i64))) (hn : n ≤ 9223372036854775807) (hm : m ≤ 9223372036854775807) :
    Calls Tryd.prog 43 #[.slice A n c, .slice B m d] w (SomeNum w) := by
  rw [ints_map] at hA hB
  have HA := Lib.hid hA
  have HB := Lib.hid hB
  clear hA hB
  go_enter Tryd.func43, Tryd.ntmps43
  go_wp2_with fail
  go_loop [11] (fun i => ∃ j : Nat, j ≤ n ∧ i = .int .i64 (j : Int)) (fun i => n - (intOf i).toNat)
  case atStart => exact ⟨0, Nat.zero_le _, rfl⟩
  case round =>
    obtain ⟨j, hj, rfl⟩ := hrel
    by_cases hlt : j < n
    · by_cases hlm : j < m
      · obtain ⟨ad, x, rfl, _, hc⟩ := HA.out.word_ hlt
        obtain ⟨ad2, y, rfl, _, hc2⟩ := HB.out.word_ hlm
        have HC := Lib.hid (cmpI_c w x y)
        have hnj : decide ((m : Int) ≤ (j : Int)) = false := decide_eq_false (by omega)
        rcases Nat.lt_trichotomy x y with h | h | h
        · rw [if_pos h] at HC
          clear h
          go_wp2_with fail
          refine (HC.out).mono ?_
          rintro e w' ⟨rfl, rfl⟩
          go_wp2_with fail
          go_ret
          exact ⟨⟨_, rfl⟩, rfl⟩
        · subst h
          rw [if_neg (Nat.lt_irrefl _), if_neg (Nat.lt_irrefl _)] at HC
          go_wp2_with fail
          refine (HC.out).mono ?_
          rintro e w' ⟨rfl, rfl⟩
          go_wp2_with fail
          exact ⟨⟨j + 1, by omega, by go_num⟩, by simp [intOf]; omega⟩
        · rw [if_neg (by omega), if_pos h] at HC
          clear h
          go_wp2_with fail
          refine (HC.out).mono ?_
          rintro e w' ⟨rfl, rfl⟩
          go_wp2_with fail
          go_ret
          exact ⟨⟨_, rfl⟩, rfl⟩
      · obtain ⟨ad, x, rfl, _, hc⟩ := HA.out.word_ hlt
        have hnj : decide ((m : Int) ≤ (j : Int)) = true := decide_eq_true (by omega)
        go_wp2_with fail
        go_ret
        exact ⟨⟨_, rfl⟩, rfl⟩
    · obtain rfl : j = n := by omega
      by_cases hlm : j < m
      · go_wp2_with fail
        go_ret
        exact ⟨⟨_, rfl⟩, rfl⟩
      · go_wp2_with fail
        go_ret
        exact ⟨⟨_, rfl⟩, rfl⟩

set_option maxRecDepth 100000 in
theorem or_first (w : World) (g : Nat) (x : Int) (h0 : w.cell? ⟨g, 0, none⟩ = some (.int .i64 x)) (hx0 : (x != 0) = true) :
    Calls Tryd.prog 41 #[.slice (some ⟨g, 0, none⟩) 2 2] w fun e w' => e = .returned (.int .i64 x) ∧ w = w' := by
  go_enter Tryd.func41, Tryd.ntmps41
  go_wp2_with fail
  go_loop [8] (fun i => i = .int .i64 ((0 : Nat) : Int)) (fun i => 2 - (intOf i).toNat)
  case atStart => rfl
  case round =>
    subst hrel
    go_wp2_with fail
    go_ret
    exact ⟨rfl, rfl⟩

/-- The shorter first, then by the first place that differs. -/
def cmpW (a b : List Nat) : Int := if a.length < b.length then -1 else if b.length < a.length then 1 else cmpL a b

set_option maxRecDepth 100000 in
theorem wordCmp_g (w : World) (A B : Option Addr) (n m c d : Nat) (a b : List Nat) (hA : Sl w A n ((ints a).map (Value.int .i64))) (hB : Sl w B m ((ints b).map (Value.int .i64))) (hn : n ≤ 9223372036854775807) (hm : m ≤ 9223372036854775807) :
    Calls Tryd.prog 25 #[.slice A n c, .slice B m d] w fun e w' => e = .returned (.int .i64 (cmpW a b)) ∧ Below w.heap.size w w' := by
  have hla : a.length = n := by simpa [ints] using hA.1
  have hlb : b.length = m := by simpa [ints] using hB.1
  by_cases he : n = m
  · subst he
    have e1 : cmpW a b = cmpL a b := by unfold cmpW; rw [if_neg (by omega), if_neg (by omega)]
    rw [e1]
    exact wordCmp_c w A B n c d a b hA hB hn
  · obtain ⟨x, hx⟩ : ∃ x, cmpW a b = x := ⟨_, rfl⟩
    have hx2 : (if n < m then (-1 : Int) else if m < n then 1 else 0) = x := by
      rw [← hx]
      unfold cmpW
      rw [hla, hlb]
      by_cases h1 : n < m
      · rw [if_pos h1, if_pos h1]
      · rw [if_neg h1, if_neg h1, if_pos (by omega), if_pos (by omega)]
    have hx0 : (x != 0) = true := by
      rw [← hx2]
      by_cases h1 : n < m
      · rw [if_pos h1]; rfl
      · rw [if_neg h1, if_pos (by omega)]; rfl
    have h1 := cmpI_c w n m
    rw [hx2] at h1
    rw [hx]
    have H1 := Lib.hid h1
    have H2 := Lib.hid (cmpS_any w A B n m c d a b hA hB hn hm)
    have H3 := Lib.hid (fun (y : Int) => or_first (w.alloc (.cells #[.int .i64 x, .int .i64 y] 3)) w.heap.size x ((cell_of_row _ w.heap.size 0 _ _ _ (heap_new w (.cells #[.int .i64 x, .int .i64 y] 3))).trans rfl) hx0)
    have HB := Lib.hid (fun (y : Int) => (Below.refl w.heap.size w).alloc (Nat.le_refl _) (.cells #[.int .i64 x, .int .i64 y] 3))
    clear h1 hx hx2 hx0 hA hB hla hlb he
    go_enter Tryd.func25, Tryd.ntmps25
    go_wp2_with fail
    refine (H1.out).mono ?_
    rintro e w1 ⟨rfl, rfl⟩
    go_wp2_with fail
    refine (H2.out).mono ?_
    rintro e w1 ⟨⟨y, rfl⟩, rfl⟩
    go_wp2_with fail
    refine (H3.out y).mono ?_
    rintro e w1 ⟨rfl, rfl⟩
    go_wp2_with fail
    go_ret
    exact ⟨rfl, HB.out y⟩
end Go.Proofs.YtlajiblhnkognaaDoor
