/- The head of a rule's text: rule.head. No condition. -/
import Derived.Test.YtfgjcdfmlpdkaaaDoorRuleD
namespace Go.Proofs.YtfgjcdfmlpdkaaaDoor
open Go.RowKit RuleP NatP

namespace RuleP
def okAt (l : List UInt8) (i lo hi : Nat) : Bool := match l[i]? with
  | some b => decide (lo ≤ b.toNat ∧ b.toNat ≤ hi)
  | none => false
/-- The first place of the head that is wrong; 4: none. -/
def headN (l : List UInt8) : Nat :=
  if okAt l 0 49 52 = false then 0 else if okAt l 1 46 46 = false then 1 else if okAt l 2 48 51 = false then 2 else if okAt l 3 46 46 = false then 3 else 4
end RuleP

set_option maxRecDepth 100000 in
set_option maxHeartbeats 1000000 in
theorem headF_c (w : World) (b : Addr) (S : ByteArray) (l : List UInt8) (hS : S = ⟨l.toArray⟩) (hb : w.cell? b = some (.string S)) (i lo hi : Nat) :
    Calls Tryd.prog 124 #[.int .i64 (i : Int), .int .u8 (lo : Int), .int .u8 (hi : Int), .pointer (some b)] w fun e w' => e = .returned (.bool (okAt l i lo hi)) ∧ w = w' := by
  have hs : S.size = l.length := by subst hS; exact Lib.size_mk l
  have hat : ∀ (k : Nat) (hk : k < S.size), l[k]? = some (S[k]'hk) := by subst hS; exact fun k hk => (Lib.getElem_mk l k hk).symm ▸ rfl
  by_cases hlt : i < S.size
  · have hli := hat i hlt
    have hok : Hid (okAt l i lo hi = decide (lo ≤ (S[i]'hlt).toNat ∧ (S[i]'hlt).toNat ≤ hi)) := Lib.hid (by unfold okAt; rw [hli])
    clear hat hli hs hS
    by_cases h1 : lo ≤ (S[i]'hlt).toNat
    · have d1 : decide (lo ≤ (S[i]'hlt).toNat) = true := decide_eq_true h1
      have hv : Hid (okAt l i lo hi = decide ((S[i]'hlt).toNat ≤ hi)) := Lib.hid (by rw [hok.out]; simp [h1])
      clear hok h1
      go_enter Tryd.func124, Tryd.ntmps124
      go_wp2_with fail
      go_ret
      exact ⟨by rw [hv.out]; rfl, rfl⟩
    · have d1 : decide (lo ≤ (S[i]'hlt).toNat) = false := decide_eq_false h1
      have hv : Hid (okAt l i lo hi = false) := Lib.hid (by rw [hok.out]; simp; omega)
      clear hok h1
      go_enter Tryd.func124, Tryd.ntmps124
      go_wp2_with fail
      go_ret
      exact ⟨by rw [hv.out]; rfl, rfl⟩
  · have hv : Hid (okAt l i lo hi = false) := Lib.hid (by unfold okAt; rw [List.getElem?_eq_none (by omega)])
    have d1 : decide (i < S.size) = false := decide_eq_false hlt
    clear hat hs hS
    go_enter Tryd.func124, Tryd.ntmps124
    go_wp2_with fail
    go_ret
    exact ⟨by rw [hv.out]; rfl, rfl⟩

set_option maxRecDepth 100000 in
set_option maxHeartbeats 4000000 in
theorem head_c (w : World) (S : ByteArray) (l : List UInt8) (hS : S = ⟨l.toArray⟩) :
    Calls Tryd.prog 103 #[.string S] w fun e w' => e = .returned (.int .i64 ((headN l : Nat) : Int)) ∧ Below w.heap.size w w' := by
  have hb : Below w.heap.size w (w.alloc (.cells #[.string S] 9)) := (Below.refl _ _).alloc (Nat.le_refl _) _
  have hf := fun (i lo hi : Nat) => headF_c (w.alloc (.cells #[.string S] 9)) ⟨w.heap.size, 0, none⟩ S l hS (by simp) i lo hi
  have h0 := hf 0 49 52
  have h1 := hf 1 46 46
  have h2 := hf 2 48 51
  have h3 := hf 3 46 46
  clear hf
  have hd : headN l = if okAt l 0 49 52 = false then 0 else if okAt l 1 46 46 = false then 1 else if okAt l 2 48 51 = false then 2 else if okAt l 3 46 46 = false then 3 else 4 := rfl
  generalize okAt l 0 49 52 = o0 at *
  generalize okAt l 1 46 46 = o1 at *
  generalize okAt l 2 48 51 = o2 at *
  generalize okAt l 3 46 46 = o3 at *
  have HD := Lib.hid hd
  have H0 := Lib.hid h0
  have H1 := Lib.hid h1
  have H2 := Lib.hid h2
  have H3 := Lib.hid h3
  have HB := Lib.hid hb
  clear hd h0 h1 h2 h3 hS hb
  go_enter Tryd.func103, Tryd.ntmps103
  go_wp2_with fail
  go_loop [6] (fun i => ∃ j : Nat, j ≤ 4 ∧ i = .int .i64 (j : Int) ∧ Hid ((0 < j → o0 = true) ∧ (1 < j → o1 = true) ∧ (2 < j → o2 = true) ∧ (3 < j → o3 = true))) (fun i => 4 - (intOf i).toNat)
  case atStart => exact ⟨0, by omega, rfl, Lib.hid ⟨by omega, by omega, by omega, by omega⟩⟩
  case round =>
    obtain ⟨j, hj, rfl, hs⟩ := hrel
    have hc : j = 0 ∨ j = 1 ∨ j = 2 ∨ j = 3 ∨ j = 4 := by omega
    rcases hc with rfl | rfl | rfl | rfl | rfl
    · cases o0 with
      | true =>
        have hs2 : Hid ((0 < 1 → true = true) ∧ (1 < 1 → o1 = true) ∧ (2 < 1 → o2 = true) ∧ (3 < 1 → o3 = true)) := Lib.hid ⟨by first | exact fun _ => rfl | exact fun _ => hs.out.1 (by omega), by first | exact fun _ => rfl | exact fun h => hs.out.2.1 (by omega) | omega, by first | exact fun _ => rfl | exact fun h => hs.out.2.2.1 (by omega) | omega, by first | exact fun _ => rfl | omega⟩
        go_wp2_with fail
        refine (H0.out).mono ?_
        rintro e w' ⟨rfl, rfl⟩
        go_wp2_with fail
        exact ⟨⟨1, by omega, rfl, hs2⟩, by simp [intOf]⟩
      | false =>
        have hh : Hid (headN l = 0) := Lib.hid (by
          obtain ⟨a, b, c, d⟩ := hs.out
          rw [HD.out]; rfl)
        go_wp2_with fail
        refine (H0.out).mono ?_
        rintro e w' ⟨rfl, rfl⟩
        go_wp2_with fail
        go_ret
        exact ⟨by rw [hh.out]; rfl, HB.out⟩
    · cases o1 with
      | true =>
        have hs2 : Hid ((0 < 2 → o0 = true) ∧ (1 < 2 → true = true) ∧ (2 < 2 → o2 = true) ∧ (3 < 2 → o3 = true)) := Lib.hid ⟨by first | exact fun _ => rfl | exact fun _ => hs.out.1 (by omega), by first | exact fun _ => rfl | exact fun h => hs.out.2.1 (by omega) | omega, by first | exact fun _ => rfl | exact fun h => hs.out.2.2.1 (by omega) | omega, by first | exact fun _ => rfl | omega⟩
        go_wp2_with fail
        refine (H1.out).mono ?_
        rintro e w' ⟨rfl, rfl⟩
        go_wp2_with fail
        exact ⟨⟨2, by omega, rfl, hs2⟩, by simp [intOf]⟩
      | false =>
        have hh : Hid (headN l = 1) := Lib.hid (by
          obtain ⟨a, b, c, d⟩ := hs.out
          rw [HD.out, a (by omega)]; rfl)
        go_wp2_with fail
        refine (H1.out).mono ?_
        rintro e w' ⟨rfl, rfl⟩
        go_wp2_with fail
        go_ret
        exact ⟨by rw [hh.out]; rfl, HB.out⟩
    · cases o2 with
      | true =>
        have hs2 : Hid ((0 < 3 → o0 = true) ∧ (1 < 3 → o1 = true) ∧ (2 < 3 → true = true) ∧ (3 < 3 → o3 = true)) := Lib.hid ⟨by first | exact fun _ => rfl | exact fun _ => hs.out.1 (by omega), by first | exact fun _ => rfl | exact fun h => hs.out.2.1 (by omega) | omega, by first | exact fun _ => rfl | exact fun h => hs.out.2.2.1 (by omega) | omega, by first | exact fun _ => rfl | omega⟩
        go_wp2_with fail
        refine (H2.out).mono ?_
        rintro e w' ⟨rfl, rfl⟩
        go_wp2_with fail
        exact ⟨⟨3, by omega, rfl, hs2⟩, by simp [intOf]⟩
      | false =>
        have hh : Hid (headN l = 2) := Lib.hid (by
          obtain ⟨a, b, c, d⟩ := hs.out
          rw [HD.out, a (by omega), b (by omega)]; rfl)
        go_wp2_with fail
        refine (H2.out).mono ?_
        rintro e w' ⟨rfl, rfl⟩
        go_wp2_with fail
        go_ret
        exact ⟨by rw [hh.out]; rfl, HB.out⟩
    · cases o3 with
      | true =>
        have hs2 : Hid ((0 < 4 → o0 = true) ∧ (1 < 4 → o1 = true) ∧ (2 < 4 → o2 = true) ∧ (3 < 4 → true = true)) := Lib.hid ⟨by first | exact fun _ => rfl | exact fun _ => hs.out.1 (by omega), by first | exact fun _ => rfl | exact fun h => hs.out.2.1 (by omega) | omega, by first | exact fun _ => rfl | exact fun h => hs.out.2.2.1 (by omega) | omega, by first | exact fun _ => rfl | omega⟩
        go_wp2_with fail
        refine (H3.out).mono ?_
        rintro e w' ⟨rfl, rfl⟩
        go_wp2_with fail
        exact ⟨⟨4, by omega, rfl, hs2⟩, by simp [intOf]⟩
      | false =>
        have hh : Hid (headN l = 3) := Lib.hid (by
          obtain ⟨a, b, c, d⟩ := hs.out
          rw [HD.out, a (by omega), b (by omega), c (by omega)]; rfl)
        go_wp2_with fail
        refine (H3.out).mono ?_
        rintro e w' ⟨rfl, rfl⟩
        go_wp2_with fail
        go_ret
        exact ⟨by rw [hh.out]; rfl, HB.out⟩
    · have hh : Hid (headN l = 4) := Lib.hid (by
        obtain ⟨a, b, c, d⟩ := hs.out
        rw [HD.out, a (by omega), b (by omega), c (by omega), d (by omega)]; rfl)
      go_wp2_with fail
      go_ret
      exact ⟨by rw [hh.out]; rfl, HB.out⟩
end Go.Proofs.YtfgjcdfmlpdkaaaDoor
