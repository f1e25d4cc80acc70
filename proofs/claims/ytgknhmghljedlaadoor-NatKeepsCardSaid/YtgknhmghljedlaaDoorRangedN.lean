/- Lists in rows of their own, one behind the other: what edenraw.ApartNats asks. No condition. -/
import Derived.Test.YtgknhmghljedlaaDoorApartNC
import Derived.Test.YtgknhmghljedlaaDoorCut
namespace Go.Proofs.YtgknhmghljedlaaDoor
open Go.RowKit

/-- A row of the call's own whose block lies from lo on and before hi. -/
structure RowN (w : World) (lo hi : Nat) (v : Value) (n : Nat) (xs : List Value) : Prop where
  own : w.ownsRow lo 37 1 v n xs
  hi : ∀ g, v.ownBlock = some g → g < hi
namespace RowN
variable {w w' : World} {lo hi n : Nat} {v : Value} {xs : List Value}
theorem of (h : w.ownsRow lo 37 1 v n xs) : RowN w lo w.heap.size v n xs := ⟨h, fun g hg => (h.lt g hg).2⟩
theorem keeps {O : Nat → Prop} (h : RowN w lo hi v n xs) (hk : Keeps O w w') (ho : ∀ b, O b → lo ≤ b → b < hi → False) : RowN w' lo hi v n xs :=
  ⟨own_keeps h.own hk (fun g hg hO => ho g hO (h.own.lt g hg).1 (h.hi g hg)), h.hi⟩
theorem below (h : RowN w lo hi v n xs) (hb : Below w.heap.size w w') : RowN w' lo hi v n xs := ⟨own_below h.own hb, h.hi⟩
theorem sl {A : Option Addr} {c : Nat} (h : RowN w lo hi (.slice A n c) n xs) : Sl w A n xs := Sl.of_own h.own
end RowN

/-- Rows one behind the other, from block lo on. -/
def RangedN (w : World) : Nat → List (Value × List Int) → Prop
  | _, [] => True
  | lo, p :: R => ∃ l hi, lo ≤ l ∧ l ≤ hi ∧ RowN w l hi p.1 p.2.length (p.2.map (Value.int .u32)) ∧ RangedN w hi R
namespace RangedN
variable {w : World}
theorem at_ : ∀ {R : List (Value × List Int)} {lo : Nat}, RangedN w lo R → ∀ (i : Nat) (p : Value × List Int), R[i]? = some p → ∃ l hi, lo ≤ l ∧ l ≤ hi ∧ RowN w l hi p.1 p.2.length (p.2.map (Value.int .u32))
  | [], _, _, i, p, h => by simp at h
  | q :: R, lo, ⟨l, hi, h1, h2, h3, h4⟩, 0, p, h => by simp at h; subst h; exact ⟨l, hi, h1, h2, h3⟩
  | q :: R, lo, ⟨l, hi, h1, h2, h3, h4⟩, i + 1, p, h => by
    obtain ⟨l', hi', a, b, c⟩ := at_ h4 i p (by simpa using h)
    exact ⟨l', hi', by omega, b, c⟩
theorem rows {R : List (Value × List Int)} {lo : Nat} (h : RangedN w lo R) : ApartN.Rows w R 0 0 := ⟨fun i p hp => by
  obtain ⟨l, hi, _, _, hr⟩ := h.at_ i p hp
  rw [ApartN.cont_zero, if_neg (by omega)]
  exact own_base hr.own (Nat.zero_le _)⟩
theorem foot {R : List (Value × List Int)} {lo b : Nat} (h : RangedN w lo R) (hb : ApartN.Foot R b) : lo ≤ b := by
  obtain ⟨p, hp, hg⟩ := hb
  obtain ⟨i, hi⟩ := List.getElem?_of_mem hp
  obtain ⟨l, hi', h1, _, hr⟩ := h.at_ i p hi
  have := (hr.own.lt b hg).1
  omega
theorem far : ∀ {R : List (Value × List Int)} {lo : Nat}, RangedN w lo R → ApartN.Far R
  | [], _, _ => fun i j p q g _ hi => by simp at hi
  | r :: R, lo, ⟨l, hi, h1, h2, h3, h4⟩ => by
    have ih := far h4
    have hd : ∀ (j : Nat) (q : Value × List Int) (g : Nat), R[j]? = some q → r.1.ownBlock = some g → q.1.ownBlock ≠ some g := fun j q g hq hg hq' => by
      have := h3.hi g hg
      have := h4.foot ⟨q, List.mem_of_getElem? hq, hq'⟩
      omega
    intro i j p q g hij hp hq hg hq'
    match i, j, hij, hp, hq with
    | 0, 0, hij, _, _ => exact hij rfl
    | 0, j + 1, _, hp, hq =>
      simp at hp hq
      subst hp
      exact hd j q g hq hg hq'
    | i + 1, 0, _, hp, hq =>
      simp at hp hq
      subst hq
      exact hd i p g hp hq' hg
    | i + 1, j + 1, hij, hp, hq =>
      simp at hp hq
      exact ih i j p q g (by omega) hp hq hg hq'
theorem mono {R : List (Value × List Int)} {lo lo' : Nat} (h : RangedN w lo R) (hl : lo' ≤ lo) : RangedN w lo' R := by
  cases R with
  | nil => trivial
  | cons p R => obtain ⟨l, hi, h1, h2, h3, h4⟩ := h; exact ⟨l, hi, by omega, h2, h3, h4⟩
theorem cons {R : List (Value × List Int)} {lo l hi hi' : Nat} {v : Value} {xs : List Int} {n : Nat} (h1 : lo ≤ l) (h2 : l ≤ hi) (hr : RowN w l hi v n (xs.map (Value.int .u32))) (hn : xs.length = n) (h3 : hi ≤ hi') (h : RangedN w hi' R) : RangedN w lo ((v, xs) :: R) := by
  subst hn
  exact ⟨l, hi, h1, h2, hr, h.mono h3⟩
theorem nil (w : World) (lo : Nat) : RangedN w lo [] := trivial
end RangedN

/-- edenraw.ApartNats of lists that lie one behind the other. -/
theorem apartN_r (w : World) (LA : Option Addr) (m lc : Nat) (R : List (Value × List Int)) (lo : Nat) (hL : Sl w LA m (R.map (·.1))) (hR : RangedN w lo R) (hLA : ∀ ad, LA = some ad → ¬ ApartN.Foot R ad.block) (hm : m ≤ 1000000) (hn : ∀ p ∈ R, p.2.length ≤ 1000000) :
    Calls Tryd.prog 25 #[.slice LA m lc] w fun e w' => e = .returned (.bool true) ∧ Keeps (ApartN.Foot R) w w' :=
  apartN_c w LA m lc R hL hR.rows hR.far hLA hm hn
end Go.Proofs.YtgknhmghljedlaaDoor
