/- Lists of lists held against each other: edenraw.Lists. Condition: the lists read from memory. -/
import Derived.Test.YtlajiblhnkognaaDoorLentRR
import Derived.Deep.RegionHeld3
namespace Go.Proofs.YtlajiblhnkognaaDoor
open Go.RowKit

/-- The slice reads as a list of lists. -/
def ListAt (w : World) (A : Option Addr) (n : Nat) (L : List (List Int)) : Prop :=
  ∃ vs : List Value, Sl w A n vs ∧ n = L.length ∧ ∀ (j : Nat) l, L[j]? = some l → ∃ P c, vs[j]? = some (.slice P l.length c) ∧ l.length ≤ 9223372036854775807 ∧ Sl w P l.length (l.map (Value.int .i64))
theorem ListAt.keep {w w' : World} {A : Option Addr} {n : Nat} {L : List (List Int)} (h : ListAt w A n L) (hb : Below w.heap.size w w') : ListAt w' A n L := by
  obtain ⟨vs, h1, h2, h3⟩ := h
  exact ⟨vs, h1.below hb, h2, fun j l hj => by obtain ⟨P, c, a, b, d⟩ := h3 j l hj; exact ⟨P, c, a, b, d.below hb⟩⟩
theorem ListAt.at_ {w : World} {A : Option Addr} {n j : Nat} {L : List (List Int)} (h : ListAt w A n L) (hj : j < n) : ∃ ad l P c, A = some ad ∧ L[j]? = some l ∧ w.cell? (ad.add j) = some (.slice P l.length c) ∧ l.length ≤ 9223372036854775807 ∧ Sl w P l.length (l.map (Value.int .i64)) := by
  obtain ⟨vs, h1, h2, h3⟩ := h
  obtain ⟨ad, v, e, hv, hc⟩ := h1.at_ hj
  obtain ⟨P, c, a, b, d⟩ := h3 j _ (List.getElem?_eq_getElem (by omega))
  rw [hv] at a
  cases a
  exact ⟨ad, _, P, c, e, List.getElem?_eq_getElem (by omega), hc, b, d⟩

set_option maxRecDepth 100000 in
set_option maxHeartbeats 1000000 in
theorem lists_same (w : World) (A B : Option Addr) (n c d : Nat) (L : List (List Int)) (hA : ListAt w A n L) (hB : ListAt w B n L) (hn : n ≤ 9223372036854775807) :
    Calls Tryd.prog 20 #[.slice A n c, .slice B n d] w fun e w' => e = .returned (.bool true) ∧ Below w.heap.size w w' := by
  have HA := Lib.hid hA
  have HB := Lib.hid hB
  have hnn : ((n : Int) != (n : Int)) = false := by simp
  clear hA hB
  go_enter Tryd.func20, Tryd.ntmps20
  go_wp2_with fail
  go_loopw [5] (fun iv wr => ∃ j : Nat, j ≤ n ∧ iv = .int .i64 (j : Int) ∧ Hid (Below w.heap.size w wr)) (fun iv _ => n - (intOf iv).toNat)
  case atStart => exact ⟨0, Nat.zero_le _, rfl, Lib.hid (Below.refl _ _)⟩
  case round =>
    obtain ⟨j, hj, rfl, hb⟩ := hrel
    by_cases hlt : j < n
    · obtain ⟨ad, l, P, pc, rfl, hl, hc, hll, hs⟩ := (HA.out.keep hb.out).at_ hlt
      obtain ⟨ad2, l2, P2, pc2, rfl, hl2, hc2, _, hs2⟩ := (HB.out.keep hb.out).at_ hlt
      rw [hl] at hl2
      obtain rfl : l = l2 := Option.some.inj hl2
      have hi := ints_b wr.drew P P2 l.length l.length pc pc2 l l hs hs2 hll hll
      rw [decide_eq_true rfl] at hi
      have HI := Lib.hid hi
      obtain ⟨nl, hnl⟩ : ∃ nl, l.length = nl := ⟨_, rfl⟩
      rw [hnl] at HI hc hc2
      clear hi hl hl2 hs hs2 hll hnl
      go_wp2_with fail
      go_region_held3 (fun w' => w'.cell? (ad.add j) = some (.slice P nl pc) ∧ w'.cell? (ad2.add j) = some (.slice P2 nl pc2))
        (first | (refine ⟨?_, ?_⟩ <;> assumption) | go_keep)
        (first
          | (go_at_call 12
             refine (HI.out).mono ?_
             rintro e w2 ⟨rfl, hb2⟩
             have x0 := cell_later hb2 hc
             have x1 := cell_later hb2 hc2))
      have HB2 := Lib.hid (hb.out.trans ((Below.refl wr.heap.size wr).drew.trans hb2 |>.mono hb.out.size))
      clear hb2 x0 x1 hc hc2 hb
      go_wp2_with fail
      exact ⟨⟨j + 1, by omega, by go_num, HB2⟩, by simp [intOf]; omega⟩
    · obtain rfl : j = n := by omega
      go_wp2_with fail
      go_ret
      exact ⟨rfl, hb.out⟩
end Go.Proofs.YtlajiblhnkognaaDoor
