/- Lists that share no memory: edenraw.Apart returns true. Condition: each list is a slice in a row of its own, no two in one row. Lists that share no memory: the call of edenraw.Apart. Condition: each list is a slice in a row of its own, no two in one row. Lists in rows of their own, one behind the other: what edenraw.Apart asks. No condition. -/
import Derived.Test.YtfgnghgmffaepaaDoorTypes
import Derived.Test.YtfgnghgmffaepaaDoorCut
namespace Go.Proofs.YtfgnghgmffaepaaDoor
open Go.RowKit
namespace Apart

def mk (i : Nat) : Int := -2 * (i : Int) - 1
def mk2 (i : Nat) : Int := -2 * (i : Int) - 2
/-- What list i holds, when k lists have been marked, and j places of the next. -/
def cont (k j i : Nat) (xs : List Int) : List Int := if i < k then List.replicate xs.length (mk i) else if i = k then List.replicate j (mk i) ++ xs.drop j else xs

theorem len_cont {k j i : Nat} {xs : List Int} (h : j ≤ xs.length) : i = k → (cont k j i xs).length = xs.length := by
  intro e; subst e; simp [cont]; omega
theorem cont_zero (k i : Nat) (xs : List Int) : cont k 0 i xs = if i < k then List.replicate xs.length (mk i) else xs := by
  unfold cont; split
  · rfl
  · split <;> simp
theorem cont_next (k i : Nat) {n : Nat} (xs : List Int) (h : i = k → n = xs.length) : cont k n i xs = cont (k + 1) 0 i xs := by
  rw [cont_zero]
  unfold cont
  rcases Nat.lt_trichotomy i k with h1 | h1 | h1
  · rw [if_pos h1, if_pos (by omega)]
  · rw [if_neg (by omega), if_pos h1, if_pos (by omega), h h1]; simp
  · rw [if_neg (by omega), if_neg (by omega), if_neg (by omega)]
theorem cont_set {k j : Nat} {xs : List Int} (h : j < xs.length) : (cont k j k xs).set j (mk k) = cont k (j + 1) k xs := by
  simp only [cont, Nat.lt_irrefl, if_false, if_true]
  rw [List.set_append_right _ _ (by simp), List.length_replicate, Nat.sub_self, List.drop_eq_getElem_cons h, List.set_cons_zero, List.replicate_succ', List.append_assoc]
  rfl
theorem cont_other {k j i : Nat} {xs : List Int} (h : i ≠ k) : cont k j i xs = cont k (j + 1) i xs := by
  simp only [cont, h, if_false]

/-- Every list in a row of its own. -/
structure Rows (w : World) (R : List (Value × List Int)) (k j : Nat) : Prop where
  own : ∀ (i : Nat) (p : Value × List Int), R[i]? = some p → w.ownsRow 0 3 1 p.1 p.2.length ((cont k j i p.2).map (Value.int .i64))
def Far (R : List (Value × List Int)) : Prop := ∀ (i j : Nat) (p q : Value × List Int) (g : Nat), i ≠ j → R[i]? = some p → R[j]? = some q → p.1.ownBlock = some g → q.1.ownBlock ≠ some g
def Foot (R : List (Value × List Int)) (b : Nat) : Prop := ∃ p ∈ R, p.1.ownBlock = some b

theorem rows_next {w : World} {R : List (Value × List Int)} {k n : Nat} (h : Rows w R k n) (hn : ∀ p, R[k]? = some p → n = p.2.length) : Rows w R (k + 1) 0 :=
  ⟨fun i p hp => by rw [← cont_next k i (n := n) p.2 (fun e => hn p (by rw [← e]; exact hp))]; exact h.own i p hp⟩
theorem rows_set {w : World} {R : List (Value × List Int)} {k j g c : Nat} {xs : List Int} (h : Rows w R k j) (hf : Far R) (hp : R[k]? = some (.slice (some ⟨g, 0, none⟩) xs.length c, xs)) (hj : j < xs.length) :
    Rows (w.setCell ⟨g, j, none⟩ (.int .i64 (mk k))) R k (j + 1) ∧ Keeps (Foot R) w (w.setCell ⟨g, j, none⟩ (.int .i64 (mk k))) := by
  refine ⟨⟨fun i p hi => ?_⟩, (Keeps.of_setCell w _ _).mono (fun b _ e => ⟨_, List.mem_of_getElem? hp, by simp [Value.ownBlock, e]⟩)⟩
  by_cases e : i = k
  · subst e
    rw [hp] at hi
    cases hi
    have := ((h.own i _ hp).stored j (.int .i64 (mk i))).1
    rw [← List.map_set, cont_set hj] at this
    exact this
  · rw [← cont_other e]
    exact own_keeps (h.own i p hi) (Keeps.of_setCell w _ _) (fun b hb e' => by subst e'; exact hf i k p _ _ e hi hp hb (by simp [Value.ownBlock]))

/-- Behind the second round over the lists: what the lists and the grown ones hold. -/
structure Grown2 (w : World) (H : Nat) (R : List (Value × List Int)) (G : List Value) : Prop where
  len : G.length ≤ R.length
  own : ∀ (i : Nat) (p : Value × List Int), G.length ≤ i → R[i]? = some p → w.ownsRow 0 3 1 p.1 p.2.length ((List.replicate p.2.length (mk i)).map (Value.int .i64))
  old : ∀ (i : Nat) (A : Option Addr) (c : Nat) (xs : List Int), R[i]? = some (.slice A xs.length c, xs) → Sl w A xs.length ((List.replicate xs.length (mk i)).map (Value.int .i64))
  new : ∀ (i : Nat) (v : Value) (p : Value × List Int), G[i]? = some v → R[i]? = some p → ∃ A c, v = .slice A (p.2.length + 40) c ∧ Sl w A (p.2.length + 40) ((List.replicate p.2.length (mk i) ++ List.replicate 40 (mk2 i)).map (Value.int .i64)) ∧
    ∀ ad, A = some ad → (p.1.ownBlock = some ad.block ∨ H ≤ ad.block)

theorem grown_keep {w w' : World} {H : Nat} {R : List (Value × List Int)} {G : List Value} {q : Value × List Int} (h : Grown2 w H R G) (hf : Far R) (hq : R[G.length]? = some q) (hk : Keeps (fun b => q.1.ownBlock = some b) w w') (hH : ∀ b, q.1.ownBlock = some b → b < H) :
    (∀ (i : Nat) (p : Value × List Int), G.length < i → R[i]? = some p → w'.ownsRow 0 3 1 p.1 p.2.length ((List.replicate p.2.length (mk i)).map (Value.int .i64))) ∧
    (∀ (i : Nat) (A : Option Addr) (c : Nat) (xs : List Int), i ≠ G.length → R[i]? = some (.slice A xs.length c, xs) → Sl w' A xs.length ((List.replicate xs.length (mk i)).map (Value.int .i64))) ∧
    (∀ (i : Nat) (v : Value) (p : Value × List Int), G[i]? = some v → R[i]? = some p → ∃ A c, v = .slice A (p.2.length + 40) c ∧ Sl w' A (p.2.length + 40) ((List.replicate p.2.length (mk i) ++ List.replicate 40 (mk2 i)).map (Value.int .i64)) ∧
      ∀ ad, A = some ad → (p.1.ownBlock = some ad.block ∨ H ≤ ad.block)) := by
  refine ⟨fun i p hi hp => own_keeps (h.own i p (by omega) hp) hk (fun g hg e => hf i _ p q g (by omega) hp hq hg e), fun i A c xs hi hp => ?_, fun i v p hv hp => ?_⟩
  · refine (h.old i A c xs hp).keeps hk (fun ad e e' => ?_)
    by_cases h0 : ∃ g, (Value.slice A xs.length c).ownBlock = some g ∧ g = ad.block
    · obtain ⟨g, h1, h2⟩ := h0
      subst h2
      exact hf i _ _ q _ hi hp hq h1 e'
    · exact h0 ⟨ad.block, by rw [e]; rfl, rfl⟩
  · obtain ⟨A, c, h1, h2, h3⟩ := h.new i v p hv hp
    have hi : i ≠ G.length := by have := (List.getElem?_eq_some_iff.1 hv).1; omega
    refine ⟨A, c, h1, h2.keeps hk (fun ad e e' => ?_), h3⟩
    rcases h3 ad e with h4 | h4
    · exact hf i _ p q _ hi hp hq h4 e'
    · have := hH _ e'; omega

theorem grown_start {w : World} {H : Nat} {R : List (Value × List Int)} (h : ∀ (i : Nat) (p : Value × List Int), R[i]? = some p → w.ownsRow 0 3 1 p.1 p.2.length ((List.replicate p.2.length (mk i)).map (Value.int .i64))) : Grown2 w H R [] :=
  ⟨Nat.zero_le _, fun i p _ hp => h i p hp, fun i _ _ _ hp => Sl.of_own (h i _ hp), fun i v p hv _ => by simp at hv⟩

theorem sl_prefix {w : World} {A : Option Addr} {n m : Nat} {xs ys : List Value} (h : Sl w A m (xs ++ ys)) (hn : xs.length = n) : Sl w A n xs :=
  ⟨hn, fun k v hv => h.2 k v (by rw [List.getElem?_append_left (List.getElem?_eq_some_iff.1 hv).1]; exact hv)⟩
theorem sl_after {w w' : World} {A : Option Addr} {n N g cap base e : Nat} {ys zs : List Value} (hs : Sl w A n ys) (hA : A = none ∨ ∃ b, A = some ⟨b, 0, none⟩)
    (hown : w'.ownsRow base e 1 (.slice (some ⟨g, 0, none⟩) N cap) N (ys ++ zs)) (hg : w.grownBy w' (some g)) : Sl w' A n ys := by
  rcases hA with rfl | ⟨b, rfl⟩
  · exact ⟨hs.1, fun k v hv => by obtain ⟨ad, e', _⟩ := hs.2 k v hv; cases e'⟩
  · by_cases hb : b = g
    · subst hb
      exact sl_prefix (Sl.of_own hown) hs.1
    · exact hs.keeps (Keeps.of_grown hg) (fun ad e' h => by cases e'; simp at h; exact hb h.symm)
theorem own_form {w : World} {base e n c : Nat} {A : Option Addr} {xs : List Value} (h : w.ownsRow base e 1 (.slice A n c) n xs) : A = none ∨ ∃ b, A = some ⟨b, 0, none⟩ := by
  rcases h.2 with ⟨hv, _⟩ | ⟨g, cap, cur, hv, _⟩
  · injection hv with hA; exact .inl hA
  · injection hv with hA; exact .inr ⟨g, hA⟩

theorem grown_next {w w' : World} {H G0 : Nat} {R : List (Value × List Int)} {G : List Value} {A GA : Option Addr} {c gc : Nat} {xs : List Int} (h : Grown2 w H R G) (hf : Far R) (hfoot : ∀ b, Foot R b → b < G0) (hG0 : H = G0 + 1)
    (hp : R[G.length]? = some (.slice A xs.length c, xs)) (hk : Keeps (fun b => (Value.slice A xs.length c).ownBlock = some b) w w') (hHw : H ≤ w.heap.size)
    (hown : w'.ownsRow 0 3 1 (.slice GA (xs.length + 40) gc) (xs.length + 40) ((List.replicate xs.length (mk G.length) ++ List.replicate 40 (mk2 G.length)).map (Value.int .i64)))
    (hblk : ∀ b, (Value.slice GA (xs.length + 40) gc).ownBlock = some b → (Value.slice A xs.length c).ownBlock = some b ∨ w.heap.size ≤ b)
    (hsl : Sl w' A xs.length ((List.replicate xs.length (mk G.length)).map (Value.int .i64))) (j : Nat) (u : Value) :
    Grown2 (w'.setCell ⟨G0, j, none⟩ u) H R (G ++ [.slice GA (xs.length + 40) gc]) := by
  have hst := Keeps.of_setCell w' ⟨G0, j, none⟩ u
  have hm : (Value.slice A xs.length c, xs) ∈ R := List.mem_of_getElem? hp
  obtain ⟨h1, h2, h3⟩ := grown_keep h hf hp hk (fun b hb => by have := hfoot b ⟨_, hm, hb⟩; omega)
  have hlt : G.length < R.length := (List.getElem?_eq_some_iff.1 hp).1
  have oldBlk : ∀ (i : Nat) (A' : Option Addr) (c' : Nat) (ys : List Int), R[i]? = some (.slice A' ys.length c', ys) → ∀ ad, A' = some ad → ad.block < G0 := fun i A' c' ys hi ad e =>
    hfoot _ ⟨_, List.mem_of_getElem? hi, by rw [e]; rfl⟩
  refine ⟨by simp; omega, fun i p hi hp' => ?_, fun i A' c' ys hi => ?_, fun i v p hv hp' => ?_⟩
  · have hi' : G.length < i := by simp at hi; omega
    exact own_keeps (h1 i p hi' hp') hst (fun g hg e => by have := hfoot g ⟨p, List.mem_of_getElem? hp', hg⟩; simp at e; omega)
  · by_cases e : i = G.length
    · subst e
      rw [hp] at hi
      obtain ⟨q1, q2⟩ := Prod.mk.inj (Option.some.inj hi)
      subst q2
      injection q1 with q3
      subst q3
      exact hsl.keeps hst (fun ad e' e => by have := oldBlk _ _ _ _ hp ad e'; simp at e; omega)
    · exact (h2 i A' c' ys e hi).keeps hst (fun ad e' e => by have := oldBlk _ _ _ _ hi ad e'; simp at e; omega)
  · rcases Nat.lt_or_ge i G.length with hlt' | hge
    · rw [List.getElem?_append_left hlt'] at hv
      obtain ⟨A', c', e1, e2, e3⟩ := h3 i v p hv hp'
      refine ⟨A', c', e1, e2.keeps hst (fun ad e' e => ?_), e3⟩
      simp at e
      rcases e3 ad e' with h4 | h4
      · have := hfoot _ ⟨p, List.mem_of_getElem? hp', h4⟩; omega
      · omega
    · rw [List.getElem?_append_right hge] at hv
      rcases Nat.eq_zero_or_pos (i - G.length) with h0 | h0
      · rw [h0] at hv
        simp at hv
        subst hv
        obtain rfl : i = G.length := by omega
        rw [hp] at hp'
        cases hp'
        have e3 : ∀ ad, GA = some ad → ((Value.slice A xs.length c).ownBlock = some ad.block ∨ H ≤ ad.block) := fun ad e => (hblk ad.block (by rw [e]; rfl)).imp id (fun h => by omega)
        refine ⟨GA, gc, rfl, (Sl.of_own hown).keeps hst (fun ad e' e => ?_), e3⟩
        simp at e
        rcases e3 ad e' with h4 | h4
        · have := hfoot _ ⟨_, hm, h4⟩; omega
        · omega
      · rw [List.getElem?_eq_none (by simp; omega)] at hv; cases hv

theorem rep_snoc (n q i : Nat) : (List.replicate n (mk i) ++ List.replicate q (mk2 i)).map (Value.int .i64) ++ [.int .i64 (mk2 i)] = (List.replicate n (mk i) ++ List.replicate (q + 1) (mk2 i)).map (Value.int .i64) := by
  rw [List.replicate_succ' (n := q)]
  simp
theorem rep_at1 {n j i : Nat} (h : j < n) : (List.replicate n (mk i) ++ List.replicate 40 (mk2 i))[j]? = some (mk i) := by
  rw [List.getElem?_append_left (by simpa using h), List.getElem?_replicate, if_pos h]
theorem rep_at2 {n j i : Nat} (h : n ≤ j) (h' : j < n + 40) : (List.replicate n (mk i) ++ List.replicate 40 (mk2 i))[j]? = some (mk2 i) := by
  rw [List.getElem?_append_right (by simpa using h), List.getElem?_replicate, if_pos (by simp; omega)]

theorem app_set {α : Type} {G : List α} {k : Nat} {z u : α} (h : G.length < k) : (G ++ List.replicate (k - G.length) z).set G.length u = (G ++ [u]) ++ List.replicate (k - (G ++ [u]).length) z := by
  rw [List.set_append_right _ _ (Nat.le_refl _), Nat.sub_self, show k - G.length = (k - (G.length + 1)) + 1 from by omega, List.replicate_succ, List.set_cons_zero]
  simp

end Apart
end Go.Proofs.YtfgnghgmffaepaaDoor

namespace Go.Proofs.YtfgnghgmffaepaaDoor
open Go.RowKit Apart

end Go.Proofs.YtfgnghgmffaepaaDoor

namespace Go.Proofs.YtfgnghgmffaepaaDoor
open Go.RowKit

/-- A row of the call's own whose block lies from lo on and before hi. -/
structure Row (w : World) (lo hi : Nat) (v : Value) (n : Nat) (xs : List Value) : Prop where
  own : w.ownsRow lo 3 1 v n xs
  hi : ∀ g, v.ownBlock = some g → g < hi
namespace Row
variable {w w' : World} {lo hi n : Nat} {v : Value} {xs : List Value}
theorem of (h : w.ownsRow lo 3 1 v n xs) : Row w lo w.heap.size v n xs := ⟨h, fun g hg => (h.lt g hg).2⟩
theorem keeps {O : Nat → Prop} (h : Row w lo hi v n xs) (hk : Keeps O w w') (ho : ∀ b, O b → lo ≤ b → b < hi → False) : Row w' lo hi v n xs :=
  ⟨own_keeps h.own hk (fun g hg hO => ho g hO (h.own.lt g hg).1 (h.hi g hg)), h.hi⟩
theorem below (h : Row w lo hi v n xs) (hb : Below w.heap.size w w') : Row w' lo hi v n xs := ⟨own_below h.own hb, h.hi⟩
theorem sl {A : Option Addr} {c : Nat} (h : Row w lo hi (.slice A n c) n xs) : Sl w A n xs := Sl.of_own h.own
end Row

/-- Rows one behind the other, from block lo on. -/
def Ranged (w : World) : Nat → List (Value × List Int) → Prop
  | _, [] => True
  | lo, p :: R => ∃ l hi, lo ≤ l ∧ l ≤ hi ∧ Row w l hi p.1 p.2.length (p.2.map (Value.int .i64)) ∧ Ranged w hi R
namespace Ranged
variable {w : World}
theorem at_ : ∀ {R : List (Value × List Int)} {lo : Nat}, Ranged w lo R → ∀ (i : Nat) (p : Value × List Int), R[i]? = some p → ∃ l hi, lo ≤ l ∧ l ≤ hi ∧ Row w l hi p.1 p.2.length (p.2.map (Value.int .i64))
  | [], _, _, i, p, h => by simp at h
  | q :: R, lo, ⟨l, hi, h1, h2, h3, h4⟩, 0, p, h => by simp at h; subst h; exact ⟨l, hi, h1, h2, h3⟩
  | q :: R, lo, ⟨l, hi, h1, h2, h3, h4⟩, i + 1, p, h => by
    obtain ⟨l', hi', a, b, c⟩ := at_ h4 i p (by simpa using h)
    exact ⟨l', hi', by omega, b, c⟩
theorem rows {R : List (Value × List Int)} {lo : Nat} (h : Ranged w lo R) : Apart.Rows w R 0 0 := ⟨fun i p hp => by
  obtain ⟨l, hi, _, _, hr⟩ := h.at_ i p hp
  rw [Apart.cont_zero, if_neg (by omega)]
  exact own_base hr.own (Nat.zero_le _)⟩
theorem foot {R : List (Value × List Int)} {lo b : Nat} (h : Ranged w lo R) (hb : Apart.Foot R b) : lo ≤ b := by
  obtain ⟨p, hp, hg⟩ := hb
  obtain ⟨i, hi⟩ := List.getElem?_of_mem hp
  obtain ⟨l, hi', h1, _, hr⟩ := h.at_ i p hi
  have := (hr.own.lt b hg).1
  omega
theorem far : ∀ {R : List (Value × List Int)} {lo : Nat}, Ranged w lo R → Apart.Far R
  | [], _, _ => fun i j p q g _ hi => by simp at hi
  | r :: R, lo, ⟨l, hi, h1, h2, h3, h4⟩ => by
    have ih := far h4
    have hd : ∀ (j : Nat) (q : Value × List Int) (g : Nat), R[j]? = some q → r.1.ownBlock = some g → q.1.ownBlock ≠ some g := fun j q g hq hg hq' => by
      have := h3.hi g hg
      have := h4.foot ⟨q, List.mem_of_getElem? hq, hq'⟩
      omega
    intro i j p q g hij hp hq hg hq'
    match i, j, hij, hp, hq with
    | 0, 0, hij, _, _ => exact hij rfl
    | 0, j + 1, _, hp, hq =>
      simp at hp hq
      subst hp
      exact hd j q g hq hg hq'
    | i + 1, 0, _, hp, hq =>
      simp at hp hq
      subst hq
      exact hd i p g hp hq' hg
    | i + 1, j + 1, hij, hp, hq =>
      simp at hp hq
      exact ih i j p q g (by omega) hp hq hg hq'
theorem mono {R : List (Value × List Int)} {lo lo' : Nat} (h : Ranged w lo R) (hl : lo' ≤ lo) : Ranged w lo' R := by
  cases R with
  | nil => trivial
  | cons p R => obtain ⟨l, hi, h1, h2, h3, h4⟩ := h; exact ⟨l, hi, by omega, h2, h3, h4⟩
theorem cons {R : List (Value × List Int)} {lo l hi hi' : Nat} {v : Value} {xs : List Int} {n : Nat} (h1 : lo ≤ l) (h2 : l ≤ hi) (hr : Row w l hi v n (xs.map (Value.int .i64))) (hn : xs.length = n) (h3 : hi ≤ hi') (h : Ranged w hi' R) : Ranged w lo ((v, xs) :: R) := by
  subst hn
  exact ⟨l, hi, h1, h2, hr, h.mono h3⟩
theorem nil (w : World) (lo : Nat) : Ranged w lo [] := trivial
end Ranged

end Go.Proofs.YtfgnghgmffaepaaDoor
