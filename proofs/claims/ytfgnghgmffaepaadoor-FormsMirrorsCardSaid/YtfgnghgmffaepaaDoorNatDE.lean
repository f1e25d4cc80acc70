/- Numbers compared: what nat.Cmp and edenraw.Nats return; nat.Fits, nat.From. Condition: the limbs read from memory. What nat.Low, nat.Fits, nat.From, nat.Sum, nat.Over and edenraw.Nats return. Condition: the limbs read from memory. -/
import Derived.Test.YtfgnghgmffaepaaDoorNatB
import Derived.BigQuiet
namespace Go.Proofs.YtfgnghgmffaepaaDoor
open Go.RowKit NatP

theorem sl_norm {w : World} {A : Option Addr} {n : Nat} {xs : List Nat} (h : Sl w A n (xs.map wv)) (ho : OkB W32 xs) : Sl w A (limbs (val xs)).length ((limbs (val xs)).map wv) := by
  have hl : xs.length = n := by simpa using h.1
  obtain ⟨m, hm, hz, hl'⟩ : ∃ m, m ≤ xs.length ∧ (∀ j x, m ≤ j → xs[j]? = some x → x = 0) ∧ (∀ x, 0 < m → xs[m - 1]? = some x → x ≠ 0) := cut_ex xs
  obtain ⟨e1, e2⟩ := limbs_take ho hm hz hl'
  have e3 : (xs.map wv).take (limbs (val xs)).length = (limbs (val xs)).map wv := by rw [← List.map_take, ← e2, e1]
  have ht := sl_take h (m := (limbs (val xs)).length) (by have := limbs_len ho; omega)
  rw [e3] at ht
  exact ht
theorem limbs_len_of_lt : ∀ (k v : Nat), v < W32 ^ k → (limbs v).length ≤ k := by
  intro k
  induction k with
  | zero => intro v h; have : v = 0 := by simpa using h
            subst this; simp [limbs, digs_zero]
  | succ k ih =>
    intro v h
    rcases Nat.eq_zero_or_pos v with rfl | hv
    · simp [limbs, digs_zero]
    · unfold limbs at *
      rw [digs_pos w32 hv, List.length_cons]
      have : v / W32 < W32 ^ k := Nat.div_lt_of_lt_mul (by rw [Nat.mul_comm, ← Nat.pow_succ]; exact h)
      have := ih _ this
      omega
theorem lt_of_len {v u : Nat} (h : (limbs v).length < (limbs u).length) : v < u := by
  rcases Nat.lt_or_ge v u with h1 | h1
  · exact h1
  · have h2 : v < W32 ^ (limbs v).length := by
      have := val_lt w32 (ok_limbs v)
      rwa [show valB W32 (limbs v) = v from val_limbs v] at this
    have := limbs_len_of_lt (limbs v).length u (by omega)
    omega
theorem lt_at {xs ys : List Nat} (ox : OkB W32 xs) (k : Nat) {x y : Nat} (hx : xs[k]? = some x) (hy : ys[k]? = some y) (hd : xs.drop (k + 1) = ys.drop (k + 1)) (h : x < y) : val xs < val ys := by
  have hkx : k < xs.length := (List.getElem?_eq_some_iff.1 hx).1
  have hky : k < ys.length := (List.getElem?_eq_some_iff.1 hy).1
  have part : ∀ (l : List Nat) (z : Nat), l[k]? = some z → val l = val (l.take k) + W32 ^ k * (z + W32 * val (l.drop (k + 1))) := by
    intro l z hz
    have hk : k < l.length := (List.getElem?_eq_some_iff.1 hz).1
    have e : l = l.take k ++ z :: l.drop (k + 1) := by
      have := List.drop_eq_getElem_cons hk
      have hz' : l[k] = z := (List.getElem?_eq_some_iff.1 hz).2
      rw [hz'] at this
      rw [← this, List.take_append_drop]
    have e2 := congrArg (valB W32) e
    rw [val_append, List.length_take, Nat.min_eq_left (Nat.le_of_lt hk)] at e2
    exact e2
  have e1 := part xs x hx
  have e2 := part ys y hy
  have e3 : val (xs.take k) < W32 ^ k := by
    have := val_lt w32 (ok_take ox k)
    rwa [List.length_take, Nat.min_eq_left (Nat.le_of_lt hkx)] at this
  rw [hd] at e1
  have e4 : W32 ^ k * (x + W32 * val (ys.drop (k + 1)) + 1) ≤ W32 ^ k * (y + W32 * val (ys.drop (k + 1))) := Nat.mul_le_mul (Nat.le_refl _) (by omega)
  rw [Nat.mul_add _ _ 1, Nat.mul_one] at e4
  omega

/-- How two numbers compare. -/
def cmpN (v u : Nat) : Int := if v < u then -1 else if u < v then 1 else 0
theorem cmpN_lt {v u : Nat} (h : v < u) : cmpN v u = -1 := if_pos h
theorem cmpN_gt {v u : Nat} (h : u < v) : cmpN v u = 1 := by unfold cmpN; rw [if_neg (by omega), if_pos h]
theorem cmpN_eq (v : Nat) : cmpN v v = 0 := by unfold cmpN; simp

theorem drop_eq_cons {l m : List Nat} {k x : Nat} (hl : l[k]? = some x) (hm : m[k]? = some x) (h : l.drop (k + 1) = m.drop (k + 1)) : l.drop k = m.drop k := by
  obtain ⟨h1, e1⟩ := List.getElem?_eq_some_iff.1 hl
  obtain ⟨h2, e2⟩ := List.getElem?_eq_some_iff.1 hm
  rw [List.drop_eq_getElem_cons h1, List.drop_eq_getElem_cons h2, e1, e2, h]

end Go.Proofs.YtfgnghgmffaepaaDoor

namespace Go.Proofs.YtfgnghgmffaepaaDoor
open Go.RowKit NatP

end Go.Proofs.YtfgnghgmffaepaaDoor
