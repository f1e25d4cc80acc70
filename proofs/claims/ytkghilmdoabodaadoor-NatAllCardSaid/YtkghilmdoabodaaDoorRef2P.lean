/- Plain laws behind edenref02's Low, Fits, Sub: digits in base 65536. No condition. -/
import Derived.Test.YtkghilmdoabodaaDoorH16
namespace Go.Proofs.YtkghilmdoabodaaDoor
open NatP

theorem half_four (v : Nat) : (digs 65536 v).length ≤ 4 ↔ v < 18446744073709551616 := by
  constructor
  · intro h
    have h1 := val_lt h16 (ok_digs h16 v)
    rw [val_digs h16] at h1
    exact Nat.lt_of_lt_of_le h1 (Nat.le_trans (Nat.pow_le_pow_right (by decide) h) (by decide))
  · intro h
    exact digs_len_of_lt h16 4 v h

/-- The lowest four digits, from place k on. -/
def lowD (D : List Nat) (k : Nat) : Nat := valB 65536 ((D.take 4).drop k)
theorem lowD_four (D : List Nat) : lowD D 4 = 0 := by
  unfold lowD
  rw [List.drop_of_length_le (by simp; omega)]
  rfl
theorem lowD_step (D : List Nat) {k : Nat} (h : k < 4) : lowD D k = D.getD k 0 + 65536 * lowD D (k + 1) := by
  unfold lowD
  rw [drop_val]
  simp [List.getD_eq_getElem?_getD, List.getElem?_take, h]
theorem lowD_lt {D : List Nat} (ho : OkB 65536 D) (k : Nat) : lowD D k < 65536 ^ (4 - k) := by
  have := val_lt h16 (l := (D.take 4).drop k) (fun x hx => ho x (List.mem_of_mem_take (List.mem_of_mem_drop hx)))
  exact Nat.lt_of_lt_of_le this (Nat.pow_le_pow_right (by decide) (by simp; omega))
theorem lowD_zero (v : Nat) : lowD (digs 65536 v) 0 = v % 18446744073709551616 := by
  have e := val_digs h16 v
  have hlt : valB 65536 ((digs 65536 v).take 4) < 65536 ^ 4 := lowD_lt (ok_digs h16 v) 0
  show valB 65536 ((digs 65536 v).take 4) = _
  rw [← List.take_append_drop 4 (digs 65536 v), val_append] at e
  rcases Nat.lt_or_ge (digs 65536 v).length 4 with h | h
  · rw [List.drop_of_length_le (by omega)] at e
    simp only [valB, Nat.mul_zero, Nat.add_zero] at e
    rw [e] at hlt ⊢
    exact (Nat.mod_eq_of_lt hlt).symm
  · rw [show ((digs 65536 v).take 4).length = 4 by simp; omega] at e
    have hb : (65536 : Nat) ^ 4 = 18446744073709551616 := by decide
    rw [hb] at e hlt
    conv => rhs; rw [← e]
    rw [Nat.add_mul_mod_self_left, Nat.mod_eq_of_lt hlt]

/-- A difference, digit by digit: behind i digits. -/
structure SubG (X Y O : List Nat) (i br : Nat) : Prop where
  len : O.length = X.length
  ok : OkB 65536 O
  br1 : br ≤ 1
  eq : valB 65536 (O.take i) + valB 65536 (Y.take i) = valB 65536 (X.take i) + 65536 ^ i * br
theorem SubG.step {X Y O : List Nat} {i br x : Nat} (h : SubG X Y O i br) (hx : OkB 65536 X) (hy : OkB 65536 Y) (hxi : X[i]? = some x) :
    SubG X Y (O.set i ((x + 65536 - br - Y.getD i 0) % 65536)) (i + 1) (1 - (x + 65536 - br - Y.getD i 0) / 65536) := by
  have hi : i < X.length := (List.getElem?_eq_some_iff.1 hxi).1
  have hxl : x < 65536 := hx x (List.mem_of_getElem? hxi)
  have hyl : Y.getD i 0 < 65536 := ok_getD (by decide) hy i
  have hb := h.br1
  refine ⟨by rw [List.length_set]; exact h.len, ok_set h.ok (Nat.mod_lt _ (by decide)), by omega, ?_⟩
  obtain ⟨y, hye⟩ : ∃ y, Y.getD i 0 = y := ⟨_, rfl⟩
  rw [hye] at hyl ⊢
  obtain ⟨d, hd⟩ : ∃ d, x + 65536 - br - y = d := ⟨_, rfl⟩
  rw [hd]
  have e := h.eq
  have hxg : X.getD i 0 = x := by rw [List.getD_eq_getElem?_getD, hxi]; rfl
  have hog : (O.set i (d % 65536)).getD i 0 = d % 65536 := by
    rw [List.getD_eq_getElem?_getD, List.getElem?_set_self (by rw [h.len]; exact hi)]; rfl
  have hot : (O.set i (d % 65536)).take i = O.take i := List.take_set_of_le (Nat.le_refl _)
  rw [val_take_succ, val_take_succ, val_take_succ, hxg, hye, hog, hot, Nat.pow_succ]
  have hm := Nat.mod_add_div d 65536
  have hq : d / 65536 ≤ 1 := by omega
  obtain ⟨p, hp⟩ : ∃ p, 65536 ^ i = p := ⟨_, rfl⟩
  rw [hp] at e ⊢
  have key : d % 65536 + y + br = x + 65536 * (1 - d / 65536) := by omega
  have k2 : p * (d % 65536 + y + br) = p * (x + 65536 * (1 - d / 65536)) := by rw [key]
  rw [Nat.mul_assoc]
  simp only [Nat.mul_add] at k2
  omega
theorem SubG.stop {X Y O : List Nat} {br : Nat} (h : SubG X Y O X.length br) (hy : Y.length ≤ X.length) (hle : valB 65536 Y ≤ valB 65536 X) : valB 65536 O = valB 65536 X - valB 65536 Y := by
  have e := h.eq
  rw [List.take_of_length_le (by rw [h.len]; exact Nat.le_refl _), List.take_of_length_le hy, List.take_of_length_le (Nat.le_refl _)] at e
  have hlt := val_lt h16 h.ok
  rw [h.len] at hlt
  have hb := h.br1
  obtain rfl | rfl : br = 0 ∨ br = 1 := by omega
  · omega
  · omega
theorem SubG.start (X Y : List Nat) : SubG X Y (List.replicate X.length 0) 0 0 := ⟨by simp, fun x hx => by rw [(List.mem_replicate.1 hx).2]; decide, by decide, by simp [valB]⟩
end Go.Proofs.YtkghilmdoabodaaDoor
