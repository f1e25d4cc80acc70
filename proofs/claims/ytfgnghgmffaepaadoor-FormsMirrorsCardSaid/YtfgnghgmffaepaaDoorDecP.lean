/- Decimal texts: plain lists of bytes, no program. A number's text is read back as the number, and only that text is. No condition. -/
import Derived.Test.YtfgnghgmffaepaaDoorNatP
namespace Go.Proofs.YtfgnghgmffaepaaDoor
namespace NatP

def dch (d : Nat) : UInt8 := UInt8.ofNat (48 + d)
theorem dch_toNat {d : Nat} (h : d < 10) : (dch d).toNat = 48 + d := by unfold dch; simp [UInt8.toNat_ofNat]; omega
/-- The decimal text of a number. -/
def textB (v : Nat) : List UInt8 := if v = 0 then [48] else ((digs 10 v).map dch).reverse
def digitB (b : UInt8) : Bool := decide (48 ≤ b.toNat ∧ b.toNat ≤ 57)
/-- The number that digits write. -/
def numB (l : List UInt8) : Nat := valB 10 ((l.map (fun b => b.toNat - 48)).reverse)
/-- What a text is read as: a number, or a refusal at a place. -/
def parseN (l : List UInt8) : Except (Nat × Nat) Nat :=
  if 1200 < l.length then .error (0, 4)
  else if l = [] then .error (0, 6)
  else match l.findIdx? (fun b => !digitB b) with
    | some i => .error (i, 6)
    | none => if 1 < l.length ∧ l[0]? = some 48 then .error (0, 6) else .ok (numB l)

theorem numB_snoc (l : List UInt8) (b : UInt8) : numB (l ++ [b]) = numB l * 10 + (b.toNat - 48) := by
  unfold numB
  rw [List.map_append, List.reverse_append]
  simp [valB]
  omega
theorem map_back {D : List Nat} (h : OkB 10 D) : (D.map dch).map (fun b => b.toNat - 48) = D := by
  rw [List.map_map]
  conv => rhs; rw [← List.map_id D]
  apply List.map_congr_left
  intro d hd
  simp only [Function.comp, id]
  rw [dch_toNat (h d hd)]
  omega
theorem textB_len {v k : Nat} (h : v < 10 ^ k) (hk : 0 < k) : (textB v).length ≤ k := by
  unfold textB
  split
  · show 1 ≤ k; omega
  · rw [List.length_reverse, List.length_map]
    clear hk
    induction k generalizing v with
    | zero => have : v = 0 := by simpa using h
              subst this; simp [digs_zero]
    | succ k ih =>
      rcases Nat.eq_zero_or_pos v with rfl | hv
      · simp [digs_zero]
      · rw [digs_pos (by decide) hv, List.length_cons]
        have h1 : v / 10 < 10 ^ k := Nat.div_lt_of_lt_mul (by rw [Nat.mul_comm, ← Nat.pow_succ]; exact h)
        by_cases h0 : v / 10 = 0
        · rw [h0, digs_zero]; simp
        · have := ih h1 h0
          omega
theorem digs_ne {v : Nat} (h : v ≠ 0) : digs 10 v ≠ [] := fun e => h (digs_eq_nil (by decide) e)
theorem textB_ne (v : Nat) : textB v ≠ [] := by
  unfold textB
  split
  · simp
  · rename_i h
    simp [digs_ne h]
theorem textB_digits (v : Nat) : ∀ b ∈ textB v, digitB b = true := by
  intro b hb
  unfold textB at hb
  split at hb
  · simp at hb; subst hb; decide
  · simp only [List.mem_reverse, List.mem_map] at hb
    obtain ⟨d, hd, rfl⟩ := hb
    have := ok_digs (b := 10) (by decide) v d hd
    simp only [digitB, dch_toNat this, decide_eq_true_eq]
    omega
theorem numB_textB (v : Nat) : numB (textB v) = v := by
  unfold textB
  split
  · rename_i h; subst h; rfl
  · unfold numB
    rw [List.map_reverse, List.reverse_reverse, map_back (ok_digs (by decide) v), val_digs (by decide)]
theorem textB_head {v : Nat} (h : v ≠ 0) : (textB v)[0]? ≠ some 48 := by
  unfold textB
  rw [if_neg h]
  intro e
  have hn := norm_digs (b := 10) (by decide) v
  have ho := ok_digs (b := 10) (by decide) v
  rw [← List.head?_eq_getElem?, List.head?_reverse, List.getLast?_map] at e
  cases hl : (digs 10 v).getLast? with
  | none => rw [hl] at e; cases e
  | some d =>
    rw [hl] at e
    have h1 := hn d hl
    have h2 := ho d (List.mem_of_getLast? hl)
    have h3 : dch d = 48 := by simpa using e
    have h4 := dch_toNat h2
    rw [h3] at h4
    exact h1 (by simp at h4; omega)
theorem parse_text {v : Nat} (h : (textB v).length ≤ 1200) : parseN (textB v) = .ok v := by
  unfold parseN
  rw [if_neg (by omega), if_neg (textB_ne v)]
  have : (textB v).findIdx? (fun b => !digitB b) = none := by
    rw [List.findIdx?_eq_none_iff]
    intro b hb
    simp [textB_digits v b hb]
  rw [this]
  simp only
  rw [if_neg, numB_textB]
  rintro ⟨h1, h2⟩
  by_cases h0 : v = 0
  · subst h0; simp [textB] at h1
  · exact textB_head h0 h2
theorem text_parse {l : List UInt8} {v : Nat} (h : parseN l = .ok v) : textB v = l := by
  unfold parseN at h
  split at h
  · cases h
  split at h
  · cases h
  rename_i h0
  split at h
  · cases h
  rename_i hf
  split at h
  · cases h
  rename_i hz
  injection h with h
  have hd : ∀ b ∈ l, 48 ≤ b.toNat ∧ b.toNat ≤ 57 := by
    intro b hb
    have := (List.findIdx?_eq_none_iff.1 hf) b hb
    simpa [digitB] using this
  have hback : (l.map (fun b => b.toNat - 48)).map dch = l := by
    rw [List.map_map]
    conv => rhs; rw [← List.map_id l]
    apply List.map_congr_left
    intro b hb
    have := hd b hb
    simp only [Function.comp, id]
    apply UInt8.toNat_inj.1
    rw [dch_toNat (by omega)]
    omega
  have hok : OkB 10 ((l.map (fun b => b.toNat - 48)).reverse) := by
    intro d hd'
    simp only [List.mem_reverse, List.mem_map] at hd'
    obtain ⟨b, hb, rfl⟩ := hd'
    have := hd b hb
    omega
  by_cases hone : l = [48]
  · subst hone
    subst h
    rfl
  · have hhead : l[0]? ≠ some 48 := by
      intro e
      apply hz
      refine ⟨?_, e⟩
      cases l with
      | nil => exact absurd rfl h0
      | cons b l =>
        cases l with
        | nil => simp at e; subst e; exact absurd rfl hone
        | cons c l => simp
    have hnorm : Norm ((l.map (fun b => b.toNat - 48)).reverse) := by
      intro x hx e
      rw [List.getLast?_reverse, List.head?_map] at hx
      cases hl : l.head? with
      | none => rw [hl] at hx; cases hx
      | some b =>
        rw [hl] at hx
        simp only [Option.map_some, Option.some.injEq] at hx
        have h1 := hd b (List.mem_of_head? hl)
        have h2 : b = 48 := UInt8.toNat_inj.1 (by simp; omega)
        subst h2
        rw [List.head?_eq_getElem?] at hl
        exact hhead hl
    have hv := digs_val (b := 10) (by decide) hok hnorm
    have hne : v ≠ 0 := by
      intro e
      rw [← h] at e
      have := val_pos (b := 10) (by decide) hnorm (by simp; exact h0)
      unfold numB at e
      omega
    unfold textB
    rw [if_neg hne, ← h]
    unfold numB
    rw [hv, ← List.map_reverse, List.reverse_reverse, hback]

/-- Digits with noughts behind them, written the other way round, the noughts cut off. -/
theorem text_trim {D : List Nat} (h : OkB 10 D) : ((D.map dch).reverse.dropWhile (fun b => b == 48)) = if valB 10 D = 0 then [] else textB (valB 10 D) := by
  obtain ⟨m, hm, hz, hl⟩ := cut_ex D
  have e := cut_eq (by decide) h hm hz hl
  have hD : D = digs 10 (valB 10 D) ++ List.replicate (D.length - m) 0 := by
    conv => lhs; rw [← List.take_append_drop m D]
    rw [e]
    congr 1
    apply List.ext_getElem?
    intro i
    rw [List.getElem?_drop, List.getElem?_replicate]
    split
    · rename_i hi
      have hlt : m + i < D.length := by omega
      rw [List.getElem?_eq_getElem hlt, hz (m + i) _ (by omega) (List.getElem?_eq_getElem hlt)]
    · rw [List.getElem?_eq_none (by omega)]
  have hrev : (D.map dch).reverse = List.replicate (D.length - m) 48 ++ ((digs 10 (valB 10 D)).map dch).reverse := by
    conv => lhs; rw [hD]
    rw [List.map_append, List.reverse_append, List.map_replicate, List.reverse_replicate]
    rfl
  rw [hrev]
  have hdrop : ∀ (k : Nat) (l : List UInt8), (List.replicate k (48 : UInt8) ++ l).dropWhile (fun b => b == 48) = l.dropWhile (fun b => b == 48) := by
    intro k l
    induction k with
    | zero => rfl
    | succ k ih => rw [List.replicate_succ, List.cons_append, List.dropWhile_cons, if_pos (by decide), ih]
  rw [hdrop]
  by_cases h0 : valB 10 D = 0
  · rw [if_pos h0, h0]; rfl
  · rw [if_neg h0]
    have ht : ((digs 10 (valB 10 D)).map dch).reverse = textB (valB 10 D) := by unfold textB; rw [if_neg h0]
    have hh := textB_head h0
    rw [ht]
    cases hb : textB (valB 10 D) with
    | nil => rfl
    | cons b l =>
      rw [hb] at hh
      rw [List.dropWhile_cons, if_neg]
      intro e
      exact hh (by simp at e; simp [e])

end NatP
end Go.Proofs.YtfgnghgmffaepaaDoor
