/- Digits to the base 65536 and limbs to the base 2^32: plain lists, no program. No condition. Schoolbook rules on digits to any base: plain lists, no program. No condition. -/
import Derived.Test.YtfgnghgmffaepaaDoorNatP
namespace Go.Proofs.YtfgnghgmffaepaaDoor
namespace NatP

theorem h16 : 2 ≤ 65536 := by decide
theorem w32' : 2 ≤ 4294967296 := by decide
def flat (xs : List Nat) : List Nat := xs.flatMap fun x => [x % 65536, x / 65536]
theorem flat_cons (x : Nat) (l : List Nat) : flat (x :: l) = x % 65536 :: x / 65536 :: flat l := rfl
theorem flat_append (a b : List Nat) : flat (a ++ b) = flat a ++ flat b := by simp [flat]
theorem val_flat : ∀ xs : List Nat, valB 65536 (flat xs) = valB 4294967296 xs
  | [] => rfl
  | x :: l => by
    rw [flat_cons]
    simp only [valB]
    rw [val_flat l]
    have := Nat.mod_add_div x 65536
    omega
theorem ok_flat {xs : List Nat} (h : OkB 4294967296 xs) : OkB 65536 (flat xs) := by
  intro y hy
  simp only [flat, List.mem_flatMap, List.mem_cons, List.not_mem_nil, or_false] at hy
  obtain ⟨x, hx, rfl | rfl⟩ := hy
  · exact Nat.mod_lt _ (by decide)
  · have := h x hx; omega
theorem len_flat (xs : List Nat) : (flat xs).length = 2 * xs.length := by
  induction xs with
  | nil => rfl
  | cons x l ih => rw [flat_cons]; simp [ih]; omega
theorem flat_take {xs : List Nat} {k x : Nat} (h : xs[k]? = some x) : flat (xs.take (k + 1)) = flat (xs.take k) ++ [x % 65536, x / 65536] := by
  rw [List.take_add_one, h, flat_append]; rfl

/-- The first j limbs out of digits. -/
def pairTo (D : List Nat) (j : Nat) : List Nat := (List.range j).map fun q => D.getD (2 * q) 0 + 65536 * D.getD (2 * q + 1) 0
theorem pairTo_zero (D : List Nat) : pairTo D 0 = [] := rfl
theorem pairTo_len (D : List Nat) (j : Nat) : (pairTo D j).length = j := by simp [pairTo]
theorem pairTo_succ (D : List Nat) (j : Nat) : pairTo D (j + 1) = pairTo D j ++ [D.getD (2 * j) 0 + 65536 * D.getD (2 * j + 1) 0] := by
  simp [pairTo, List.range_succ]
theorem val_pairs (D : List Nat) : ∀ j, valB 4294967296 (pairTo D j) = valB 65536 (D.take (2 * j))
  | 0 => rfl
  | j + 1 => by
    rw [pairTo_succ, val_snoc, val_pairs D j, pairTo_len, show 2 * (j + 1) = 2 * j + 1 + 1 from by omega, val_take_succ, val_take_succ]
    have e : (4294967296 : Nat) ^ j = 65536 ^ (2 * j) := by rw [Nat.pow_mul]
    rw [e, Nat.pow_succ, Nat.mul_add, Nat.add_assoc, Nat.mul_assoc]
theorem ok_pairs {D : List Nat} (h : OkB 65536 D) (j : Nat) : OkB 4294967296 (pairTo D j) := by
  intro y hy
  simp only [pairTo, List.mem_map] at hy
  obtain ⟨q, _, rfl⟩ := hy
  have h1 := ok_getD (b := 65536) (by decide) h (2 * q)
  have h2 := ok_getD (b := 65536) (by decide) h (2 * q + 1)
  omega
theorem norm_pairs {D : List Nat} (h : Norm D) : Norm (pairTo D ((D.length + 1) / 2)) := by
  intro x hx
  rcases Nat.eq_zero_or_pos D.length with h0 | h0
  · rw [h0] at hx; simp [pairTo] at hx
  · obtain ⟨j, hj⟩ : ∃ j, (D.length + 1) / 2 = j + 1 := ⟨(D.length + 1) / 2 - 1, by omega⟩
    rw [hj, pairTo_succ, List.getLast?_append] at hx
    simp at hx
    have hl : D.getLast? = some (D.getD (D.length - 1) 0) := by
      rw [List.getLast?_eq_getElem?, List.getD_eq_getElem?_getD, List.getElem?_eq_getElem (by omega)]; rfl
    have hn := h _ hl
    subst hx
    simp only [← List.getD_eq_getElem?_getD]
    rcases (show D.length = 2 * j + 1 ∨ D.length = 2 * j + 2 by omega) with e | e
    · rw [show D.length - 1 = 2 * j from by omega] at hn; omega
    · rw [show D.length - 1 = 2 * j + 1 from by omega] at hn; omega
theorem pairs_all {D : List Nat} (ho : OkB 65536 D) (hn : Norm D) : pairTo D ((D.length + 1) / 2) = digs 4294967296 (valB 65536 D) := by
  have h1 := digs_val w32' (ok_pairs ho ((D.length + 1) / 2)) (norm_pairs hn)
  rw [val_pairs, List.take_of_length_le (by omega)] at h1
  exact h1.symm
theorem len_half (v : Nat) : (digs 65536 v).length ≤ 2 * (digs 4294967296 v).length := by
  have h := length_digs_le h16 (ok_flat (ok_digs w32' v))
  rw [val_flat, val_digs w32', len_flat] at h
  exact h
theorem take_digs {b : Nat} (hb : 2 ≤ b) {D : List Nat} (ho : OkB b D) : D.take (digs b (valB b D)).length = digs b (valB b D) := by
  obtain ⟨m, hm, hz, hl⟩ := cut_ex D
  have e := cut_eq hb ho hm hz hl
  have hlen : (digs b (valB b D)).length = m := by rw [← e, List.length_take, Nat.min_eq_left hm]
  rw [hlen, e]
end NatP
end Go.Proofs.YtfgnghgmffaepaaDoor

namespace Go.Proofs.YtfgnghgmffaepaaDoor
namespace NatP

/-- A sum, digit by digit. -/
structure AddG (b : Nat) (X Y D : List Nat) (i cr v : Nat) : Prop where
  len : D.length = i
  ok : OkB b D
  cr1 : cr ≤ 1
  eq : valB b D + b ^ i * (cr + valB b (X.drop i) + valB b (Y.drop i)) = v
theorem drop_val {b : Nat} (l : List Nat) (i : Nat) : valB b (l.drop i) = l.getD i 0 + b * valB b (l.drop (i + 1)) := by
  rcases Nat.lt_or_ge i l.length with h | h
  · rw [List.drop_eq_getElem_cons h, List.getD_eq_getElem?_getD, List.getElem?_eq_getElem h]; rfl
  · rw [List.drop_of_length_le h, List.drop_of_length_le (by omega), List.getD_eq_getElem?_getD, List.getElem?_eq_none h]; rfl
theorem AddG.step {b : Nat} (hb : 2 ≤ b) {X Y D : List Nat} {i cr v : Nat} (h : AddG b X Y D i cr v) (hx : OkB b X) (hy : OkB b Y) :
    AddG b X Y (D ++ [(cr + X.getD i 0 + Y.getD i 0) % b]) (i + 1) ((cr + X.getD i 0 + Y.getD i 0) / b) v := by
  have h1 := ok_getD (by omega) hx i
  have h2 := ok_getD (by omega) hy i
  refine ⟨by simp [h.len], fun z hz => ?_, ?_, ?_⟩
  · rcases List.mem_append.1 hz with hz | hz
    · exact h.ok z hz
    · simp at hz; subst hz; exact Nat.mod_lt _ (by omega)
  · have : (cr + X.getD i 0 + Y.getD i 0) / b < 2 := Nat.div_lt_of_lt_mul (by have := h.cr1; omega)
    omega
  · have e := h.eq
    rw [drop_val X i, drop_val Y i] at e
    rw [val_snoc, h.len, Nat.pow_succ]
    have e5 := Nat.mod_add_div (cr + X.getD i 0 + Y.getD i 0) b
    generalize (cr + X.getD i 0 + Y.getD i 0) / b = q at *
    generalize (cr + X.getD i 0 + Y.getD i 0) % b = r at *
    generalize valB b (X.drop (i + 1)) = P at *
    generalize valB b (Y.drop (i + 1)) = Q at *
    have e6 : b ^ i * (r + b * q + b * P + b * Q) = b ^ i * (cr + (X.getD i 0 + b * P) + (Y.getD i 0 + b * Q)) := by rw [e5]; congr 1; omega
    rw [← e, ← e6]
    rw [Nat.mul_assoc]
    simp only [Nat.mul_add]
    omega
theorem AddG.done {b : Nat} {X Y D : List Nat} {i v : Nat} (h : AddG b X Y D i 0 v) (hx : X.length ≤ i) (hy : Y.length ≤ i) : valB b D = v := by
  have e := h.eq
  rw [List.drop_of_length_le hx, List.drop_of_length_le hy] at e
  simpa [valB] using e

/-- A product, digit by digit: behind i digits of the first factor. -/
structure MulG (b : Nat) (X Y out : List Nat) (i : Nat) : Prop where
  ok : OkB b out
  eq : valB b out = valB b (X.take i) * valB b Y
/-- And behind j digits of the second. -/
structure MulH (b : Nat) (X Y out : List Nat) (i x j cr : Nat) : Prop where
  ok : OkB b out
  cr1 : cr < b
  eq : valB b out + b ^ (i + j) * cr = valB b (X.take i) * valB b Y + b ^ i * (x * valB b (Y.take j))
/-- And where the rest is carried on to place k. -/
structure MulC (b : Nat) (X Y out : List Nat) (i k cr : Nat) : Prop where
  ok : OkB b out
  cr1 : cr < b
  eq : valB b out + b ^ k * cr = valB b (X.take (i + 1)) * valB b Y
theorem MulG.start {b : Nat} (hb : 2 ≤ b) {X Y out : List Nat} {i x : Nat} (h : MulG b X Y out i) : MulH b X Y out i x 0 0 :=
  ⟨h.ok, by omega, by rw [h.eq]; simp [valB]⟩
theorem mul_lt2 {b x y o c : Nat} (hx : x < b) (hy : y < b) (ho : o < b) (hc : c < b) : x * y + o + c < b * b := by
  have h1 : x * y ≤ (b - 1) * (b - 1) := Nat.mul_le_mul (by omega) (by omega)
  obtain ⟨a, rfl⟩ : ∃ a, b = a + 1 := ⟨b - 1, by omega⟩
  simp only [Nat.add_sub_cancel] at h1
  have : (a + 1) * (a + 1) = a * a + a + a + 1 := by rw [Nat.add_mul, Nat.mul_add]; omega
  omega
theorem MulH.step {b : Nat} (hb : 2 ≤ b) {X Y out : List Nat} {i x j cr y o : Nat} (h : MulH b X Y out i x j cr) (hx : x < b) (hy : OkB b Y) (hyj : Y[j]? = some y) (hoj : out[i + j]? = some o) :
    MulH b X Y (out.set (i + j) ((x * y + o + cr) % b)) i x (j + 1) ((x * y + o + cr) / b) := by
  have hyl : y < b := hy y (List.mem_of_getElem? hyj)
  have hol : o < b := h.ok o (List.mem_of_getElem? hoj)
  refine ⟨ok_set h.ok (Nat.mod_lt _ (by omega)), Nat.div_lt_of_lt_mul (mul_lt2 hx hyl hol h.cr1), ?_⟩
  have e1 := val_set (b := b) (v := (x * y + o + cr) % b) hoj
  have e3 := val_take_succ b Y j
  have e4 : Y.getD j 0 = y := by rw [List.getD_eq_getElem?_getD, hyj]; rfl
  have e5 := h.eq
  have e6 := Nat.mod_add_div (x * y + o + cr) b
  rw [e4] at e3
  rw [e3, Nat.mul_add x, Nat.mul_add (b ^ i), ← Nat.add_assoc i, ← Nat.add_assoc (valB b (List.take i X) * valB b Y), ← e5, Nat.pow_succ]
  generalize (x * y + o + cr) % b = r at *
  generalize (x * y + o + cr) / b = d at *
  have e7 : b ^ (i + j) * (r + b * d) = b ^ (i + j) * (x * y + o + cr) := by rw [e6]
  have e8 : b ^ i * (x * (b ^ j * y)) = b ^ (i + j) * (x * y) := by
    rw [Nat.pow_add, Nat.mul_assoc, Nat.mul_left_comm x]
  rw [e8]
  rw [Nat.mul_add, Nat.mul_add, Nat.mul_add, ← Nat.mul_assoc] at e7
  omega
theorem MulH.carry {b : Nat} {X Y out : List Nat} {i x cr n2 : Nat} (h : MulH b X Y out i x n2 cr) (hxi : X[i]? = some x) (hl : Y.length = n2) : MulC b X Y out i (i + n2) cr := by
  refine ⟨h.ok, h.cr1, ?_⟩
  have e2 := val_take_succ b X i
  have e4 : X.getD i 0 = x := by rw [List.getD_eq_getElem?_getD, hxi]; rfl
  rw [h.eq, List.take_of_length_le (l := Y) (by omega), e2, e4, Nat.add_mul, Nat.mul_assoc]
theorem MulC.step {b : Nat} (hb : 2 ≤ b) {X Y out : List Nat} {i k cr o : Nat} (h : MulC b X Y out i k cr) (ho : out[k]? = some o) :
    MulC b X Y (out.set k ((o + cr) % b)) i (k + 1) ((o + cr) / b) := by
  have hol : o < b := h.ok o (List.mem_of_getElem? ho)
  have hcr := h.cr1
  refine ⟨ok_set h.ok (Nat.mod_lt _ (by omega)), ?_, ?_⟩
  · have : (o + cr) / b < 2 := Nat.div_lt_of_lt_mul (by omega)
    omega
  · have e1 := val_set (b := b) (v := (o + cr) % b) ho
    have e6 := Nat.mod_add_div (o + cr) b
    rw [← h.eq, Nat.pow_succ]
    generalize (o + cr) % b = r at *
    generalize (o + cr) / b = d at *
    have e7 : b ^ k * (r + b * d) = b ^ k * (o + cr) := by rw [e6]
    rw [Nat.mul_add, Nat.mul_add, ← Nat.mul_assoc] at e7
    omega
/-- The rest dies before the row's end. -/
theorem MulC.lt {b : Nat} (hb : 2 ≤ b) {X Y out : List Nat} {i k cr : Nat} (h : MulC b X Y out i k cr) (hx : OkB b X) (hy : OkB b Y) (hi : i < X.length) (hc : 0 < cr) : k < X.length + Y.length := by
  have h1 := val_lt hb (ok_take hx (i + 1))
  have h2 := val_lt hb hy
  rw [List.length_take, Nat.min_eq_left (by omega)] at h1
  have h3 : b ^ k ≤ valB b (X.take (i + 1)) * valB b Y := by
    rw [← h.eq]
    have : b ^ k * 1 ≤ b ^ k * cr := Nat.mul_le_mul_left _ hc
    omega
  have h4 : valB b (X.take (i + 1)) * valB b Y < b ^ (i + 1) * b ^ Y.length := by
    rcases Nat.eq_zero_or_pos (valB b Y) with h0 | h0
    · rw [h0, Nat.mul_zero]; exact Nat.mul_pos (Nat.pow_pos (by omega)) (Nat.pow_pos (by omega))
    · exact Nat.mul_lt_mul'' h1 h2
  rw [← Nat.pow_add] at h4
  have h5 : b ^ k < b ^ (i + 1 + Y.length) := Nat.lt_of_le_of_lt h3 h4
  have := (Nat.pow_lt_pow_iff_right (by omega : 1 < b)).1 h5
  omega
theorem MulC.done {b : Nat} {X Y out : List Nat} {i k : Nat} (h : MulC b X Y out i k 0) : MulG b X Y out (i + 1) := ⟨h.ok, by simpa using h.eq⟩

/-- A number's rest at one digit after the other, the highest first. -/
structure OverG (b : Nat) (X out : List Nat) (d m rest : Nat) : Prop where
  len : out.length = X.length
  ok : OkB b out
  rlt : rest < d
  zero : ∀ j x, j < m → out[j]? = some x → x = 0
  eq : valB b X = valB b out * d + b ^ m * rest + valB b (X.take m)
theorem OverG.start {b : Nat} (hb : 2 ≤ b) {X : List Nat} {d : Nat} (hd : 0 < d) : OverG b X (List.replicate X.length 0) d X.length 0 :=
  ⟨by simp, ok_zeros (by omega) _, hd, fun j x _ hx => List.eq_of_mem_replicate (List.mem_of_getElem? hx), by simp [val_zeros]⟩
theorem OverG.step {b : Nat} {X out : List Nat} {d k rest x : Nat} (h : OverG b X out d (k + 1) rest) (hx : X[k]? = some x) (hxl : x < b) :
    OverG b X (out.set k ((rest * b + x) / d)) d k ((rest * b + x) % d) := by
  have hk : k < out.length := by rw [h.len]; exact (List.getElem?_eq_some_iff.1 hx).1
  obtain ⟨z, hz⟩ : ∃ z, out[k]? = some z := ⟨_, List.getElem?_eq_getElem hk⟩
  have hz0 := h.zero k z (Nat.lt_succ_self k) hz
  subst hz0
  have hd : 0 < d := by have := h.rlt; omega
  have hq : (rest * b + x) / d < b := Nat.div_lt_of_lt_mul (by
    have : (rest + 1) * b ≤ d * b := Nat.mul_le_mul_right _ h.rlt
    rw [Nat.add_mul, Nat.one_mul] at this
    omega)
  refine ⟨by simp [h.len], ok_set h.ok hq, Nat.mod_lt _ hd, fun j y hj hy => ?_, ?_⟩
  · rw [List.getElem?_set_ne (by omega)] at hy
    exact h.zero j y (by omega) hy
  · have e1 := val_set (b := b) (v := (rest * b + x) / d) hz
    have e2 := val_take_succ b X k
    have e3 : X.getD k 0 = x := by rw [List.getD_eq_getElem?_getD, hx]; rfl
    have e4 := h.eq
    have e5 := Nat.mod_add_div (rest * b + x) d
    rw [e3] at e2
    rw [e2] at e4
    generalize (rest * b + x) / d = q at *
    generalize (rest * b + x) % d = r at *
    rw [Nat.mul_zero, Nat.add_zero] at e1
    rw [e1, e4, Nat.pow_succ]
    have e6 : b ^ k * (r + d * q) = b ^ k * (rest * b + x) := by rw [e5]
    rw [Nat.mul_add, Nat.mul_add] at e6
    have e7 : b ^ k * (d * q) = b ^ k * q * d := by rw [Nat.mul_comm d q, Nat.mul_assoc]
    have e8 : b ^ k * (rest * b) = b ^ k * b * rest := by rw [Nat.mul_comm rest, Nat.mul_assoc]
    rw [Nat.add_mul]
    omega
theorem OverG.done {b : Nat} {X out : List Nat} {d rest : Nat} (h : OverG b X out d 0 rest) : valB b out = valB b X / d ∧ rest = valB b X % d := by
  have e := h.eq
  have hr := h.rlt
  simp only [Nat.pow_zero, Nat.one_mul, List.take_zero, valB, Nat.add_zero] at e
  rw [e]
  constructor
  · rw [Nat.mul_comm, Nat.mul_add_div (by omega), Nat.div_eq_of_lt hr]; rfl
  · rw [Nat.mul_comm, Nat.mul_add_mod, Nat.mod_eq_of_lt hr]

theorem lt_atB {b : Nat} (hb : 2 ≤ b) {xs ys : List Nat} (ox : OkB b xs) (k : Nat) {x y : Nat} (hx : xs[k]? = some x) (hy : ys[k]? = some y) (hd : xs.drop (k + 1) = ys.drop (k + 1)) (h : x < y) : valB b xs < valB b ys := by
  have hkx : k < xs.length := (List.getElem?_eq_some_iff.1 hx).1
  have part : ∀ (l : List Nat) (z : Nat), l[k]? = some z → valB b l = valB b (l.take k) + b ^ k * (z + b * valB b (l.drop (k + 1))) := by
    intro l z hz
    have hk : k < l.length := (List.getElem?_eq_some_iff.1 hz).1
    have e : l = l.take k ++ z :: l.drop (k + 1) := by
      have := List.drop_eq_getElem_cons hk
      have hz' : l[k] = z := (List.getElem?_eq_some_iff.1 hz).2
      rw [hz'] at this
      rw [← this, List.take_append_drop]
    have e2 := congrArg (valB b) e
    rw [val_append, List.length_take, Nat.min_eq_left (Nat.le_of_lt hk)] at e2
    exact e2
  have e1 := part xs x hx
  have e2 := part ys y hy
  have e3 : valB b (xs.take k) < b ^ k := by
    have := val_lt hb (ok_take ox k)
    rwa [List.length_take, Nat.min_eq_left (Nat.le_of_lt hkx)] at this
  rw [hd] at e1
  have e4 : b ^ k * (x + b * valB b (ys.drop (k + 1)) + 1) ≤ b ^ k * (y + b * valB b (ys.drop (k + 1))) := Nat.mul_le_mul (Nat.le_refl _) (by omega)
  rw [Nat.mul_add _ _ 1, Nat.mul_one] at e4
  omega
theorem digs_len_of_lt {b : Nat} (hb : 2 ≤ b) : ∀ (k v : Nat), v < b ^ k → (digs b v).length ≤ k
  | 0, v, h => by have : v = 0 := by simpa using h
                  subst this; simp [digs_zero]
  | k + 1, v, h => by
    rcases Nat.eq_zero_or_pos v with rfl | hv
    · simp [digs_zero]
    · rw [digs_pos hb hv, List.length_cons]
      have : v / b < b ^ k := Nat.div_lt_of_lt_mul (by rw [Nat.mul_comm, ← Nat.pow_succ]; exact h)
      have := digs_len_of_lt hb k _ this
      omega
theorem lt_of_lenB {b : Nat} (hb : 2 ≤ b) {v u : Nat} (h : (digs b v).length < (digs b u).length) : v < u := by
  rcases Nat.lt_or_ge v u with h1 | h1
  · exact h1
  · have h2 := val_lt hb (ok_digs hb v)
    rw [val_digs hb] at h2
    have := digs_len_of_lt hb (digs b v).length u (by omega)
    omega
end NatP
end Go.Proofs.YtfgnghgmffaepaaDoor
