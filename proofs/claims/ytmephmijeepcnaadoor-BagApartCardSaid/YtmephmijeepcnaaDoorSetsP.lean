/- Which of the numbers below 64 two lists name: plain lists, no program. No condition. -/
import Derived.Test.YtmephmijeepcnaaDoorBagP
namespace Go.Proofs.YtmephmijeepcnaaDoor
namespace BagP

def md (x : Int) : Int := x % 64
theorem md_tmod (x : Int) : (x.tmod 64 + 64) % 64 = md x := by
  unfold md
  rcases Int.lt_or_le x 0 with h | h
  · have : x.tmod 64 = -((-x) % 64) := by
      rw [← Int.tmod_eq_emod_of_nonneg (by omega : 0 ≤ -x), Int.neg_tmod, Int.neg_neg]
    omega
  · rw [Int.tmod_eq_emod_of_nonneg h]; omega
theorem md_range (x : Int) : 0 ≤ md x ∧ md x < 64 := by unfold md; omega
theorem tmod_range (x : Int) : -63 ≤ x.tmod 64 ∧ x.tmod 64 ≤ 63 := by
  rcases Int.lt_or_le x 0 with h | h
  · have : x.tmod 64 = -((-x) % 64) := by
      rw [← Int.tmod_eq_emod_of_nonneg (by omega : 0 ≤ -x), Int.neg_tmod, Int.neg_neg]
    omega
  · rw [Int.tmod_eq_emod_of_nonneg h]; omega

/-- 1: in the first list; 2: in the second; 3: in both. -/
def flag (us cs : List Int) (j : Nat) : Int := (if (j : Int) ∈ us then 1 else 0) + (if (j : Int) ∈ cs then 2 else 0)
def inn (us cs : List Int) : List Int := (List.range 64).map (flag us cs)
theorem inn_at {us cs : List Int} {j : Nat} (h : j < 64) : (inn us cs)[j]? = some (flag us cs j) := by
  unfold inn; rw [List.getElem?_map, List.getElem?_range h]; rfl
theorem inn_len (us cs : List Int) : (inn us cs).length = 64 := by simp [inn]
theorem inn_nil : inn [] [] = List.replicate 64 0 := by decide
theorem inn_set1 {us : List Int} {k y : Nat} (hy : y < 64) (ha : us[k]? = some (y : Int)) : (inn (us.take k) []).set y 1 = inn (us.take (k + 1)) [] := by
  apply List.ext_getElem?
  intro j
  rw [List.getElem?_set]
  by_cases e : y = j
  · subst e
    rw [if_pos rfl, if_pos (by rw [inn_len]; exact hy), inn_at hy, List.take_add_one, ha]
    simp [flag]
  · rw [if_neg e]
    rcases Nat.lt_or_ge j 64 with h | h
    · rw [inn_at h, inn_at h, List.take_add_one, ha]
      have : ¬ ((j : Int) = (y : Int)) := by omega
      simp [flag, this]
    · rw [List.getElem?_eq_none (by rw [inn_len]; exact h), List.getElem?_eq_none (by rw [inn_len]; exact h)]
theorem inn_set2 {us cs : List Int} {k y : Nat} (hy : y < 64) (ha : cs[k]? = some (y : Int)) : (inn us (cs.take k)).set y ((if (y : Int) ∈ us then 1 else 0) + 2) = inn us (cs.take (k + 1)) := by
  apply List.ext_getElem?
  intro j
  rw [List.getElem?_set]
  by_cases e : y = j
  · subst e
    rw [if_pos rfl, if_pos (by rw [inn_len]; exact hy), inn_at hy, List.take_add_one, ha]
    simp [flag]
  · rw [if_neg e]
    rcases Nat.lt_or_ge j 64 with h | h
    · rw [inn_at h, inn_at h, List.take_add_one, ha]
      have : ¬ ((j : Int) = (y : Int)) := by omega
      simp [flag, this]
    · rw [List.getElem?_eq_none (by rw [inn_len]; exact h), List.getElem?_eq_none (by rw [inn_len]; exact h)]
theorem or1 (us : List Int) (y : Nat) : bits .or .i64 (flag us [] y) 1 = 1 := by
  unfold flag
  by_cases h : (y : Int) ∈ us <;> simp [h] <;> decide
theorem or2 (us cs : List Int) (y : Nat) : bits .or .i64 (flag us cs y) 2 = (if (y : Int) ∈ us then 1 else 0) + 2 := by
  unfold flag
  by_cases h : (y : Int) ∈ us <;> by_cases h' : (y : Int) ∈ cs <;> simp [h, h'] <;> decide

/-- Do both lists name the same numbers below k? -/
def alikeTo (us cs : List Int) (k : Nat) : Bool := (List.range k).all fun j => decide ((j : Int) ∈ us) == decide ((j : Int) ∈ cs)
theorem alike_step (us cs : List Int) (k : Nat) : alikeTo us cs (k + 1) = (alikeTo us cs k && (decide ((k : Int) ∈ us) == decide ((k : Int) ∈ cs))) := by
  unfold alikeTo; rw [List.range_succ, List.all_append]; simp
theorem flag_alike (us cs : List Int) (k : Nat) : ((flag us cs k == 0) || (flag us cs k == 3)) = (decide ((k : Int) ∈ us) == decide ((k : Int) ∈ cs)) := by
  unfold flag
  by_cases h : (k : Int) ∈ us <;> by_cases h' : (k : Int) ∈ cs <;> simp [h, h']
theorem alike_iff {us cs : List Int} (ha : ∀ x ∈ us, 0 ≤ x ∧ x < ((64 : Nat) : Int)) (hc : ∀ x ∈ cs, 0 ≤ x ∧ x < ((64 : Nat) : Int)) : alikeTo us cs 64 = decide (bitsOf 64 us = bitsOf 64 cs) := by
  rw [Bool.eq_iff_iff, decide_eq_true_iff]
  unfold alikeTo
  rw [List.all_eq_true]
  constructor
  · intro h
    refine ext_words (by rw [length_bitsOf, length_bitsOf]) (ok_bitsOf _ _) (ok_bitsOf _ _) (fun y hy => ?_)
    rw [length_bitsOf] at hy
    have := h y (List.mem_range.2 (by simpa [wlen] using hy))
    rw [has_bitsOf ha, has_bitsOf hc]
    simpa using this
  · intro h j _
    have e1 := has_bitsOf ha j
    have e2 := has_bitsOf hc j
    rw [h, e2] at e1
    rw [← e1]
    simp
theorem orL_comm (x y : List Nat) : orL x y = orL y x := by
  unfold orL
  rw [List.zipWith_comm]
  congr 1
  funext a b
  exact Nat.or_comm _ _
theorem orL_absorb {x y : List Nat} (hl : x.length = y.length) : orL (orL x y) x = orL x y := by
  unfold orL
  apply List.ext_getElem?
  intro i
  rw [List.getElem?_zipWith, List.getElem?_zipWith]
  cases h1 : x[i]? with
  | none => simp
  | some a => cases h2 : y[i]? with
    | none => simp
    | some b => simp [Nat.or_comm a b, Nat.or_assoc]

theorem getL_rising (n : Nat) (l : List Nat) : (getL n l).Pairwise (· < ·) := by
  unfold getL
  rw [List.pairwise_map]
  refine List.Pairwise.imp (fun h => by omega) (List.Pairwise.filter _ List.pairwise_lt_range)
theorem rising_at {l : List Int} (h : l.Pairwise (· < ·)) {k : Nat} {a b : Int} (ha : l[k]? = some a) (hb : l[k + 1]? = some b) : a < b := by
  have h1 : k < l.length := (List.getElem?_eq_some_iff.1 ha).1
  have h2 : k + 1 < l.length := (List.getElem?_eq_some_iff.1 hb).1
  have := List.pairwise_iff_getElem.1 h k (k + 1) h1 h2 (by omega)
  rw [List.getElem?_eq_getElem h1] at ha
  rw [List.getElem?_eq_getElem h2] at hb
  cases ha; cases hb
  exact this
theorem getL_le (n : Nat) (l : List Nat) : (getL n l).length ≤ n := by
  simp only [getL, List.length_map]; exact Nat.le_trans (List.length_filter_le _ _) (by simp)

/-- What comes of the five calls: two sets, their union, three times. -/
structure Five (X Y : List Nat) (al : Bool) (j u : Nat) (S2 S3 : List (List Nat)) : Prop where
  s2 : (if Y ∈ [X] then [X] else [X] ++ [Y]) = S2
  j2 : S2.idxOf Y = j
  f2 : (!decide (Y ∈ [X])) = !al
  i0 : S2[0]? = some X
  j0 : S2[j]? = some Y
  room : S2.length < 4096
  s3 : (if orL X Y ∈ S2 then S2 else S2 ++ [orL X Y]) = S3
  u3 : S3.idxOf (orL X Y) = u
  ui : S3[u]? = some (orL X Y)
  i3 : S3[0]? = some X
  j3 : S3[j]? = some Y
  mem : orL X Y ∈ S3
  ij : ((0 : Int) == (j : Int)) = al
theorem idx_get {S : List (List Nat)} {l : List Nat} (h : l ∈ S) : S[S.idxOf l]? = some l := by
  have h2 := List.idxOf_lt_length_of_mem h
  rw [List.getElem?_eq_getElem h2]; simp
theorem five (X Y : List Nat) : ∃ j u S2 S3, Five X Y (decide (X = Y)) j u S2 S3 := by
  by_cases e : X = Y
  · subst e
    have hm : ∀ S : List (List Nat), orL X X ∈ (if orL X X ∈ S then S else S ++ [orL X X]) := by
      intro S; split
      · assumption
      · simp
    refine ⟨0, _, [X], _, ⟨by simp, by simp, by simp, rfl, rfl, by simp, rfl, rfl, idx_get (hm _), ?_, ?_, hm _, by simp⟩⟩ <;> (split <;> rfl)
  · have e' : ¬ Y = X := fun h => e h.symm
    have hm : orL X Y ∈ (if orL X Y ∈ [X, Y] then [X, Y] else [X, Y] ++ [orL X Y]) := by
      split
      · assumption
      · simp
    refine ⟨1, _, [X, Y], _, ⟨by simp [e'], ?_, by simp [e, e'], rfl, rfl, by simp, rfl, rfl, idx_get hm, ?_, ?_, hm, by simp [e]⟩⟩
    · have : ¬ (X == Y) = true := by simpa using e
      simp [List.idxOf_cons, this]
    · split <;> rfl
    · split <;> rfl

end BagP
end Go.Proofs.YtmephmijeepcnaaDoor
