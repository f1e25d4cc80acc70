/- How many preimages words have, as plain lists: if every word has one, every word has its fair share. No program. No condition. The garden of Eden, as plain lists: every word has a preimage just if there are no twins. No program. No condition. The graph of the pairs of a rule's nodes, and its ways: a way through pairs that are apart is there just if the rule has twins. Plain lists, no program. No condition. Numbers in memory: what nat.norm, nat.From, nat.Add return. Condition: the limbs read from memory. -/
import Derived.IntWalk
import Derived.Test.YtibplgpolmplpaaGreatDoorX1
import Derived.Test.YtibplgpolmplpaaGreatDoorX4
import Derived.Test.YtibplgpolmplpaaGreatDoorX7
namespace Go.Proofs.YtibplgpolmplpaaGreatDoor
namespace RuleP

/-! ### counting without repetition -/
theorem nodupL_le {α : Type} [BEq α] [LawfulBEq α] {a b : List α} (ha : a.Nodup) (h : ∀ x ∈ a, x ∈ b) : a.length ≤ b.length := by
  induction a generalizing b with
  | nil => exact Nat.zero_le _
  | cons x a ih =>
    have hx := h x (by simp)
    have h1 : ∀ y ∈ a, y ∈ b.erase x := fun y hy => (List.mem_erase_of_ne (fun (e : y = x) => (List.nodup_cons.1 ha).1 (by rw [← e]; exact hy))).2 (h y (by simp [hy]))
    have h2 := ih (List.nodup_cons.1 ha).2 h1
    rw [List.length_erase_of_mem hx] at h2
    have h3 := List.length_pos_of_mem hx
    rw [List.length_cons]
    omega
theorem inj_le {α β : Type} [BEq β] [LawfulBEq β] {a : List α} {b : List β} (f : α → β) (ha : a.Nodup) (hf : ∀ x ∈ a, f x ∈ b) (hi : ∀ x ∈ a, ∀ y ∈ a, f x = f y → x = y) : a.length ≤ b.length := by
  have h1 : (a.map f).Nodup := by
    rw [List.nodup_iff_pairwise_ne, List.pairwise_map]
    exact ha.imp_of_mem fun {x y} hx hy hne e => hne (hi x hx y hy e)
  have h2 := nodupL_le h1 (b := b) (fun x hx => by
    obtain ⟨y, hy, rfl⟩ := List.mem_map.1 hx
    exact hf y hy)
  rwa [List.length_map] at h2
theorem mem_allW {k : Nat} : ∀ {n : Nat} {w : List Nat}, w.length = n → (∀ c ∈ w, c < k) → w ∈ allW k n
  | 0, [], _, _ => by rw [allW]; simp
  | 0, _ :: _, h, _ => by simp at h
  | n + 1, [], h, _ => by simp at h
  | n + 1, c :: w, h, hw => by
    rw [allW, List.mem_flatMap]
    exact ⟨c, List.mem_range.2 (hw c (by simp)), List.mem_map.2 ⟨w, mem_allW (by simpa using h) (fun x hx => hw x (by simp [hx])), rfl⟩⟩
theorem allW_nodup {k : Nat} (hk : 0 < k) (n : Nat) : (allW k n).Nodup := by
  rw [← allW_dig hk n, List.nodup_iff_pairwise_ne, List.pairwise_map]
  refine List.nodup_range.imp_of_mem fun {a b} ha hb hne e => hne ?_
  have h1 := dig_wval hk (List.mem_range.1 ha)
  have h2 := dig_wval hk (List.mem_range.1 hb)
  rw [← h1, ← h2, e]

/-- The preimages. -/
def preL (k r : Nat) (t w : List Nat) : List (List Nat) := (allW k (w.length + 2 * r)).filter fun v => decide (image k r t v = w)
theorem mem_preL {k r : Nat} {t w v : List Nat} : v ∈ preL k r t w ↔ v.length = w.length + 2 * r ∧ (∀ x ∈ v, x < k) ∧ image k r t v = w := by
  unfold preL
  rw [List.mem_filter, decide_eq_true_eq]
  constructor
  · rintro ⟨h1, h2⟩
    exact ⟨(allW_sym h1).1, (allW_sym h1).2, h2⟩
  · rintro ⟨h1, h2, h3⟩
    exact ⟨mem_allW h1 h2, h3⟩
theorem preL_nodup {k r : Nat} {t w : List Nat} (hk : 0 < k) : (preL k r t w).Nodup := List.Nodup.sublist List.filter_sublist (allW_nodup hk _)
/-- The preimages are as many as the search finds. -/
theorem before_len {k r : Nat} {t w : List Nat} (hk : 0 < k) (hb : (before k r t w).Nodup) : (before k r t w).length = (preL k r t w).length := by
  have hiff : ∀ v, v ∈ before k r t w ↔ v ∈ preL k r t w := by
    intro v
    constructor
    · intro hy
      obtain ⟨u, z, hu, hz, rfl⟩ := before_mem.1 hy
      obtain ⟨h1, h2, h3⟩ := (sols_iff hk hu).1 hz
      refine mem_preL.2 ⟨by rw [List.length_append, digB_len, h1]; omega, fun x hx => ?_, h3⟩
      rcases List.mem_append.1 hx with hx | hx
      · exact digB_sym hk _ _ x hx
      · exact h2 x hx
    · intro hv
      obtain ⟨h1, h2, h3⟩ := mem_preL.1 hv
      have e : v = v.take (2 * r) ++ v.drop (2 * r) := (List.take_append_drop _ _).symm
      have ht : (v.take (2 * r)).length = 2 * r := by rw [List.length_take]; omega
      have hts : ∀ x ∈ v.take (2 * r), x < k := fun x hx => h2 x (List.mem_of_mem_take hx)
      have hu := wval_lt hts
      rw [ht] at hu
      have hd := digB_wval hk (2 * r) (v.take (2 * r)) ht hts
      have hz := (sols_iff (t := t) (w := w) (z := v.drop (2 * r)) hk hu).2 ⟨by rw [List.length_drop]; omega, fun x hx => h2 x (List.mem_of_mem_drop hx), by rw [hd, ← e]; exact h3⟩
      exact before_mem.2 ⟨_, _, hu, hz, by rw [hd]; exact e⟩
  exact Nat.le_antisymm (nodupL_le hb fun v hv => (hiff v).1 hv) (nodupL_le (preL_nodup hk) fun v hv => (hiff v).2 hv)
end RuleP
end Go.Proofs.YtibplgpolmplpaaGreatDoor

namespace Go.Proofs.YtibplgpolmplpaaGreatDoor
namespace RuleP

/-- Two words that differ, with the same ends and the same image. -/
structure Twin (k r : Nat) (t a b : List Nat) : Prop where
  len : a.length = b.length
  long : 2 * r ≤ a.length
  sa : ∀ x ∈ a, x < k
  sb : ∀ x ∈ b, x < k
  ne : a ≠ b
  fst : a.take (2 * r) = b.take (2 * r)
  lst : a.drop (a.length - 2 * r) = b.drop (b.length - 2 * r)
  img : image k r t a = image k r t b
end RuleP
end Go.Proofs.YtibplgpolmplpaaGreatDoor

namespace Go.Proofs.YtibplgpolmplpaaGreatDoor
open RuleP MeetP
namespace PairP

/-- Is there an edge of pairs from p to q? -/
def edgeB (k N : Nat) (t : List Nat) (p q : Nat) : Bool :=
  (List.range k).any fun s => (List.range k).any fun s' => decide (t.getD (p / N * k + s) 0 = t.getD (p % N * k + s') 0 ∧ q = (p / N * k + s) % N * N + (p % N * k + s') % N)
def pairRow (k N : Nat) (t : List Nat) (p : Nat) : List Nat := (List.range (N * N)).filter (edgeB k N t p)
def pairG (k N : Nat) (t : List Nat) : List (List Nat) := (List.range (N * N)).map (pairRow k N t)
theorem edgeB_iff {k N : Nat} {t : List Nat} {p q : Nat} : edgeB k N t p q = true ↔ ∃ s s', s < k ∧ s' < k ∧ t.getD (p / N * k + s) 0 = t.getD (p % N * k + s') 0 ∧ q = (p / N * k + s) % N * N + (p % N * k + s') % N := by
  unfold edgeB
  simp only [List.any_eq_true, List.mem_range, decide_eq_true_eq]
  constructor
  · rintro ⟨s, hs, s', hs', h⟩; exact ⟨s, s', hs, hs', h⟩
  · rintro ⟨s, s', hs, hs', h⟩; exact ⟨s, hs, s', hs', h⟩
theorem edge_lt {k N : Nat} {t : List Nat} {p q : Nat} (hN : 0 < N) (h : edgeB k N t p q = true) : q < N * N := by
  obtain ⟨s, s', _, _, _, rfl⟩ := edgeB_iff.1 h
  have h1 := Nat.mod_lt (p / N * k + s) hN
  have h2 := Nat.mod_lt (p % N * k + s') hN
  have : ((p / N * k + s) % N + 1) * N ≤ N * N := Nat.mul_le_mul_right N h1
  rw [Nat.succ_mul] at this
  omega
theorem mem_row {k N : Nat} {t : List Nat} {p q : Nat} (hN : 0 < N) : q ∈ pairRow k N t p ↔ edgeB k N t p q = true := by
  unfold pairRow
  rw [List.mem_filter, List.mem_range]
  exact ⟨fun h => h.2, fun h => ⟨edge_lt hN h, h⟩⟩
theorem pairG_len (k N : Nat) (t : List Nat) : (pairG k N t).length = N * N := by simp [pairG]
theorem pairG_at {k N : Nat} {t : List Nat} {p : Nat} (hp : p < N * N) : (pairG k N t).getD p [] = pairRow k N t p := by
  unfold pairG
  rw [List.getD_eq_getElem?_getD, List.getElem?_map, List.getElem?_range hp]
  rfl
theorem pairG_out {k N : Nat} {t : List Nat} {p : Nat} (hp : ¬ p < N * N) : (pairG k N t).getD p [] = [] := by
  rw [List.getD_eq_getElem?_getD, List.getElem?_eq_none (by rw [pairG_len]; omega)]
  rfl
theorem mem_G {k N : Nat} {t : List Nat} {p q : Nat} (hN : 0 < N) : q ∈ (pairG k N t).getD p [] ↔ p < N * N ∧ edgeB k N t p q = true := by
  by_cases hp : p < N * N
  · rw [pairG_at hp, mem_row hN]; exact ⟨fun h => ⟨hp, h⟩, fun h => h.2⟩
  · rw [pairG_out hp]; exact ⟨fun h => by simp at h, fun h => absurd h.1 hp⟩
theorem pairG_ok {k N : Nat} {t : List Nat} (hN : 0 < N) : Ok N (pairG k N t) := ⟨pairG_len k N t, fun _ _ h => edge_lt hN ((mem_G hN).1 h).2⟩
theorem pair_div {N u v : Nat} (hv : v < N) : (u * N + v) / N = u ∧ (u * N + v) % N = v := by
  have hN : 0 < N := by omega
  rw [Nat.mul_comm, Nat.mul_add_div hN, Nat.mul_add_mod, Nat.mod_eq_of_lt hv, Nat.div_eq_of_lt hv, Nat.add_zero]
  exact ⟨rfl, rfl⟩
theorem pair_lt {N u v : Nat} (hu : u < N) (hv : v < N) : u * N + v < N * N := by
  have : (u + 1) * N ≤ N * N := Nat.mul_le_mul_right N hu
  rw [Nat.succ_mul] at this
  omega
theorem diag_pair {N u v : Nat} (hv : v < N) : diag N (u * N + v) = decide (u = v) := by
  unfold diag
  rw [(pair_div hv).1, (pair_div hv).2]
  by_cases h : u = v <;> simp [h]

/-! ### ways in any list of edges -/
theorem edges_pre {g : List (List Nat)} : ∀ {a b : List Nat}, Edges g (a ++ b) → Edges g a
  | [], _, _ => trivial
  | [_], _, _ => trivial
  | _ :: y :: a, b, h => ⟨h.1, edges_pre (a := y :: a) (b := b) h.2⟩
/-- From a pair that is apart, to the first of equal nodes. -/
theorem until_diag (n : Nat) : ∀ (l : List Nat) (z : Nat), l.getLast? = some z → diag n z = true → ∃ xs t rest, l = xs ++ t :: rest ∧ (∀ x ∈ xs, diag n x = false) ∧ diag n t = true
  | [], _, h, _ => by cases h
  | b :: l, z, h, hz => by
    cases hb : diag n b with
    | true => exact ⟨[], b, l, rfl, fun x hx => by simp at hx, hb⟩
    | false =>
      cases l with
      | nil =>
        obtain rfl : b = z := by simpa using h
        rw [hz] at hb
        cases hb
      | cons c l =>
        obtain ⟨xs, t, rest, e, h1, h2⟩ := until_diag n (c :: l) z (by rw [← h, List.getLast?_cons_cons]) hz
        refine ⟨b :: xs, t, rest, by rw [e]; rfl, fun x hx => ?_, h2⟩
        rcases List.mem_cons.1 hx with rfl | hx
        · exact hb
        · exact h1 x hx
theorem find_way {n : Nat} {g : List (List Nat)} : ∀ (l : List Nat) (a z : Nat), diag n a = true → Edges g (a :: l) → (a :: l).getLast? = some z → diag n z = true → (∃ x ∈ l, diag n x = false) → ∃ d xs t, MeetP.Way n g d xs t ∧ d ∈ a :: l
  | [], _, _, _, _, _, _, ⟨_, hx, _⟩ => by simp at hx
  | b :: l, a, z, ha, he, hl, hz, ⟨x, hx, hxd⟩ => by
    have hl' : (b :: l).getLast? = some z := by rw [← hl, List.getLast?_cons_cons]
    cases hb : diag n b with
    | true =>
      have hx' : x ∈ l := by
        rcases List.mem_cons.1 hx with rfl | h
        · rw [hb] at hxd; cases hxd
        · exact h
      obtain ⟨d, xs, t, h1, h2⟩ := find_way l b z hb he.2 hl' hz ⟨x, hx', hxd⟩
      exact ⟨d, xs, t, h1, List.mem_cons_of_mem _ h2⟩
    | false =>
      obtain ⟨xs, t, rest, e, h1, h2⟩ := until_diag n (b :: l) z hl' hz
      refine ⟨a, xs, t, ⟨?_, ha, h2, h1, ?_⟩, List.mem_cons_self ..⟩
      · rintro rfl
        injection e with e1 e2
        rw [e1, h2] at hb
        cases hb
      · rw [e] at he
        have : Edges g ((a :: (xs ++ [t])) ++ rest) := by simpa using he
        exact edges_pre this

/-! ### the pairs along two words -/
/-- The node of word a at place i. -/
def nd (k m : Nat) (a : List Nat) (i : Nat) : Nat := wval k (win a i m)
theorem win_snoc {a : List Nat} {i m : Nat} (h : i + m < a.length) : win a i (m + 1) = win a i m ++ [a.getD (i + m) 0] := by
  unfold win
  rw [List.take_add_one, List.getElem?_drop, List.getD_eq_getElem?_getD, List.getElem?_eq_getElem h]
  rfl
theorem win_cons {a : List Nat} {i m : Nat} (h : i + m < a.length) : win a i (m + 1) = [a.getD i 0] ++ win a (i + 1) m := by
  unfold win
  rw [List.drop_eq_getElem_cons (by omega), List.take_succ_cons, List.getD_eq_getElem?_getD, List.getElem?_eq_getElem (by omega)]
  rfl
theorem nd_next {k m : Nat} {a : List Nat} (ha : ∀ x ∈ a, x < k) {i : Nat} (h : i + m < a.length) : nd k m a (i + 1) = (nd k m a i * k + a.getD (i + m) 0) % k ^ m := by
  unfold nd
  rw [← wval_snoc, ← win_snoc h, win_cons h]
  have := wval_mod (k := k) [a.getD i 0] (win_sym ha (i + 1) m)
  rw [win_len (by omega)] at this
  exact this.symm
theorem nd_lt {k m : Nat} {a : List Nat} (ha : ∀ x ∈ a, x < k) {i : Nat} (h : i + m ≤ a.length) : nd k m a i < k ^ m := by
  have := wval_lt (win_sym ha i m)
  rwa [win_len h] at this
theorem getD_lt {k : Nat} {a : List Nat} (ha : ∀ x ∈ a, x < k) {i : Nat} (h : i < a.length) : a.getD i 0 < k := by
  rw [List.getD_eq_getElem?_getD, List.getElem?_eq_getElem h]
  exact ha _ (List.getElem_mem _)
theorem label_at {k r : Nat} {t a : List Nat} {i : Nat} (h : i + 2 * r < a.length) : (image k r t a)[i]? = some (t.getD (nd k (2 * r) a i * k + a.getD (i + 2 * r) 0) 0) := by
  rw [image_at h, win_snoc h, wval_snoc]
  rfl
/-- The pairs from place i on, m more. -/
def pairsOf (k m : Nat) (a b : List Nat) : Nat → Nat → List Nat
  | i, 0 => [nd k m a i * k ^ m + nd k m b i]
  | i, j + 1 => (nd k m a i * k ^ m + nd k m b i) :: pairsOf k m a b (i + 1) j
theorem pairsOf_head (k m : Nat) (a b : List Nat) (i j : Nat) : ∃ l, pairsOf k m a b i j = (nd k m a i * k ^ m + nd k m b i) :: l := by
  cases j <;> exact ⟨_, rfl⟩
theorem pairsOf_last (k m : Nat) (a b : List Nat) : ∀ j i, (pairsOf k m a b i j).getLast? = some (nd k m a (i + j) * k ^ m + nd k m b (i + j))
  | 0, i => rfl
  | j + 1, i => by
    have h := pairsOf_last k m a b j (i + 1)
    obtain ⟨l, e⟩ := pairsOf_head k m a b (i + 1) j
    rw [pairsOf, e, List.getLast?_cons_cons, ← e, h, show i + 1 + j = i + (j + 1) by omega]
theorem pairsOf_mem (k m : Nat) (a b : List Nat) : ∀ j i u, i ≤ u → u ≤ i + j → (nd k m a u * k ^ m + nd k m b u) ∈ pairsOf k m a b i j
  | 0, i, u, h1, h2 => by
    obtain rfl : u = i := by omega
    exact List.mem_singleton.2 rfl
  | j + 1, i, u, h1, h2 => by
    rw [pairsOf]
    rcases Nat.eq_or_lt_of_le h1 with rfl | h
    · exact List.mem_cons_self ..
    · exact List.mem_cons_of_mem _ (pairsOf_mem k m a b j (i + 1) u h (by omega))
theorem pairsOf_edges {k r : Nat} {t a b : List Nat} (ha : ∀ x ∈ a, x < k) (hb : ∀ x ∈ b, x < k) (hl : a.length = b.length) (hi : image k r t a = image k r t b) : ∀ j i, i + j + 2 * r ≤ a.length → Edges (pairG k (k ^ (2 * r)) t) (pairsOf k (2 * r) a b i j)
  | 0, _, _ => trivial
  | j + 1, i, h => by
    have ih := pairsOf_edges ha hb hl hi j (i + 1) (by omega)
    obtain ⟨l, e⟩ := pairsOf_head k (2 * r) a b (i + 1) j
    rw [pairsOf]
    rw [e] at ih ⊢
    have h1 := nd_lt (m := 2 * r) ha (i := i) (by omega)
    have h2 := nd_lt (m := 2 * r) hb (i := i) (by omega)
    have hN : 0 < k ^ (2 * r) := by omega
    refine ⟨(mem_G hN).2 ⟨pair_lt h1 h2, edgeB_iff.2 ⟨a.getD (i + 2 * r) 0, b.getD (i + 2 * r) 0, getD_lt ha (by omega), getD_lt hb (by omega), ?_, ?_⟩⟩, ih⟩
    · rw [(pair_div h2).1, (pair_div h2).2]
      have e1 := label_at (k := k) (r := r) (t := t) (a := a) (i := i) (by omega)
      have e2 := label_at (k := k) (r := r) (t := t) (a := b) (i := i) (by omega)
      rw [hi, e2] at e1
      exact (Option.some.inj e1).symm
    · rw [(pair_div h2).1, (pair_div h2).2, nd_next ha (by omega), nd_next hb (by omega)]
theorem win_ext {a b : List Nat} {m : Nat} (hm : 0 < m) (hl : a.length = b.length) (hlong : m ≤ a.length) (h : ∀ i, i + m ≤ a.length → win a i m = win b i m) : a = b := by
  apply List.ext_getElem? 
  intro j
  rcases Nat.lt_or_ge j a.length with hj | hj
  · obtain ⟨i, c, e, hi, hc⟩ : ∃ i c, j = i + c ∧ i + m ≤ a.length ∧ c < m := by
      rcases Nat.lt_or_ge (j + m) (a.length + 1) with h1 | h1
      · exact ⟨j, 0, by omega, by omega, hm⟩
      · exact ⟨a.length - m, j - (a.length - m), by omega, by omega, by omega⟩
    have hw := h i hi
    have h1 := congrArg (fun l => l[c]?) hw
    unfold win at h1
    simp only [List.getElem?_take, List.getElem?_drop] at h1
    rw [if_pos hc, if_pos hc] at h1
    rw [e]
    exact h1
  · rw [List.getElem?_eq_none hj, List.getElem?_eq_none (by omega)]
/-- Twins give a way. -/
theorem twin_way {k r : Nat} {t a b : List Nat} (hr : 0 < r) (h : RuleP.Twin k r t a b) : meetF (k ^ (2 * r)) (pairG k (k ^ (2 * r)) t) ≠ [] := by
  have hlb : 2 * r ≤ b.length := by rw [← h.len]; exact h.long
  have hN : 0 < k ^ (2 * r) := by
    have := nd_lt (m := 2 * r) h.sa (i := 0) (by have := h.long; omega)
    omega
  intro hm
  obtain ⟨L, hL⟩ : ∃ L, a.length = L + 2 * r := ⟨a.length - 2 * r, by have := h.long; omega⟩
  have hE := pairsOf_edges (t := t) h.sa h.sb h.len h.img L 0 (by omega)
  have hlast := pairsOf_last k (2 * r) a b L 0
  rw [Nat.zero_add] at hlast
  have d0 : diag (k ^ (2 * r)) (nd k (2 * r) a 0 * k ^ (2 * r) + nd k (2 * r) b 0) = true := by
    rw [diag_pair (nd_lt h.sb (by omega))]
    refine decide_eq_true ?_
    unfold nd win
    rw [List.drop_zero, List.drop_zero, h.fst]
  have dL : diag (k ^ (2 * r)) (nd k (2 * r) a L * k ^ (2 * r) + nd k (2 * r) b L) = true := by
    rw [diag_pair (nd_lt h.sb (by have := h.len; omega))]
    refine decide_eq_true ?_
    have := h.lst
    have hlen := h.len
    rw [show a.length - 2 * r = L by omega, show b.length - 2 * r = L by omega] at this
    unfold nd win
    rw [this]
  have hoff : ∃ u, u ≤ L ∧ diag (k ^ (2 * r)) (nd k (2 * r) a u * k ^ (2 * r) + nd k (2 * r) b u) = false := by
    refine Classical.byContradiction fun hno => h.ne (win_ext (m := 2 * r) (by omega) h.len h.long fun i hi => ?_)
    have hil : i ≤ L := by omega
    have hd : diag (k ^ (2 * r)) (nd k (2 * r) a i * k ^ (2 * r) + nd k (2 * r) b i) = true := by
      cases hh : diag (k ^ (2 * r)) (nd k (2 * r) a i * k ^ (2 * r) + nd k (2 * r) b i) with
      | true => rfl
      | false => exact absurd ⟨i, hil, hh⟩ hno
    rw [diag_pair (nd_lt h.sb (by rw [← h.len]; exact hi))] at hd
    have he := of_decide_eq_true hd
    unfold nd at he
    have hk : 0 < k := Nat.pos_of_ne_zero fun e => by
      subst e
      rw [Nat.zero_pow (by omega)] at hN
      omega
    have e1 := digB_wval hk (2 * r) (win a i (2 * r)) (win_len hi) (win_sym h.sa i _)
    have e2 := digB_wval hk (2 * r) (win b i (2 * r)) (win_len (by rw [← h.len]; exact hi)) (win_sym h.sb i _)
    rw [← e1, ← e2, he]
  obtain ⟨u, hu, hud⟩ := hoff
  obtain ⟨l, e⟩ := pairsOf_head k (2 * r) a b 0 L
  have hmem := pairsOf_mem k (2 * r) a b L 0 u (Nat.zero_le _) (by omega)
  rw [e] at hE hlast hmem
  have hx : ∃ x ∈ l, diag (k ^ (2 * r)) x = false := by
    rcases List.mem_cons.1 hmem with h1 | h1
    · rw [h1, d0] at hud; cases hud
    · exact ⟨_, h1, hud⟩
  obtain ⟨d, xs, t', hw, hd⟩ := find_way l _ _ d0 hE hlast dL hx
  have hdl : d < (pairG k (k ^ (2 * r)) t).length := by
    rw [pairG_len]
    have hed := hw.edge
    cases xs with
    | nil => exact absurd rfl hw.some
    | cons x xs => exact ((mem_G hN).1 hed.1).1
  exact meet_none (pairG_ok hN) hm hw hdl
/-! ### the words along a way -/
theorem edges_at {g : List (List Nat)} : ∀ {P : List Nat} {i p q : Nat}, Edges g P → P[i]? = some p → P[i + 1]? = some q → q ∈ g.getD p []
  | [], _, _, _, _, h, _ => by simp at h
  | [_], i, _, _, _, _, h => by simp at h
  | x :: y :: l, 0, p, q, he, h1, h2 => by
    simp at h1 h2
    subst h1 h2
    exact he.1
  | x :: y :: l, i + 1, p, q, he, h1, h2 => edges_at (P := y :: l) (i := i) he.2 (by simpa using h1) (by simpa using h2)
def wordA (k r d : Nat) (l : List Nat) : List Nat := digB k (2 * r) (d / k ^ (2 * r)) ++ l.map fun p => p / k ^ (2 * r) % k
def wordB (k r d : Nat) (l : List Nat) : List Nat := digB k (2 * r) (d % k ^ (2 * r)) ++ l.map fun p => p % k ^ (2 * r) % k
theorem wordA_len (k r d : Nat) (l : List Nat) : (wordA k r d l).length = 2 * r + l.length := by simp [wordA, digB_len]
theorem wordB_len (k r d : Nat) (l : List Nat) : (wordB k r d l).length = 2 * r + l.length := by simp [wordB, digB_len]
theorem wordA_sym {k : Nat} (hk : 0 < k) (r d : Nat) (l : List Nat) : ∀ x ∈ wordA k r d l, x < k := fun x hx => by
  rcases List.mem_append.1 hx with h | h
  · exact digB_sym hk _ _ x h
  · obtain ⟨p, _, rfl⟩ := List.mem_map.1 h; exact Nat.mod_lt _ hk
theorem wordB_sym {k : Nat} (hk : 0 < k) (r d : Nat) (l : List Nat) : ∀ x ∈ wordB k r d l, x < k := fun x hx => by
  rcases List.mem_append.1 hx with h | h
  · exact digB_sym hk _ _ x h
  · obtain ⟨p, _, rfl⟩ := List.mem_map.1 h; exact Nat.mod_lt _ hk
theorem wordA_at (k r d : Nat) {l : List Nat} {i q : Nat} (h : l[i]? = some q) : (wordA k r d l).getD (i + 2 * r) 0 = q / k ^ (2 * r) % k := by
  unfold wordA
  rw [List.getD_eq_getElem?_getD, List.getElem?_append_right (by rw [digB_len]; omega), digB_len, Nat.add_sub_cancel, List.getElem?_map, h]
  rfl
theorem wordB_at (k r d : Nat) {l : List Nat} {i q : Nat} (h : l[i]? = some q) : (wordB k r d l).getD (i + 2 * r) 0 = q % k ^ (2 * r) % k := by
  unfold wordB
  rw [List.getD_eq_getElem?_getD, List.getElem?_append_right (by rw [digB_len]; omega), digB_len, Nat.add_sub_cancel, List.getElem?_map, h]
  rfl
theorem low_sym {k N x s : Nat} (hd : k ∣ N) (hs : s < k) : (x * k + s) % N % k = s := by
  rw [Nat.mod_mod_of_dvd _ hd, Nat.add_comm, Nat.add_mul_mod_self_right, Nat.mod_eq_of_lt hs]
theorem k_dvd {k r : Nat} (hr : 0 < r) : k ∣ k ^ (2 * r) := by
  obtain ⟨m, hm⟩ : ∃ m, 2 * r = m + 1 := ⟨2 * r - 1, by omega⟩
  rw [hm, Nat.pow_succ]
  exact Nat.dvd_mul_left k _
theorem path_nodes {k r d : Nat} {t l : List Nat} (hk : 0 < k) (hr : 0 < r) (hE : Edges (pairG k (k ^ (2 * r)) t) (d :: l)) (hd : d < k ^ (2 * r) * k ^ (2 * r)) : ∀ (i p : Nat), (d :: l)[i]? = some p →
    p < k ^ (2 * r) * k ^ (2 * r) ∧ nd k (2 * r) (wordA k r d l) i = p / k ^ (2 * r) ∧ nd k (2 * r) (wordB k r d l) i = p % k ^ (2 * r)
  | 0, p, hp => by
    have hN : 0 < k ^ (2 * r) := Nat.pow_pos hk
    obtain rfl : d = p := by simpa using hp
    refine ⟨hd, ?_, ?_⟩
    · unfold nd win wordA
      rw [List.drop_zero, List.take_append_of_le_length (by rw [digB_len]; exact Nat.le_refl _), List.take_of_length_le (by rw [digB_len]; exact Nat.le_refl _)]
      exact dig_wval hk (Nat.div_lt_of_lt_mul hd)
    · unfold nd win wordB
      rw [List.drop_zero, List.take_append_of_le_length (by rw [digB_len]; exact Nat.le_refl _), List.take_of_length_le (by rw [digB_len]; exact Nat.le_refl _)]
      exact dig_wval hk (Nat.mod_lt _ hN)
  | i + 1, q, hq => by
    have hN : 0 < k ^ (2 * r) := Nat.pow_pos hk
    have hq' : l[i]? = some q := by simpa using hq
    have hil : i < l.length := (List.getElem?_eq_some_iff.1 hq').1
    obtain ⟨p, hp⟩ : ∃ p, (d :: l)[i]? = some p := ⟨_, List.getElem?_eq_getElem (by rw [List.length_cons]; omega)⟩
    obtain ⟨hpl, h1, h2⟩ := path_nodes hk hr hE hd i p hp
    obtain ⟨_, he⟩ := (mem_G hN).1 (edges_at hE hp hq)
    have hql := edge_lt hN he
    obtain ⟨s, s', hs, hs', _, e⟩ := edgeB_iff.1 he
    have e1 : q / k ^ (2 * r) = (p / k ^ (2 * r) * k + s) % k ^ (2 * r) := by rw [e]; exact (pair_div (Nat.mod_lt _ hN)).1
    have e2 : q % k ^ (2 * r) = (p % k ^ (2 * r) * k + s') % k ^ (2 * r) := by rw [e]; exact (pair_div (Nat.mod_lt _ hN)).2
    refine ⟨hql, ?_, ?_⟩
    · rw [nd_next (wordA_sym hk r d l) (by rw [wordA_len]; omega), h1, wordA_at k r d hq', e1, low_sym (k_dvd hr) hs]
    · rw [nd_next (wordB_sym hk r d l) (by rw [wordB_len]; omega), h2, wordB_at k r d hq', e2, low_sym (k_dvd hr) hs']
theorem path_label {k r d : Nat} {t l : List Nat} (hk : 0 < k) (hr : 0 < r) (hE : Edges (pairG k (k ^ (2 * r)) t) (d :: l)) (hd : d < k ^ (2 * r) * k ^ (2 * r)) {i : Nat} (hi : i < l.length) :
    (image k r t (wordA k r d l))[i]? = (image k r t (wordB k r d l))[i]? := by
  have hN : 0 < k ^ (2 * r) := Nat.pow_pos hk
  obtain ⟨q, hq'⟩ : ∃ q, l[i]? = some q := ⟨_, List.getElem?_eq_getElem hi⟩
  obtain ⟨p, hp⟩ : ∃ p, (d :: l)[i]? = some p := ⟨_, List.getElem?_eq_getElem (by rw [List.length_cons]; omega)⟩
  obtain ⟨hpl, h1, h2⟩ := path_nodes hk hr hE hd i p hp
  obtain ⟨_, he⟩ := (mem_G hN).1 (edges_at hE hp (by simpa using hq'))
  obtain ⟨s, s', hs, hs', hlab, e⟩ := edgeB_iff.1 he
  have e1 : q / k ^ (2 * r) = (p / k ^ (2 * r) * k + s) % k ^ (2 * r) := by rw [e]; exact (pair_div (Nat.mod_lt _ hN)).1
  have e2 : q % k ^ (2 * r) = (p % k ^ (2 * r) * k + s') % k ^ (2 * r) := by rw [e]; exact (pair_div (Nat.mod_lt _ hN)).2
  rw [label_at (by rw [wordA_len]; omega), label_at (by rw [wordB_len]; omega), h1, h2, wordA_at k r d hq', wordB_at k r d hq', e1, e2, low_sym (k_dvd hr) hs, low_sym (k_dvd hr) hs', hlab]
/-- A way gives twins. -/
theorem way_twin {k r d z : Nat} {t xs : List Nat} (hk : 0 < k) (hr : 0 < r) (hw : MeetP.Way (k ^ (2 * r)) (pairG k (k ^ (2 * r)) t) d xs z) (hd : d < k ^ (2 * r) * k ^ (2 * r)) : RuleP.Twin k r t (wordA k r d (xs ++ [z])) (wordB k r d (xs ++ [z])) := by
  have hN : 0 < k ^ (2 * r) := Nat.pow_pos hk
  have hE := hw.edge
  have hnodes := path_nodes hk hr hE hd
  have hlab := fun (i : Nat) => path_label (i := i) hk hr hE hd
  have hd' : d / k ^ (2 * r) = d % k ^ (2 * r) := by have := hw.fst; unfold diag at this; simpa using this
  have hz' : z / k ^ (2 * r) = z % k ^ (2 * r) := by have := hw.lst; unfold diag at this; simpa using this
  have hlA := wordA_len k r d (xs ++ [z])
  have hlB := wordB_len k r d (xs ++ [z])
  have sA := wordA_sym hk r d (xs ++ [z])
  have sB := wordB_sym hk r d (xs ++ [z])
  obtain ⟨l, hl⟩ : ∃ l, xs ++ [z] = l := ⟨_, rfl⟩
  have hll : l.length = xs.length + 1 := by rw [← hl]; simp
  have hne : wordA k r d (xs ++ [z]) ≠ wordB k r d (xs ++ [z]) := fun e => by
    obtain ⟨x, xs', rfl⟩ : ∃ x xs', xs = x :: xs' := by
      cases xs with
      | nil => exact absurd rfl hw.some
      | cons x xs' => exact ⟨x, xs', rfl⟩
    obtain ⟨_, h1, h2⟩ := hnodes 1 x rfl
    rw [e, h2] at h1
    have := hw.off x (List.mem_cons_self ..)
    unfold diag at this
    rw [h1] at this
    simp at this
  have hlast : (d :: (xs ++ [z]))[(xs ++ [z]).length]? = some z := by simp
  obtain ⟨_, z1, z2⟩ := hnodes _ z hlast
  refine ⟨by rw [hlA, hlB], by rw [hlA]; omega, sA, sB, hne, ?_, ?_, ?_⟩
  · unfold wordA wordB
    rw [List.take_append_of_le_length (by rw [digB_len]; exact Nat.le_refl _), List.take_append_of_le_length (by rw [digB_len]; exact Nat.le_refl _), hd']
  · rw [hz', ← z2] at z1
    have e1 := digB_wval hk (2 * r) (win (wordA k r d (xs ++ [z])) (xs ++ [z]).length (2 * r)) (win_len (by rw [hlA]; omega)) (win_sym sA _ _)
    have e2 := digB_wval hk (2 * r) (win (wordB k r d (xs ++ [z])) (xs ++ [z]).length (2 * r)) (win_len (by rw [hlB]; omega)) (win_sym sB _ _)
    unfold nd at z1
    rw [z1, e2] at e1
    unfold win at e1
    rw [hlA, hlB, show 2 * r + (xs ++ [z]).length - 2 * r = (xs ++ [z]).length by omega]
    rw [List.take_of_length_le (by rw [List.length_drop, hlB]; omega), List.take_of_length_le (by rw [List.length_drop, hlA]; omega)] at e1
    exact e1.symm
  · apply List.ext_getElem?
    intro i
    rcases Nat.lt_or_ge i (xs ++ [z]).length with hi | hi
    · exact hlab i hi
    · rw [List.getElem?_eq_none (by rw [image_len, hlA]; omega), List.getElem?_eq_none (by rw [image_len, hlB]; omega)]
/-- No way is found just if there are no twins. -/
theorem meet_iff {k r : Nat} {t : List Nat} (hk : 0 < k) (hr : 0 < r) : meetF (k ^ (2 * r)) (pairG k (k ^ (2 * r)) t) = [] ↔ ∀ a b, ¬ RuleP.Twin k r t a b := by
  constructor
  · intro h a b ht
    exact twin_way hr ht h
  · intro h
    refine Classical.byContradiction fun hne => ?_
    obtain ⟨d, xs, z, _, hw, hd⟩ := meet_some (pairG_ok (Nat.pow_pos hk)) hne
    rw [pairG_len] at hd
    exact h _ _ (way_twin hk hr hw hd)
/-! ### the rules 90 and 0 -/
theorem meet_90 : meetF 4 (pairG 2 4 [0, 1, 0, 1, 1, 0, 1, 0]) = [] := by decide +kernel
theorem meet_0 : (meetF 4 (pairG 2 4 [0, 0, 0, 0, 0, 0, 0, 0])).length = 4 := by decide +kernel
end PairP
end Go.Proofs.YtibplgpolmplpaaGreatDoor

namespace Go.Proofs.YtibplgpolmplpaaGreatDoor
open Go.RowKit NatP

def wv (x : Nat) : Value := .int .u32 (x : Int)
abbrev W32 : Nat := 4294967296
def limbs (v : Nat) : List Nat := digs W32 v
def val (l : List Nat) : Nat := valB W32 l
theorem w32 : 2 ≤ W32 := by decide
theorem val_limbs (v : Nat) : val (limbs v) = v := val_digs w32 v
theorem ok_limbs (v : Nat) : OkB W32 (limbs v) := ok_digs w32 v
theorem limbs_len {xs : List Nat} (h : OkB W32 xs) : (limbs (val xs)).length ≤ xs.length := length_digs_le w32 h
theorem limbs_take {xs : List Nat} (h : OkB W32 xs) {m : Nat} (hm : m ≤ xs.length) (hz : ∀ j x, m ≤ j → xs[j]? = some x → x = 0) (hl : ∀ x, 0 < m → xs[m - 1]? = some x → x ≠ 0) : xs.take m = limbs (val xs) ∧ m = (limbs (val xs)).length := by
  have e := cut_eq w32 h hm hz hl
  refine ⟨e, ?_⟩
  unfold limbs val
  rw [← e, List.length_take, Nat.min_eq_left hm]

theorem own_take {w : World} {base e n c m : Nat} {A : Option Addr} {xs : List Value} (h : w.ownsRow base e 1 (.slice A n c) n xs) (hm : m ≤ n) : w.ownsRow base e 1 (.slice A m c) m (xs.take m) := by
  have hl : xs.length = n := by simpa using h.1
  refine ⟨by simp; omega, ?_⟩
  rcases h.2 with ⟨hv, hn⟩ | ⟨g, cap, cur, hv, hb, hg, hnc, hcm, hsz, htake⟩
  · injection hv with h1 h2 h3
    subst h1 h3 hn
    exact .inl ⟨by rw [show m = 0 from by omega], by omega⟩
  · injection hv with h1 h2 h3
    subst h1 h3
    refine .inr ⟨g, c, cur, rfl, hb, hg, by omega, hcm, hsz, ?_⟩
    rw [← htake, List.take_take]
    congr 1
    omega
set_option maxHeartbeats 400000 in
theorem norm_c (w : World) (A : Option Addr) (n c : Nat) (xs : List Nat) (h : Sl w A n (xs.map wv)) (ho : OkB W32 xs) (hc : n ≤ c) (hm : c ≤ maxLen) :
    Calls Tryz.prog 94 #[.slice A n c] w fun e w' => e = .returned (.slice A (limbs (val xs)).length c) ∧ w = w' := by
  unfold maxLen at hm
  have hl : xs.length = n := by simpa using h.1
  have HL := Lib.hid hl
  clear hl
  go_enter Tryz.func94, Tryz.ntmps94
  go_wp2_with fail
  go_loop [0] (fun a => ∃ m : Nat, m ≤ n ∧ a = .slice A m c ∧ ∀ (j x : Nat), m ≤ j → xs[j]? = some x → x = 0) (fun a => match a with | .slice _ k _ => k | _ => 0)
  case atStart => exact ⟨n, Nat.le_refl _, rfl, fun j x hj hx => by rw [List.getElem?_eq_none (by rw [HL.out]; exact hj)] at hx; cases hx⟩
  case round =>
    obtain ⟨m, hmn, rfl, hz⟩ := hrel
    have HZ := Lib.hid hz
    clear hz
    cases m with
    | zero =>
      have e := limbs_take ho (Nat.zero_le _) HZ.out (fun x h0 => absurd h0 (by omega))
      have E := Lib.hid e.2
      clear e
      go_wp2_with fail
      go_ret
      exact ⟨by rw [← E.out]; rfl, rfl⟩
    | succ k =>
      obtain ⟨ad, x, rfl, hxk, hcx⟩ := h.word_ (show k < n by omega)
      have HX := Lib.hid hxk
      clear hxk
      by_cases hx0 : x = 0
      · subst hx0
        have t : (((0 : Nat) : Int) == 0) = true := rfl
        go_wp2_with fail
        refine ⟨⟨k, by omega, rfl, fun j x hj hx => ?_⟩, Nat.lt_succ_self k⟩
        rcases Nat.lt_or_ge k j with hjk | hjk
        · exact HZ.out j x hjk hx
        · obtain rfl : j = k := by omega
          rw [HX.out] at hx
          exact (Option.some.inj hx).symm
      · have t : ((x : Int) == 0) = false := by simp; exact hx0
        have e := limbs_take ho (m := k + 1) (by rw [HL.out]; omega) HZ.out (fun y _ hy => by
          rw [Nat.add_sub_cancel, HX.out] at hy
          rw [← Option.some.inj hy]
          exact hx0)
        have E := Lib.hid e.2
        clear e hx0
        go_wp2_with fail
        go_ret
        exact ⟨by rw [← E.out]; rfl, rfl⟩

end Go.Proofs.YtibplgpolmplpaaGreatDoor
