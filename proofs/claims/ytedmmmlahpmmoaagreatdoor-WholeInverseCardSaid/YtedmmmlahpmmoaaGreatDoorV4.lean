/- Automata, as plain lists: states parted by the words that run from them; the automaton of the parts; when a parting is fine enough. No program. No condition. Automata, as plain lists: numbers given to sorted keys part them. No program. No condition. Keys of states as texts, numbered as they are met. Plain lemmas, no program. No condition. Automata, as plain lists: the automaton of the parts, numbered as they are reached; it runs as the old one does; one language, one automaton. No program. No condition. Sums: rules whose table is a sum take sums of words to sums of images. Plain lists, no program. No condition. -/
import Derived.Test.YtedmmmlahpmmoaaGreatDoorV1
import Derived.Test.YtedmmmlahpmmoaaGreatDoorV3
namespace Go.Proofs.YtedmmmlahpmmoaaGreatDoor
namespace RuleP

/-! ### an automaton -/
/-- Where a state leads by a symbol; below 0: nowhere. -/
def nxt (L : List (List Int)) (i s : Nat) : Int := (L.getD i []).getD s (-1)
structure IsAuto (k : Nat) (L : List (List Int)) : Prop where
  pos : 0 < L.length
  len : ∀ r ∈ L, r.length = k
  ok : ∀ r ∈ L, ∀ x ∈ r, x = -1 ∨ ∃ j : Nat, x = (j : Int) ∧ j < L.length
theorem IsAuto.row {k : Nat} {L : List (List Int)} (h : IsAuto k L) {i : Nat} (hi : i < L.length) : (L.getD i []).length = k ∧ L[i]? = some (L.getD i []) := by
  have e : L.getD i [] = L[i] := by rw [List.getD_eq_getElem?_getD, List.getElem?_eq_getElem hi]; rfl
  rw [e]
  exact ⟨h.len _ (List.getElem_mem hi), List.getElem?_eq_getElem hi⟩
theorem IsAuto.at_ {k : Nat} {L : List (List Int)} (h : IsAuto k L) {i s : Nat} (hi : i < L.length) (hs : s < k) : (L.getD i [])[s]? = some (nxt L i s) ∧ (nxt L i s = -1 ∨ ∃ j : Nat, nxt L i s = (j : Int) ∧ j < L.length) := by
  obtain ⟨h1, h2⟩ := h.row hi
  have hs' : s < (L.getD i []).length := by omega
  have e : nxt L i s = (L.getD i [])[s] := by unfold nxt; rw [List.getD_eq_getElem?_getD (l := L.getD i []), List.getElem?_eq_getElem hs']; rfl
  rw [e]
  exact ⟨List.getElem?_eq_getElem hs', h.ok _ (List.mem_of_getElem? h2) _ (List.getElem_mem hs')⟩
/-- The state that a word runs to. -/
def runA (L : List (List Int)) : Nat → List Nat → Option Nat
  | i, [] => some i
  | i, c :: w => if nxt L i c < 0 then none else runA L (nxt L i c).toNat w
theorem runA_nil (L : List (List Int)) (i : Nat) : runA L i [] = some i := by rw [runA]
theorem runA_cons (L : List (List Int)) (i c : Nat) (w : List Nat) : runA L i (c :: w) = if nxt L i c < 0 then none else runA L (nxt L i c).toNat w := by rw [runA]
/-- The same words run from both. -/
def Eqv (k : Nat) (L M : List (List Int)) (i j : Nat) : Prop := ∀ w : List Nat, (∀ c ∈ w, c < k) → ((runA L i w).isSome = (runA M j w).isSome)
theorem Eqv.refl (k : Nat) (L : List (List Int)) (i : Nat) : Eqv k L L i i := fun _ _ => rfl
theorem Eqv.symm {k : Nat} {L M : List (List Int)} {i j : Nat} (h : Eqv k L M i j) : Eqv k M L j i := fun w hw => (h w hw).symm
theorem Eqv.trans {k : Nat} {L M N : List (List Int)} {i j l : Nat} (h : Eqv k L M i j) (h' : Eqv k M N j l) : Eqv k L N i l := fun w hw => (h w hw).trans (h' w hw)
theorem Eqv.sign {k : Nat} {L M : List (List Int)} {i j c : Nat} (h : Eqv k L M i j) (hc : c < k) : nxt L i c < 0 ↔ nxt M j c < 0 := by
  have h1 := h [c] (fun x hx => by rw [List.mem_singleton] at hx; omega)
  rw [runA_cons, runA_cons, runA_nil, runA_nil] at h1
  constructor
  · intro h2
    rw [if_pos h2] at h1
    by_cases h3 : nxt M j c < 0
    · exact h3
    · rw [if_neg h3] at h1; cases h1
  · intro h2
    rw [if_pos h2] at h1
    by_cases h3 : nxt L i c < 0
    · exact h3
    · rw [if_neg h3] at h1; cases h1
theorem Eqv.next {k : Nat} {L M : List (List Int)} {i j c : Nat} (h : Eqv k L M i j) (hc : c < k) (h0 : ¬ nxt L i c < 0) : Eqv k L M (nxt L i c).toNat (nxt M j c).toNat := fun w hw => by
  have h1 := h (c :: w) (fun x hx => (List.mem_cons.1 hx).elim (fun e => by omega) (hw x))
  rw [runA_cons, runA_cons, if_neg h0, if_neg (fun e => h0 ((h.sign hc).2 e))] at h1
  exact h1

/-! ### partings -/
/-- What parts a state further: its part and the parts to which it leads. -/
def keyP (G : List Nat) (L : List (List Int)) (i : Nat) : List Int := ((G.getD i 0 : Nat) : Int) :: (L.getD i []).map fun t => if t < 0 then -1 else ((G.getD t.toNat 0 : Nat) : Int)
theorem keyP_eq {k : Nat} {G : List Nat} {L : List (List Int)} (h : IsAuto k L) {i j : Nat} (hi : i < L.length) (hj : j < L.length) : keyP G L i = keyP G L j ↔ G.getD i 0 = G.getD j 0 ∧ ∀ c, c < k → ((nxt L i c < 0 ↔ nxt L j c < 0) ∧ (¬ nxt L i c < 0 → G.getD (nxt L i c).toNat 0 = G.getD (nxt L j c).toNat 0)) := by
  unfold keyP
  constructor
  · intro e
    injection e with e1 e2
    refine ⟨by omega, fun c hc => ?_⟩
    have h1 := congrArg (·[c]?) e2
    simp only [List.getElem?_map, (h.at_ hi hc).1, (h.at_ hj hc).1, Option.map_some, Option.some.injEq] at h1
    by_cases a : nxt L i c < 0
    · rw [if_pos a] at h1
      by_cases b : nxt L j c < 0
      · exact ⟨⟨fun _ => b, fun _ => a⟩, fun x => absurd a x⟩
      · rw [if_neg b] at h1; omega
    · rw [if_neg a] at h1
      by_cases b : nxt L j c < 0
      · rw [if_pos b] at h1; omega
      · rw [if_neg b] at h1
        exact ⟨⟨fun x => absurd x a, fun x => absurd x b⟩, fun _ => by omega⟩
  · rintro ⟨e1, e2⟩
    rw [e1]
    congr 1
    apply List.ext_getElem?
    intro c
    rw [List.getElem?_map, List.getElem?_map]
    by_cases hc : c < k
    · rw [(h.at_ hi hc).1, (h.at_ hj hc).1]
      simp only [Option.map_some]
      obtain ⟨e3, e4⟩ := e2 c hc
      by_cases a : nxt L i c < 0
      · rw [if_pos a, if_pos (e3.1 a)]
      · rw [if_neg a, if_neg (fun b => a (e3.2 b)), e4 a]
    · rw [List.getElem?_eq_none (by rw [(h.row hi).1]; omega), List.getElem?_eq_none (by rw [(h.row hj).1]; omega)]
/-- How many parts the first n states lie in. -/
def firsts (G : List Nat) (n : Nat) : List Nat := (List.range n).filter fun i => (List.range i).all fun j => decide (G.getD j 0 ≠ G.getD i 0)
def dcnt (G : List Nat) (n : Nat) : Nat := (firsts G n).length
theorem mem_firsts {G : List Nat} {n i : Nat} : i ∈ firsts G n ↔ i < n ∧ ∀ j, j < i → G.getD j 0 ≠ G.getD i 0 := by
  unfold firsts
  rw [List.mem_filter, List.mem_range, List.all_eq_true]
  constructor
  · rintro ⟨h1, h2⟩
    exact ⟨h1, fun j hj => of_decide_eq_true (h2 j (List.mem_range.2 hj))⟩
  · rintro ⟨h1, h2⟩
    exact ⟨h1, fun j hj => decide_eq_true (h2 j (List.mem_range.1 hj))⟩
theorem firsts_nodup (G : List Nat) (n : Nat) : (firsts G n).Nodup := List.Nodup.sublist List.filter_sublist List.nodup_range
theorem first_of (G : List Nat) {n : Nat} : ∀ {i : Nat}, i < n → ∃ f, f ∈ firsts G n ∧ f ≤ i ∧ G.getD f 0 = G.getD i 0 := by
  intro i
  induction i using Nat.strongRecOn with
  | ind i ih =>
    intro hi
    by_cases h : ∀ j, j < i → G.getD j 0 ≠ G.getD i 0
    · exact ⟨i, mem_firsts.2 ⟨hi, h⟩, Nat.le_refl _, rfl⟩
    · obtain ⟨j, hj⟩ := Classical.not_forall.1 h
      obtain ⟨hj1, hj2⟩ := Classical.not_imp.1 hj
      obtain ⟨f, h1, h2, h3⟩ := ih j hj1 (by omega)
      exact ⟨f, h1, by omega, h3.trans (Classical.not_not.1 hj2)⟩
theorem nodup_le {a b : List Nat} (ha : a.Nodup) (h : ∀ x ∈ a, x ∈ b) : a.length ≤ b.length := by
  induction a generalizing b with
  | nil => exact Nat.zero_le _
  | cons x a ih =>
    have hx := h x (by simp)
    have h1 : ∀ y ∈ a, y ∈ b.erase x := fun y hy => (List.mem_erase_of_ne (fun (e : y = x) => (List.nodup_cons.1 ha).1 (by rw [← e]; exact hy))).2 (h y (by simp [hy]))
    have h2 := ih (List.nodup_cons.1 ha).2 h1
    rw [List.length_erase_of_mem hx] at h2
    have h3 := List.length_pos_of_mem hx
    rw [List.length_cons]
    omega
theorem nodup_sub {a b : List Nat} (ha : a.Nodup) (h : ∀ x ∈ a, x ∈ b) (hl : b.length ≤ a.length) {x : Nat} (_ : b.Nodup) (hx : x ∈ b) : x ∈ a := by
  by_cases hxa : x ∈ a
  · exact hxa
  · have h1 := nodup_le (a := x :: a) (List.nodup_cons.2 ⟨hxa, ha⟩) (b := b) (fun y hy => (List.mem_cons.1 hy).elim (fun e => by rw [e]; exact hx) (h y))
    rw [List.length_cons] at h1
    omega
/-- G' parts at least as much as G. -/
def Finer (n : Nat) (G' G : List Nat) : Prop := ∀ i j, i < n → j < n → G'.getD i 0 = G'.getD j 0 → G.getD i 0 = G.getD j 0
theorem firsts_sub {n : Nat} {G' G : List Nat} (h : Finer n G' G) : ∀ i ∈ firsts G n, i ∈ firsts G' n := fun i hi => by
  obtain ⟨h1, h2⟩ := mem_firsts.1 hi
  exact mem_firsts.2 ⟨h1, fun j hj e => h2 j hj (h j i (by omega) h1 e)⟩
theorem finer_eq {n : Nat} {G' G : List Nat} (h : Finer n G' G) (hl : dcnt G' n ≤ dcnt G n) : Finer n G G' := by
  intro i j hi hj e
  obtain ⟨f, f1, f2, f3⟩ := first_of G' hi
  obtain ⟨g, g1, g2, g3⟩ := first_of G' hj
  have hf := (mem_firsts.1 (nodup_sub (firsts_nodup G n) (firsts_sub h) hl (firsts_nodup G' n) f1))
  have hg := (mem_firsts.1 (nodup_sub (firsts_nodup G n) (firsts_sub h) hl (firsts_nodup G' n) g1))
  have e1 : G.getD f 0 = G.getD g 0 := by rw [h f i hf.1 hi f3, h g j hg.1 hj g3, e]
  have e2 : f = g := by
    rcases Nat.lt_trichotomy f g with hlt | rfl | hlt
    · exact absurd e1 (hg.2 f hlt)
    · rfl
    · exact absurd e1.symm (hf.2 g hlt)
  rw [← f3, ← g3, e2]
theorem dcnt_of {G : List Nat} {n c : Nat} (h1 : ∀ i, i < n → G.getD i 0 < c) (h2 : ∀ x, x < c → ∃ i, i < n ∧ G.getD i 0 = x) : dcnt G n = c := by
  have hn : ((firsts G n).map fun i => G.getD i 0).Nodup := by
    rw [List.nodup_iff_pairwise_ne, List.pairwise_map]
    refine (firsts_nodup G n).imp_of_mem fun {a b} ha hb hne e => ?_
    have h3 := mem_firsts.1 ha
    have h4 := mem_firsts.1 hb
    rcases Nat.lt_trichotomy a b with hlt | rfl | hlt
    · exact h4.2 a hlt e
    · exact hne rfl
    · exact h3.2 b hlt e.symm
  have a1 := nodup_le hn (b := List.range c) (fun x hx => by
    obtain ⟨i, hi, rfl⟩ := List.mem_map.1 hx
    exact List.mem_range.2 (h1 i (mem_firsts.1 hi).1))
  have a2 := nodup_le (List.nodup_range (n := c)) (b := (firsts G n).map fun i => G.getD i 0) (fun x hx => by
    obtain ⟨i, hi, rfl⟩ := h2 x (List.mem_range.1 hx)
    obtain ⟨f, f1, _, f3⟩ := first_of G hi
    exact List.mem_map.2 ⟨f, f1, f3⟩)
  rw [List.length_map, List.length_range] at a1 a2
  unfold dcnt
  omega
/-- A parting on the way: it parts no two from which the same words run. -/
def Coarse (k : Nat) (L : List (List Int)) (G : List Nat) : Prop := ∀ i j, i < L.length → j < L.length → Eqv k L L i j → G.getD i 0 = G.getD j 0
/-- The next parting. -/
def Parts (L : List (List Int)) (G G' : List Nat) : Prop := ∀ i j, i < L.length → j < L.length → (G'.getD i 0 = G'.getD j 0 ↔ keyP G L i = keyP G L j)
/-- The parting that is sought. -/
def Parted (k : Nat) (L : List (List Int)) (G : List Nat) : Prop := ∀ i j, i < L.length → j < L.length → (G.getD i 0 = G.getD j 0 ↔ Eqv k L L i j)
theorem Parts.finer {k : Nat} {L : List (List Int)} (h : IsAuto k L) {G G' : List Nat} (hp : Parts L G G') : Finer L.length G' G := fun i j hi hj e => ((keyP_eq h hi hj).1 ((hp i j hi hj).1 e)).1
theorem Parts.coarse {k : Nat} {L : List (List Int)} (h : IsAuto k L) {G G' : List Nat} (hp : Parts L G G') (hc : Coarse k L G) : Coarse k L G' := fun i j hi hj e => by
  refine (hp i j hi hj).2 ((keyP_eq h hi hj).2 ⟨hc i j hi hj e, fun c hck => ⟨e.sign hck, fun h0 => ?_⟩⟩)
  have h1 : ¬ nxt L j c < 0 := fun x => h0 ((e.sign hck).2 x)
  obtain ⟨q, hq, hql⟩ := (h.at_ hi hck).2.resolve_left (by omega)
  obtain ⟨q', hq', hql'⟩ := (h.at_ hj hck).2.resolve_left (by omega)
  have e2 := e.next hck h0
  rw [hq, hq'] at e2 ⊢
  exact hc q q' hql hql' e2
theorem Parts.done {k : Nat} {L : List (List Int)} (h : IsAuto k L) {G G' : List Nat} (hp : Parts L G G') (hc : Coarse k L G) (hd : dcnt G' L.length = dcnt G L.length) : Parted k L G' := by
  have hf := finer_eq (hp.finer h) (Nat.le_of_eq hd)
  have key : ∀ (w : List Nat) (i j : Nat), i < L.length → j < L.length → G'.getD i 0 = G'.getD j 0 → (∀ c ∈ w, c < k) → (runA L i w).isSome = (runA L j w).isSome := by
    intro w
    induction w with
    | nil => intro i j _ _ _ _; rw [runA_nil, runA_nil]; rfl
    | cons c w ih =>
      intro i j hi hj e hw
      have hck := hw c (by simp)
      obtain ⟨_, e2⟩ := (keyP_eq h hi hj).1 ((hp i j hi hj).1 e)
      obtain ⟨e3, e4⟩ := e2 c hck
      rw [runA_cons, runA_cons]
      by_cases h0 : nxt L i c < 0
      · rw [if_pos h0, if_pos (e3.1 h0)]
      · have h1 : ¬ nxt L j c < 0 := fun x => h0 (e3.2 x)
        rw [if_neg h0, if_neg h1]
        have e5 := e4 h0
        obtain ⟨q, hq, hql⟩ := (h.at_ hi hck).2.resolve_left (by omega)
        obtain ⟨q', hq', hql'⟩ := (h.at_ hj hck).2.resolve_left (by omega)
        rw [hq, hq'] at e5 ⊢
        exact ih q q' hql hql' (hf q q' hql hql' e5) (fun x hx => hw x (by simp [hx]))
  exact fun i j hi hj => ⟨fun e w hw => key w i j hi hj e hw, fun e => hp.coarse h hc i j hi hj e⟩
end RuleP
end Go.Proofs.YtedmmmlahpmmoaaGreatDoor

namespace Go.Proofs.YtedmmmlahpmmoaaGreatDoor
namespace RuleP

/-- slices.Compare's answer at lists of one length. -/
def cmpZ : List Int → List Int → Int
  | x :: a, y :: b => if x < y then -1 else if y < x then 1 else cmpZ a b
  | _, _ => 0
/-- Sorted by their keys. -/
structure SortedK (κ : Nat → List Int) (n : Nat) (O : List Nat) : Prop where
  perm : O.Perm (List.range n)
  up : ∀ p q, p < q → q < n → ¬ cmpZ (κ (O.getD q 0)) (κ (O.getD p 0)) < 0
  len : ∀ i j, i < n → j < n → (κ i).length = (κ j).length
theorem SortedK.lt {κ : Nat → List Int} {n : Nat} {O : List Nat} (h : SortedK κ n O) {p : Nat} (hp : p < n) : O.getD p 0 < n ∧ O[p]? = some (O.getD p 0) := by
  have hl : O.length = n := by rw [h.perm.length_eq, List.length_range]
  have e : O.getD p 0 = O[p] := by rw [List.getD_eq_getElem?_getD, List.getElem?_eq_getElem (by omega)]; rfl
  rw [e]
  exact ⟨List.mem_range.1 (h.perm.mem_iff.1 (List.getElem_mem _)), List.getElem?_eq_getElem (by omega)⟩
end RuleP
end Go.Proofs.YtedmmmlahpmmoaaGreatDoor

namespace Go.Proofs.YtedmmmlahpmmoaaGreatDoor
open Go.RowKit RuleP
namespace RuleP
/-- The keys met, and the numbers given. -/
structure NumK (κ : Nat → List Nat) (i : Nat) (S : List (List Nat)) (out : List Nat) : Prop where
  len : out.length = i
  at_ : ∀ p, p < i → S[out.getD p 0]? = some (κ p)
  nd : S.Nodup
  all : ∀ x, x < S.length → ∃ p, p < i ∧ out.getD p 0 = x
  le : S.length ≤ i
  ok : ∀ x ∈ S, ∃ p, p < i ∧ κ p = x
namespace NumK
variable {κ : Nat → List Nat} {i n : Nat} {S : List (List Nat)} {out : List Nat}
theorem start (κ : Nat → List Nat) : NumK κ 0 [] [] := ⟨rfl, fun p h => absurd h (Nat.not_lt_zero p), List.nodup_nil, fun x h => absurd h (Nat.not_lt_zero x), Nat.le_refl _, fun x h => by simp at h⟩
theorem lt (h : NumK κ i S out) {p : Nat} (hp : p < i) : out.getD p 0 < S.length := (List.getElem?_eq_some_iff.1 (h.at_ p hp)).1
theorem snocD (h : NumK κ i S out) (x : Nat) : (∀ p, p < i → (out ++ [x]).getD p 0 = out.getD p 0) ∧ (out ++ [x]).getD i 0 = x := by
  refine ⟨fun p hp => SubP.getD_app (by rw [h.len]; exact hp), ?_⟩
  rw [List.getD_eq_getElem?_getD, List.getElem?_append_right (by rw [h.len]; exact Nat.le_refl _), h.len, Nat.sub_self]
  rfl
theorem old (h : NumK κ i S out) {ix : Nat} (hx : S[ix]? = some (κ i)) : NumK κ (i + 1) S (out ++ [ix]) := by
  obtain ⟨h1, h2⟩ := h.snocD ix
  refine ⟨by rw [List.length_append, h.len]; rfl, fun p hp => ?_, h.nd, fun x hx' => ?_, Nat.le_succ_of_le h.le, fun x hx' => ?_⟩
  · rcases Nat.lt_or_ge p i with hlt | hge
    · rw [h1 p hlt]; exact h.at_ p hlt
    · rw [show p = i by omega, h2]; exact hx
  · obtain ⟨p, hp, e⟩ := h.all x hx'
    exact ⟨p, by omega, by rw [h1 p hp, e]⟩
  · obtain ⟨p, hp, e⟩ := h.ok x hx'
    exact ⟨p, by omega, e⟩
theorem new (h : NumK κ i S out) (hx : κ i ∉ S) : NumK κ (i + 1) (S ++ [κ i]) (out ++ [S.length]) := by
  obtain ⟨h1, h2⟩ := h.snocD S.length
  refine ⟨by rw [List.length_append, h.len]; rfl, fun p hp => ?_, ?_, fun x hx' => ?_, by rw [List.length_append]; have := h.le; simp only [List.length_cons, List.length_nil]; omega, fun x hx' => ?_⟩
  · rcases Nat.lt_or_ge p i with hlt | hge
    · rw [h1 p hlt]; exact SubP.get_app (h.at_ p hlt)
    · rw [show p = i by omega, h2]; exact SubP.get_last _ _
  · rw [List.nodup_append]
    refine ⟨h.nd, by simp, fun a ha b hb => ?_⟩
    rw [List.mem_singleton] at hb
    rw [hb]
    intro e
    rw [e] at ha
    exact hx ha
  · rw [List.length_append] at hx'
    rcases Nat.lt_or_ge x S.length with hlt | hge
    · obtain ⟨p, hp, e⟩ := h.all x hlt
      exact ⟨p, by omega, by rw [h1 p hp, e]⟩
    · exact ⟨i, by omega, by rw [h2]; simp only [List.length_cons, List.length_nil] at hx'; omega⟩
  · rcases List.mem_append.1 hx' with h' | h'
    · obtain ⟨p, hp, e⟩ := h.ok x h'
      exact ⟨p, by omega, e⟩
    · exact ⟨i, by omega, (List.mem_singleton.1 h').symm⟩
theorem dcnt (h : NumK κ n S out) : dcnt out n = S.length := dcnt_of (fun _ hi => h.lt hi) h.all
end NumK
end RuleP
end Go.Proofs.YtedmmmlahpmmoaaGreatDoor

namespace Go.Proofs.YtedmmmlahpmmoaaGreatDoor
namespace RuleP

/-- The number of t's part among the states met. -/
def look (e : Nat → Nat → Bool) (S : List Nat) (t : Nat) : Nat := S.findIdx fun u => e u t
def stepS (e : Nat → Nat → Bool) (p : List Nat × List Int) (t : Int) : List Nat × List Int :=
  if t < 0 then (p.1, p.2 ++ [t]) else
  if look e p.1 t.toNat < p.1.length then (p.1, p.2 ++ [((look e p.1 t.toNat : Nat) : Int)]) else (p.1 ++ [t.toNat], p.2 ++ [(p.1.length : Int)])
def rowF (e : Nat → Nat → Bool) (S : List Nat) (r : List Int) : List Nat × List Int := r.foldl (stepS e) (S, [])
theorem rowF_snoc (e : Nat → Nat → Bool) (S : List Nat) (r : List Int) (t : Int) : rowF e S (r ++ [t]) = stepS e (rowF e S r) t := by simp [rowF]
def stepR (e : Nat → Nat → Bool) (L : List (List Int)) (q : List Nat × List (List Int)) : List Nat × List (List Int) :=
  ((rowF e q.1 (L.getD (q.1.getD q.2.length 0) [])).1, q.2 ++ [(rowF e q.1 (L.getD (q.1.getD q.2.length 0) [])).2])
/-- e parts as the words do. -/
def EqB (k : Nat) (L : List (List Int)) (e : Nat → Nat → Bool) : Prop := ∀ i j, i < L.length → j < L.length → (e i j = true ↔ Eqv k L L i j)

theorem findIdx_spec {α : Type} {p : α → Bool} : ∀ {l : List α}, l.findIdx p < l.length → ∃ x, l[l.findIdx p]? = some x ∧ p x = true := by
  intro l h
  exact ⟨l[l.findIdx p], List.getElem?_eq_getElem h, List.findIdx_getElem (w := h)⟩
theorem findIdx_none {α : Type} {p : α → Bool} {l : List α} (h : ¬ l.findIdx p < l.length) : ∀ x ∈ l, p x = false := by
  intro x hx
  cases hp : p x with
  | false => rfl
  | true => exact absurd (List.findIdx_lt_length_of_exists ⟨x, hx, hp⟩) h

/-- What stands between two symbols of a row. -/
structure FRow (k : Nat) (L : List (List Int)) (e : Nat → Nat → Bool) (S0 S : List Nat) (i c : Nat) (r : List Int) : Prop where
  pre : S0 <+: S
  lt : ∀ x ∈ S, x < L.length
  apart : S.Pairwise fun a b => e a b = false
  len : r.length = c
  ok : ∀ s x, r[s]? = some x → (nxt L i s < 0 ∧ x = nxt L i s) ∨ (¬ nxt L i s < 0 ∧ ∃ q : Nat, x = (q : Int) ∧ ∃ u, S[q]? = some u ∧ e u (nxt L i s).toNat = true)
theorem FRow.start {k : Nat} {L : List (List Int)} {e : Nat → Nat → Bool} {S : List Nat} {i : Nat} (h1 : ∀ x ∈ S, x < L.length) (h2 : S.Pairwise fun a b => e a b = false) : FRow k L e S S i 0 [] :=
  ⟨List.prefix_refl _, h1, h2, rfl, fun s x h => by simp at h⟩
theorem pre_get {S S' : List Nat} (h : S <+: S') {q u : Nat} (hq : S[q]? = some u) : S'[q]? = some u := by
  obtain ⟨t, rfl⟩ := h
  have hl : q < S.length := (List.getElem?_eq_some_iff.1 hq).1
  rw [List.getElem?_append_left hl]
  exact hq
theorem FRow.step {k : Nat} {L : List (List Int)} {e : Nat → Nat → Bool} (hA : IsAuto k L) (hr : ∀ t, t < L.length → e t t = true) {S0 S : List Nat} {i c : Nat} {r : List Int} (h : FRow k L e S0 S i c r) (hi : i < L.length) (hc : c < k) :
    FRow k L e S0 (stepS e (S, r) (nxt L i c)).1 i (c + 1) (stepS e (S, r) (nxt L i c)).2 := by
  have hok : ∀ {S' : List Nat}, S <+: S' → ∀ {y : Int}, ((nxt L i c < 0 ∧ y = nxt L i c) ∨ (¬ nxt L i c < 0 ∧ ∃ q : Nat, y = (q : Int) ∧ ∃ u, S'[q]? = some u ∧ e u (nxt L i c).toNat = true)) → ∀ s x, (r ++ [y])[s]? = some x → (nxt L i s < 0 ∧ x = nxt L i s) ∨ (¬ nxt L i s < 0 ∧ ∃ q : Nat, x = (q : Int) ∧ ∃ u, S'[q]? = some u ∧ e u (nxt L i s).toNat = true) := by
    intro S' hp y hy s x hx
    by_cases hs : s < r.length
    · rw [List.getElem?_append_left hs] at hx
      rcases h.ok s x hx with h1 | ⟨h1, q, h2, u, h3, h4⟩
      · exact .inl h1
      · exact .inr ⟨h1, q, h2, u, pre_get hp h3, h4⟩
    · have hs' : s = c := by
        have := (List.getElem?_eq_some_iff.1 hx).1
        rw [List.length_append, List.length_singleton, h.len] at this
        rw [h.len] at hs
        omega
      subst hs'
      rw [List.getElem?_append_right (by rw [h.len]; exact Nat.le_refl _), h.len, Nat.sub_self] at hx
      cases hx
      exact hy
  unfold stepS
  by_cases h0 : nxt L i c < 0
  · rw [if_pos h0]
    exact ⟨h.pre, h.lt, h.apart, by rw [List.length_append, h.len]; rfl, hok (List.prefix_refl _) (.inl ⟨h0, rfl⟩)⟩
  · rw [if_neg h0]
    obtain ⟨t, ht, htl⟩ := (hA.at_ hi hc).2.resolve_left (by omega)
    have htn : (nxt L i c).toNat = t := by omega
    by_cases h1 : look e S (nxt L i c).toNat < S.length
    · rw [if_pos h1]
      obtain ⟨u, hu1, hu2⟩ := findIdx_spec h1
      exact ⟨h.pre, h.lt, h.apart, by rw [List.length_append, h.len]; rfl, hok (List.prefix_refl _) (.inr ⟨h0, _, rfl, u, hu1, hu2⟩)⟩
    · rw [if_neg h1]
      have hno := findIdx_none h1
      refine ⟨h.pre.trans (List.prefix_append _ _), fun x hx => ?_, ?_, by rw [List.length_append, h.len]; rfl, hok (List.prefix_append _ _) (.inr ⟨h0, _, rfl, t, ?_, ?_⟩)⟩
      · rcases List.mem_append.1 hx with hx | hx
        · exact h.lt x hx
        · rw [List.mem_singleton] at hx; omega
      · rw [List.pairwise_append]
        refine ⟨h.apart, List.pairwise_singleton _ _, fun a ha b hb => ?_⟩
        rw [List.mem_singleton] at hb
        subst hb
        exact hno a ha
      · rw [htn, List.getElem?_append_right (Nat.le_refl _), Nat.sub_self]; rfl
      · rw [htn]; exact hr t htl
theorem FRow.all {k : Nat} {L : List (List Int)} {e : Nat → Nat → Bool} (hA : IsAuto k L) (hr : ∀ t, t < L.length → e t t = true) {S : List Nat} {i : Nat} (h1 : ∀ x ∈ S, x < L.length) (h2 : S.Pairwise fun a b => e a b = false) (hi : i < L.length) :
    ∀ c, c ≤ k → FRow k L e S (rowF e S ((L.getD i []).take c)).1 i c (rowF e S ((L.getD i []).take c)).2
  | 0, _ => FRow.start h1 h2
  | c + 1, hc => by
    have h3 := (FRow.all hA hr h1 h2 hi c (by omega)).step hA hr hi (show c < k by omega)
    rw [List.take_add_one, (hA.at_ hi (show c < k by omega)).1]
    show FRow k L e S (rowF e S ((L.getD i []).take c ++ [nxt L i c])).1 i (c + 1) (rowF e S ((L.getD i []).take c ++ [nxt L i c])).2
    rw [rowF_snoc]
    exact h3

/-- What stands between two rows. -/
structure FInv (k : Nat) (L : List (List Int)) (e : Nat → Nat → Bool) (S : List Nat) (F : List (List Int)) : Prop where
  lt : ∀ x ∈ S, x < L.length
  apart : S.Pairwise fun a b => e a b = false
  zero : S[0]? = some 0
  le : F.length ≤ S.length
  len : ∀ r ∈ F, r.length = k
  ok : ∀ (i : Nat) (r : List Int), F[i]? = some r → ∀ s x, r[s]? = some x → (nxt L (S.getD i 0) s < 0 ∧ x = nxt L (S.getD i 0) s) ∨ (¬ nxt L (S.getD i 0) s < 0 ∧ ∃ q : Nat, x = (q : Int) ∧ ∃ u, S[q]? = some u ∧ e u (nxt L (S.getD i 0) s).toNat = true)
theorem FInv.start {k : Nat} {L : List (List Int)} {e : Nat → Nat → Bool} (hA : IsAuto k L) : FInv k L e [0] [] :=
  ⟨fun x hx => by rw [List.mem_singleton] at hx; rw [hx]; exact hA.pos, List.pairwise_singleton _ _, rfl, by simp, fun r hr => by simp at hr, fun i r h => by simp at h⟩
theorem FInv.round {k : Nat} {L : List (List Int)} {e : Nat → Nat → Bool} (hA : IsAuto k L) (hr : ∀ t, t < L.length → e t t = true) {S : List Nat} {F : List (List Int)} (h : FInv k L e S F) (hlt : F.length < S.length) :
    FInv k L e (stepR e L (S, F)).1 (stepR e L (S, F)).2 ∧ S <+: (stepR e L (S, F)).1 := by
  obtain ⟨i, hi⟩ : ∃ i, S.getD F.length 0 = i := ⟨_, rfl⟩
  have hSi : S[F.length]? = some i := by rw [← hi, List.getD_eq_getElem?_getD, List.getElem?_eq_getElem hlt]; rfl
  have hil := h.lt i (List.mem_of_getElem? hSi)
  have h1 := FRow.all hA hr h.lt h.apart hil k (Nat.le_refl _)
  rw [List.take_of_length_le (by rw [(hA.row hil).1]; exact Nat.le_refl _)] at h1
  unfold stepR
  rw [hi]
  obtain ⟨S', hS'⟩ : ∃ S', (rowF e S (L.getD i [])).1 = S' := ⟨_, rfl⟩
  obtain ⟨r', hr'⟩ : ∃ r', (rowF e S (L.getD i [])).2 = r' := ⟨_, rfl⟩
  rw [hS', hr'] at h1
  dsimp only
  rw [hS', hr']
  have hle : S.length ≤ S'.length := h1.pre.length_le
  refine ⟨⟨h1.lt, h1.apart, pre_get h1.pre h.zero, by rw [List.length_append, List.length_singleton]; omega, fun r hr => ?_, fun j r hj s x hx => ?_⟩, h1.pre⟩
  · rcases List.mem_append.1 hr with hr | hr
    · exact h.len r hr
    · rw [List.mem_singleton] at hr; rw [hr]; exact h1.len
  · by_cases hjl : j < F.length
    · rw [List.getElem?_append_left hjl] at hj
      have e1 : S'.getD j 0 = S.getD j 0 := by
        have h3 : S[j]? = some (S.getD j 0) := by rw [List.getD_eq_getElem?_getD, List.getElem?_eq_getElem (show j < S.length by omega)]; rfl
        rw [List.getD_eq_getElem?_getD, pre_get h1.pre h3]; rfl
      rw [e1]
      rcases h.ok j r hj s x hx with h4 | ⟨h4, q, h5, u, h6, h7⟩
      · exact .inl h4
      · exact .inr ⟨h4, q, h5, u, pre_get h1.pre h6, h7⟩
    · have hj' : j = F.length := by
        have := (List.getElem?_eq_some_iff.1 hj).1
        rw [List.length_append, List.length_singleton] at this
        omega
      subst hj'
      rw [List.getElem?_append_right (Nat.le_refl _), Nat.sub_self] at hj
      cases hj
      have e1 : S'.getD F.length 0 = i := by rw [List.getD_eq_getElem?_getD, pre_get h1.pre hSi]; rfl
      rw [e1]
      exact h1.ok s x hx
/-! ### it runs as the old one -/
structure FDone (k : Nat) (L : List (List Int)) (e : Nat → Nat → Bool) (S : List Nat) (F : List (List Int)) : Prop extends FInv k L e S F where
  eq : F.length = S.length
theorem FDone.auto {k : Nat} {L : List (List Int)} {e : Nat → Nat → Bool} {S : List Nat} {F : List (List Int)} (hA : IsAuto k L) (h : FDone k L e S F) : IsAuto k F := by
  refine ⟨?_, h.len, fun r hr x hx => ?_⟩
  · rw [h.eq]; exact (List.getElem?_eq_some_iff.1 h.zero).1
  · obtain ⟨i, hi⟩ := List.getElem?_of_mem hr
    obtain ⟨s, hs⟩ := List.getElem?_of_mem hx
    have hil : i < S.length := by rw [← h.eq]; exact (List.getElem?_eq_some_iff.1 hi).1
    have hSi : S.getD i 0 < L.length := by
      have e1 : S.getD i 0 = S[i] := by rw [List.getD_eq_getElem?_getD, List.getElem?_eq_getElem hil]; rfl
      rw [e1]; exact h.lt _ (List.getElem_mem hil)
    rcases h.ok i r hi s x hs with ⟨h1, h2⟩ | ⟨h1, q, h2, u, h3, _⟩
    · have hsk : s < k := by rw [← h.len r hr]; exact (List.getElem?_eq_some_iff.1 hs).1
      rcases (hA.at_ hSi hsk).2 with h5 | ⟨j, h5, _⟩
      · exact .inl (by omega)
      · omega
    · exact .inr ⟨q, h2, by rw [h.eq]; exact (List.getElem?_eq_some_iff.1 h3).1⟩
theorem FDone.at_ {k : Nat} {L : List (List Int)} {e : Nat → Nat → Bool} {S : List Nat} {F : List (List Int)} (hA : IsAuto k L) (h : FDone k L e S F) {i s : Nat} (hi : i < F.length) (hs : s < k) :
    (nxt L (S.getD i 0) s < 0 ∧ nxt F i s = nxt L (S.getD i 0) s) ∨ (¬ nxt L (S.getD i 0) s < 0 ∧ ∃ q : Nat, nxt F i s = (q : Int) ∧ ∃ u, S[q]? = some u ∧ e u (nxt L (S.getD i 0) s).toNat = true) :=
  h.ok i _ ((h.auto hA).row hi).2 s _ ((h.auto hA).at_ hi hs).1
theorem FDone.st {k : Nat} {L : List (List Int)} {e : Nat → Nat → Bool} {S : List Nat} {F : List (List Int)} (h : FDone k L e S F) {i : Nat} (hi : i < F.length) : S.getD i 0 < L.length := by
  have hil : i < S.length := by rw [← h.eq]; exact hi
  have e1 : S.getD i 0 = S[i] := by rw [List.getD_eq_getElem?_getD, List.getElem?_eq_getElem hil]; rfl
  rw [e1]; exact h.lt _ (List.getElem_mem hil)
theorem FDone.runs {k : Nat} {L : List (List Int)} {e : Nat → Nat → Bool} {S : List Nat} {F : List (List Int)} (hA : IsAuto k L) (he : EqB k L e) (h : FDone k L e S F) : ∀ i, i < F.length → Eqv k F L i (S.getD i 0) := by
  have key : ∀ (w : List Nat) (i : Nat), i < F.length → (∀ c ∈ w, c < k) → (runA F i w).isSome = (runA L (S.getD i 0) w).isSome := by
    intro w
    induction w with
    | nil => intro i _ _; rw [runA_nil, runA_nil]; rfl
    | cons c w ih =>
      intro i hi hw
      have hck := hw c (by simp)
      have hwk : ∀ x ∈ w, x < k := fun x hx => hw x (by simp [hx])
      rw [runA_cons, runA_cons]
      rcases h.at_ hA hi hck with ⟨h1, h2⟩ | ⟨h1, q, h2, u, h3, h4⟩
      · rw [if_pos (by omega), if_pos h1]
      · rw [if_neg (by omega), if_neg h1]
        obtain ⟨t, ht, htl⟩ := (hA.at_ (h.st hi) hck).2.resolve_left (by omega)
        have hq : q < F.length := by rw [h.eq]; exact (List.getElem?_eq_some_iff.1 h3).1
        have e1 : S.getD q 0 = u := by rw [List.getD_eq_getElem?_getD, h3]; rfl
        have hu : u < L.length := h.lt u (List.mem_of_getElem? h3)
        rw [h2]
        rw [ht] at h4 ⊢
        have h5 := ih q hq hwk
        rw [e1] at h5
        exact h5.trans ((he u t hu htl).1 h4 w hwk)
  exact fun i hi w hw => key w i hi hw
theorem FDone.least {k : Nat} {L : List (List Int)} {e : Nat → Nat → Bool} {S : List Nat} {F : List (List Int)} (hA : IsAuto k L) (he : EqB k L e) (h : FDone k L e S F) {i j : Nat} (hi : i < F.length) (hj : j < F.length) (hE : Eqv k F F i j) : i = j := by
  have h1 := ((h.runs hA he i hi).symm.trans hE).trans (h.runs hA he j hj)
  have h2 := (he _ _ (h.st hi) (h.st hj)).2 h1
  have g : ∀ {a : Nat}, a < F.length → ∃ hl : a < S.length, S.getD a 0 = S[a] := fun {a} ha => ⟨by rw [← h.eq]; exact ha, by rw [List.getD_eq_getElem?_getD, List.getElem?_eq_getElem (by rw [← h.eq]; exact ha)]; rfl⟩
  obtain ⟨hi', ei⟩ := g hi
  obtain ⟨hj', ej⟩ := g hj
  rcases Nat.lt_trichotomy i j with hlt | rfl | hlt
  · have h3 := List.pairwise_iff_getElem.1 h.apart i j hi' hj' hlt
    rw [ei, ej, h3] at h2; cases h2
  · rfl
  · have h3 := List.pairwise_iff_getElem.1 h.apart j i hj' hi' hlt
    have h4 := (he _ _ (h.st hj) (h.st hi)).2 h1.symm
    rw [ei, ej, h3] at h4; cases h4
theorem FDone.rows {k : Nat} {L : List (List Int)} {e : Nat → Nat → Bool} {S : List Nat} {F : List (List Int)} (hA : IsAuto k L) (he : EqB k L e) (h : FDone k L e S F) {i j : Nat} (hi : i < F.length) (hj : j < F.length) (hR : F[i]? = F[j]?) : i = j := by
  refine h.least hA he hi hj fun w hw => ?_
  cases w with
  | nil => rw [runA_nil, runA_nil]; rfl
  | cons c w =>
    have e1 : nxt F i c = nxt F j c := by unfold nxt; rw [List.getD_eq_getElem?_getD (l := F), List.getD_eq_getElem?_getD (l := F), hR]
    rw [runA_cons, runA_cons, e1]

/-! ### one language, one automaton -/
/-- The states met on both sides run alike, one by one. -/
def Pair (k : Nat) (L M : List (List Int)) (S T : List Nat) : Prop := S.length = T.length ∧ ∀ (i u v : Nat), S[i]? = some u → T[i]? = some v → Eqv k L M u v
theorem Pair.looks {k : Nat} {L M : List (List Int)} {e f : Nat → Nat → Bool} (he : EqB k L e) (hf : EqB k M f) : ∀ {S T : List Nat}, (∀ x ∈ S, x < L.length) → (∀ x ∈ T, x < M.length) → Pair k L M S T → ∀ {s t : Nat}, s < L.length → t < M.length → Eqv k L M s t → look e S s = look f T t
  | [], [], _, _, _, _, _, _, _, _ => rfl
  | [], v :: T, _, _, h, _, _, _, _, _ => by have := h.1; simp at this
  | u :: S, [], _, _, h, _, _, _, _, _ => by have := h.1; simp at this
  | u :: S, v :: T, hS, hT, h, s, t, hs, ht, hE => by
    have huv := h.2 0 u v rfl rfl
    have hu := hS u (by simp)
    have hv := hT v (by simp)
    have hb : e u s = f v t := by
      rw [Bool.eq_iff_iff, he u s hu hs, hf v t hv ht]
      exact ⟨fun h1 => (huv.symm.trans h1).trans hE, fun h1 => (huv.trans h1).trans hE.symm⟩
    have h2 : Pair k L M S T := ⟨by have := h.1; simpa using this, fun i a b ha hb => h.2 (i + 1) a b ha hb⟩
    have h3 := Pair.looks he hf (fun x hx => hS x (by simp [hx])) (fun x hx => hT x (by simp [hx])) h2 hs ht hE
    unfold look at h3 ⊢
    rw [List.findIdx_cons, List.findIdx_cons, hb, h3]
theorem Pair.snoc {k : Nat} {L M : List (List Int)} {S T : List Nat} (h : Pair k L M S T) {s t : Nat} (hE : Eqv k L M s t) : Pair k L M (S ++ [s]) (T ++ [t]) := by
  refine ⟨by rw [List.length_append, List.length_append, h.1]; rfl, fun i u v hu hv => ?_⟩
  by_cases hi : i < S.length
  · rw [List.getElem?_append_left hi] at hu
    rw [List.getElem?_append_left (by rw [← h.1]; exact hi)] at hv
    exact h.2 i u v hu hv
  · have hl := (List.getElem?_eq_some_iff.1 hu).1
    rw [List.length_append, List.length_singleton] at hl
    have hi' : i = S.length := by omega
    subst hi'
    rw [List.getElem?_append_right (Nat.le_refl _), Nat.sub_self] at hu
    rw [h.1, List.getElem?_append_right (Nat.le_refl _), Nat.sub_self] at hv
    cases hu
    cases hv
    exact hE
theorem Pair.row {k : Nat} {L M : List (List Int)} {e f : Nat → Nat → Bool} (hA : IsAuto k L) (hB : IsAuto k M) (he : EqB k L e) (hf : EqB k M f) {S T : List Nat} (hS : ∀ x ∈ S, x < L.length) (hS2 : S.Pairwise fun a b => e a b = false) (hT : ∀ x ∈ T, x < M.length) (hT2 : T.Pairwise fun a b => f a b = false) (h : Pair k L M S T) {i j : Nat} (hi : i < L.length) (hj : j < M.length) (hE : Eqv k L M i j) :
    ∀ c, c ≤ k → Pair k L M (rowF e S ((L.getD i []).take c)).1 (rowF f T ((M.getD j []).take c)).1 ∧ (rowF e S ((L.getD i []).take c)).2 = (rowF f T ((M.getD j []).take c)).2
  | 0, _ => ⟨h, rfl⟩
  | c + 1, hc => by
    have hck : c < k := by omega
    obtain ⟨h1, h2⟩ := Pair.row hA hB he hf hS hS2 hT hT2 h hi hj hE c (by omega)
    have a1 := FRow.all hA (fun t ht => (he t t ht ht).2 (Eqv.refl k L t)) hS hS2 hi c (by omega)
    have a2 := FRow.all hB (fun t ht => (hf t t ht ht).2 (Eqv.refl k M t)) hT hT2 hj c (by omega)
    rw [List.take_add_one, (hA.at_ hi hck).1, List.take_add_one, (hB.at_ hj hck).1]
    show Pair k L M (rowF e S ((L.getD i []).take c ++ [nxt L i c])).1 (rowF f T ((M.getD j []).take c ++ [nxt M j c])).1 ∧ (rowF e S ((L.getD i []).take c ++ [nxt L i c])).2 = (rowF f T ((M.getD j []).take c ++ [nxt M j c])).2
    rw [rowF_snoc, rowF_snoc]
    obtain ⟨S', hS'⟩ : ∃ S', (rowF e S ((L.getD i []).take c)).1 = S' := ⟨_, rfl⟩
    obtain ⟨T', hT'⟩ : ∃ T', (rowF f T ((M.getD j []).take c)).1 = T' := ⟨_, rfl⟩
    unfold stepS
    rw [hS', hT'] at h1
    rw [hS'] at a1
    rw [hT'] at a2
    rw [hS', hT', h2]
    by_cases h0 : nxt L i c < 0
    · have h0' := (hE.sign hck).1 h0
      rw [if_pos h0, if_pos h0']
      have e1 : nxt L i c = nxt M j c := by
        rcases (hA.at_ hi hck).2 with x | ⟨_, x, _⟩
        · rcases (hB.at_ hj hck).2 with y | ⟨_, y, _⟩
          · omega
          · omega
        · omega
      exact ⟨h1, by rw [e1]⟩
    · have h0' : ¬ nxt M j c < 0 := fun x => h0 ((hE.sign hck).2 x)
      rw [if_neg h0, if_neg h0']
      obtain ⟨s, hs, hsl⟩ := (hA.at_ hi hck).2.resolve_left (by omega)
      obtain ⟨t, ht, htl⟩ := (hB.at_ hj hck).2.resolve_left (by omega)
      have hn := hE.next hck h0
      rw [hs, ht] at hn ⊢
      have hlk := Pair.looks he hf a1.lt a2.lt h1 hsl htl hn
      rw [show ((s : Int)).toNat = s from rfl, show ((t : Int)).toNat = t from rfl, hlk, h1.1]
      by_cases h3 : look f T' t < T'.length
      · rw [if_pos h3, if_pos h3]; exact ⟨h1, rfl⟩
      · rw [if_neg h3, if_neg h3]; exact ⟨h1.snoc hn, rfl⟩
end RuleP
end Go.Proofs.YtedmmmlahpmmoaaGreatDoor

namespace Go.Proofs.YtedmmmlahpmmoaaGreatDoor
namespace RuleP

/-- A number's digits in base k, the highest first. -/
def digB : Nat → Nat → Nat → List Nat
  | _, 0, _ => []
  | k, n + 1, x => digB k n (x / k) ++ [x % k]
theorem digB_len (k n x : Nat) : (digB k n x).length = n := by
  induction n generalizing x with
  | zero => rfl
  | succ n ih => simp [digB, ih]
theorem digB_sym {k : Nat} (hk : 0 < k) (n x : Nat) : ∀ y ∈ digB k n x, y < k := by
  induction n generalizing x with
  | zero => intro y hy; simp [digB] at hy
  | succ n ih =>
    intro y hy
    rcases List.mem_append.1 hy with hy | hy
    · exact ih _ y hy
    · simp at hy; subst hy; exact Nat.mod_lt _ hk
theorem list_snoc {n : Nat} {w : List Nat} (h : w.length = n + 1) : ∃ v x, w = v ++ [x] ∧ v.length = n := by
  have hne : w ≠ [] := by intro e; subst e; simp at h
  exact ⟨w.dropLast, w.getLast hne, (List.dropLast_concat_getLast hne).symm, by simp [h]⟩
theorem digB_wval {k : Nat} (hk : 0 < k) : ∀ (n : Nat) (w : List Nat), w.length = n → (∀ x ∈ w, x < k) → digB k n (wval k w) = w := by
  intro n
  induction n with
  | zero => intro w h _; simp at h; subst h; rfl
  | succ n ih =>
    intro w h hs
    obtain ⟨v, x, rfl, hv⟩ := list_snoc h
    have hx : x < k := hs x (by simp)
    rw [wval_snoc, digB, Nat.mul_comm, Nat.mul_add_div hk, Nat.div_eq_of_lt hx, Nat.add_zero, Nat.mul_add_mod, Nat.mod_eq_of_lt hx, ih v hv (fun y hy => hs y (by simp [hy]))]

def lin (k : Nat) (x f : List Nat) : Nat := (List.zipWith (· * ·) x f).sum % k
theorem lin_lt {k : Nat} (hk : 0 < k) (x f : List Nat) : lin k x f < k := Nat.mod_lt _ hk
/-- The table is a sum. -/
def SumT (k r : Nat) (t f : List Nat) : Prop := t.length = k ^ (2 * r + 1) ∧ ∀ (i : Nat), i < k ^ (2 * r + 1) → t[i]? = some (lin k (digB k (2 * r + 1) i) f)
theorem SumT.rule {k r : Nat} {t f : List Nat} (h : SumT k r t f) (k1 : 1 ≤ k) (k4 : k ≤ 4) (r3 : r ≤ 3) : IsRule k r t := ⟨k1, k4, r3, h.1, fun x hx => by
  obtain ⟨i, hi⟩ := List.getElem?_of_mem hx
  have := (List.getElem?_eq_some_iff.1 hi).1
  rw [h.1] at this
  rw [h.2 i this] at hi
  cases hi
  exact lin_lt k1 _ _⟩
theorem SumT.at_ {k r : Nat} {t f : List Nat} (h : SumT k r t f) (k1 : 1 ≤ k) {w : List Nat} (hl : w.length = 2 * r + 1) (hs : ∀ x ∈ w, x < k) : t.getD (wval k w) 0 = lin k w f := by
  have h1 := wval_lt hs
  rw [hl] at h1
  rw [List.getD_eq_getElem?_getD, h.2 _ h1, digB_wval k1 _ w hl hs]
  rfl
end RuleP
end Go.Proofs.YtedmmmlahpmmoaaGreatDoor
