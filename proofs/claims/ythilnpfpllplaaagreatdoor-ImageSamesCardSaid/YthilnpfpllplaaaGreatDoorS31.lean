/- One language of a rule and its narrow form, as the walks over the subsets see it: the narrow rule's walk is never too big where the wide one's is not. Plain lists, no program. No condition. What image.Same answers of a rule and its narrow form, of a rule and one that shifts ahead of it; two with one language have as many words. Plain, over sameF. No condition. -/
import Derived.Test.YthilnpfpllplaaaGreatDoorS23
import Derived.Test.YthilnpfpllplaaaGreatDoorS26
import Derived.Test.YthilnpfpllplaaaGreatDoorS30
namespace Go.Proofs.YthilnpfpllplaaaGreatDoor
namespace SubP
open BagP RuleP

/-- The nodes behind a word. -/
def aft (k N : Nat) (t : List Nat) (w : List Nat) : List Bool := w.foldl (fun B c => beh k N t B c) (List.replicate N true)
theorem aft_nil (k N : Nat) (t : List Nat) : aft k N t [] = List.replicate N true := rfl
theorem aft_snoc (k N : Nat) (t w : List Nat) (c : Nat) : aft k N t (w ++ [c]) = beh k N t (aft k N t w) c := by simp [aft]
theorem snoc_of {n : Nat} {w : List Nat} (h : w.length = n + 1) : ∃ v x, w = v ++ [x] ∧ v.length = n := by
  have hne : w ≠ [] := fun e => by rw [e] at h; cases h
  refine ⟨w.dropLast, w.getLast hne, (List.dropLast_concat_getLast hne).symm, ?_⟩
  rw [List.length_dropLast]; omega
theorem aft_len {k N : Nat} {t : List Nat} : ∀ (n : Nat) (w : List Nat), w.length = n → (aft k N t w).length = N
  | 0, w, h => by rw [List.length_eq_zero_iff.1 h, aft_nil, List.length_replicate]
  | n + 1, w, h => by
    obtain ⟨v, x, rfl, _⟩ := snoc_of h
    rw [aft_snoc]
    exact beh_len _ _ _ _ _
theorem image_snoc {k r n c : Nat} {t x : List Nat} (hx : x.length = n + 2 * r) : image k r t (x ++ [c]) = image k r t x ++ [t.getD (wval k (x.drop n ++ [c])) 0] := by
  have hl : (image k r t x).length = n := by rw [image_len]; omega
  apply List.ext_getElem?
  intro i
  rcases Nat.lt_trichotomy i n with h | h | h
  · rw [image_at (by rw [List.length_append]; simp; omega), List.getElem?_append_left (by omega), image_at (by omega)]
    congr 3
    unfold win
    rw [List.drop_append_of_le_length (by omega), List.take_append_of_le_length (by rw [List.length_drop]; omega)]
  · subst h
    rw [image_at (by rw [List.length_append]; simp; omega), List.getElem?_append_right (by omega), hl, Nat.sub_self]
    show some _ = some _
    congr 3
    unfold win
    rw [List.drop_append_of_le_length (by omega), List.take_of_length_le (by rw [List.length_append, List.length_drop]; simp; omega)]
  · rw [List.getElem?_eq_none (by rw [image_len, List.length_append]; simp; omega), List.getElem?_eq_none (by rw [List.length_append, hl]; simp; omega)]
/-- A node is behind a word just if a preimage ends in it. -/
theorem mem_aft {k r : Nat} (hk : 0 < k) {t : List Nat} : ∀ (n : Nat) (w : List Nat), w.length = n → ∀ v, v ∈ nodesOf (aft k (k ^ (2 * r)) t w) ↔ v < k ^ (2 * r) ∧ ∃ x, x.length = n + 2 * r ∧ (∀ y ∈ x, y < k) ∧ image k r t x = w ∧ x.drop n = digB k (2 * r) v
  | 0, w, h, v => by
    rw [List.length_eq_zero_iff.1 h, aft_nil, mem_nodesOf, List.length_replicate]
    constructor
    · rintro ⟨h1, _⟩
      exact ⟨h1, digB k (2 * r) v, by rw [digB_len]; omega, digB_sym hk _ _, image_few (by rw [digB_len]; exact Nat.le_refl _), rfl⟩
    · rintro ⟨h1, _⟩
      exact ⟨h1, by rw [List.getD_eq_getElem?_getD, List.getElem?_replicate, if_pos h1]; rfl⟩
  | n + 1, w, h, v => by
    obtain ⟨w', s, rfl, hw'⟩ := snoc_of h
    have hN : 0 < k ^ (2 * r) := Nat.pow_pos hk
    rw [aft_snoc, mem_beh hN, mem_behF]
    constructor
    · rintro ⟨u, hu, c, hc, hs, rfl⟩
      obtain ⟨hu1, x, hx1, hx2, hx3, hx4⟩ := (mem_aft hk n w' hw' u).1 hu
      refine ⟨Nat.mod_lt _ hN, x ++ [c], by rw [List.length_append, hx1]; simp; omega, fun y hy => ?_, ?_, ?_⟩
      · rcases List.mem_append.1 hy with hy | hy
        · exact hx2 y hy
        · rw [List.mem_singleton.1 hy]; exact hc
      · rw [image_snoc hx1, hx3, hx4, wval_snoc, wval_digB hk hu1, hs]
      · rw [← node_next hk hu1 hc, ← hx4, ← List.drop_append_of_le_length (by omega), List.drop_drop]
    · rintro ⟨hv, x', hx1, hx2, hx3, hx4⟩
      obtain ⟨x, c, rfl, hxl⟩ := snoc_of (n := n + 2 * r) (w := x') (by omega)
      have hxs : ∀ y ∈ x, y < k := fun y hy => hx2 y (List.mem_append.2 (.inl hy))
      have hc : c < k := hx2 c (List.mem_append.2 (.inr (List.mem_singleton.2 rfl)))
      rw [image_snoc hxl] at hx3
      have hil : (image k r t x).length = w'.length := by rw [image_len]; omega
      obtain ⟨e1, e2⟩ := List.append_inj hx3 hil
      have hdl : (x.drop n).length = 2 * r := by rw [List.length_drop]; omega
      have hds : ∀ y ∈ x.drop n, y < k := fun y hy => hxs y (List.mem_of_mem_drop hy)
      have hul := wval_lt hds
      rw [hdl] at hul
      have hdg := digB_wval hk (2 * r) (x.drop n) hdl hds
      refine ⟨wval k (x.drop n), (mem_aft hk n w' hw' _).2 ⟨hul, x, hxl, hxs, e1, hdg.symm⟩, c, hc, ?_, ?_⟩
      · rw [← wval_snoc]
        injection e2
      · have h5 := node_next hk hul hc
        rw [hdg] at h5
        rw [← List.drop_append_of_le_length (by omega), List.drop_drop, hx4] at h5
        have h6 := congrArg (wval k) h5
        rw [wval_digB hk hv, wval_digB hk (Nat.mod_lt _ hN)] at h6
        exact h6.symm
theorem win_mid {Z : List Nat} {n r d : Nat} (h : Z.length = n + 2 * (r + d)) : (win Z d (Z.length - 2 * d)).drop n = ((Z.drop n).drop d).take (2 * r) := by
  unfold win
  rw [List.drop_take, List.drop_drop, List.drop_drop, Nat.add_comm d n, show Z.length - 2 * d - n = 2 * r by omega]
/-- The narrow rule's nodes behind a word hang on the wide rule's alone. -/
theorem aft_narrow {k r d : Nat} {t : List Nat} (hr : IsRule k r t) {w1 w2 : List Nat} (h : aft k (k ^ (2 * (r + d))) (wide k r d t) w1 = aft k (k ^ (2 * (r + d))) (wide k r d t) w2) :
    ∀ v, v ∈ nodesOf (aft k (k ^ (2 * r)) t w1) → v ∈ nodesOf (aft k (k ^ (2 * r)) t w2) := fun v hv => by
  have hk := hr.k1
  obtain ⟨hv1, x, hx1, hx2, hx3, hx4⟩ := (mem_aft hk _ w1 rfl v).1 hv
  obtain ⟨X, hX⟩ : ∃ X, List.replicate d 0 ++ (x ++ List.replicate d 0) = X := ⟨_, rfl⟩
  have hXl : X.length = w1.length + 2 * (r + d) := by rw [← hX, List.length_append, List.length_append, List.length_replicate]; omega
  have hXs : ∀ y ∈ X, y < k := by
    intro y hy
    rw [← hX] at hy
    rcases List.mem_append.1 hy with hy | hy
    · rw [(List.mem_replicate.1 hy).2]; exact hk
    · rcases List.mem_append.1 hy with hy | hy
      · exact hx2 y hy
      · rw [(List.mem_replicate.1 hy).2]; exact hk
  have hwin : win X d (X.length - 2 * d) = x := by
    unfold win
    rw [← hX, List.drop_append_of_le_length (by rw [List.length_replicate]; exact Nat.le_refl _), List.drop_eq_nil_of_le (by rw [List.length_replicate]; exact Nat.le_refl _), List.nil_append, List.take_append_of_le_length (by rw [List.length_append, List.length_append, List.length_replicate]; omega), List.take_of_length_le (by rw [List.length_append, List.length_append, List.length_replicate]; omega)]
  have himX : image k (r + d) (wide k r d t) X = w1 := by rw [image_wide hr hXs (by omega), hwin, hx3]
  have hdl : (X.drop w1.length).length = 2 * (r + d) := by rw [List.length_drop]; omega
  have hds : ∀ y ∈ X.drop w1.length, y < k := fun y hy => hXs y (List.mem_of_mem_drop hy)
  have hul := wval_lt hds
  rw [hdl] at hul
  have hdg := digB_wval hk (2 * (r + d)) (X.drop w1.length) hdl hds
  have hu := (mem_aft (r := r + d) (t := wide k r d t) hk _ w1 rfl (wval k (X.drop w1.length))).2 ⟨hul, X, hXl, hXs, himX, hdg.symm⟩
  rw [h] at hu
  obtain ⟨_, Y, hY1, hY2, hY3, hY4⟩ := (mem_aft (r := r + d) (t := wide k r d t) hk _ w2 rfl _).1 hu
  rw [hdg] at hY4
  refine (mem_aft hk _ w2 rfl v).2 ⟨hv1, win Y d (Y.length - 2 * d), by rw [win_len (by omega)]; omega, win_sym hY2 _ _, by rw [← image_wide hr hY2 (by omega), hY3], ?_⟩
  rw [win_mid hY1, hY4, ← win_mid hXl, hwin, hx4]
theorem aft_narrow_eq {k r d : Nat} {t : List Nat} (hr : IsRule k r t) {w1 w2 : List Nat} (h : aft k (k ^ (2 * (r + d))) (wide k r d t) w1 = aft k (k ^ (2 * (r + d))) (wide k r d t) w2) : aft k (k ^ (2 * r)) t w1 = aft k (k ^ (2 * r)) t w2 := by
  have l1 := aft_len (k := k) (N := k ^ (2 * r)) (t := t) _ w1 rfl
  have l2 := aft_len (k := k) (N := k ^ (2 * r)) (t := t) _ w2 rfl
  refine bools_ext l1 l2 fun v hv => ?_
  have e : v ∈ nodesOf (aft k (k ^ (2 * r)) t w1) ↔ v ∈ nodesOf (aft k (k ^ (2 * r)) t w2) := ⟨aft_narrow hr h v, aft_narrow hr h.symm v⟩
  rw [mem_nodesOf, mem_nodesOf, l1, l2] at e
  cases h1 : (aft k (k ^ (2 * r)) t w1).getD v false <;> cases h2 : (aft k (k ^ (2 * r)) t w2).getD v false
  · rfl
  · have := (e.2 ⟨hv, h2⟩).2
    rw [h1] at this; cases this
  · have := (e.1 ⟨hv, h1⟩).2
    rw [h2] at this; cases this
  · rfl

/-- What holds of the sets as they are found: unlike, not empty, each behind some word. -/
structure Met (k N : Nat) (t : List Nat) (S : St) : Prop where
  nd : S.sets.Nodup
  ne : ∀ B ∈ S.sets, nodesOf B ≠ []
  word : ∀ B ∈ S.sets, ∃ w : List Nat, (∀ c ∈ w, c < k) ∧ B = aft k N t w
/-- One set more than there may be. -/
def Much (k N : Nat) (t : List Nat) : Prop := ∃ S : St, Met k N t S ∧ 4096 < S.sets.length
theorem Met.init {k N : Nat} {t : List Nat} (hN : 0 < N) : Met k N t (init N) where
  nd := by simp [SubP.init]
  ne := (Inv.init hN).some
  word := fun B hB => by
    simp [SubP.init] at hB
    exact ⟨[], fun c hc => by simp at hc, hB⟩
theorem Met.more {k N : Nat} {t : List Nat} {S : St} (h : Met k N t S) {i s : Nat} (hi : i < S.sets.length) (hs : s < k) (h1 : nodesOf (beh k N t (S.sets.getD i []) s) ≠ []) (h2 : beh k N t (S.sets.getD i []) s ∉ S.sets) {W : List (List Nat)} {X : List (List Int)} :
    Met k N t ⟨S.sets ++ [beh k N t (S.sets.getD i []) s], W, X⟩ := by
  have hm : S.sets.getD i [] ∈ S.sets := by
    rw [List.getD_eq_getElem?_getD, List.getElem?_eq_getElem hi]
    exact List.getElem_mem hi
  obtain ⟨w, hw1, hw2⟩ := h.word _ hm
  refine ⟨?_, ?_, ?_⟩
  · rw [List.nodup_append]
    exact ⟨h.nd, by simp, fun a ha b hb e => by simp at hb; subst hb; subst e; exact h2 ha⟩
  · intro B hB
    rcases List.mem_append.1 hB with hB | hB
    · exact h.ne B hB
    · simp at hB; subst hB; exact h1
  · intro B hB
    rcases List.mem_append.1 hB with hB | hB
    · exact h.word B hB
    · obtain rfl := List.mem_singleton.1 hB
      refine ⟨w ++ [s], fun c hc => ?_, by rw [aft_snoc, ← hw2]⟩
      rcases List.mem_append.1 hc with hc | hc
      · exact hw1 c hc
      · rw [List.mem_singleton.1 hc]; exact hs
theorem Met.sym {k N : Nat} {t : List Nat} {S : St} (h : Met k N t S) {i s : Nat} {row : List Int} (hi : i < S.sets.length) (hs : s < k) :
    (∃ S' row', sym k N t false i S row s = .go S' row' ∧ Met k N t S' ∧ S.sets.length ≤ S'.sets.length) ∨ (sym k N t false i S row s = .over ∧ Much k N t) := by
  unfold SubP.sym
  by_cases h1 : nodesOf (beh k N t (S.sets.getD i []) s) = []
  · rw [if_pos h1]
    exact .inl ⟨_, _, rfl, h, Nat.le_refl _⟩
  · rw [if_neg h1]
    by_cases h2 : beh k N t (S.sets.getD i []) s ∈ S.sets
    · rw [if_pos h2]
      exact .inl ⟨_, _, rfl, h, Nat.le_refl _⟩
    · rw [if_neg h2]
      by_cases h3 : 4096 ≤ S.sets.length
      · rw [if_pos h3]
        exact .inr ⟨rfl, _, h.more hi hs h1 h2 (W := []) (X := []), by simp; omega⟩
      · rw [if_neg h3]
        exact .inl ⟨_, _, rfl, h.more hi hs h1 h2, by simp⟩
theorem Met.rowTo {k N : Nat} {t : List Nat} {S : St} (h : Met k N t S) {i : Nat} (hi : i < S.sets.length) : ∀ {s : Nat}, s ≤ k →
    (∃ S' row', rowTo k N t false i S s = .go S' row' ∧ Met k N t S' ∧ S.sets.length ≤ S'.sets.length) ∨ (rowTo k N t false i S s = .over ∧ Much k N t)
  | 0, _ => .inl ⟨S, [], rfl, h, Nat.le_refl _⟩
  | s + 1, hs => by
    rw [SubP.rowTo]
    rcases Met.rowTo h hi (s := s) (by omega) with ⟨S', row', e, h', hl⟩ | ⟨e, hm⟩
    · rw [e]
      rcases h'.sym (row := row') (show i < S'.sets.length by omega) (show s < k by omega) with ⟨S2, row2, e2, h2, hl2⟩ | ⟨e2, hm⟩
      · exact .inl ⟨S2, row2, e2, h2, by omega⟩
      · exact .inr ⟨e2, hm⟩
    · rw [e]
      exact .inr ⟨rfl, hm⟩
theorem Met.round {k N : Nat} {t : List Nat} (hN : 0 < N) : ∀ (n : Nat), (∃ S row, roundTo k N t false n = .go S row ∧ Met k N t S) ∨ (roundTo k N t false n = .over ∧ Much k N t)
  | 0 => .inl ⟨_, _, rfl, Met.init hN⟩
  | n + 1 => by
    rw [roundTo]
    rcases Met.round hN n with ⟨S, row, e, h⟩ | ⟨e, hm⟩
    · rw [e]
      dsimp only
      by_cases hl : n < S.sets.length
      · rw [if_pos hl]
        rcases h.rowTo hl (Nat.le_refl k) with ⟨S', row', e', h', _⟩ | ⟨e', hm⟩
        · rw [e']
          exact .inl ⟨_, _, rfl, ⟨h'.nd, h'.ne, h'.word⟩⟩
        · rw [e']
          exact .inr ⟨rfl, hm⟩
      · rw [if_neg hl]
        exact .inl ⟨_, _, rfl, h⟩
    · rw [e]
      exact .inr ⟨rfl, hm⟩
theorem over_much {k N : Nat} {t : List Nat} (hN : 0 < N) (h : fin k N t false = .over) : Much k N t := by
  unfold fin at h
  rcases Met.round (k := k) (t := t) hN 4097 with ⟨S, row, e, _⟩ | ⟨_, hm⟩
  · rw [e] at h; cases h
  · exact hm
theorem nodes_beh_nil {k N : Nat} {t : List Nat} (hN : 0 < N) {B : List Bool} {s : Nat} (h : nodesOf B = []) : nodesOf (beh k N t B s) = [] := by
  rw [← behF_nil_iff hN, h]
  rfl
/-- Behind each word that has preimages lies a set that the walk has found. -/
theorem aft_in {k N : Nat} {t : List Nat} (hN : 0 < N) {S : St} (h : RowsOk k N t S) : ∀ (n : Nat) (w : List Nat), w.length = n → (∀ c ∈ w, c < k) → nodesOf (aft k N t w) ≠ [] → aft k N t w ∈ S.sets
  | 0, w, hl, _, _ => by rw [List.length_eq_zero_iff.1 hl, aft_nil]; exact List.mem_of_getElem? h.zero
  | n + 1, w, hl, hs, hne => by
    obtain ⟨v, x, rfl, hv⟩ := snoc_of hl
    rw [aft_snoc] at hne ⊢
    have hin := aft_in hN h n v hv (fun c hc => hs c (List.mem_append.2 (.inl hc))) (fun e => hne (nodes_beh_nil hN e))
    obtain ⟨i, hi⟩ := List.getElem?_of_mem hin
    have hil := (List.getElem?_eq_some_iff.1 hi).1
    have hx : x < k := hs x (List.mem_append.2 (.inr (List.mem_singleton.2 rfl)))
    have hg : S.sets.getD i [] = aft k N t v := by rw [List.getD_eq_getElem?_getD, hi]; rfl
    rcases h.at_ hil hx with ⟨_, h2⟩ | ⟨j, _, _, h3⟩
    · rw [hg] at h2
      exact absurd h2 hne
    · rw [hg] at h3
      exact List.mem_of_getElem? h3
/-- Sets that lie behind words, told apart by what another rule has behind the same words, are no more than that rule's. -/
theorem met_le {k N N' : Nat} {t t' : List Nat} (hN : 0 < N) {S : St} (hR : RowsOk k N t S) (hw : ∀ w1 w2 : List Nat, aft k N t w1 = aft k N t w2 → aft k N' t' w1 = aft k N' t' w2) (hl : ∀ w : List Nat, (∀ c ∈ w, c < k) → nodesOf (aft k N' t' w) ≠ [] → nodesOf (aft k N t w) ≠ []) :
    ∀ L : List (List Bool), L.Nodup → (∀ B ∈ L, nodesOf B ≠ []) → (∀ B ∈ L, ∃ w : List Nat, (∀ c ∈ w, c < k) ∧ B = aft k N' t' w) → ∃ Q : List Nat, Q.length = L.length ∧ Q.Nodup ∧ (∀ q ∈ Q, q < S.sets.length) ∧ ∀ q ∈ Q, ∃ w : List Nat, aft k N' t' w ∈ L ∧ S.sets[q]? = some (aft k N t w)
  | [], _, _, _ => ⟨[], rfl, List.nodup_nil, fun q hq => by simp at hq, fun q hq => by simp at hq⟩
  | B :: L, hnd, hne, hwd => by
    rw [List.nodup_cons] at hnd
    obtain ⟨Q, q1, q2, q3, q4⟩ := met_le hN hR hw hl L hnd.2 (fun A hA => hne A (List.mem_cons_of_mem _ hA)) (fun A hA => hwd A (List.mem_cons_of_mem _ hA))
    obtain ⟨w, hw1, hw2⟩ := hwd B (List.mem_cons_self ..)
    have hnb := hne B (List.mem_cons_self ..)
    rw [hw2] at hnb
    have hin := aft_in hN hR _ w rfl hw1 (hl w hw1 hnb)
    obtain ⟨p, hp⟩ := List.getElem?_of_mem hin
    refine ⟨p :: Q, by rw [List.length_cons, List.length_cons, q1], ?_, ?_, ?_⟩
    · rw [List.nodup_cons]
      refine ⟨fun hm => ?_, q2⟩
      obtain ⟨w', hw3, hw4⟩ := q4 p hm
      rw [hp] at hw4
      have e := hw _ _ (Option.some.inj hw4)
      rw [← e, ← hw2] at hw3
      exact hnd.1 hw3
    · intro q hq
      rcases List.mem_cons.1 hq with rfl | hq
      · exact (List.getElem?_eq_some_iff.1 hp).1
      · exact q3 q hq
    · intro q hq
      rcases List.mem_cons.1 hq with rfl | hq
      · exact ⟨w, by rw [← hw2]; exact List.mem_cons_self .., hp⟩
      · obtain ⟨w', a, b⟩ := q4 q hq
        exact ⟨w', List.mem_cons_of_mem _ a, b⟩
theorem aft_has {k r : Nat} {t : List Nat} (hk : 0 < k) {w : List Nat} : nodesOf (aft k (k ^ (2 * r)) t w) ≠ [] ↔ HasP k r t w := by
  constructor
  · intro h
    obtain ⟨v, hv⟩ := List.exists_mem_of_ne_nil _ h
    obtain ⟨_, x, h1, h2, h3, _⟩ := (mem_aft hk _ w rfl v).1 hv
    exact ⟨x, h1, h2, h3⟩
  · rintro ⟨x, h1, h2, h3⟩ he
    have hdl : (x.drop w.length).length = 2 * r := by rw [List.length_drop]; omega
    have hds : ∀ y ∈ x.drop w.length, y < k := fun y hy => h2 y (List.mem_of_mem_drop hy)
    have hul := wval_lt hds
    rw [hdl] at hul
    have hu := (mem_aft (t := t) hk _ w rfl (wval k (x.drop w.length))).2 ⟨hul, x, h1, h2, h3, (digB_wval hk (2 * r) _ hdl hds).symm⟩
    rw [he] at hu
    simp at hu
/-- The narrow rule's walk is never too big where the wide one's is not. -/
theorem narrow_not_over {k r d : Nat} {t : List Nat} (hr : IsRule k r t) {S : St} (h : fin k (k ^ (2 * (r + d))) (wide k r d t) false = .go S []) : fin k (k ^ (2 * r)) t false ≠ .over := fun he => by
  have hk := hr.k1
  have hN : 0 < k ^ (2 * (r + d)) := Nat.pow_pos hk
  obtain ⟨S', hm, hb⟩ := over_much (Nat.pow_pos hk) he
  obtain ⟨Q, q1, q2, q3, _⟩ := met_le hN (fin_rows hN h) (fun w1 w2 e => aft_narrow_eq hr e) (fun w _ hw => (aft_has hk).2 ((has_wide hr).2 ((aft_has hk).1 hw))) S'.sets hm.nd hm.ne hm.word
  have h1 := nodup_le q2 (b := List.range S.sets.length) (fun x hx => List.mem_range.2 (q3 x hx))
  rw [List.length_range] at h1
  obtain ⟨_, j, hj, _⟩ := Inv.round hN (show roundTo k (k ^ (2 * (r + d))) (wide k r d t) false 4097 = .go S [] from h)
  have h2 := hj.big
  omega
end SubP
end Go.Proofs.YthilnpfpllplaaaGreatDoor

namespace Go.Proofs.YthilnpfpllplaaaGreatDoor
open Go.RowKit RuleP SubP NatP

theorem same_lang {k r r' : Nat} {t t' : List Nat} {S S' : St} (hk : 0 < k) (h : fin k (k ^ (2 * r)) t false = .go S []) (h' : fin k (k ^ (2 * r')) t' false = .go S' []) (hH : ∀ w, HasP k r t w ↔ HasP k r' t' w) : leastA k S.next = leastA k S'.next := by
  have h1 := fin_rows (Nat.pow_pos hk) h
  have h2 := fin_rows (Nat.pow_pos hk) h'
  refine least_same h1.auto h2.auto fun w hw => ?_
  have e1 := h1.has hk hw
  have e2 := h2.has hk hw
  rw [has_before hk] at e1 e2
  rw [Bool.eq_iff_iff, e1, e2]
  exact hH w
theorem ints_inj {x y : List Nat} (h : ints x = ints y) : x = y := by
  have := congrArg (List.map Int.toNat) h
  rwa [toNat_ints, toNat_ints] at this
theorem ofF_at {a b K R : Int} {T : List Int} {kk : Int} {L : List (List Int)} (h : ofF a K R T = (kk, L, none)) : ofF b K R T = (kk, L, none) := by
  unfold ofF at h ⊢
  cases hw : (walkF K R T).2.2.2 with
  | some tl => rw [hw] at h; cases (Prod.mk.inj (Prod.mk.inj h).2).2
  | none => rw [hw] at h; exact h
theorem rule_len {k r r' : Nat} {t t' : List Nat} (hr : IsRule k r t) (hr' : IsRule k r' t') (hl : t.length ≤ 256) (h : r' ≤ r) : t'.length ≤ 256 := by
  rw [hr'.len]
  rw [hr.len] at hl
  exact Nat.le_trans (Nat.pow_le_pow_right hr.k1 (by omega)) hl
theorem same_narrow {k r : Nat} {t : List Nat} {S : St} (hr : IsRule k r t) (hl : t.length ≤ 256) (h : fin k (k ^ (2 * r)) t false = .go S []) :
    sameF (k : Int) (r : Int) (ints t) (k : Int) ((narrow k r t).1 : Int) (ints (narrow k r t).2) = (true, none) := by
  obtain ⟨d, hd, hw⟩ := narrow_back hr
  have hr' := narrow_rule hr
  have hl' := rule_len hr hr' hl (by omega)
  obtain ⟨ρ, hρ⟩ : ∃ ρ, (narrow k r t).1 = ρ := ⟨_, rfl⟩
  obtain ⟨u, hu⟩ : ∃ u, (narrow k r t).2 = u := ⟨_, rfl⟩
  rw [hρ] at hd hw hr'
  rw [hu] at hw hr' hl'
  rw [hρ, hu]
  have hx : fin k (k ^ (2 * (ρ + d))) (wide k ρ d u) false = .go S [] := by rw [hd, hw]; exact h
  rcases walkF_cases (k : Int) (ρ : Int) (ints u) with ⟨tl, h1⟩ | ⟨k2, r2, t2, S', e1, e2, e3, _, _, h1⟩ | ⟨k2, r2, t2, e1, e2, e3, _, _, h1⟩
  · rw [small_rule hr' hl'] at h1; cases h1
  · obtain rfl : k = k2 := Int.ofNat.inj e1
    obtain rfl : ρ = r2 := Int.ofNat.inj e2
    obtain rfl := ints_inj e3
    rw [sameF_good (ofF_good hr hl h) (ofF_good hr' hl' h1), same_lang hr.k1 h h1 (fun w => by
      have h2 := has_wide (d := d) (w := w) hr'
      rw [hd, hw] at h2
      exact h2), decide_eq_true ⟨rfl, rfl⟩]
  · obtain rfl : k = k2 := Int.ofNat.inj e1
    obtain rfl : ρ = r2 := Int.ofNat.inj e2
    obtain rfl := ints_inj e3
    exact absurd h1 (narrow_not_over hr' hx)
theorem same_shift {k r : Nat} {t : List Nat} {S : St} (hr : IsRule k r t) (hl : t.length ≤ 256) (h : fin k (k ^ (2 * r)) t false = .go S []) {q : Nat} (hq : (narrow k r t).1 + 1 = q) (h3 : q ≤ 3) {b : Bool}
    (hb : sameF (k : Int) (r : Int) (ints t) (k : Int) (q : Int) (ints (comp k (narrow k r t).1 (narrow k r t).2 1 (shT k 1 (2 * 1)))) = (b, none)) : b = true := by
  obtain ⟨d, hd, hw⟩ := narrow_back hr
  have hr' := narrow_rule hr
  obtain ⟨ρ, hρ⟩ : ∃ ρ, (narrow k r t).1 = ρ := ⟨_, rfl⟩
  obtain ⟨u, hu⟩ : ∃ u, (narrow k r t).2 = u := ⟨_, rfl⟩
  rw [hρ] at hd hw hr' hq hb
  rw [hu] at hw hr' hb
  subst hq
  rcases ofF_cases 1 (k : Int) ((ρ + 1 : Nat) : Int) (ints (comp k ρ u 1 (shT k 1 (2 * 1)))) with ⟨tl, h1⟩ | ⟨k2, r2, t2, S', e1, e2, e3, hr2, hl2, hf, h1, _⟩
  · rw [sameF_bad2 (ofF_good hr hl h) h1] at hb
    cases (Prod.mk.inj hb).2
  · obtain rfl : k = k2 := Int.ofNat.inj e1
    obtain rfl : ρ + 1 = r2 := Int.ofNat.inj e2
    obtain rfl := ints_inj e3
    rw [sameF_good (ofF_good hr hl h) h1, same_lang hr.k1 h hf (fun w => by
      have h2 := has_wide (d := d) (w := w) hr'
      rw [hd, hw] at h2
      exact h2.trans (has_shift hr' h3).symm), decide_eq_true ⟨rfl, rfl⟩] at hb
    exact (Prod.mk.inj hb).1.symm
theorem same_words {K R : Int} {T : List Int} {K2 R2 : Int} {T2 : List Int} (h : sameF K R T K2 R2 T2 = (true, none)) {q : Nat} (hq : q ≤ 256) : ∃ X, wordsF K R T (q : Int) = (X, none) ∧ wordsF K2 R2 T2 (q : Int) = (X, none) := by
  rcases ofF_cases 0 K R T with ⟨tl, h1⟩ | ⟨k, r, t, S, rfl, rfl, rfl, hr, hl, hf, h1, _⟩
  · rw [sameF_bad h1] at h
    cases (Prod.mk.inj h).2
  · rcases ofF_cases 1 K2 R2 T2 with ⟨tl, h2⟩ | ⟨k2, r2, t2, S', rfl, rfl, rfl, hr2, hl2, hf2, h2, _⟩
    · rw [sameF_bad2 h1 h2] at h
      cases (Prod.mk.inj h).2
    · rw [sameF_good h1 h2] at h
      have he := of_decide_eq_true (Prod.mk.inj h).1
      refine ⟨_, wordsF_run h1 hq, ?_⟩
      rw [wordsF_run (ofF_at h2) hq, he.2]
theorem sameF_okT (K R : Int) (T : List Int) (K2 R2 : Int) (T2 : List Int) : TaleOk (sameF K R T K2 R2 T2).2 := by
  have h0 := ofF_ok 0 K R T (walkF_ok K R T)
  have h1 := ofF_ok 1 K2 R2 T2 (walkF_ok K2 R2 T2)
  unfold sameF
  cases e0 : (ofF 0 K R T).2.2 with
  | some tl => rw [e0] at h0; exact h0
  | none =>
    dsimp only
    cases e1 : (ofF 1 K2 R2 T2).2.2 with
    | some tl => rw [e1] at h1; exact h1
    | none => intro x hx; cases hx
theorem sameF_rule {K R : Int} {T : List Int} {K2 R2 : Int} {T2 : List Int} {b : Bool} (h : sameF K R T K2 R2 T2 = (b, none)) : ∃ (k r : Nat) (t : List Nat) (S : St), K = (k : Int) ∧ R = (r : Int) ∧ T = ints t ∧ IsRule k r t ∧ t.length ≤ 256 ∧ fin k (k ^ (2 * r)) t false = .go S [] := by
  rcases ofF_cases 0 K R T with ⟨tl, h1⟩ | ⟨k, r, t, S, e1, e2, e3, hr, hl, hf, _, _⟩
  · rw [sameF_bad h1] at h
    cases (Prod.mk.inj h).2
  · exact ⟨k, r, t, S, e1, e2, e3, hr, hl, hf⟩
theorem mod40 (N : Int) : ∃ q : Nat, q < 40 ∧ (N.tmod 40 + 40).tmod 40 = (q : Int) ∧ 0 ≤ N.tmod 40 + 40 ∧ N.tmod 40 + 40 ≤ 79 := by
  have h1 : -40 < N.tmod 40 ∧ N.tmod 40 < 40 := by
    have h2 := Int.lt_tmod_of_pos N (b := 40) (by decide)
    have h3 := Int.tmod_lt_of_pos N (b := 40) (by decide)
    omega
  refine ⟨((N.tmod 40 + 40).tmod 40).toNat, ?_, ?_, by omega, by omega⟩
  · rw [Int.tmod_eq_emod_of_nonneg (by omega)]; omega
  · rw [Int.tmod_eq_emod_of_nonneg (by omega)]; omega
end Go.Proofs.YthilnpfpllplaaaGreatDoor
