/- Tarjan's search as plain lists: what it keeps, and that two vertices of one part reach each other. No program. No condition. -/
import Derived.Test.YtedmmmlahpmmoaaGreatDoorV1
namespace Go.Proofs.YtedmmmlahpmmoaaGreatDoor
namespace TarjP

/-- A step of the graph. -/
def Arrow (g : List (List Nat)) (v t : Nat) : Prop := t ∈ g.getD v []
/-- A way of the graph. -/
inductive Rch (g : List (List Nat)) : Nat → Nat → Prop where
  | refl (v : Nat) : Rch g v v
  | step {u v t : Nat} (h : Rch g u v) (ha : Arrow g v t) : Rch g u t
theorem Rch.one {g : List (List Nat)} {v t : Nat} (h : Arrow g v t) : Rch g v t := .step (.refl v) h
theorem Rch.trans {g : List (List Nat)} {u v t : Nat} (h1 : Rch g u v) (h2 : Rch g v t) : Rch g u t := by
  induction h2 with
  | refl => exact h1
  | step _ ha ih => exact .step ih ha
theorem Rch.head {g : List (List Nat)} {u v t : Nat} (ha : Arrow g u v) (h : Rch g v t) : Rch g u t := (Rch.one ha).trans h

/-- What the search keeps; the open vertices and the calls from the last one on. -/
structure St where
  low : List Nat
  found : List Nat
  opn : List Nat
  part : List Int
  calls : List (Nat × Nat)
  time : Nat
def lo (s : St) (x : Nat) : Nat := s.low.getD x 0
def fo (s : St) (x : Nat) : Nat := s.found.getD x 0
def pa (s : St) (x : Nat) : Int := s.part.getD x 0
/-- enter. -/
def St.enter (s : St) (v : Nat) : St := ⟨s.low.set v (s.time + 1), s.found.set v (s.time + 1), v :: s.opn, s.part, (v, 0) :: s.calls, s.time + 1⟩
/-- The open vertices up to v leave. -/
def closeTo (v : Nat) : List Nat → List Int → List Nat × List Int
  | [], p => ([], p)
  | t :: l, p => if t = v then (l, p.set t (v : Int)) else closeTo v l (p.set t (v : Int))
/-- low of the call that is left to. -/
def up (low : List Nat) (v : Nat) : List (Nat × Nat) → List Nat
  | [] => low
  | (u, _) :: _ => low.set u (min (low.getD u 0) (low.getD v 0))
/-- leave, of the last call. -/
def St.leave (s : St) (v : Nat) (cs : List (Nat × Nat)) : St :=
  if (up s.low v cs).getD v 0 = s.found.getD v 0 then ⟨up s.low v cs, s.found, (closeTo v s.opn s.part).1, (closeTo v s.opn s.part).2, cs, s.time⟩
  else ⟨up s.low v cs, s.found, s.opn, s.part, cs, s.time⟩
/-- A round of from. -/
def St.next (g : List (List Nat)) (s : St) : St :=
  match s.calls with
  | [] => s
  | (u, i) :: cs =>
    if i = (g.getD u []).length then s.leave u cs
    else
      let t := (g.getD u []).getD i 0
      if s.found.getD t 0 = 0 then (⟨s.low, s.found, s.opn, s.part, (u, i + 1) :: cs, s.time⟩ : St).enter t
      else if s.part.getD t 0 < 0 then ⟨s.low.set u (min (s.low.getD u 0) (s.found.getD t 0)), s.found, s.opn, s.part, (u, i + 1) :: cs, s.time⟩
      else ⟨s.low, s.found, s.opn, s.part, (u, i + 1) :: cs, s.time⟩

theorem getD_set {α : Type} (l : List α) (i j : Nat) (v d : α) : (l.set i v).getD j d = if i = j ∧ j < l.length then v else l.getD j d := by
  rw [List.getD_eq_getElem?_getD, List.getD_eq_getElem?_getD, List.getElem?_set]
  by_cases h : i = j
  · subst h
    by_cases hl : i < l.length
    · simp [hl]
    · simp [hl]
  · simp [h]
theorem getD_set_ne {α : Type} (l : List α) {i j : Nat} (v d : α) (h : i ≠ j) : (l.set i v).getD j d = l.getD j d := by
  rw [getD_set, if_neg (fun hh => h hh.1)]
theorem getD_set_eq {α : Type} (l : List α) {i : Nat} (v d : α) (h : i < l.length) : (l.set i v).getD i d = v := by
  rw [getD_set, if_pos ⟨rfl, h⟩]

/-- What the search keeps true. -/
structure Inv (g : List (List Nat)) (s : St) : Prop where
  hl : s.low.length = g.length
  hf : s.found.length = g.length
  hp : s.part.length = g.length
  op : ∀ x ∈ s.opn, x < g.length ∧ 0 < fo s x ∧ pa s x < 0 ∧ fo s x ≤ s.time
  mem : ∀ x, x < g.length → fo s x ≠ 0 → pa s x < 0 → x ∈ s.opn
  ord : s.opn.Pairwise (fun a b => fo s b < fo s a)
  cord : (s.calls.map (·.1)).Pairwise (fun a b => fo s b < fo s a)
  cmem : ∀ c ∈ s.calls, c.1 ∈ s.opn
  down : ∀ c ∈ s.calls, ∀ x ∈ s.opn, fo s c.1 ≤ fo s x → Rch g c.1 x
  wit : ∀ x ∈ s.opn, ∃ y ∈ s.opn, fo s y = lo s x ∧ lo s x ≤ fo s x ∧ Rch g x y
  fin : ∀ x ∈ s.opn, (∀ c ∈ s.calls, c.1 ≠ x) → lo s x < fo s x ∧ ∃ c ∈ s.calls, fo s c.1 < fo s x ∧ lo s c.1 ≤ lo s x ∧ ∀ c' ∈ s.calls, fo s c'.1 < fo s x → fo s c'.1 ≤ fo s c.1
  own : ∀ x, x < g.length → 0 ≤ pa s x → ∃ v : Nat, pa s x = (v : Int) ∧ Rch g v x ∧ Rch g x v
  new : ∀ x, x < g.length → fo s x = 0 → pa s x < 0
  cix : ∀ c ∈ s.calls, c.2 ≤ (g.getD c.1 []).length
  all : ∀ x, fo s x ≤ s.time

theorem Inv.opn_nil {g : List (List Nat)} {s : St} (h : Inv g s) (hc : s.calls = []) : s.opn = [] := by
  cases ho : s.opn with
  | nil => rfl
  | cons x l =>
    obtain ⟨_, c, hcm, _⟩ := h.fin x (by rw [ho]; exact List.mem_cons_self) (by rw [hc]; intro c hc; cases hc)
    rw [hc] at hcm
    cases hcm

/-- The graph's arrows lead to vertices. -/
def Graph (g : List (List Nat)) : Prop := ∀ v, ∀ t ∈ g.getD v [], t < g.length

theorem Inv.enter {g : List (List Nat)} {s : St} (h : Inv g s) {t : Nat} (ht : t < g.length) (hn : fo s t = 0) (hc : s.calls = [] ∨ ∃ u i cs, s.calls = (u, i) :: cs ∧ Arrow g u t) : Inv g (s.enter t) := by
  have hlt : t < s.low.length := by rw [h.hl]; exact ht
  have hft : t < s.found.length := by rw [h.hf]; exact ht
  have f1 : fo (s.enter t) t = s.time + 1 := getD_set_eq _ _ _ hft
  have f2 : ∀ x, t ≠ x → fo (s.enter t) x = fo s x := fun x hx => getD_set_ne _ _ _ hx
  have l1 : lo (s.enter t) t = s.time + 1 := getD_set_eq _ _ _ hlt
  have l2 : ∀ x, t ≠ x → lo (s.enter t) x = lo s x := fun x hx => getD_set_ne _ _ _ hx
  have hno : ∀ x ∈ s.opn, t ≠ x := fun x hx e => by have := (h.op x hx).2.1; rw [← e, hn] at this; omega
  have hnc : ∀ c ∈ s.calls, t ≠ c.1 := fun c hc => hno _ (h.cmem c hc)
  have hlast : ∀ c ∈ s.calls, Rch g c.1 t := by
    intro c hcm
    rcases hc with hc | ⟨u, i, cs, hc, ha⟩
    · rw [hc] at hcm; cases hcm
    · have hu : (u, i) ∈ s.calls := by rw [hc]; exact List.mem_cons_self
      have hle : fo s c.1 ≤ fo s u := by
        have hp := h.cord
        rw [hc] at hp hcm
        rcases List.mem_cons.1 hcm with e | hm
        · rw [e]; exact Nat.le_refl _
        · exact Nat.le_of_lt ((List.pairwise_cons.1 hp).1 c.1 (List.mem_map.2 ⟨c, hm, rfl⟩))
      exact .step (h.down c hcm u (h.cmem _ hu) hle) ha
  refine ⟨by show (s.low.set _ _).length = _; rw [List.length_set]; exact h.hl, by show (s.found.set _ _).length = _; rw [List.length_set]; exact h.hf, h.hp, ?_, ?_, ?_, ?_, ?_, ?_, ?_, ?_, h.own, ?_, ?_, ?_⟩
  · intro x hx
    rcases List.mem_cons.1 hx with rfl | hx
    · exact ⟨ht, by rw [f1]; omega, h.new _ ht hn, by rw [f1]; exact Nat.le_refl _⟩
    · obtain ⟨a, b, c, d⟩ := h.op x hx
      rw [f2 x (hno x hx)]
      exact ⟨a, b, c, Nat.le_succ_of_le d⟩
  · intro x hx h1 h2
    by_cases e : t = x
    · subst e; exact List.mem_cons_self
    · rw [f2 x e] at h1
      exact List.mem_cons_of_mem _ (h.mem x hx h1 h2)
  · refine List.pairwise_cons.2 ⟨fun x hx => ?_, ?_⟩
    · rw [f1, f2 x (hno x hx)]; exact Nat.lt_succ_of_le (h.op x hx).2.2.2
    · refine List.Pairwise.imp_of_mem ?_ h.ord
      intro a b ha hb hab
      rw [f2 a (hno a ha), f2 b (hno b hb)]
      exact hab
  · show (t :: s.calls.map (·.1)).Pairwise _
    refine List.pairwise_cons.2 ⟨fun x hx => ?_, ?_⟩
    · obtain ⟨c, hc, rfl⟩ := List.mem_map.1 hx
      rw [f1, f2 _ (hnc c hc)]; exact Nat.lt_succ_of_le (h.op _ (h.cmem c hc)).2.2.2
    · refine List.Pairwise.imp_of_mem ?_ h.cord
      intro a b ha hb hab
      obtain ⟨c, hc, rfl⟩ := List.mem_map.1 ha
      obtain ⟨c', hc', rfl⟩ := List.mem_map.1 hb
      rw [f2 _ (hnc c hc), f2 _ (hnc c' hc')]
      exact hab
  · intro c hc
    rcases List.mem_cons.1 hc with rfl | hc
    · exact List.mem_cons_self
    · exact List.mem_cons_of_mem _ (h.cmem c hc)
  · intro c hcc x hx hle
    rcases List.mem_cons.1 hcc with rfl | hcm
    · rcases List.mem_cons.1 hx with rfl | hx
      · exact .refl _
      · rw [f1, f2 x (hno x hx)] at hle
        have := (h.op x hx).2.2.2
        omega
    · rcases List.mem_cons.1 hx with rfl | hx
      · exact hlast c hcm
      · rw [f2 _ (hnc c hcm), f2 x (hno x hx)] at hle
        exact h.down c hcm x hx hle
  · intro x hx
    rcases List.mem_cons.1 hx with rfl | hx
    · exact ⟨_, List.mem_cons_self, by rw [f1, l1], by rw [f1, l1]; exact Nat.le_refl _, .refl _⟩
    · obtain ⟨y, hy, a, b, c⟩ := h.wit x hx
      exact ⟨y, List.mem_cons_of_mem _ hy, by rw [f2 y (hno y hy), l2 x (hno x hx)]; exact a, by rw [f2 x (hno x hx), l2 x (hno x hx)]; exact b, c⟩
  · intro x hx hcx
    rcases List.mem_cons.1 hx with rfl | hx
    · exact absurd rfl (hcx _ List.mem_cons_self)
    · obtain ⟨a, c, hc, b1, b2, b3⟩ := h.fin x hx (fun c hc => hcx c (List.mem_cons_of_mem _ hc))
      refine ⟨by rw [f2 x (hno x hx), l2 x (hno x hx)]; exact a, c, List.mem_cons_of_mem _ hc, by rw [f2 _ (hnc c hc), f2 x (hno x hx)]; exact b1, by rw [l2 _ (hnc c hc), l2 x (hno x hx)]; exact b2, ?_⟩
      intro c' hc' hlt
      rcases List.mem_cons.1 hc' with rfl | hc'
      · rw [f1, f2 x (hno x hx)] at hlt
        have := (h.op x hx).2.2.2
        omega
      · rw [f2 _ (hnc c' hc'), f2 x (hno x hx)] at hlt
        rw [f2 _ (hnc c' hc'), f2 _ (hnc c hc)]
        exact b3 c' hc' hlt
  · intro x hx h0
    by_cases e : t = x
    · subst e; rw [f1] at h0; omega
    · rw [f2 x e] at h0
      exact h.new x hx h0
  · intro c hc
    rcases List.mem_cons.1 hc with rfl | hc
    · exact Nat.zero_le _
    · exact h.cix c hc
  · intro x
    by_cases e : t = x
    · subst e; rw [f1]; exact Nat.le_refl _
    · rw [f2 x e]; exact Nat.le_succ_of_le (h.all x)

/-- The last call looks at one more arrow. -/
theorem Inv.bump {g : List (List Nat)} {s : St} (h : Inv g s) {u i : Nat} {cs : List (Nat × Nat)} (hc : s.calls = (u, i) :: cs) (hi : i < (g.getD u []).length) : Inv g ⟨s.low, s.found, s.opn, s.part, (u, i + 1) :: cs, s.time⟩ := by
  have hm : ∀ c ∈ (u, i + 1) :: cs, ∃ c' ∈ s.calls, c'.1 = c.1 := by
    intro c hcm
    rcases List.mem_cons.1 hcm with rfl | hcm
    · exact ⟨(u, i), by rw [hc]; exact List.mem_cons_self, rfl⟩
    · exact ⟨c, by rw [hc]; exact List.mem_cons_of_mem _ hcm, rfl⟩
  have hm2 : ∀ c ∈ s.calls, ∃ c' ∈ (u, i + 1) :: cs, c'.1 = c.1 := by
    intro c hcm
    rw [hc] at hcm
    rcases List.mem_cons.1 hcm with rfl | hcm
    · exact ⟨(u, i + 1), List.mem_cons_self, rfl⟩
    · exact ⟨c, List.mem_cons_of_mem _ hcm, rfl⟩
  refine ⟨h.hl, h.hf, h.hp, h.op, h.mem, h.ord, ?_, ?_, ?_, h.wit, ?_, h.own, h.new, ?_, h.all⟩
  · have := h.cord
    rw [hc] at this
    exact this
  · intro c hcm
    obtain ⟨c', h1, h2⟩ := hm c hcm
    rw [← h2]
    exact h.cmem c' h1
  · intro c hcm x hx hle
    obtain ⟨c', h1, h2⟩ := hm c hcm
    rw [← h2] at hle ⊢
    exact h.down c' h1 x hx hle
  · intro x hx hcx
    obtain ⟨a, c, hcm, b1, b2, b3⟩ := h.fin x hx (fun c hcm => by
      obtain ⟨c', h1, h2⟩ := hm2 c hcm
      rw [← h2]
      exact hcx c' h1)
    obtain ⟨c', h1, h2⟩ := hm2 c hcm
    refine ⟨a, c', h1, by rw [h2]; exact b1, by rw [h2]; exact b2, ?_⟩
    intro d hd hlt
    obtain ⟨d', h3, h4⟩ := hm d hd
    rw [← h4] at hlt
    have := b3 d' h3 hlt
    rw [h4, ← h2] at this
    exact this
  · intro c hcm
    rcases List.mem_cons.1 hcm with rfl | hcm
    · exact hi
    · exact h.cix c (by rw [hc]; exact List.mem_cons_of_mem _ hcm)
/-- A call's low takes what it reaches. -/
theorem Inv.lower {g : List (List Nat)} {s : St} (h : Inv g s) {u : Nat} (hu : ∃ c ∈ s.calls, c.1 = u) {k y : Nat} (hy : y ∈ s.opn) (hk : fo s y = k) (hr : Rch g u y) : Inv g ⟨s.low.set u (min (s.low.getD u 0) k), s.found, s.opn, s.part, s.calls, s.time⟩ := by
  obtain ⟨cu, hcu, hcue⟩ := hu
  have huo : u ∈ s.opn := hcue ▸ h.cmem cu hcu
  have hlt : u < s.low.length := by rw [h.hl]; exact (h.op u huo).1
  have l1 : (s.low.set u (min (s.low.getD u 0) k)).getD u 0 = min (lo s u) k := getD_set_eq _ _ _ hlt
  have l2 : ∀ x, u ≠ x → (s.low.set u (min (s.low.getD u 0) k)).getD x 0 = lo s x := fun x hx => getD_set_ne _ _ _ hx
  refine ⟨by show (s.low.set _ _).length = _; rw [List.length_set]; exact h.hl, h.hf, h.hp, h.op, h.mem, h.ord, h.cord, h.cmem, h.down, ?_, ?_, h.own, h.new, h.cix, h.all⟩
  · intro x hx
    obtain ⟨z, hz, a, b, c⟩ := h.wit x hx
    by_cases e : u = x
    · subst e
      show ∃ y' ∈ s.opn, fo s y' = (s.low.set u (min (s.low.getD u 0) k)).getD u 0 ∧ (s.low.set u (min (s.low.getD u 0) k)).getD u 0 ≤ fo s u ∧ Rch g u y'
      rw [l1]
      by_cases hle : lo s u ≤ k
      · rw [Nat.min_eq_left hle]
        exact ⟨z, hz, a, b, c⟩
      · rw [Nat.min_eq_right (by omega)]
        exact ⟨y, hy, hk, by omega, hr⟩
    · show ∃ y' ∈ s.opn, fo s y' = (s.low.set u (min (s.low.getD u 0) k)).getD x 0 ∧ (s.low.set u (min (s.low.getD u 0) k)).getD x 0 ≤ fo s x ∧ Rch g x y'
      rw [l2 x e]
      exact ⟨z, hz, a, b, c⟩
  · intro x hx hcx
    obtain ⟨a, c, hc, b1, b2, b3⟩ := h.fin x hx hcx
    have e : u ≠ x := fun e => hcx cu hcu (by rw [hcue]; exact e)
    refine ⟨?_, c, hc, b1, ?_, b3⟩
    · show (s.low.set u (min (s.low.getD u 0) k)).getD x 0 < fo s x
      rw [l2 x e]
      exact a
    · show (s.low.set u (min (s.low.getD u 0) k)).getD c.1 0 ≤ (s.low.set u (min (s.low.getD u 0) k)).getD x 0
      rw [l2 x e]
      by_cases e2 : u = c.1
      · rw [← e2, l1]
        rw [← e2] at b2
        exact Nat.le_trans (Nat.min_le_left _ _) b2
      · rw [l2 _ e2]
        exact b2

theorem closeTo_eq (v : Nat) : ∀ (xs rest : List Nat) (p : List Int), v ∉ xs → (closeTo v (xs ++ v :: rest) p).1 = rest
  | [], rest, p, _ => by simp [closeTo]
  | t :: xs, rest, p, h => by
    rw [List.cons_append, closeTo, if_neg (fun e : t = v => h (by rw [e]; exact List.mem_cons_self))]
    exact closeTo_eq v xs rest _ (fun hm => h (List.mem_cons_of_mem _ hm))
theorem closeTo_len (v : Nat) : ∀ (l : List Nat) (p : List Int), (closeTo v l p).2.length = p.length
  | [], p => rfl
  | t :: l, p => by
    rw [closeTo]
    split
    · exact List.length_set ..
    · rw [closeTo_len v l, List.length_set]
theorem closeTo_out (v : Nat) (x : Nat) : ∀ (xs rest : List Nat) (p : List Int), v ∉ xs → x ∉ xs → x ≠ v → (closeTo v (xs ++ v :: rest) p).2.getD x 0 = p.getD x 0
  | [], rest, p, _, _, hx => by
    simp only [List.nil_append, closeTo, if_true]
    exact getD_set_ne _ _ _ (fun e => hx e.symm)
  | t :: xs, rest, p, h, h2, hx => by
    rw [List.cons_append, closeTo, if_neg (fun e : t = v => h (by rw [e]; exact List.mem_cons_self))]
    rw [closeTo_out v x xs rest _ (fun hm => h (List.mem_cons_of_mem _ hm)) (fun hm => h2 (List.mem_cons_of_mem _ hm)) hx]
    exact getD_set_ne _ _ _ (fun e => h2 (e ▸ List.mem_cons_self))
theorem closeTo_in (v : Nat) (x : Nat) : ∀ (xs rest : List Nat) (p : List Int), v ∉ xs → (∀ y ∈ xs, y < p.length) → v < p.length → (x ∈ xs ∨ x = v) → (closeTo v (xs ++ v :: rest) p).2.getD x 0 = (v : Int)
  | [], rest, p, _, _, hv, hx => by
    obtain rfl : x = v := by simpa using hx
    simp only [List.nil_append, closeTo, if_true]
    exact getD_set_eq _ _ _ hv
  | t :: xs, rest, p, h, h2, hv, hx => by
    have hv' : v ∉ xs := fun hm => h (List.mem_cons_of_mem _ hm)
    rw [List.cons_append, closeTo, if_neg (fun e : t = v => h (by rw [e]; exact List.mem_cons_self))]
    by_cases hxx : x ∈ xs ∨ x = v
    · exact closeTo_in v x xs rest _ hv' (fun y hy => by rw [List.length_set]; exact h2 y (List.mem_cons_of_mem _ hy)) (by rw [List.length_set]; exact hv) hxx
    · have hxt : x = t := by
        rcases hx with hx | hx
        · rcases List.mem_cons.1 hx with e | hm
          · exact e
          · exact absurd (.inl hm) hxx
        · exact absurd (.inr hx) hxx
      rw [closeTo_out v x xs rest _ hv' (fun hm => hxx (.inl hm)) (fun e => hxx (.inr e)), hxt]
      exact getD_set_eq _ _ _ (h2 t List.mem_cons_self)

theorem pw_inj (f : Nat → Nat) : ∀ (l : List Nat), l.Pairwise (fun a b => f b < f a) → ∀ a ∈ l, ∀ b ∈ l, f a = f b → a = b
  | [], _, a, ha, _, _, _ => by cases ha
  | y :: l, hp, a, ha, b, hb, e => by
    obtain ⟨h1, h2⟩ := List.pairwise_cons.1 hp
    rcases List.mem_cons.1 ha with ea | ha
    · rcases List.mem_cons.1 hb with eb | hb
      · rw [ea, eb]
      · have := h1 b hb; rw [← ea] at this; omega
    · rcases List.mem_cons.1 hb with eb | hb
      · have := h1 a ha; rw [← eb] at this; omega
      · exact pw_inj f l h2 a ha b hb e
/-- A call whose low is its own number: all that is open from it on reaches it. -/
theorem Inv.root {g : List (List Nat)} {s : St} (h : Inv g s) {v i : Nat} {cs : List (Nat × Nat)} (hc : s.calls = (v, i) :: cs) (hr : lo s v = fo s v) : ∀ k, ∀ x ∈ s.opn, fo s x ≤ k → fo s v ≤ fo s x → Rch g x v := by
  have hv : (v, i) ∈ s.calls := by rw [hc]; exact List.mem_cons_self
  have hinj : ∀ a ∈ s.opn, ∀ b ∈ s.opn, fo s a = fo s b → a = b := fun a ha b hb e => pw_inj (fo s) s.opn h.ord a ha b hb e
  intro k
  induction k with
  | zero =>
    intro x hx hk _
    have := (h.op x hx).2.1
    omega
  | succ k ih =>
    intro x hx hk hle
    by_cases e : x = v
    · rw [e]; exact .refl _
    · have hne : fo s x ≠ fo s v := fun hh => e (hinj x hx v (h.cmem _ hv) hh)
      have hmax : ∀ c ∈ s.calls, fo s c.1 ≤ fo s v := by
        intro c hcm
        have hp := h.cord
        rw [hc] at hp hcm
        rcases List.mem_cons.1 hcm with rfl | hm
        · exact Nat.le_refl _
        · exact Nat.le_of_lt ((List.pairwise_cons.1 hp).1 c.1 (List.mem_map.2 ⟨c, hm, rfl⟩))
      have hcx : ∀ c ∈ s.calls, c.1 ≠ x := fun c hcm ee => by
        have := hmax c hcm
        rw [ee] at this
        omega
      obtain ⟨a, c, hcm, b1, b2, b3⟩ := h.fin x hx hcx
      have hcv : fo s v ≤ fo s c.1 := b3 (v, i) hv (by show fo s v < _; omega)
      have hcv2 : c.1 = v := hinj _ (h.cmem c hcm) _ (h.cmem _ hv) (Nat.le_antisymm (hmax c hcm) hcv)
      rw [hcv2, hr] at b2
      obtain ⟨y, hy, y1, y2, y3⟩ := h.wit x hx
      exact y3.trans (ih y hy (by omega) (by omega))

theorem Inv.max {g : List (List Nat)} {s : St} (h : Inv g s) {v i : Nat} {cs : List (Nat × Nat)} (hc : s.calls = (v, i) :: cs) : ∀ c ∈ cs, fo s c.1 < fo s v := by
  intro c hcm
  have hp := h.cord
  rw [hc] at hp
  exact (List.pairwise_cons.1 hp).1 c.1 (List.mem_map.2 ⟨c, hcm, rfl⟩)
/-- A part is closed. -/
theorem Inv.shut {g : List (List Nat)} {s : St} (h : Inv g s) {v i : Nat} {cs : List (Nat × Nat)} (hc : s.calls = (v, i) :: cs) (hr : lo s v = fo s v) : Inv g ⟨s.low, s.found, (closeTo v s.opn s.part).1, (closeTo v s.opn s.part).2, cs, s.time⟩ := by
  have hvc : (v, i) ∈ s.calls := by rw [hc]; exact List.mem_cons_self
  have hv : v ∈ s.opn := h.cmem _ hvc
  have hmax := h.max hc
  have hcs : ∀ c ∈ cs, c ∈ s.calls := fun c hcm => by rw [hc]; exact List.mem_cons_of_mem _ hcm
  obtain ⟨xs, rest, ho, hvx⟩ := List.eq_append_cons_of_mem hv
  have hpw := h.ord
  rw [ho] at hpw
  obtain ⟨_, hp2, hp3⟩ := List.pairwise_append.1 hpw
  obtain ⟨hp4, hp5⟩ := List.pairwise_cons.1 hp2
  have hxs : ∀ x ∈ xs, fo s v < fo s x := fun x hx => hp3 x hx v List.mem_cons_self
  have hrest : ∀ x ∈ s.opn, fo s x < fo s v → x ∈ rest := by
    intro x hx hlt
    rw [ho] at hx
    rcases List.mem_append.1 hx with hx | hx
    · have := hxs x hx; omega
    · rcases List.mem_cons.1 hx with e | hx
      · rw [e] at hlt; omega
      · exact hx
  have hin : ∀ x ∈ rest, x ∈ s.opn ∧ fo s x < fo s v := fun x hx => ⟨by rw [ho]; exact List.mem_append_right _ (List.mem_cons_of_mem _ hx), hp4 x hx⟩
  have hup : ∀ x, (x ∈ xs ∨ x = v) → x ∈ s.opn ∧ fo s v ≤ fo s x := by
    intro x hx
    rcases hx with hx | hx
    · exact ⟨by rw [ho]; exact List.mem_append_left _ hx, Nat.le_of_lt (hxs x hx)⟩
    · exact ⟨by rw [hx]; exact hv, by rw [hx]; exact Nat.le_refl _⟩
  have hlen : ∀ x ∈ s.opn, x < s.part.length := fun x hx => by rw [h.hp]; exact (h.op x hx).1
  have hO : (closeTo v s.opn s.part).1 = rest := by rw [ho]; exact closeTo_eq v xs rest _ hvx
  have hIn : ∀ x, (x ∈ xs ∨ x = v) → (closeTo v s.opn s.part).2.getD x 0 = (v : Int) := fun x hx => by
    rw [ho]
    exact closeTo_in v x xs rest _ hvx (fun y hy => hlen y (hup y (.inl hy)).1) (hlen v hv) hx
  have hOut : ∀ x, ¬ (x ∈ xs ∨ x = v) → (closeTo v s.opn s.part).2.getD x 0 = pa s x := fun x hx => by
    rw [ho]
    exact closeTo_out v x xs rest _ hvx (fun hm => hx (.inl hm)) (fun e => hx (.inr e))
  have hrn : ∀ x ∈ rest, ¬ (x ∈ xs ∨ x = v) := fun x hx hh => by
    have h1 := (hin x hx).2
    have h2 := (hup x hh).2
    omega
  rw [hO]
  refine ⟨h.hl, h.hf, (closeTo_len v s.opn s.part).trans h.hp, ?_, ?_, hp5, ?_, ?_, ?_, ?_, ?_, ?_, ?_, ?_, h.all⟩
  · intro x hx
    obtain ⟨a, b, c, d⟩ := h.op x (hin x hx).1
    refine ⟨a, b, ?_, d⟩
    show (closeTo v s.opn s.part).2.getD x 0 < 0
    rw [hOut x (hrn x hx)]
    exact c
  · intro x hx h1 h2
    have h2' : (closeTo v s.opn s.part).2.getD x 0 < 0 := h2
    by_cases hh : x ∈ xs ∨ x = v
    · rw [hIn x hh] at h2'; omega
    · rw [hOut x hh] at h2'
      have hm := h.mem x hx h1 h2'
      rw [ho] at hm
      rcases List.mem_append.1 hm with hm | hm
      · exact absurd (.inl hm) hh
      · rcases List.mem_cons.1 hm with e | hm
        · exact absurd (.inr e) hh
        · exact hm
  · have := h.cord
    rw [hc] at this
    exact (List.pairwise_cons.1 this).2
  · intro c hcm
    exact hrest _ (h.cmem c (hcs c hcm)) (hmax c hcm)
  · intro c hcm x hx hle
    exact h.down c (hcs c hcm) x (hin x hx).1 hle
  · intro x hx
    obtain ⟨y, hy, a, b, c⟩ := h.wit x (hin x hx).1
    have := (hin x hx).2
    exact ⟨y, hrest y hy (by omega), a, b, c⟩
  · intro x hx hcx
    have hlt := (hin x hx).2
    obtain ⟨a, c, hcm, b1, b2, b3⟩ := h.fin x (hin x hx).1 (fun c hcm e => by
      rw [hc] at hcm
      rcases List.mem_cons.1 hcm with rfl | hcm
      · have e' : v = x := e
        rw [e'] at hlt; omega
      · exact hcx c hcm e)
    refine ⟨a, c, ?_, b1, b2, fun c' hc' => b3 c' (hcs c' hc')⟩
    rw [hc] at hcm
    rcases List.mem_cons.1 hcm with rfl | hcm
    · have b1' : fo s v < fo s x := b1
      omega
    · exact hcm
  · intro x hx h0
    have h0' : 0 ≤ (closeTo v s.opn s.part).2.getD x 0 := h0
    show ∃ v' : Nat, (closeTo v s.opn s.part).2.getD x 0 = (v' : Int) ∧ Rch g v' x ∧ Rch g x v'
    by_cases hh : x ∈ xs ∨ x = v
    · obtain ⟨hxo, hle⟩ := hup x hh
      exact ⟨v, hIn x hh, h.down (v, i) hvc x hxo hle, h.root hc hr (fo s x) x hxo (Nat.le_refl _) hle⟩
    · rw [hOut x hh] at h0' ⊢
      exact h.own x hx h0'
  · intro x hx h0
    show (closeTo v s.opn s.part).2.getD x 0 < 0
    have h0' : fo s x = 0 := h0
    rw [hOut x (fun hh => by have := (h.op x (hup x hh).1).2.1; omega)]
    exact h.new x hx h0
  · intro c hcm
    exact h.cix c (hcs c hcm)
/-- A call ends whose part goes on. -/
theorem Inv.drop {g : List (List Nat)} {s : St} (h : Inv g s) {v i : Nat} {cs : List (Nat × Nat)} (hc : s.calls = (v, i) :: cs) (hr : lo s v ≠ fo s v) (hpar : ∀ u j cs', cs = (u, j) :: cs' → lo s u ≤ lo s v) : Inv g ⟨s.low, s.found, s.opn, s.part, cs, s.time⟩ := by
  have hvc : (v, i) ∈ s.calls := by rw [hc]; exact List.mem_cons_self
  have hv : v ∈ s.opn := h.cmem _ hvc
  have hmax := h.max hc
  have hcs : ∀ c ∈ cs, c ∈ s.calls := fun c hcm => by rw [hc]; exact List.mem_cons_of_mem _ hcm
  obtain ⟨y, hy, y1, y2, _⟩ := h.wit v hv
  have hlv : lo s v < fo s v := by omega
  have hpair : ∃ u j cs', cs = (u, j) :: cs' := by
    have : ∃ c ∈ s.calls, fo s c.1 < fo s v := by
      by_cases hyc : ∃ c ∈ s.calls, c.1 = y
      · obtain ⟨c, hcm, e⟩ := hyc
        exact ⟨c, hcm, by rw [e]; omega⟩
      · obtain ⟨_, c, hcm, b1, _⟩ := h.fin y hy (fun c hcm e => hyc ⟨c, hcm, e⟩)
        exact ⟨c, hcm, by omega⟩
    obtain ⟨c, hcm, hlt⟩ := this
    rw [hc] at hcm
    rcases List.mem_cons.1 hcm with rfl | hcm
    · have hlt' : fo s v < fo s v := hlt
      omega
    · cases hcc : cs with
      | nil => rw [hcc] at hcm; cases hcm
      | cons a cs' => exact ⟨a.1, a.2, cs', rfl⟩
  obtain ⟨u, j, cs', hcc⟩ := hpair
  have hu : (u, j) ∈ cs := by rw [hcc]; exact List.mem_cons_self
  have huv : fo s u < fo s v := hmax _ hu
  have hulo := hpar u j cs' hcc
  have humax : ∀ c ∈ cs, fo s c.1 ≤ fo s u := by
    intro c hcm
    have hp := h.cord
    rw [hc] at hp
    have hp2 := (List.pairwise_cons.1 hp).2
    change (cs.map (·.1)).Pairwise _ at hp2
    rw [hcc] at hp2 hcm
    rcases List.mem_cons.1 hcm with rfl | hm
    · exact Nat.le_refl _
    · exact Nat.le_of_lt ((List.pairwise_cons.1 hp2).1 c.1 (List.mem_map.2 ⟨c, hm, rfl⟩))
  refine ⟨h.hl, h.hf, h.hp, h.op, h.mem, h.ord, ?_, fun c hcm => h.cmem c (hcs c hcm), fun c hcm => h.down c (hcs c hcm), h.wit, ?_, h.own, h.new, fun c hcm => h.cix c (hcs c hcm), h.all⟩
  · have := h.cord
    rw [hc] at this
    exact (List.pairwise_cons.1 this).2
  · intro x hx hcx
    by_cases e : x = v
    · subst e
      exact ⟨hlv, (u, j), hu, huv, hulo, fun c' hc' _ => humax c' hc'⟩
    · obtain ⟨a, c, hcm, b1, b2, b3⟩ := h.fin x hx (fun c hcm ee => by
        rw [hc] at hcm
        rcases List.mem_cons.1 hcm with rfl | hcm
        · exact e ee.symm
        · exact hcx c hcm ee)
      refine ⟨a, ?_⟩
      rw [hc] at hcm
      rcases List.mem_cons.1 hcm with rfl | hcm
      · have b1' : fo s v < fo s x := b1
        have b2' : lo s v ≤ lo s x := b2
        refine ⟨(u, j), hu, ?_, ?_, fun c' hc' _ => humax c' hc'⟩
        · show fo s u < fo s x
          omega
        · show lo s u ≤ lo s x
          omega
      · exact ⟨c, hcm, b1, b2, fun c' hc' => b3 c' (hcs c' hc')⟩
theorem Inv.leave {g : List (List Nat)} {s : St} (h : Inv g s) {v i : Nat} {cs : List (Nat × Nat)} (hc : s.calls = (v, i) :: cs) : Inv g (s.leave v cs) := by
  have hvc : (v, i) ∈ s.calls := by rw [hc]; exact List.mem_cons_self
  have hv : v ∈ s.opn := h.cmem _ hvc
  obtain ⟨y, hy, y1, y2, y3⟩ := h.wit v hv
  have h1 : Inv g ⟨up s.low v cs, s.found, s.opn, s.part, s.calls, s.time⟩ ∧ (∀ u j cs', cs = (u, j) :: cs' → (up s.low v cs).getD u 0 ≤ (up s.low v cs).getD v 0) := by
    cases hcc : cs with
    | nil => exact ⟨h, fun u j cs' e => by cases e⟩
    | cons a cs' =>
      obtain ⟨u, j⟩ := a
      have hu : (u, j) ∈ s.calls := by rw [hc, hcc]; exact List.mem_cons_of_mem _ List.mem_cons_self
      have huv : fo s u < fo s v := h.max hc (u, j) (by rw [hcc]; exact List.mem_cons_self)
      have huo := h.cmem _ hu
      have hult : u < s.low.length := by rw [h.hl]; exact (h.op _ huo).1
      refine ⟨h.lower ⟨(u, j), hu, rfl⟩ hy y1 ((h.down (u, j) hu v hv (Nat.le_of_lt huv)).trans y3), fun u' j' cs'' e => ?_⟩
      injection e with e1 e2
      injection e1 with e3 e4
      subst e3
      show (s.low.set u (min (s.low.getD u 0) (s.low.getD v 0))).getD u 0 ≤ (s.low.set u (min (s.low.getD u 0) (s.low.getD v 0))).getD v 0
      rw [getD_set_eq _ _ _ hult, getD_set_ne _ _ _ (fun e : u = v => by rw [e] at huv; omega)]
      exact Nat.min_le_right _ _
  obtain ⟨h1, h2⟩ := h1
  unfold St.leave
  split
  · rename_i hr
    exact h1.shut hc hr
  · rename_i hr
    exact h1.drop hc hr h2
theorem Inv.next {g : List (List Nat)} (hg : Graph g) {s : St} (h : Inv g s) : Inv g (s.next g) := by
  unfold St.next
  split
  · exact h
  · rename_i u i cs hc
    split
    · exact h.leave hc
    · rename_i hi
      have hui : (u, i) ∈ s.calls := by rw [hc]; exact List.mem_cons_self
      have hi' : i < (g.getD u []).length := by have h1 : i ≤ (g.getD u []).length := h.cix _ hui; omega
      have hb := h.bump hc hi'
      have ha : Arrow g u ((g.getD u []).getD i 0) := by
        unfold Arrow
        rw [List.getD_eq_getElem?_getD (l := g.getD u []), List.getElem?_eq_getElem hi']
        exact List.getElem_mem _
      have ht := hg u _ ha
      dsimp only
      split
      · rename_i h0
        exact hb.enter ht h0 (.inr ⟨u, i + 1, cs, rfl, ha⟩)
      · rename_i h0
        split
        · rename_i hp
          exact hb.lower ⟨(u, i + 1), List.mem_cons_self, rfl⟩ (hb.mem _ ht h0 hp) rfl (Rch.one ha)
        · exact hb

/-- What is still to do: of the vertices that are not found, and of the calls. -/
def un : List Nat → List (List Nat) → Nat
  | f :: fs, l :: ls => (if f = 0 then l.length + 2 else 0) + un fs ls
  | _, _ => 0
def cl (g : List (List Nat)) : List (Nat × Nat) → Nat
  | [] => 0
  | c :: cs => ((g.getD c.1 []).length - c.2 + 1) + cl g cs
def mu (g : List (List Nat)) (s : St) : Nat := un s.found g + cl g s.calls
theorem un_set : ∀ (fs : List Nat) (g : List (List Nat)) (t k : Nat), t < fs.length → t < g.length → fs.getD t 0 = 0 → k ≠ 0 → un (fs.set t k) g + ((g.getD t []).length + 2) = un fs g
  | [], _, t, _, h, _, _, _ => by simp at h
  | _ :: _, [], t, _, _, h, _, _ => by simp at h
  | f :: fs, l :: g, 0, k, _, _, h0, hk => by
    have h0' : f = 0 := h0
    subst h0'
    simp only [List.set_cons_zero, un, if_neg hk, List.getD_cons_zero, if_true]
    omega
  | f :: fs, l :: g, t + 1, k, h1, h2, h0, hk => by
    have ih := un_set fs g t k (by simpa using h1) (by simpa using h2) (by simpa using h0) hk
    simp only [List.set_cons_succ, un, List.getD_cons_succ]
    omega
theorem mu_leave (g : List (List Nat)) (s : St) (v i : Nat) (cs : List (Nat × Nat)) (hc : s.calls = (v, i) :: cs) : mu g (s.leave v cs) < mu g s := by
  have h1 : (s.leave v cs).found = s.found ∧ (s.leave v cs).calls = cs := by
    unfold St.leave
    split <;> exact ⟨rfl, rfl⟩
  unfold mu
  rw [h1.1, h1.2, hc, cl]
  omega
theorem mu_next {g : List (List Nat)} (hg : Graph g) {s : St} (h : Inv g s) (hc : s.calls ≠ []) : mu g (s.next g) < mu g s := by
  unfold St.next
  split
  · rename_i e; exact absurd e hc
  · rename_i u i cs hcc
    split
    · exact mu_leave g s u i cs hcc
    · rename_i hi
      have hui : (u, i) ∈ s.calls := by rw [hcc]; exact List.mem_cons_self
      have hi' : i < (g.getD u []).length := by have h1 : i ≤ (g.getD u []).length := h.cix _ hui; omega
      have ht := hg u ((g.getD u []).getD i 0) (by rw [List.getD_eq_getElem?_getD (l := g.getD u []), List.getElem?_eq_getElem hi']; exact List.getElem_mem _)
      dsimp only
      split
      · rename_i h0
        have hu := un_set s.found g ((g.getD u []).getD i 0) (s.time + 1) (by rw [h.hf]; exact ht) ht h0 (by omega)
        unfold mu
        rw [hcc]
        simp only [St.enter, cl]
        omega
      · split
        · unfold mu
          rw [hcc]
          simp only [cl]
          omega
        · unfold mu
          rw [hcc]
          simp only [cl]
          omega
/-- The rounds, one after another. -/
def it (g : List (List Nat)) : Nat → St → St
  | 0, s => s
  | j + 1, s => (it g j s).next g
theorem it_inv {g : List (List Nat)} (hg : Graph g) {s : St} (h : Inv g s) : ∀ j, Inv g (it g j s)
  | 0 => h
  | j + 1 => (it_inv hg h j).next hg
theorem next_nil (g : List (List Nat)) (s : St) (h : s.calls = []) : s.next g = s := by
  unfold St.next
  split
  · rfl
  · rename_i e; rw [h] at e; cases e
theorem it_stop (g : List (List Nat)) (s : St) (j : Nat) (h : (it g j s).calls = []) : ∀ d, it g (j + d) s = it g j s
  | 0 => rfl
  | d + 1 => by
    show (it g (j + d) s).next g = _
    rw [it_stop g s j h d]
    exact next_nil g _ h
theorem it_mu {g : List (List Nat)} (hg : Graph g) {s : St} (h : Inv g s) : ∀ j, (it g j s).calls = [] ∨ j + mu g (it g j s) ≤ mu g s
  | 0 => .inr (by rw [it]; omega)
  | j + 1 => by
    by_cases hc : (it g j s).calls = []
    · left
      show ((it g j s).next g).calls = []
      rw [next_nil g _ hc]
      exact hc
    · right
      have h1 := mu_next hg (it_inv hg h j) hc
      rcases it_mu hg h j with h2 | h2
      · exact absurd h2 hc
      · show j + 1 + mu g ((it g j s).next g) ≤ mu g s
        omega
theorem mu_pos (g : List (List Nat)) (s : St) (h : s.calls ≠ []) : 0 < mu g s := by
  unfold mu
  cases hc : s.calls with
  | nil => exact absurd hc h
  | cons a l => rw [cl]; omega
/-- All rounds of from. -/
def run (g : List (List Nat)) (s : St) : St := it g (mu g s) s
theorem run_calls {g : List (List Nat)} (hg : Graph g) {s : St} (h : Inv g s) : (run g s).calls = [] := by
  rcases it_mu hg h (mu g s) with h1 | h1
  · exact h1
  · by_cases hc : (it g (mu g s) s).calls = []
    · exact hc
    · have := mu_pos g _ hc
      omega
/-- Where the calls have come to an end, that is where all rounds lead. -/
theorem run_eq {g : List (List Nat)} (hg : Graph g) {s : St} (h : Inv g s) (j : Nat) (hc : (it g j s).calls = []) : run g s = it g j s := by
  unfold run
  by_cases hle : j ≤ mu g s
  · obtain ⟨d, hd⟩ := Nat.exists_eq_add_of_le hle
    rw [hd]
    exact it_stop g s j hc d
  · obtain ⟨d, hd⟩ := Nat.exists_eq_add_of_le (show mu g s ≤ j by omega)
    rw [hd]
    exact (it_stop g s (mu g s) (run_calls hg h) d).symm

/-- The search's start. -/
def start (n : Nat) : St := ⟨List.replicate n 0, List.replicate n 0, [], List.replicate n (-1), [], 0⟩
/-- The search from all vertices below v. -/
def partsTo (g : List (List Nat)) : Nat → St
  | 0 => start g.length
  | v + 1 => if (partsTo g v).found.getD v 0 = 0 then run g ((partsTo g v).enter v) else partsTo g v
theorem start_inv (g : List (List Nat)) : Inv g (start g.length) := by
  refine ⟨List.length_replicate .., List.length_replicate .., List.length_replicate .., ?_, ?_, .nil, .nil, ?_, ?_, ?_, ?_, ?_, ?_, ?_, ?_⟩
  · intro x hx; cases hx
  · intro x hx h0
    exact absurd (by show (List.replicate g.length 0).getD x 0 = 0; simp [List.getD_eq_getElem?_getD, hx]) h0
  · intro c hc; cases hc
  · intro c hc; cases hc
  · intro x hx; cases hx
  · intro x hx; cases hx
  · intro x hx h0
    have e : pa (start g.length) x = -1 := by show (List.replicate g.length (-1 : Int)).getD x 0 = -1; simp [List.getD_eq_getElem?_getD, hx]
    rw [e] at h0
    exact absurd h0 (by decide)
  · intro x hx _
    have e : pa (start g.length) x = -1 := by show (List.replicate g.length (-1 : Int)).getD x 0 = -1; simp [List.getD_eq_getElem?_getD, hx]
    rw [e]; decide
  · intro c hc; cases hc
  · intro x
    show (List.replicate g.length 0).getD x 0 ≤ 0
    rw [List.getD_eq_getElem?_getD, List.getElem?_replicate]
    split <;> simp
theorem partsTo_inv {g : List (List Nat)} (hg : Graph g) : ∀ v, v ≤ g.length → Inv g (partsTo g v) ∧ (partsTo g v).calls = []
  | 0, _ => ⟨start_inv g, rfl⟩
  | v + 1, hv => by
    obtain ⟨h1, h2⟩ := partsTo_inv hg v (by omega)
    rw [partsTo]
    split
    · rename_i h0
      have h3 := h1.enter (show v < g.length by omega) h0 (.inl h2)
      exact ⟨it_inv hg h3 _, run_calls hg h3⟩
    · exact ⟨h1, h2⟩
theorem next_found {g : List (List Nat)} (s : St) (x : Nat) (h : fo s x ≠ 0) : fo (s.next g) x ≠ 0 := by
  have hl : ∀ v cs, fo (s.leave v cs) x = fo s x := by
    intro v cs
    unfold St.leave
    split <;> rfl
  unfold St.next
  split
  · exact h
  · split
    · rw [hl]; exact h
    · dsimp only
      split
      · show (s.found.set _ _).getD x 0 ≠ 0
        rw [getD_set]
        split
        · omega
        · exact h
      · split <;> exact h
theorem it_found {g : List (List Nat)} (s : St) (x : Nat) (h : fo s x ≠ 0) : ∀ j, fo (it g j s) x ≠ 0
  | 0 => h
  | j + 1 => next_found _ x (it_found s x h j)
theorem partsTo_found {g : List (List Nat)} (hg : Graph g) : ∀ v, v ≤ g.length → ∀ x, x < v → fo (partsTo g v) x ≠ 0
  | 0, _, x, hx => by omega
  | v + 1, hv, x, hx => by
    have hf := (partsTo_inv hg v (by omega)).1.hf
    rw [partsTo]
    split
    · rename_i h0
      have h1 : fo ((partsTo g v).enter v) x ≠ 0 := by
        show ((partsTo g v).found.set v ((partsTo g v).time + 1)).getD x 0 ≠ 0
        rw [getD_set]
        split
        · omega
        · rename_i hne
          exact partsTo_found hg v (by omega) x (by
            rcases Nat.lt_or_ge x v with h | h
            · exact h
            · exact absurd ⟨by omega, by omega⟩ hne)
      exact it_found _ x h1 _
    · rename_i h0
      by_cases e : x = v
      · rw [e]; exact h0
      · exact partsTo_found hg v (by omega) x (by omega)

/-- The parts' numbers, in the order of their first vertices. -/
def keysOf : List Int → List Int → List Int
  | ds, [] => ds
  | ds, p :: l => keysOf (if p ∈ ds then ds else ds ++ [p]) l
/-- The number of each vertex's part. -/
def partOf (g : List (List Nat)) : List Nat := (partsTo g g.length).part.map fun p => (keysOf [] (partsTo g g.length).part).idxOf p
theorem keysOf_pre : ∀ (l ds : List Int), ∃ r, keysOf ds l = ds ++ r
  | [], ds => ⟨[], by simp [keysOf]⟩
  | p :: l, ds => by
    rw [keysOf]
    split
    · exact keysOf_pre l ds
    · obtain ⟨r, h⟩ := keysOf_pre l (ds ++ [p])
      exact ⟨p :: r, by rw [h]; simp⟩
theorem keysOf_mem : ∀ (l ds : List Int) (p : Int), p ∈ l → p ∈ keysOf ds l
  | q :: l, ds, p, h => by
    rw [keysOf]
    rcases List.mem_cons.1 h with rfl | h
    · split
      · obtain ⟨r, e⟩ := keysOf_pre l ds
        rw [e]
        exact List.mem_append_left _ (by assumption)
      · obtain ⟨r, e⟩ := keysOf_pre l (ds ++ [p])
        rw [e]
        simp
    · exact keysOf_mem l _ p h
theorem idx_inj (ds : List Int) (a b : Int) (ha : a ∈ ds) (h : ds.idxOf a = ds.idxOf b) : a = b := by
  have h1 := List.idxOf_lt_length_iff.2 ha
  have h2 : ds.idxOf b < ds.length := h ▸ h1
  have e1 := List.getElem_idxOf h1
  have e2 := List.getElem_idxOf h2
  rw [← e1, ← e2]
  congr 1
theorem partOf_len {g : List (List Nat)} (hg : Graph g) : (partOf g).length = g.length := by
  rw [partOf, List.length_map]
  exact (partsTo_inv hg g.length (Nat.le_refl _)).1.hp
/-- Two vertices of one part reach each other. -/
theorem partOf_sound {g : List (List Nat)} (hg : Graph g) {x y : Nat} (hx : x < g.length) (hy : y < g.length) (h : (partOf g).getD x 0 = (partOf g).getD y 0) : Rch g x y := by
  obtain ⟨hi, hc⟩ := partsTo_inv hg g.length (Nat.le_refl _)
  have ho := hi.opn_nil hc
  have hpa : ∀ z, z < g.length → (partOf g).getD z 0 = (keysOf [] (partsTo g g.length).part).idxOf (pa (partsTo g g.length) z) ∧ pa (partsTo g g.length) z ∈ (partsTo g g.length).part := by
    intro z hz
    have hz' : z < (partsTo g g.length).part.length := by rw [hi.hp]; exact hz
    unfold partOf pa
    rw [List.getD_eq_getElem?_getD, List.getElem?_map, List.getD_eq_getElem?_getD, List.getElem?_eq_getElem hz']
    exact ⟨rfl, List.getElem_mem _⟩
  have hpos : ∀ z, z < g.length → 0 ≤ pa (partsTo g g.length) z := by
    intro z hz
    rcases Int.lt_or_le (pa (partsTo g g.length) z) 0 with h1 | h1
    · have := hi.mem z hz (partsTo_found hg g.length (Nat.le_refl _) z hz) h1
      rw [ho] at this
      cases this
    · exact h1
  rw [(hpa x hx).1, (hpa y hy).1] at h
  have e := idx_inj _ _ _ (keysOf_mem _ [] _ (hpa x hx).2) h
  obtain ⟨v, hv, _, h2⟩ := hi.own x hx (hpos x hx)
  obtain ⟨v', hv', h3, _⟩ := hi.own y hy (hpos y hy)
  rw [e, hv'] at hv
  have : v' = v := by omega
  rw [this] at h3
  exact h2.trans h3
end TarjP
end Go.Proofs.YtedmmmlahpmmoaaGreatDoor
