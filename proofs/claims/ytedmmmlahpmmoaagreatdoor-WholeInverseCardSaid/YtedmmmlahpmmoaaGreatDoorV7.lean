/- What can be reached from marked vertices, as plain lists; the live vertices. No program. No condition. A graph's arrows the other way round, as plain lists; the live vertices. No program. No condition. Breadth first: what a search for a way keeps. Plain lists, no program. No condition. errors.Is over Faults, one within another, around an error variable's error: true. After the kit's worked proofs of errors.Is. Condition: the blocks hold them. edenraw.Root, edenraw.Is, edenraw.New: what is asked of an error, and that the error is just that one. Condition: the error variables hold what E says; the variable that errors.As reads. What is a rule: rule.wrong, Size, Check, Small. Condition: the table reads from memory; the error variables hold what E says. -/
import Derived.LaidEql
import Derived.Stop.Asserts
import Derived.RowKitTokens
import Derived.Deep.RegionWith
import Derived.Deep.RegionHeld3
import Derived.OpenShut
import Derived.Test.YtedmmmlahpmmoaaGreatDoorV1
import Derived.Test.YtedmmmlahpmmoaaGreatDoorV5
import Derived.Test.YtedmmmlahpmmoaaGreatDoorV6
namespace Go.Proofs.YtedmmmlahpmmoaaGreatDoor
namespace TarjP
open RuleP

/-- What the search keeps: the marks, and what is still to look at, from the last one on. -/
structure RS where
  out : List Bool
  q : List Nat
def RS.visit (s : RS) (t : Nat) : RS := if s.out.getD t false = true then s else ⟨s.out.set t true, t :: s.q⟩
def RS.next (g : List (List Nat)) (s : RS) : RS := match s.q with
  | [] => s
  | v :: q => (g.getD v []).foldl RS.visit ⟨s.out, q⟩
def rIt (g : List (List Nat)) : Nat → RS → RS
  | 0, s => s
  | j + 1, s => (rIt g j s).next g
def rmu (s : RS) : Nat := s.q.length + 2 * s.out.count false
theorem count_set : ∀ (l : List Bool) (t : Nat), t < l.length → l.getD t false = false → (l.set t true).count false + 1 = l.count false
  | [], t, h, _ => by simp at h
  | b :: l, 0, _, h => by
    have : b = false := h
    subst this
    simp
  | b :: l, t + 1, h, h2 => by
    have := count_set l t (by simpa using h) (by simpa using h2)
    rw [List.set_cons_succ, List.count_cons, List.count_cons]
    omega
theorem visit_ok {n : Nat} (s : RS) (hl : s.out.length = n) : ∀ (ts : List Nat), (∀ t ∈ ts, t < n) →
    (ts.foldl RS.visit s).out.length = n ∧ (∀ x, s.out.getD x false = true → (ts.foldl RS.visit s).out.getD x false = true) ∧ (∀ x, (ts.foldl RS.visit s).out.getD x false = true → s.out.getD x false = true ∨ (x ∈ (ts.foldl RS.visit s).q ∧ x ∈ ts)) ∧
    (∀ x ∈ s.q, x ∈ (ts.foldl RS.visit s).q) ∧ (∀ x ∈ (ts.foldl RS.visit s).q, x ∈ s.q ∨ x ∈ ts) ∧ (∀ t ∈ ts, (ts.foldl RS.visit s).out.getD t false = true) ∧ rmu (ts.foldl RS.visit s) ≤ rmu s
  | [], _ => ⟨hl, fun _ h => h, fun _ h => .inl h, fun _ h => h, fun _ h => .inl h, fun _ h => absurd h List.not_mem_nil, Nat.le_refl _⟩
  | t :: ts, ht => by
    have htn := ht t List.mem_cons_self
    have h1 : (s.visit t).out.length = n ∧ (∀ x, s.out.getD x false = true → (s.visit t).out.getD x false = true) ∧ (∀ x, (s.visit t).out.getD x false = true → s.out.getD x false = true ∨ (x ∈ (s.visit t).q ∧ x = t)) ∧ (∀ x ∈ s.q, x ∈ (s.visit t).q) ∧ (∀ x ∈ (s.visit t).q, x ∈ s.q ∨ x = t) ∧ (s.visit t).out.getD t false = true ∧ rmu (s.visit t) ≤ rmu s := by
      unfold RS.visit
      by_cases h : s.out.getD t false = true
      · rw [if_pos h]
        exact ⟨hl, fun _ h => h, fun _ h => .inl h, fun _ h => h, fun _ h => .inl h, h, Nat.le_refl _⟩
      · rw [if_neg h]
        have hf : s.out.getD t false = false := by simpa using h
        have hc := count_set s.out t (by omega) hf
        refine ⟨by rw [List.length_set]; exact hl, fun x hx => ?_, fun x hx => ?_, fun x hx => List.mem_cons_of_mem _ hx, fun x hx => ?_, ?_, ?_⟩
        · rw [getD_set]
          split
          · rfl
          · exact hx
        · rw [getD_set] at hx
          split at hx
          · rename_i hh
            exact .inr ⟨by rw [← hh.1]; exact List.mem_cons_self, hh.1.symm⟩
          · exact .inl hx
        · rcases List.mem_cons.1 hx with rfl | hx
          · exact .inr rfl
          · exact .inl hx
        · exact getD_set_eq _ _ _ (by omega)
        · unfold rmu
          simp only [List.length_cons]
          omega
    obtain ⟨a1, a2, a3, a4, a5, a6, a7⟩ := h1
    obtain ⟨b1, b2, b3, b4, b5, b6, b7⟩ := visit_ok (s.visit t) a1 ts (fun x hx => ht x (List.mem_cons_of_mem _ hx))
    rw [List.foldl_cons]
    refine ⟨b1, fun x hx => b2 x (a2 x hx), fun x hx => ?_, fun x hx => b4 x (a4 x hx), fun x hx => ?_, fun x hx => ?_, Nat.le_trans b7 a7⟩
    · rcases b3 x hx with h | ⟨h, h'⟩
      · rcases a3 x h with h | ⟨h, h'⟩
        · exact .inl h
        · exact .inr ⟨b4 x h, by rw [h']; exact List.mem_cons_self⟩
      · exact .inr ⟨h, List.mem_cons_of_mem _ h'⟩
    · rcases b5 x hx with h | h
      · rcases a5 x h with h | h
        · exact .inl h
        · exact .inr (by rw [h]; exact List.mem_cons_self)
      · exact .inr (List.mem_cons_of_mem _ h)
    · rcases List.mem_cons.1 hx with rfl | hx
      · exact b2 _ a6
      · exact b6 x hx
/-- What the search keeps true. -/
structure RInv (g : List (List Nat)) (m : List Bool) (s : RS) : Prop where
  len : s.out.length = g.length
  qs : ∀ x ∈ s.q, x < g.length
  shut : ∀ v, s.out.getD v false = true → v ∉ s.q → ∀ t ∈ g.getD v [], s.out.getD t false = true
  snd : ∀ v, s.out.getD v false = true → ∃ u, m.getD u false = true ∧ Rch g u v
  old : ∀ v, m.getD v false = true → s.out.getD v false = true
  qo : ∀ x ∈ s.q, s.out.getD x false = true
theorem RInv.next {g : List (List Nat)} (hg : Graph g) {m : List Bool} {s : RS} (h : RInv g m s) : RInv g m (s.next g) := by
  unfold RS.next
  split
  · exact h
  · rename_i v q hq
    have hv := h.qo v (by rw [hq]; exact List.mem_cons_self)
    obtain ⟨b1, b2, b3, b4, b5, b6, _⟩ := visit_ok (n := g.length) ⟨s.out, q⟩ h.len (g.getD v []) (hg v)
    refine ⟨b1, fun x hx => ?_, fun x hx hxq t ht => ?_, fun x hx => ?_, fun x hx => b2 x (h.old x hx), fun x hx => ?_⟩
    · rcases b5 x hx with h1 | h1
      · exact h.qs x (by rw [hq]; exact List.mem_cons_of_mem _ h1)
      · exact hg v x h1
    · by_cases e : x = v
      · rw [e] at ht
        exact b6 t ht
      · rcases b3 x hx with h1 | ⟨h1, _⟩
        · exact b2 t (h.shut x h1 (fun hm => by
            rw [hq] at hm
            rcases List.mem_cons.1 hm with e2 | hm
            · exact e e2
            · exact hxq (b4 x hm)) t ht)
        · exact absurd h1 hxq
    · rcases b3 x hx with h1 | ⟨_, h1⟩
      · exact h.snd x h1
      · obtain ⟨u, hu, hr⟩ := h.snd v hv
        exact ⟨u, hu, .step hr h1⟩
    · rcases b5 x hx with h1 | h1
      · exact b2 x (h.qo x (by rw [hq]; exact List.mem_cons_of_mem _ h1))
      · exact b6 x h1
theorem rmu_next {g : List (List Nat)} (hg : Graph g) {m : List Bool} {s : RS} (h : RInv g m s) (hq : s.q ≠ []) : rmu (s.next g) < rmu s := by
  unfold RS.next
  split
  · rename_i e; exact absurd e hq
  · rename_i v q e
    obtain ⟨_, _, _, _, _, _, b7⟩ := visit_ok (n := g.length) ⟨s.out, q⟩ h.len (g.getD v []) (hg v)
    have : rmu ⟨s.out, q⟩ < rmu s := by
      unfold rmu
      rw [e]
      simp only [List.length_cons]
      omega
    omega
theorem rIt_inv {g : List (List Nat)} (hg : Graph g) {m : List Bool} {s : RS} (h : RInv g m s) : ∀ j, RInv g m (rIt g j s)
  | 0 => h
  | j + 1 => (rIt_inv hg h j).next hg
theorem rnext_nil (g : List (List Nat)) (s : RS) (h : s.q = []) : s.next g = s := by
  unfold RS.next
  split
  · rfl
  · rename_i e; rw [h] at e; cases e
theorem rIt_stop (g : List (List Nat)) (s : RS) (j : Nat) (h : (rIt g j s).q = []) : ∀ d, rIt g (j + d) s = rIt g j s
  | 0 => rfl
  | d + 1 => by
    show (rIt g (j + d) s).next g = _
    rw [rIt_stop g s j h d]
    exact rnext_nil g _ h
theorem rIt_mu {g : List (List Nat)} (hg : Graph g) {m : List Bool} {s : RS} (h : RInv g m s) : ∀ j, (rIt g j s).q = [] ∨ j + rmu (rIt g j s) ≤ rmu s
  | 0 => .inr (by rw [rIt]; omega)
  | j + 1 => by
    by_cases hc : (rIt g j s).q = []
    · left
      show ((rIt g j s).next g).q = []
      rw [rnext_nil g _ hc]
      exact hc
    · right
      have h1 := rmu_next hg (rIt_inv hg h j) hc
      rcases rIt_mu hg h j with h2 | h2
      · exact absurd h2 hc
      · show j + 1 + rmu ((rIt g j s).next g) ≤ rmu s
        omega
def rRun (g : List (List Nat)) (s : RS) : RS := rIt g (rmu s) s
theorem rRun_q {g : List (List Nat)} (hg : Graph g) {m : List Bool} {s : RS} (h : RInv g m s) : (rRun g s).q = [] := by
  rcases rIt_mu hg h (rmu s) with h1 | h1
  · exact h1
  · by_cases hc : (rIt g (rmu s) s).q = []
    · exact hc
    · have h2 : 0 < (rIt g (rmu s) s).q.length := List.length_pos_iff.2 hc
      have h3 : (rIt g (rmu s) s).q.length ≤ rmu (rIt g (rmu s) s) := Nat.le_add_right _ _
      omega
theorem rRun_eq {g : List (List Nat)} (hg : Graph g) {m : List Bool} {s : RS} (h : RInv g m s) (j : Nat) (hc : (rIt g j s).q = []) : rRun g s = rIt g j s := by
  unfold rRun
  by_cases hle : j ≤ rmu s
  · obtain ⟨d, hd⟩ := Nat.exists_eq_add_of_le hle
    rw [hd]
    exact rIt_stop g s j hc d
  · obtain ⟨d, hd⟩ := Nat.exists_eq_add_of_le (show rmu s ≤ j by omega)
    rw [hd]
    exact (rIt_stop g s (rmu s) (rRun_q hg h) d).symm
/-- The marked vertices, the last one first. -/
def marksTo (m : List Bool) : Nat → List Nat
  | 0 => []
  | v + 1 => if m.getD v false = true then v :: marksTo m v else marksTo m v
theorem mem_marks {m : List Bool} : ∀ {n v : Nat}, v ∈ marksTo m n ↔ v < n ∧ m.getD v false = true
  | 0, v => by simp [marksTo]
  | n + 1, v => by
    rw [marksTo]
    split
    · rename_i h
      rw [List.mem_cons, mem_marks]
      constructor
      · rintro (rfl | ⟨h1, h2⟩)
        · exact ⟨Nat.lt_succ_self _, h⟩
        · exact ⟨Nat.lt_succ_of_lt h1, h2⟩
      · rintro ⟨h1, h2⟩
        rcases Nat.lt_or_ge v n with h3 | h3
        · exact .inr ⟨h3, h2⟩
        · exact .inl (by omega)
    · rename_i h
      rw [mem_marks]
      constructor
      · rintro ⟨h1, h2⟩
        exact ⟨Nat.lt_succ_of_lt h1, h2⟩
      · rintro ⟨h1, h2⟩
        rcases Nat.lt_or_ge v n with h3 | h3
        · exact ⟨h3, h2⟩
        · have : v = n := by omega
          rw [this] at h2
          exact absurd h2 h
/-- All that is reached from the marked vertices. -/
def reachP (g : List (List Nat)) (m : List Bool) : List Bool := (rRun g ⟨m, marksTo m g.length⟩).out
theorem getD_true_lt {m : List Bool} {v : Nat} (h : m.getD v false = true) : v < m.length := by
  rcases Nat.lt_or_ge v m.length with h1 | h1
  · exact h1
  · rw [List.getD_eq_getElem?_getD, List.getElem?_eq_none h1] at h
    cases h
theorem reach_start {g : List (List Nat)} {m : List Bool} (hm : m.length = g.length) : RInv g m ⟨m, marksTo m g.length⟩ :=
  ⟨hm, fun x hx => (mem_marks.1 hx).1, fun v hv hq => absurd (mem_marks.2 ⟨by rw [← hm]; exact getD_true_lt hv, hv⟩) hq, fun v hv => ⟨v, hv, .refl v⟩, fun _ h => h, fun x hx => (mem_marks.1 hx).2⟩
theorem reach_iff {g : List (List Nat)} (hg : Graph g) {m : List Bool} (hm : m.length = g.length) {v : Nat} : (reachP g m).getD v false = true ↔ ∃ u, m.getD u false = true ∧ Rch g u v := by
  have h0 := reach_start hm
  have hi : RInv g m (rRun g ⟨m, marksTo m g.length⟩) := rIt_inv hg h0 _
  have hq := rRun_q hg h0
  constructor
  · exact hi.snd v
  · rintro ⟨u, hu, hr⟩
    have key : ∀ a b, Rch g a b → (reachP g m).getD a false = true → (reachP g m).getD b false = true := by
      intro a b hab
      induction hab with
      | refl => exact id
      | step _ ha ih => exact fun h => hi.shut _ (ih h) (by rw [hq]; simp) _ ha
    exact key u v hr (hi.old u hu)
theorem reach_len {g : List (List Nat)} (hg : Graph g) {m : List Bool} (hm : m.length = g.length) : (reachP g m).length = g.length :=
  (rIt_inv hg (reach_start hm) _).len
end TarjP
end Go.Proofs.YtedmmmlahpmmoaaGreatDoor

namespace Go.Proofs.YtedmmmlahpmmoaaGreatDoor
namespace TarjP
open RuleP

def pushAt (L : List (List Nat)) (t x : Nat) : List (List Nat) := L.set t (L.getD t [] ++ [x])
/-- The arrows of one vertex turned. -/
def backV (g : List (List Nat)) (v : Nat) (ts : List Nat) (L : List (List Nat)) : List (List Nat) := ts.foldl (fun L t => pushAt L t v) L
/-- The arrows of the vertices below v turned. -/
def backTo (g : List (List Nat)) : Nat → List (List Nat)
  | 0 => List.replicate g.length []
  | v + 1 => backV g v (g.getD v []) (backTo g v)
def backP (g : List (List Nat)) : List (List Nat) := backTo g g.length
theorem pushAt_len (L : List (List Nat)) (t x : Nat) : (pushAt L t x).length = L.length := List.length_set ..
theorem backV_len (g : List (List Nat)) (v : Nat) : ∀ (ts : List Nat) (L : List (List Nat)), (backV g v ts L).length = L.length
  | [], L => rfl
  | t :: ts, L => by
    show (backV g v ts (pushAt L t v)).length = _
    rw [backV_len g v ts, pushAt_len]
theorem backTo_len (g : List (List Nat)) : ∀ v, (backTo g v).length = g.length
  | 0 => List.length_replicate ..
  | v + 1 => by rw [backTo, backV_len, backTo_len g v]
theorem mem_pushAt {L : List (List Nat)} {t x s y : Nat} (ht : t < L.length) : y ∈ (pushAt L t x).getD s [] ↔ y ∈ L.getD s [] ∨ (s = t ∧ y = x) := by
  unfold pushAt
  rw [getD_set]
  by_cases h : t = s
  · subst h
    rw [if_pos ⟨rfl, ht⟩, List.mem_append, List.mem_singleton]
    simp
  · rw [if_neg (fun hh => h hh.1)]
    constructor
    · exact .inl
    · rintro (h1 | ⟨h1, _⟩)
      · exact h1
      · exact absurd h1.symm h
theorem mem_backV {g : List (List Nat)} {v s y : Nat} : ∀ (ts : List Nat) (L : List (List Nat)), (∀ t ∈ ts, t < L.length) → (y ∈ (backV g v ts L).getD s [] ↔ y ∈ L.getD s [] ∨ (s ∈ ts ∧ y = v))
  | [], L, _ => by simp [backV]
  | t :: ts, L, h => by
    show y ∈ (backV g v ts (pushAt L t v)).getD s [] ↔ _
    rw [mem_backV ts (pushAt L t v) (fun t' ht' => by rw [pushAt_len]; exact h t' (List.mem_cons_of_mem _ ht')), mem_pushAt (h t List.mem_cons_self), List.mem_cons]
    constructor
    · rintro ((h1 | ⟨h1, h2⟩) | ⟨h1, h2⟩)
      · exact .inl h1
      · exact .inr ⟨.inl h1, h2⟩
      · exact .inr ⟨.inr h1, h2⟩
    · rintro (h1 | ⟨h1 | h1, h2⟩)
      · exact .inl (.inl h1)
      · exact .inl (.inr ⟨h1, h2⟩)
      · exact .inr ⟨h1, h2⟩
theorem mem_backTo {g : List (List Nat)} (hg : Graph g) {s y : Nat} : ∀ v, y ∈ (backTo g v).getD s [] ↔ y < v ∧ s ∈ g.getD y []
  | 0 => by
    constructor
    · intro h
      rw [backTo, List.getD_eq_getElem?_getD, List.getElem?_replicate] at h
      split at h <;> cases h
    · rintro ⟨h, _⟩
      omega
  | v + 1 => by
    rw [backTo, mem_backV _ _ (fun t ht => by rw [backTo_len]; exact hg v t ht), mem_backTo hg v]
    constructor
    · rintro (⟨h1, h2⟩ | ⟨h1, h2⟩)
      · exact ⟨by omega, h2⟩
      · exact ⟨by omega, by rw [h2]; exact h1⟩
    · rintro ⟨h1, h2⟩
      rcases Nat.lt_or_ge y v with h3 | h3
      · exact .inl ⟨h3, h2⟩
      · have e : y = v := by omega
        exact .inr ⟨by rw [← e]; exact h2, e⟩
theorem arrow_lt {g : List (List Nat)} {v t : Nat} (h : Arrow g v t) : v < g.length := by
  unfold Arrow at h
  rcases Nat.lt_or_ge v g.length with h1 | h1
  · exact h1
  · rw [List.getD_eq_getElem?_getD, List.getElem?_eq_none h1] at h
    cases h
theorem arrow_back {g : List (List Nat)} (hg : Graph g) {s y : Nat} : Arrow (backP g) s y ↔ Arrow g y s := by
  unfold Arrow backP
  rw [mem_backTo hg]
  exact ⟨fun h => h.2, fun h => ⟨arrow_lt h, h⟩⟩
theorem back_graph {g : List (List Nat)} (hg : Graph g) : Graph (backP g) := fun v t ht => by
  have h := arrow_lt ((arrow_back hg).1 ht)
  show t < (backTo g g.length).length
  rw [backTo_len]
  exact h
theorem rch_back {g : List (List Nat)} (hg : Graph g) {a b : Nat} : Rch (backP g) a b ↔ Rch g b a := by
  constructor
  · intro h
    induction h with
    | refl => exact .refl _
    | step _ ha ih => exact .head ((arrow_back hg).1 ha) ih
  · intro h
    induction h with
    | refl => exact .refl _
    | step _ ha ih => exact .head ((arrow_back hg).2 ha) ih
/-- The vertices with an arrow into their own part. -/
def loopP (g : List (List Nat)) : List Bool := (List.range g.length).map fun v => (g.getD v []).any fun t => decide ((partOf g).getD t 0 = (partOf g).getD v 0)
/-- The live vertices. -/
def liveP (g : List (List Nat)) : List Nat := (List.range g.length).filter fun v => (reachP g (loopP g)).getD v false && (reachP (backP g) (loopP g)).getD v false
theorem loopP_len (g : List (List Nat)) : (loopP g).length = g.length := by simp [loopP]
theorem loopP_at {g : List (List Nat)} {v : Nat} (hv : v < g.length) : (loopP g).getD v false = true ↔ ∃ t, Arrow g v t ∧ (partOf g).getD t 0 = (partOf g).getD v 0 := by
  unfold loopP Arrow
  rw [List.getD_eq_getElem?_getD, List.getElem?_map, List.getElem?_range hv]
  simp
/-- A vertex marked so stands on a loop. -/
theorem loopP_sound {g : List (List Nat)} (hg : Graph g) {v : Nat} (h : (loopP g).getD v false = true) : ∃ t, Arrow g v t ∧ Rch g t v := by
  have hv : v < g.length := by have := getD_true_lt h; rwa [loopP_len] at this
  obtain ⟨t, ha, e⟩ := (loopP_at hv).1 h
  exact ⟨t, ha, partOf_sound hg (hg v t ha) hv e⟩
theorem liveP_iff {g : List (List Nat)} (hg : Graph g) {v : Nat} (h : v ∈ liveP g) : v < g.length ∧ (∃ u, (loopP g).getD u false = true ∧ Rch g u v) ∧ ∃ u, (loopP g).getD u false = true ∧ Rch g v u := by
  unfold liveP at h
  rw [List.mem_filter, Bool.and_eq_true, reach_iff hg (loopP_len g), reach_iff (back_graph hg) (by rw [loopP_len]; exact (backTo_len g _).symm)] at h
  obtain ⟨h1, h2, u, hu, hr⟩ := h
  exact ⟨List.mem_range.1 h1, h2, u, hu, (rch_back hg).1 hr⟩
end TarjP
end Go.Proofs.YtedmmmlahpmmoaaGreatDoor

namespace Go.Proofs.YtedmmmlahpmmoaaGreatDoor
open RuleP TarjP

/-- The first place of x. -/
def posN : List Nat → Nat → Nat
  | [], _ => 0
  | a :: l, x => if a = x then 0 else posN l x + 1
theorem posN_get : ∀ {l : List Nat} {x : Nat}, x ∈ l → l[posN l x]? = some x
  | [], _, h => by cases h
  | a :: l, x, h => by
    unfold posN
    by_cases e : a = x
    · rw [if_pos e, e]; rfl
    · rw [if_neg e, List.getElem?_cons_succ]
      exact posN_get ((List.mem_cons.1 h).resolve_left (fun hh => e hh.symm))
theorem posN_le : ∀ {l : List Nat} {j x : Nat}, l[j]? = some x → posN l x ≤ j
  | [], _, _, h => by simp at h
  | a :: l, j, x, h => by
    unfold posN
    by_cases e : a = x
    · rw [if_pos e]; exact Nat.zero_le _
    · rw [if_neg e]
      cases j with
      | zero => simp at h; exact absurd h e
      | succ j => exact Nat.succ_le_succ (posN_le h)

/-- What the search keeps: came tells whence. -/
structure FirstAt (g : List (List Nat)) (f : Nat) (came : List Int) (q : List Nat) (i : Nat) : Prop where
  len : came.length = g.length
  mem : ∀ x, x < g.length → (0 ≤ came.getD x (-1) ↔ x ∈ q)
  nd : q.Nodup
  lt : ∀ x ∈ q, x < g.length
  start : q[0]? = some f
  par : ∀ (j x : Nat), q[j]? = some x → 0 < j → ∃ (j' y : Nat), j' < j ∧ q[j']? = some y ∧ came.getD x (-1) = (y : Int)
  ix : i ≤ q.length
  done : ∀ (j x : Nat), j < i → q[j]? = some x → ∀ t ∈ g.getD x [], t ∈ q
theorem getD_setI (l : List Int) (t : Nat) (v : Int) (x : Nat) : (l.set t v).getD x (-1) = if t = x ∧ t < l.length then v else l.getD x (-1) := by
  rw [List.getD_eq_getElem?_getD, List.getElem?_set]
  by_cases e : t = x
  · subst e
    by_cases h : t < l.length
    · simp [h]
    · simp [h, List.getD_eq_getElem?_getD, List.getElem?_eq_none (show l.length ≤ t by omega)]
  · simp [e, List.getD_eq_getElem?_getD]
namespace FirstAt
variable {g : List (List Nat)} {f i : Nat} {came : List Int} {q : List Nat}
theorem qlen (h : FirstAt g f came q i) : q.length ≤ g.length := by
  have := nodupL_le (b := List.range g.length) h.nd (fun x hx => List.mem_range.2 (h.lt x hx))
  rwa [List.length_range] at this
theorem begin (hf : f < g.length) : FirstAt g f ((List.replicate g.length (-1)).set f (f : Int)) [f] 0 := by
  refine ⟨by rw [List.length_set, List.length_replicate], fun x hx => ?_, by simp, fun x hx => by rw [List.mem_singleton.1 hx]; exact hf, rfl, fun j x hj h0 => ?_, Nat.zero_le _, fun j x hj => absurd hj (Nat.not_lt_zero j)⟩
  · rw [getD_setI, List.length_replicate, List.mem_singleton]
    by_cases e : f = x
    · rw [if_pos ⟨e, hf⟩]
      exact ⟨fun _ => e.symm, fun _ => by omega⟩
    · rw [if_neg (fun hh => e hh.1), List.getD_eq_getElem?_getD, List.getElem?_replicate, if_pos hx]
      exact ⟨fun h => by simp at h, fun h => absurd h.symm e⟩
  · have h1 := (List.getElem?_eq_some_iff.1 hj).1
    simp at h1
    omega
theorem push (h : FirstAt g f came q i) {u t : Nat} (hu : u ∈ q) (ht : t < g.length) (hs : came.getD t (-1) < 0) : FirstAt g f (came.set t (u : Int)) (q ++ [t]) i := by
  have hnot : t ∉ q := fun hm => by have := (h.mem t ht).2 hm; omega
  refine ⟨by rw [List.length_set]; exact h.len, fun x hx => ?_, ?_, fun x hx => ?_, ?_, fun j x hj h0 => ?_, by rw [List.length_append]; exact Nat.le_trans h.ix (Nat.le_add_right _ _), fun j x hj hx => ?_⟩
  · rw [getD_setI, List.mem_append, List.mem_singleton, h.len]
    by_cases e : t = x
    · rw [if_pos ⟨e, ht⟩]
      exact ⟨fun _ => .inr e.symm, fun _ => by omega⟩
    · rw [if_neg (fun hh => e hh.1), h.mem x hx]
      exact ⟨.inl, fun hh => hh.elim id (fun e2 => absurd e2.symm e)⟩
  · rw [List.nodup_append]
    refine ⟨h.nd, by simp, fun a ha b hb e => ?_⟩
    rw [List.mem_singleton.1 hb] at e
    rw [e] at ha
    exact hnot ha
  · rcases List.mem_append.1 hx with hx | hx
    · exact h.lt x hx
    · rw [List.mem_singleton.1 hx]; exact ht
  · have h1 := (List.getElem?_eq_some_iff.1 h.start).1
    rw [List.getElem?_append_left h1]
    exact h.start
  · rcases Nat.lt_or_ge j q.length with hjq | hjq
    · rw [List.getElem?_append_left hjq] at hj
      obtain ⟨j', y, h1, h2, h3⟩ := h.par j x hj h0
      have hxq := List.mem_of_getElem? hj
      refine ⟨j', y, h1, by rw [List.getElem?_append_left (by omega)]; exact h2, ?_⟩
      rw [getD_setI, if_neg (fun hh => hnot (by rw [hh.1]; exact hxq))]
      exact h3
    · have e : x = t ∧ j = q.length := by
        have h2 := (List.getElem?_eq_some_iff.1 hj).1
        rw [List.length_append, List.length_singleton] at h2
        have : j = q.length := by omega
        subst this
        simp at hj
        exact ⟨hj.symm, rfl⟩
      obtain ⟨rfl, rfl⟩ := e
      have h2 := posN_get hu
      have h3 := (List.getElem?_eq_some_iff.1 h2).1
      refine ⟨posN q u, u, h3, by rw [List.getElem?_append_left h3]; exact h2, ?_⟩
      rw [getD_setI, if_pos ⟨rfl, by rw [h.len]; exact ht⟩]
  · have hjq : j < q.length := Nat.lt_of_lt_of_le hj h.ix
    rw [List.getElem?_append_left hjq] at hx
    exact fun t' ht' => List.mem_append_left _ (h.done j x hj hx t' ht')
theorem next (h : FirstAt g f came q i) {u : Nat} (hu : q[i]? = some u) (ha : ∀ t ∈ g.getD u [], t ∈ q) : FirstAt g f came q (i + 1) := by
  refine ⟨h.len, h.mem, h.nd, h.lt, h.start, h.par, (List.getElem?_eq_some_iff.1 hu).1, fun j x hj hx => ?_⟩
  rcases Nat.lt_or_ge j i with h1 | h1
  · exact h.done j x h1 hx
  · have e : j = i := by omega
    rw [e, hu] at hx
    cases hx
    exact ha
theorem reached (h : FirstAt g f came q i) (hi : q.length ≤ i) {u : Nat} (hr : Rch g f u) : u ∈ q := by
  have key : ∀ a b, Rch g a b → a ∈ q → b ∈ q := by
    intro a b hab
    induction hab with
    | refl => exact id
    | step _ ha ih =>
      intro hm
      obtain ⟨j, hj, e⟩ := List.getElem_of_mem (ih hm)
      exact h.done j _ (by omega) (by rw [List.getElem?_eq_getElem hj, e]) _ ha
  exact key f u hr (List.mem_of_getElem? h.start)
/-- One step back. -/
theorem back (h : FirstAt g f came q i) {x : Nat} (hx : x ∈ q) (hne : x ≠ f) : ∃ y, y ∈ q ∧ came[x]? = some (y : Int) ∧ posN q y < posN q x := by
  have h1 := posN_get hx
  have h0 : 0 < posN q x := by
    rcases Nat.eq_zero_or_pos (posN q x) with e | e
    · rw [e, h.start] at h1
      exact absurd (Option.some.inj h1).symm hne
    · exact e
  obtain ⟨j', y, h2, h3, h4⟩ := h.par _ x h1 h0
  refine ⟨y, List.mem_of_getElem? h3, ?_, Nat.lt_of_le_of_lt (posN_le h3) h2⟩
  have hl : x < came.length := by rw [h.len]; exact h.lt x hx
  rw [List.getD_eq_getElem?_getD, List.getElem?_eq_getElem hl] at h4
  rw [List.getElem?_eq_getElem hl]
  exact congrArg some h4
end FirstAt

/-- Sorted, a list has the same numbers. -/
theorem sort_ints (l : List Nat) : ∃ S : List Nat, (ints l).mergeSort (fun x y => decide (x ≤ y)) = ints S ∧ S.length = l.length ∧ ∀ x, x ∈ S ↔ x ∈ l := by
  obtain ⟨L, hL⟩ : ∃ L, (ints l).mergeSort (fun x y => decide (x ≤ y)) = L := ⟨_, rfl⟩
  have hm : ∀ y, y ∈ L ↔ y ∈ ints l := fun y => by rw [← hL]; exact List.mem_mergeSort
  have hl : L.length = l.length := by rw [← hL, List.length_mergeSort]; simp [ints]
  have e : L = ints (L.map Int.toNat) := by
    unfold ints
    rw [List.map_map]
    conv => lhs; rw [← List.map_id L]
    refine List.map_congr_left fun y hy => ?_
    obtain ⟨x, _, rfl⟩ := List.mem_map.1 ((hm y).1 hy)
    rfl
  refine ⟨L.map Int.toNat, by rw [hL]; exact e, by rw [List.length_map, hl], fun x => ?_⟩
  constructor
  · intro hx
    obtain ⟨y, hy, rfl⟩ := List.mem_map.1 hx
    obtain ⟨z, hz, rfl⟩ := List.mem_map.1 ((hm y).1 hy)
    exact hz
  · intro hx
    exact List.mem_map.2 ⟨(x : Int), (hm _).2 (List.mem_map.2 ⟨x, hx, rfl⟩), rfl⟩

/-! ### a second vertex at the end of a loop -/
def wideG (g : List (List Nat)) (v : Nat) : List (List Nat) := g.map (fun l => l.map fun t => if t = v then g.length else t) ++ [[]]
theorem wideG_len (g : List (List Nat)) (v : Nat) : (wideG g v).length = g.length + 1 := by simp [wideG]
theorem wideG_at {g : List (List Nat)} {v u : Nat} (hu : u < g.length) : (wideG g v).getD u [] = (g.getD u []).map fun t => if t = v then g.length else t := by
  unfold wideG
  rw [List.getD_eq_getElem?_getD, List.getElem?_append_left (by rw [List.length_map]; exact hu), List.getElem?_map, List.getD_eq_getElem?_getD, List.getElem?_eq_getElem hu]
  rfl
theorem wideG_out {g : List (List Nat)} {v u : Nat} (hu : g.length ≤ u) : (wideG g v).getD u [] = [] := by
  unfold wideG
  rw [List.getD_eq_getElem?_getD, List.getElem?_append_right (by rw [List.length_map]; exact hu), List.length_map]
  rcases Nat.eq_zero_or_pos (u - g.length) with e | e
  · rw [e]; rfl
  · rw [List.getElem?_eq_none (by simp; omega)]; rfl
theorem wideG_graph {g : List (List Nat)} (hg : Graph g) (v : Nat) : Graph (wideG g v) := fun u x hx => by
  rw [wideG_len]
  by_cases hu : u < g.length
  · rw [wideG_at hu] at hx
    obtain ⟨t, ht, rfl⟩ := List.mem_map.1 hx
    have := hg u t ht
    split <;> omega
  · rw [wideG_out (by omega)] at hx
    cases hx
theorem wide_step {g : List (List Nat)} {v y t : Nat} (h : Arrow g y t) : Arrow (wideG g v) y (if t = v then g.length else t) := by
  unfold Arrow
  rw [wideG_at (arrow_lt h)]
  exact List.mem_map.2 ⟨t, h, rfl⟩
theorem wide_into {g : List (List Nat)} {v y : Nat} (hv : v < g.length) (h : Arrow (wideG g v) y v) : False := by
  unfold Arrow at h
  by_cases hy : y < g.length
  · rw [wideG_at hy] at h
    obtain ⟨t, _, e⟩ := List.mem_map.1 h
    split at e <;> omega
  · rw [wideG_out (by omega)] at h
    cases h
theorem wide_rch {g : List (List Nat)} {v u x : Nat} (h : Rch g u x) : Rch (wideG g v) u x ∨ Rch (wideG g v) u g.length := by
  induction h with
  | refl => exact .inl (.refl _)
  | @step y t hy ha ih =>
    rcases ih with ih | ih
    · have h1 := wide_step (v := v) ha
      by_cases e : t = v
      · rw [if_pos e] at h1
        exact .inr (.step ih h1)
      · rw [if_neg e] at h1
        exact .inl (.step ih h1)
    · exact .inr ih
/-- What stands on a loop reaches its second self. -/
theorem wide_loop {g : List (List Nat)} {v t : Nat} (hv : v < g.length) (ha : Arrow g v t) (hr : Rch g t v) : Rch (wideG g v) v g.length := by
  have h1 := wide_step (v := v) ha
  by_cases e : t = v
  · rw [if_pos e] at h1
    exact .one h1
  · rw [if_neg e] at h1
    rcases wide_rch (v := v) hr with h | h
    · exfalso
      cases h with
      | refl => exact e rfl
      | step _ hh => exact wide_into hv hh
    · exact .trans (.one h1) h
end Go.Proofs.YtedmmmlahpmmoaaGreatDoor

namespace Go.Proofs.YtedmmmlahpmmoaaGreatDoor
open Go.RowKit Go.Extern.Stop Go.Stop Go.Extern

/-- The value is an error: Faults with these packages and places, one within another, and then the error of number n. -/
def ErrIs (w : World) (E : Nat → Addr) (n : Nat) : List (ByteArray × Int) → Value → Prop
  | [], v => v = .iface 169 (.pointer (some (E n)))
  | (op, i) :: r, v => ∃ b v', v = errV b ∧ w.heap[b]? = some (.cells #[.string op, .int .i64 i, v'] 73 (0, 0)) ∧ ErrIs w E n r v'
theorem ErrIs.below {w w' : World} {E : Nat → Addr} {n : Nat} (hb : Below w.heap.size w w') : ∀ {l : List (ByteArray × Int)} {v : Value}, ErrIs w E n l v → ErrIs w' E n l v
  | [], _, h => h
  | (_, _) :: _, _, ⟨b, v', h1, h2, h3⟩ => ⟨b, v', h1, (hb.block b (Array.getElem?_eq_some_iff.1 h2).1).trans h2, ErrIs.below hb h3⟩
theorem ErrIs.keep {w w' : World} {E : Nat → Addr} {n : Nat} {l : List (ByteArray × Int)} {v : Value} (h : ErrIs w E n l v) (hb : Below w.heap.size w w') : ErrIs w' E n l v := ErrIs.below hb h
theorem ErrIs.keeps' {w w' : World} {E : Nat → Addr} {n : Nat} {O : Nat → Prop} (hk : Keeps O w w') (ho : ∀ k cs, O k → w.heap[k]? ≠ some (.cells cs 73 (0, 0))) : ∀ {l : List (ByteArray × Int)} {v : Value}, ErrIs w E n l v → ErrIs w' E n l v
  | [], _, h => h
  | (_, _) :: _, _, ⟨b, v', h1, h2, h3⟩ => ⟨b, v', h1, (hk.block b (Array.getElem?_eq_some_iff.1 h2).1 (fun hO => ho b _ hO h2)).trans h2, ErrIs.keeps' hk ho h3⟩
theorem ErrIs.iface {w : World} {E : Nat → Addr} {n : Nat} {l : List (ByteArray × Int)} {v : Value} (h : ErrIs w E n l v) : ∃ u p, v = .iface u p := by
  cases l with
  | nil => exact ⟨_, _, h⟩
  | cons x l => obtain ⟨b, v', rfl, _⟩ := h; exact ⟨_, _, rfl⟩

theorem is_typeOf (v : Value) (w : World) : (Extern.ReflectliteType.typeOf #[.iface 169 v]).run Tryz.prog w = .ok (.iface 76 (.agg #[.pointer (some ⟨12, 169, none⟩)])) w := by kernel_rfl
theorem is_comparable (w : World) : ((Extern.ReflectliteType.method fun t => do Rtype.noPackHeld "Comparable" t; (fun a => Value.bool a.comparable) <$> typeInfo t) #[.agg #[.pointer (some ⟨12, 169, none⟩)]]).run Tryz.prog w = .ok (.bool true) w := by kernel_rfl
theorem is_comp : (Tryz.prog.info? 169).map (·.comparable) = some true := by kernel_rfl
theorem is_size : (Tryz.prog.info? 194).map (·.size) = some 1 := by kernel_rfl
theorem noIsE (v : Value) (xT : TypeId) (w : World) : (Instr.typeAssert (.iface 169 v) xT 78 true).run Tryz.prog w = .ok (.tuple #[.nilIface, .bool false]) w := run_typeAssert_lacksB Tryz.underlying78 (by kernel_rfl) (by kernel_rfl) v xT w
theorem noIsF (v : Value) (xT : TypeId) (w : World) : (Instr.typeAssert (.iface 71 v) xT 78 true).run Tryz.prog w = .ok (.tuple #[.nilIface, .bool false]) w := run_typeAssert_lacksB Tryz.underlying78 (by kernel_rfl) (by kernel_rfl) v xT w
theorem hasUnwrapF (v : Value) (xT : TypeId) (w : World) : (Instr.typeAssert (.iface 71 v) xT 81 true).run Tryz.prog w = .ok (.tuple #[.iface 71 v, .bool true]) w := run_typeAssert_hasB Tryz.underlying81 (by kernel_rfl) v xT w
theorem methodUnwrapF (v : Value) (w : World) : (Go.method 306 71 v "Unwrap").run Tryz.prog w = .ok (128, v) w := by kernel_rfl
theorem methodComparable (v : Value) (w : World) : (Go.method 306 76 v "Comparable").run Tryz.prog w = .ok (132, v) w := by kernel_rfl

theorem ErrIs.len {w : World} {E : Nat → Addr} {n : Nat} : ∀ {l l' : List (ByteArray × Int)} {v : Value}, ErrIs w E n l v → ErrIs w E n l' v → l.length = l'.length
  | [], [], _, _, _ => rfl
  | [], _ :: _, _, h, ⟨b, v', h', _⟩ => by
    rw [show _ = _ from h] at h'
    simp [errV] at h'
  | _ :: _, [], _, ⟨b, v', h', _⟩, h => by
    rw [show _ = _ from h] at h'
    simp [errV] at h'
  | (_, _) :: _, (_, _) :: _, _, ⟨b, v', h1, h2, h3⟩, ⟨b2, v2, h4, h5, h6⟩ => by
    rw [h1] at h4
    have hb : b = b2 := by simpa [errV] using h4
    subst hb
    rw [h2] at h5
    have hv : v' = v2 := by
      injection h5 with h5
      injection h5 with h5
      simp at h5
      exact h5.2.2
    subst hv
    simp [ErrIs.len h3 h6]
open Classical in
noncomputable def errLen (w : World) (E : Nat → Addr) (n : Nat) (v : Value) : Nat := if h : ∃ l, ErrIs w E n l v then h.choose.length else 0
theorem errLen_eq {w : World} {E : Nat → Addr} {n : Nat} {l : List (ByteArray × Int)} {v : Value} (h : ErrIs w E n l v) : errLen w E n v = l.length := by
  unfold errLen
  have hx : ∃ l, ErrIs w E n l v := ⟨l, h⟩
  rw [dif_pos hx]
  exact ErrIs.len hx.choose_spec h

set_option maxRecDepth 1000000 in
theorem is_chain (w : World) (E : Nat → Addr) (n : Nat) (l : List (ByteArray × Int)) (v : Value) (h : ErrIs w E n l v) :
    Calls Tryz.prog 26 #[v, .iface 169 (.pointer (some (E n))), .bool true] w fun e w' => e = .returned (.bool true) ∧ w = w' := by
  obtain ⟨i, hi, hcmp⟩ := Option.map_eq_some_iff.1 is_comp
  obtain ⟨j, hj, hjs⟩ := Option.map_eq_some_iff.1 is_size
  have nE := noIsE
  have nF := noIsF
  have uF := hasUnwrapF
  have mU := methodUnwrapF
  go_enter Tryz.func26, Tryz.ntmps26
  go_wp2
  go_loopw [0] (fun v wl => wl = w ∧ ∃ l, ErrIs w E n l v) (fun v _ => errLen w E n v)
  case atStart => exact ⟨rfl, l, h⟩
  case round =>
    clear h
    obtain ⟨rfl, l, h⟩ := hrel
    cases l with
    | nil =>
      obtain rfl := h
      have heq := run_eql_iface_ptr_same (P := Tryz.prog) wr (E n) Tryz.underlying29 Tryz.underlying169 hi hcmp hj
      go_wp2
      go_ret
      exact ⟨rfl, rfl⟩
    | cons x l =>
      obtain ⟨op, at'⟩ := x
      have hlen0 := errLen_eq h
      obtain ⟨b, v', rfl, hb, h1⟩ := h
      have hlen := errLen_eq h1
      obtain ⟨u1, p1, rfl⟩ := h1.iface
      have hty := run_eql_iface_types (P := Tryz.prog) 71 169 (.pointer (some ⟨b, 0, none⟩)) (.pointer (some (E n))) Tryz.underlying29 (by decide) wr
      have hcell := (blk_cells hb).2.2.1
      have H1 := Lib.hid h1
      have HL := Lib.hid hlen
      have HL0 := Lib.hid hlen0
      clear h1 hb hlen hlen0
      unfold errV at *
      go_wp2
      exact ⟨⟨trivial, l, H1.out⟩, by show errLen wr E n (.iface u1 p1) < _; rw [HL.out, HL0.out]; simp⟩

set_option maxRecDepth 1000000 in
/-- errors.Is. -/
theorem errorsIs_c (w : World) (E : Nat → Addr) (n : Nat) (l : List (ByteArray × Int)) (v : Value) (h : ErrIs w E n l v) :
    Calls Tryz.prog 13 #[v, .iface 169 (.pointer (some (E n)))] w fun e w' => e = .returned (.bool true) ∧ w = w' := by
  obtain ⟨u1, p1, rfl⟩ := h.iface
  have tO := is_typeOf
  have mC := methodComparable
  have iC := is_comparable
  have hT := @run_callFunc_extern Tryz.prog 25 _ ReflectliteType.typeOf Tryz.func25 (by kernel_rfl) (by kernel_rfl) (by kernel_rfl) (by kernel_rfl)
  have hC := @run_callFunc_extern Tryz.prog 132 _ (ReflectliteType.method fun t => do Rtype.noPackHeld "Comparable" t; pure (.bool (← typeInfo t).comparable)) Tryz.func132 (by kernel_rfl) (by kernel_rfl) (by kernel_rfl) (by kernel_rfl)
  have H := Lib.hid h
  clear h
  go_enter Tryz.func13, Tryz.ntmps13
  go_wp2_with (go_at_call 26; refine (is_chain w E n l _ H.out).mono ?_; rintro e w' ⟨rfl, rfl⟩)
  go_ret
  exact ⟨rfl, rfl⟩
end Go.Proofs.YtedmmmlahpmmoaaGreatDoor

namespace Go.Proofs.YtedmmmlahpmmoaaGreatDoor
open Go.RowKit

/-- The value is no error, or the error of the tale. -/
def ErrV (w : World) (E : Nat → Addr) : Option Tale → Value → Prop
  | none, v => v = .nilIface
  | some t, v => ErrIs w E t.1 t.2 v
/-- The value asks for no error, or for the error of the tale. -/
def WantV (w : World) : Option Tale → Value → Prop
  | none, u => u = .agg #[.int .i64 0, .slice none 0 0, .slice none 0 0]
  | some t, u => ∃ A1 c1 A2 c2, u = .agg #[.int .i64 (t.1 : Int), .slice A1 t.2.length c1, .slice A2 t.2.length c2] ∧ t.2.length ≤ c1 ∧ c1 ≤ 9223372036854775807 ∧ t.2.length ≤ c2 ∧ c2 ≤ 9223372036854775807 ∧ Sl w A1 t.2.length (t.2.map fun x => .string x.1) ∧ Sl w A2 t.2.length (t.2.map fun x => .int .i64 x.2)
theorem ErrV.below {w w' : World} {E : Nat → Addr} {t : Option Tale} {v : Value} (h : ErrV w E t v) (hb : Below w.heap.size w w') : ErrV w' E t v := by
  cases t with
  | none => exact h
  | some t => exact ErrIs.below hb h
theorem WantV.below {w w' : World} {t : Option Tale} {v : Value} (h : WantV w t v) (hb : Below w.heap.size w w') : WantV w' t v := by
  cases t with
  | none => exact h
  | some t =>
    obtain ⟨A1, c1, A2, c2, h1, p1, p2, p3, p4, h2, h3⟩ := h
    exact ⟨A1, c1, A2, c2, h1, p1, p2, p3, p4, h2.below hb, h3.below hb⟩

end Go.Proofs.YtedmmmlahpmmoaaGreatDoor

namespace Go.Proofs.YtedmmmlahpmmoaaGreatDoor
open Go.RowKit RuleP

theorem ruleWrong_c (w : World) (E : Nat → Addr) (hE : Errs w E) (at' : Int) (n : Nat) (h1 : 1 ≤ n) (h2 : n ≤ 11) :
    Calls Tryz.prog 36 #[.int .i64 at', .int .i64 (n : Int)] w fun e w' => e = .returned (errV w.heap.size) ∧ ErrIs w' E n [(sRule, at')] (errV w.heap.size) ∧ Below w.heap.size w w' := by
  have HE := Lib.hid hE
  clear hE
  go_enter Tryz.func36, Tryz.ntmps36
  go_wp2_with fail
  refine (new_c w E HE.out sRule at' n h1 h2).mono ?_
  rintro e w' ⟨rfl, rfl⟩
  go_wp2_with fail
  go_ret
  exact ⟨rfl, ⟨w.heap.size, _, rfl, heap_new _ _, rfl⟩, (Below.refl _ _).alloc (Nat.le_refl _) _⟩

def size (k r : Int) : Except Tale Int := if k < 1 ∨ 4 < k ∨ r < 0 ∨ 3 < r then .error (3, [(sRule, 0)]) else .ok ((k.toNat ^ (2 * r.toNat + 1) : Nat) : Int)

set_option maxRecDepth 100000 in
set_option maxHeartbeats 1000000 in
theorem size_err (w : World) (E : Nat → Addr) (hE : Errs w E) (k r : Int) (h : k < 1 ∨ 4 < k ∨ r < 0 ∨ 3 < r) :
    Calls Tryz.prog 30 #[.int .i64 k, .int .i64 r] w fun e w' => ∃ b, e = .returned (.tuple #[.int .i64 0, errV b]) ∧ ErrIs w' E 3 [(sRule, 0)] (errV b) ∧ Below w.heap.size w w' := by
  have HE := Lib.hid hE
  clear hE
  have hc : k < 1 ∨ (1 ≤ k ∧ 4 < k) ∨ (1 ≤ k ∧ k ≤ 4 ∧ r < 0) ∨ (1 ≤ k ∧ k ≤ 4 ∧ 0 ≤ r ∧ 3 < r) := by omega
  clear h
  rcases hc with h | ⟨h, h'⟩ | ⟨h, h', h''⟩ | ⟨h, h', h'', h'''⟩
  all_goals
    go_enter Tryz.func30, Tryz.ntmps30
    go_wp2_with fail
    refine (ruleWrong_c w E HE.out 0 3 (by decide) (by decide)).mono ?_
    rintro e w' ⟨rfl, he, hb⟩
    go_wp2_with fail
    go_ret2
    exact ⟨_, rfl, he, hb⟩
set_option maxRecDepth 100000 in
set_option maxHeartbeats 1000000 in
theorem size_ok (w : World) (k r : Nat) (h1 : 1 ≤ k) (h2 : k ≤ 4) (h3 : r ≤ 3) :
    Calls Tryz.prog 30 #[.int .i64 (k : Int), .int .i64 (r : Int)] w fun e w' => e = .returned (.tuple #[.int .i64 ((k ^ (2 * r + 1) : Nat) : Int), .nilIface]) ∧ w = w' := by
  go_enter Tryz.func30, Tryz.ntmps30
  go_wp2_with fail
  go_loop [6, 25] (fun n i => ∃ j : Nat, j ≤ 2 * r ∧ i = .int .i64 (j : Int) ∧ n = .int .i64 ((k ^ (j + 1) : Nat) : Int)) (fun _ i => 2 * r - (intOf i).toNat)
  case atStart => exact ⟨0, by omega, rfl, by simp⟩
  case round =>
    obtain ⟨j, hj, rfl, rfl⟩ := hrel
    by_cases hlt : j < 2 * r
    · have hp : ((k ^ (j + 1) : Nat) : Int) * (k : Int) = ((k ^ (j + 1 + 1) : Nat) : Int) := by rw [Nat.pow_succ k (j + 1)]; simp
      have hle : k ^ (j + 1 + 1) ≤ 65536 := Nat.le_trans (Nat.pow_le_pow_right h1 (show j + 1 + 1 ≤ 8 by omega)) (Nat.le_trans (Nat.pow_le_pow_left h2 8) (by decide))
      generalize k ^ (j + 1) = P at hp ⊢
      obtain ⟨Q, hQ⟩ : ∃ Q, k ^ (j + 1 + 1) = Q := ⟨_, rfl⟩
      rw [hQ] at hp hle
      have HQ := Lib.hid hQ
      clear hQ
      go_wp2_with fail
      exact ⟨⟨j + 1, by omega, by go_num, by rw [HQ.out]⟩, by simp [intOf]; omega⟩
    · obtain rfl : j = 2 * r := by omega
      go_wp2_with fail
      go_ret2
      exact ⟨rfl, rfl⟩
end Go.Proofs.YtedmmmlahpmmoaaGreatDoor
