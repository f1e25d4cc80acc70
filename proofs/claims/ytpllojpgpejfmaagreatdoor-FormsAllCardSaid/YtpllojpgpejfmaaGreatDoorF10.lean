/- Rules out of rules, as plain lists: the document's narrow form is the program's; two rules make the same just if their widened forms are one. No program. No condition. The preimages of a word in the order of words: plain lists, no program. No condition. What a search among preimages has found, step by step: plain lists, no program. No condition. From which nodes on labels can be written, step by step: plain lists, no program. No condition. What memory holds of a search among preimages: overlap's dead. Plain lemmas, no program. No condition. append(s, x) of one element in a region that draws its order: what is told of the row, the old one kept. Plain laws, no program. No condition. A number's digits: edenref04.Digits. No condition. -/
import Derived.Test.YtpllojpgpejfmaaGreatDoorF1
import Derived.Test.YtpllojpgpejfmaaGreatDoorF2
import Derived.Test.YtpllojpgpejfmaaGreatDoorF3
import Derived.Test.YtpllojpgpejfmaaGreatDoorF6
namespace Go.Proofs.YtpllojpgpejfmaaGreatDoor
namespace RuleP

theorem wide_wide {k r d : Nat} {t : List Nat} (hr : IsRule k r t) (h3 : r + d ≤ 3) : ∀ e, r + d + e ≤ 3 → wide k (r + d) e (wide k r d t) = wide k r (d + e) t
  | 0, _ => wide_zero (wide_rule hr h3)
  | e + 1, he => by
    have h1 := wide_wide hr h3 e (by omega)
    have h2 := wide_one (k := k) (r := r + d) (d := e) (wide_rule hr h3)
    rw [← h2, h1]
    have h4 := wide_one (d := d + e) hr
    rw [show r + (d + e) = r + d + e by omega] at h4
    exact h4
theorem narrow_back {k : Nat} : ∀ {r : Nat} {t : List Nat}, IsRule k r t → ∃ d, (narrow k r t).1 + d = r ∧ wide k (narrow k r t).1 d (narrow k r t).2 = t
  | 0, t, h => ⟨0, rfl, wide_zero h⟩
  | r + 1, t, h => by
    by_cases hw : wide k r 1 (inn k r t) = t
    · have e : narrow k (r + 1) t = narrow k r (inn k r t) := by rw [narrow, if_pos hw]
      rw [e]
      obtain ⟨d, h1, h2⟩ := narrow_back (inn_rule h)
      have h3 := h.r3
      refine ⟨d + 1, by omega, ?_⟩
      have h4 := wide_one (d := d) (narrow_rule (inn_rule h))
      rw [h2, h1, hw] at h4
      exact h4.symm
    · have e : narrow k (r + 1) t = (r + 1, t) := by rw [narrow, if_neg hw]
      rw [e]
      exact ⟨0, rfl, wide_zero h⟩
/-- The least radius whose rule widens to t. -/
theorem narrow_first {k r ρ d : Nat} {t u : List Nat} (hu : IsRule k ρ u) (hr : IsRule k r t) (hd : ρ + d = r) (h : wide k ρ d u = t) (hmin : ∀ ρ' u' d', ρ' < ρ → IsRule k ρ' u' → ρ' + d' = r → wide k ρ' d' u' ≠ t) : narrow k r t = (ρ, u) := by
  have h1 : narrow k r t = narrow k ρ u := by
    have := narrow_wide hu d
    rw [hd, h] at this
    exact this
  obtain ⟨d', h2, h3⟩ := narrow_back hu
  have hle := @narrow_le k ρ u
  have hr3 := hr.r3
  rcases Nat.lt_or_ge (narrow k ρ u).1 ρ with hlt | hge
  · exfalso
    refine hmin _ (narrow k ρ u).2 (d' + d) hlt (narrow_rule hu) (by omega) ?_
    have h4 := wide_wide (k := k) (d := d') (narrow_rule hu) (by omega) d (by omega)
    rw [h2, h3, h] at h4
    exact h4.symm
  · have e1 : (narrow k ρ u).1 = ρ := by omega
    have e2 : d' = 0 := by omega
    subst e2
    rw [e1] at h3
    have h5 := narrow_rule hu
    rw [e1] at h5
    rw [wide_zero h5] at h3
    rw [h1]
    exact Prod.ext e1 h3
/-- The document's inner rule, window by window. -/
def inTo (k r ρ d : Nat) (t : List Nat) : Nat → List Nat
  | 0 => List.replicate (k ^ (2 * ρ + 1)) 0
  | i + 1 => (inTo k r ρ d t i).set (wval k (win (digB k (2 * r + 1) i) d (2 * ρ + 1))) (t.getD i 0)
theorem inTo_len (k r ρ d : Nat) (t : List Nat) : ∀ i, (inTo k r ρ d t i).length = k ^ (2 * ρ + 1)
  | 0 => by rw [inTo, List.length_replicate]
  | i + 1 => by rw [inTo, List.length_set, inTo_len k r ρ d t i]
theorem inTo_sym {k r ρ d : Nat} {t : List Nat} (hr : IsRule k r t) : ∀ i, i ≤ t.length → ∀ x ∈ inTo k r ρ d t i, x < k
  | 0, _, x, hx => by
    rw [inTo] at hx
    rw [(List.mem_replicate.1 hx).2]
    exact hr.k1
  | i + 1, hi, x, hx => by
    rw [inTo] at hx
    rcases List.mem_or_eq_of_mem_set hx with h | h
    · exact inTo_sym hr i (by omega) x h
    · rw [h, List.getD_eq_getElem?_getD, List.getElem?_eq_getElem (show i < t.length by omega)]
      exact hr.sym _ (List.getElem_mem _)
theorem inTo_rule {k r ρ d : Nat} {t : List Nat} (hr : IsRule k r t) (hρ : ρ ≤ 3) : IsRule k ρ (inTo k r ρ d t t.length) :=
  ⟨hr.k1, hr.k4, hρ, inTo_len _ _ _ _ _ _, inTo_sym hr _ (Nat.le_refl _)⟩
theorem inTo_at {k r ρ d : Nat} {t u : List Nat} (hu : IsRule k ρ u) (hr : IsRule k r t) (hd : ρ + d = r) (h : wide k ρ d u = t) : ∀ i, i ≤ t.length → ∀ v, v < k ^ (2 * ρ + 1) →
    (inTo k r ρ d t i).getD v 0 = u.getD v 0 ∨ ∀ j, j < i → wval k (win (digB k (2 * r + 1) j) d (2 * ρ + 1)) ≠ v
  | 0, _, v, _ => .inr fun j hj => absurd hj (Nat.not_lt_zero j)
  | i + 1, hi, v, hv => by
    have ih := inTo_at hu hr hd h i (by omega) v hv
    rw [inTo]
    obtain ⟨q, hq⟩ : ∃ q, wval k (win (digB k (2 * r + 1) i) d (2 * ρ + 1)) = q := ⟨_, rfl⟩
    rw [hq]
    by_cases e : q = v
    · subst e
      refine .inl ?_
      rw [List.getD_eq_getElem?_getD, List.getElem?_set, if_pos rfl, if_pos (by rw [inTo_len]; exact hv)]
      show t.getD i 0 = u.getD q 0
      have hi' : i < k ^ (2 * (ρ + d) + 1) := by rw [hd, ← hr.len]; omega
      rw [← h, List.getD_eq_getElem?_getD]
      unfold wide
      rw [tab_get _ hi', hd]
      show sy k u (win (digB k (2 * r + 1) i) d (2 * ρ + 1)) = u.getD q 0
      unfold sy
      rw [hq]
    · rcases ih with ih | ih
      · refine .inl ?_
        rw [List.getD_eq_getElem?_getD, List.getElem?_set, if_neg e, ← List.getD_eq_getElem?_getD]
        exact ih
      · refine .inr fun j hj => ?_
        by_cases hj' : j = i
        · rw [hj', hq]; exact e
        · exact ih j (by omega)
theorem inTo_fit {k r ρ d : Nat} {t u : List Nat} (hu : IsRule k ρ u) (hr : IsRule k r t) (hd : ρ + d = r) (h : wide k ρ d u = t) : inTo k r ρ d t t.length = u := by
  apply List.ext_getElem?
  intro v
  by_cases hv : v < k ^ (2 * ρ + 1)
  · have h1 : (inTo k r ρ d t t.length)[v]? = some ((inTo k r ρ d t t.length).getD v 0) := by rw [List.getD_eq_getElem?_getD, List.getElem?_eq_getElem (by rw [inTo_len]; exact hv)]; rfl
    have h2 : u[v]? = some (u.getD v 0) := by rw [List.getD_eq_getElem?_getD, List.getElem?_eq_getElem (by rw [hu.len]; exact hv)]; rfl
    rw [h1, h2]
    rcases inTo_at hu hr hd h t.length (Nat.le_refl _) v hv with h3 | h3
    · rw [h3]
    · exfalso
      have hs := digB_sym hr.k1 (2 * ρ + 1) v
      have hl := digB_len k (2 * ρ + 1) v
      obtain ⟨w, hw⟩ : ∃ w, List.replicate d 0 ++ digB k (2 * ρ + 1) v ++ List.replicate d 0 = w := ⟨_, rfl⟩
      have hwl : w.length = 2 * r + 1 := by rw [← hw, List.length_append, List.length_append, List.length_replicate, hl]; omega
      have hws : ∀ x ∈ w, x < k := by
        intro x hx
        rw [← hw] at hx
        rcases List.mem_append.1 hx with hx | hx
        · rcases List.mem_append.1 hx with hx | hx
          · rw [(List.mem_replicate.1 hx).2]; exact hr.k1
          · exact hs x hx
        · rw [(List.mem_replicate.1 hx).2]; exact hr.k1
      have hlt := wval_lt hws
      rw [hwl, ← hr.len] at hlt
      refine h3 (wval k w) hlt ?_
      rw [digB_wval hr.k1 _ _ hwl hws]
      have e : win w d (2 * ρ + 1) = digB k (2 * ρ + 1) v := by
        unfold win
        rw [← hw, List.append_assoc, List.drop_append_of_le_length (by rw [List.length_replicate]; exact Nat.le_refl _), List.drop_eq_nil_of_le (by rw [List.length_replicate]; exact Nat.le_refl _), List.nil_append, List.take_append_of_le_length (by rw [hl]; exact Nat.le_refl _), List.take_of_length_le (by rw [hl]; exact Nat.le_refl _)]
      rw [e, dig_wval hr.k1 hv]
  · rw [List.getElem?_eq_none (by rw [inTo_len]; omega), List.getElem?_eq_none (by rw [hu.len]; omega)]
/-- The document's narrow form: the first radius that fits. -/
theorem narrow_ref {k r ρ d : Nat} {t : List Nat} (hr : IsRule k r t) (hd : ρ + d = r) (hfit : wide k ρ d (inTo k r ρ d t t.length) = t) (hno : ∀ ρ' d', ρ' < ρ → ρ' + d' = r → wide k ρ' d' (inTo k r ρ' d' t t.length) ≠ t) : narrow k r t = (ρ, inTo k r ρ d t t.length) := by
  have h3 := hr.r3
  refine narrow_first (inTo_rule hr (by omega)) hr hd hfit fun ρ' u' d' hlt hu' hd' hw => ?_
  refine hno ρ' d' hlt hd' ?_
  rw [inTo_fit hu' hr hd' hw]
  exact hw
theorem narrow_ref_all {k r : Nat} {t : List Nat} (hr : IsRule k r t) (hno : ∀ ρ' d', ρ' < r → ρ' + d' = r → wide k ρ' d' (inTo k r ρ' d' t t.length) ≠ t) : narrow k r t = (r, t) := by
  refine narrow_first hr hr (d := 0) rfl (wide_zero hr) fun ρ' u' d' hlt hu' hd' hw => ?_
  refine hno ρ' d' hlt hd' ?_
  rw [inTo_fit hu' hr hd' hw]
  exact hw
/-- Two rules make the same just if their widened forms are one. -/
theorem same_wide {k r1 r2 d1 d2 R : Nat} {t1 t2 : List Nat} (h1 : IsRule k r1 t1) (h2 : IsRule k r2 t2) (e1 : r1 + d1 = R) (e2 : r2 + d2 = R) (hR : R ≤ 3) : narrow k r1 t1 = narrow k r2 t2 ↔ wide k r1 d1 t1 = wide k r2 d2 t2 := by
  constructor
  · intro h
    obtain ⟨a, a1, a2⟩ := narrow_back h1
    obtain ⟨b, b1, b2⟩ := narrow_back h2
    rw [← h] at b1 b2
    have hn := narrow_rule h1
    have g1 := wide_wide (k := k) (d := a) hn (by omega) d1 (by omega)
    have g2 := wide_wide (k := k) (d := b) hn (by omega) d2 (by omega)
    rw [a1, a2] at g1
    rw [b1, b2] at g2
    rw [g1, g2, show a + d1 = b + d2 by omega]
  · intro h
    have g1 := narrow_wide h1 d1
    have g2 := narrow_wide h2 d2
    rw [e1] at g1
    rw [e2, ← h] at g2
    rw [← g1, ← g2]
end RuleP
end Go.Proofs.YtpllojpgpejfmaaGreatDoor

namespace Go.Proofs.YtpllojpgpejfmaaGreatDoor
namespace RuleP

/-- The words along which the labels w stand, from node u on (N nodes). -/
def sols (k N : Nat) (t : List Nat) : Nat → List Nat → List (List Nat)
  | _, [] => [[]]
  | u, c :: w => (List.range k).flatMap fun s => if t.getD (u * k + s) 0 = c then (sols k N t ((u * k + s) % N) w).map (s :: ·) else []
/-- The words that have the image w, in order: those from the first n nodes on. -/
def befTo (k r : Nat) (t w : List Nat) (n : Nat) : List (List Nat) := (List.range n).flatMap fun u => (sols k (k ^ (2 * r)) t u w).map (digB k (2 * r) u ++ ·)
def before (k r : Nat) (t w : List Nat) : List (List Nat) := befTo k r t w (k ^ (2 * r))
/-- The first most of what has been found, and whether that was not all. -/
structure Found (most : Nat) (P L : List (List Nat)) (more : Bool) : Prop where
  list : L = P.take most
  more : more = decide (most < P.length)
theorem Found.start (most : Nat) : Found most [] [] false := ⟨by simp, by simp⟩
theorem Found.all {most : Nat} {P L : List (List Nat)} (h : Found most P L false) : L = P ∧ P.length ≤ most := by
  have h1 : ¬ most < P.length := of_decide_eq_false h.more.symm
  exact ⟨by rw [h.list, List.take_of_length_le (by omega)], by omega⟩
theorem Found.put {most : Nat} {P L : List (List Nat)} (h : Found most P L false) (hl : L.length < most) (x : List Nat) : Found most (P ++ [x]) (L ++ [x]) false := by
  obtain ⟨rfl, h2⟩ := h.all
  exact ⟨by rw [List.take_of_length_le (by simp; omega)], (decide_eq_false (by simp; omega)).symm⟩
end RuleP
end Go.Proofs.YtpllojpgpejfmaaGreatDoor

namespace Go.Proofs.YtpllojpgpejfmaaGreatDoor
namespace RuleP

/-- The words found ahead, and those from this place on behind x. -/
def onP (P : List (List Nat)) (x : List Nat) (S : List (List Nat)) : List (List Nat) := P ++ S.map (x ++ ·)
/-- More than could be kept were found: something was found. -/
theorem Found.any {most : Nat} {P L : List (List Nat)} {x : List Nat} {S : List (List Nat)} (h : Found most (onP P x S) L true) (h' : P.length ≤ most) : S ≠ [] := by
  have h1 : most < (onP P x S).length := of_decide_eq_true h.more.symm
  intro e
  subst e
  simp [onP] at h1
  omega
end RuleP
end Go.Proofs.YtpllojpgpejfmaaGreatDoor

namespace Go.Proofs.YtpllojpgpejfmaaGreatDoor
namespace RuleP

end RuleP
end Go.Proofs.YtpllojpgpejfmaaGreatDoor

namespace Go.Proofs.YtpllojpgpejfmaaGreatDoor
open Go.RowKit RuleP

/-- What stays: the rule, the word, where they lie, where the search lies, the world ahead of it. -/
structure DeadP where
  w0 : World
  k : Nat
  r : Nat
  most : Nat
  t : List Nat
  W : List Nat
  TA : Option Addr
  tc : Nat
  WA : Option Addr
  wc : Nat
  db : Nat
  atv : Value
  G : List Value
def DeadP.N (D : DeadP) : Nat := D.k ^ (2 * D.r)
def DeadP.B (D : DeadP) : Nat := D.w0.heap.size
def DeadP.cells (D : DeadP) (lv : Value) (more : Bool) : Array Value :=
  #[.int .i64 (D.k : Int), .int .i64 (D.r : Int), .slice D.TA D.t.length D.tc, .slice D.WA D.W.length D.wc, D.atv, .int .i64 (D.most : Int), lv, .bool more]
/-- Row i of the marks: where a mark stands, nothing goes on. -/
def DeadRow (w : World) (D : DeadP) (i : Nat) : Prop :=
  ∃ (g : Nat) (fl : List Bool), D.G[i]? = some (.slice (some ⟨g, 0, none⟩) D.N D.N) ∧ w.ownsRow D.B 4 1 (.slice (some ⟨g, 0, none⟩) D.N D.N) D.N (fl.map Value.bool) ∧
    ∀ u, fl[u]? = some true → sols D.k D.N D.t u (D.W.drop i) = []
variable {w w' w1 w2 : World} {D : DeadP} {lv lv' : Value} {rows rows' : List Value} {L : List (List Nat)} {more : Bool} {X X' : Nat → Prop}

theorem DeadRow.keeps {Q : Nat → Prop} {i : Nat} (h : DeadRow w D i) (hk : Keeps Q w w') (hq : ∀ b, Q b → ∀ v n xs, w.ownsRow D.B 4 1 v n xs → v.ownBlock ≠ some b) : DeadRow w' D i := by
  obtain ⟨g, fl, h1, h2, h4⟩ := h
  exact ⟨g, fl, h1, own_keeps h2 hk (fun g' hg' hQ => hq g' hQ _ _ _ h2 hg'), h4⟩

end Go.Proofs.YtpllojpgpejfmaaGreatDoor

namespace Go.Proofs.YtpllojpgpejfmaaGreatDoor
open Go.RowKit

theorem run_push3 {P : Program} (w : World) (t ty : TypeId) {e : TypeId} {z : Value} {bytes : Nat} (hT : ElemT P t e z bytes) {base : Nat} {v : Value} {n : Nat} {xs : List Value} (hown : w.ownsRow base e 1 v n xs)
    (ad : Addr) (c : Nat) (u : Value) (hc : w.cell? ad = some u) (hu : u.oneCell' = true) (h63 : n + 1 ≤ maxLen) (hbytes : (n + 1) * bytes ≤ 140737488355328) (hbase : base ≤ w.heap.size) :
    ∃ g cap w', (Builtin.append_ #[t, t] ty #[v, .slice (some ad) 1 c]).run P w = .ok (.slice (some ⟨g, 0, none⟩) (n + 1) cap) w' ∧ w'.ownsRow base e 1 (.slice (some ⟨g, 0, none⟩) (n + 1) cap) (n + 1) (xs ++ [u]) ∧
      ((v = .slice (some ⟨g, 0, none⟩) n cap ∧ w.grownBy w' (some g)) ∨ (w.heap.size ≤ g ∧ w.grownBy w' none)) ∧ g < w'.heap.size := by
  obtain ⟨i, hi, hz, hz1, hz2⟩ := info_parts hT.info
  have hcell : ∀ j u', [u][j]? = some u' → w.cell? (ad.add j) = some u' := by
    intro j u' hj
    match j, hj with
    | 0, hj => simp at hj; subst hj; simpa [Addr.add] using hc
  have hone : ∀ u' ∈ [u], u'.oneCell' = true := by intro u' hu'; simp at hu'; subst hu'; exact hu
  have h1z : z.cells.size = 1 := by rw [hT.one]; rfl
  rcases hown.2 with ⟨rfl, rfl⟩ | ⟨g, cap, cur, rfl, hbg, hg, hnc, hcm, hsz, htake⟩
  · obtain rfl : xs = [] := List.eq_nil_of_length_eq_zero (by simpa using hown.1)
    obtain ⟨v', w', hrun, r1, r2, _⟩ := run_append_own (P := P) w w.heap.size t ty e i z 1 bytes hT.und hi hz hz1 hz2 h1z (by decide) (.slice none 0 0) 0 [] (World.ownsRow_nil w _ e 1) ad 1 c [u] rfl hcell hone h63 hbytes (Nat.le_refl _)
    obtain ⟨g, cap, rfl, hb, hlt⟩ := r1.form (by omega)
    exact ⟨g, cap, w', hrun, own_base r1 hbase, .inr ⟨hb, r2⟩, hlt⟩
  · by_cases hroom : n + 1 ≤ cap
    · obtain ⟨w', hrun, r1, r2⟩ := run_append_fits (P := P) w base t ty e i 1 hT.und hi hz1 g n cap xs hown ad 1 c [u] rfl hcell hone hroom
      exact ⟨g, cap, w', hrun, r1, .inl ⟨rfl, r2⟩, (r1.lt g rfl).2⟩
    · obtain ⟨v', w', hrun, r1, r2⟩ := run_append_arg_grows (P := P) w t ty e i z 1 bytes hT.und hi hz hz1 hz2 h1z (by decide) ⟨g, 0, none⟩ n cap xs (by simpa using hown.1) (fun j u' hj => hown.cells (g := g) rfl j u' hj) ad 1 c [u] rfl hcell (by omega) h63 hbytes
      obtain ⟨g', cap', rfl, hb, hlt⟩ := r1.form (by omega)
      exact ⟨g', cap', w', hrun, own_base r1 hbase, .inr ⟨hb, r2⟩, hlt⟩

/-- At a step of a region that draws its order. -/
theorem step_push3 {P : Program} {w : World} {ops : Array Oper} {o : Oper} {a : Act} {K : Act → World → Prop} {Q : Exit → Act → World → Prop} {F : Prop} (hw : Region.wanted o (yielded ops a.tmps) = true) (s x : Operand) (t : TypeId)
    (ho : o.op = .call { callee := .builtin .append, args := #[s, x], argTypes := #[t, t] }) {e : TypeId} {z : Value} {bytes : Nat} (hT : ElemT P t e z bytes)
    {base : Nat} {v : Value} {n : Nat} {xs : List Value} (hown : w.ownsRow base e 1 v n xs) (hs : a.eval s = v) (ad : Addr) (c : Nat) (hx : a.eval x = .slice (some ad) 1 c) (u : Value) (hc : w.cell? ad = some u) (hu : u.oneCell' = true)
    (h63 : n + 1 ≤ maxLen) (hbytes : (n + 1) * bytes ≤ 140737488355328) (hbase : base ≤ w.heap.size)
    (h : ∀ g cap w', w'.ownsRow base e 1 (.slice (some ⟨g, 0, none⟩) (n + 1) cap) (n + 1) (xs ++ [u]) → ((v = .slice (some ⟨g, 0, none⟩) n cap ∧ w.grownBy w' (some g)) ∨ (w.heap.size ≤ g ∧ w.grownBy w' none)) → g < w'.heap.size →
      K (a.put o.dst (.slice (some ⟨g, 0, none⟩) (n + 1) cap)) w') :
    if Region.wanted o (yielded ops a.tmps) = true then Oper.wp P o a w K Q else F := by
  rw [if_pos hw]
  obtain ⟨g, cap, w', hr, h2, h3, h4⟩ := run_push3 (P := P) w t o.type hT hown ad c u hc hu h63 hbytes hbase
  unfold Oper.wp execOp
  simp only [ho, resolve, invoke, builtin, Sem.run_bind, Sem.run_pure, Result.andThen_ok, List.map_toArray, List.map_cons, List.map_nil, hs, hx, hr]
  exact h g cap w' h2 h3 h4

end Go.Proofs.YtpllojpgpejfmaaGreatDoor

namespace Go.Proofs.YtpllojpgpejfmaaGreatDoor
open Go.RowKit RuleP

namespace RuleP
theorem digB_cons (k j x : Nat) : digB k (j + 1) x = (x / k ^ j % k) :: digB k j x := by
  induction j generalizing x with
  | zero => simp [digB]
  | succ j ih =>
    rw [show digB k (j + 1 + 1) x = digB k (j + 1) (x / k) ++ [x % k] from rfl, ih, show digB k (j + 1) x = digB k j (x / k) ++ [x % k] from rfl, Nat.div_div_eq_div_mul, Nat.pow_succ, Nat.mul_comm k]
    rfl
/-- Where m digits are still to be written. -/
def digR (k n x m : Nat) : List Nat := List.replicate m 0 ++ digB k (n - m) x
theorem digR_len {k n x m : Nat} (h : m ≤ n) : (digR k n x m).length = n := by simp [digR, digB_len]; omega
theorem digR_set {k n x m : Nat} (h : m + 1 ≤ n) : (digR k n x (m + 1)).set m (x / k ^ (n - (m + 1)) % k) = digR k n x m := by
  unfold digR
  rw [List.set_append_left _ _ (by simp), show n - m = n - (m + 1) + 1 from by omega, digB_cons, List.replicate_succ', List.set_append_right _ _ (by simp)]
  simp
end RuleP

set_option maxRecDepth 100000 in
set_option maxHeartbeats 1000000 in
theorem digits_c (w : World) (k n x : Nat) (hk : 1 ≤ k) (hk4 : k ≤ 1000) (hn : n ≤ 1000000) (hx : x ≤ 1000000000) :
    Calls Tryz.prog 49 #[.int .i64 (k : Int), .int .i64 (n : Int), .int .i64 (x : Int)] w fun e w' => e = .returned (.slice (some ⟨w.heap.size, 0, none⟩) n n) ∧ w'.ownsRow w.heap.size 3 1 (.slice (some ⟨w.heap.size, 0, none⟩) n n) n ((ints (digB k n x)).map (Value.int .i64)) ∧ Below w.heap.size w w' := by
  have hmk := run_make_row' (P := Tryz.prog) 24 3 (.int .i64 0) 8 tInts.und tInts.info rfl .i64 .i64 n (by omega) (by omega)
  have hown0 := make_ints w n (by simp only [maxLen]; omega)
  have hb0 := (Below.refl w.heap.size w).alloc (Nat.le_refl _) (.cells (madeCells #[.int .i64 0] n) 3)
  have hkz : ((k : Int) == 0) = false := by rw [beq_eq_false_iff_ne]; omega
  go_enter Tryz.func49, Tryz.ntmps49
  go_wp2_with fail
  clear hmk
  go_loopw [2, 8] (fun xv p wr => ∃ (m : Nat) (z : Int), m ≤ n ∧ p = .int .i64 z ∧ z = (m : Int) - 1 ∧ xv = .int .i64 ((x / k ^ (n - m) : Nat) : Int) ∧ wr.ownsRow w.heap.size 3 1 (.slice (some ⟨w.heap.size, 0, none⟩) n n) n ((ints (digR k n x m)).map (Value.int .i64)) ∧ Below w.heap.size w wr) (fun _ p _ => (intOf p + 1).toNat)
  case atStart => exact ⟨n, _, Nat.le_refl _, rfl, rfl, by simp, by simpa [digR, digB] using hown0, hb0⟩
  case round =>
    clear hown0 hb0
    obtain ⟨m, z, hm, rfl, hz, rfl, hown, hb⟩ := hrel
    have hq : x / k ^ (n - m) ≤ 1000000000 := Nat.le_trans (Nat.div_le_self _ _) hx
    cases m with
    | zero =>
      obtain rfl : z = -1 := by omega
      clear hz
      have hge : decide ((0 : Int) ≤ -1) = false := by decide
      rw [show digR k n x 0 = digB k n x from by simp [digR]] at hown
      go_wp2_with fail
      go_ret
      exact ⟨rfl, hown, hb⟩
    | succ m =>
      obtain rfl : z = (m : Int) := by omega
      clear hz
      have hlen := digR_len (k := k) (x := x) hm
      obtain ⟨y, hy⟩ : ∃ y, (digR k n x (m + 1))[m]? = some y := ⟨_, List.getElem?_eq_getElem (by omega)⟩
      have hcell : wr.cell? ⟨w.heap.size, m, none⟩ = some (.int .i64 (y : Int)) := by rw [hown.cellAt m (by omega), ints_map, List.getElem?_map, hy]; rfl
      have hfr := hown.frozenAt m
      have hst := (hown.stored m (.int .i64 ((x / k ^ (n - (m + 1)) % k : Nat) : Int))).1
      rw [← List.map_set, ints_set, digR_set hm] at hst
      have hdd : x / k ^ (n - (m + 1)) / k = x / k ^ (n - m) := by rw [Nat.div_div_eq_div_mul, ← Nat.pow_succ, show (n - (m + 1)).succ = n - m from by omega]
      have hbn := hb.setCell (p := ⟨w.heap.size, m, none⟩) (Nat.le_refl _) (.int .i64 ((x / k ^ (n - (m + 1)) % k : Nat) : Int))
      obtain ⟨q, hqq⟩ : ∃ q, x / k ^ (n - (m + 1)) = q := ⟨_, rfl⟩
      rw [hqq] at hq hst hbn hdd ⊢
      have hwr : Hid (Value.int .i64 (wrap64 ((q : Int) / (k : Int))) = Value.int .i64 ((x / k ^ (n - m) : Nat) : Int)) := Lib.hid (by
        rw [← hdd, ← Int.natCast_ediv]
        have h2 : q / k ≤ 1000000000 := Nat.le_trans (Nat.div_le_self q k) hq
        generalize q / k = u at h2
        congr 1
        unfold wrap64
        omega)
      have HWR := hwr
      clear hqq hdd hown hb hy hlen hwr
      go_wp2_with fail
      exact ⟨⟨m, _, by omega, rfl, by omega, HWR.out, hst, hbn⟩, by simp [intOf]⟩
end Go.Proofs.YtpllojpgpejfmaaGreatDoor
