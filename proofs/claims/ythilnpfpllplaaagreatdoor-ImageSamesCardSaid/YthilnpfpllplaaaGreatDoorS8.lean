/- A list of lists of numbers as the call's own memory holds it: the list's row, the rows of its elements, apart from one another. Plain lemmas, no program. No condition. Lists held against each other: edenraw.Ints returns whether the two lists are one. Condition: both lists read from memory. copy(d, s) into a row of the call's own. Plain laws, no program. No condition. Numbers lent: edenraw.Lent, Kept. Condition: the numbers read from memory. A rule lent: edenraw.LentRule, KeptRule. Condition: the table reads from memory. Lists of lists held against each other: edenraw.Lists. Condition: the lists read from memory. The bag in memory, and what each of its methods does. Condition: the numbers handed in are members of the bag's range, where a theorem says so. What strings.TrimLeft returns at the cutset "0". No condition. Bytes that the call owns, as a text. Plain lemmas over memory. No condition. The text of a set: bag.key returns the bytes of its words. Condition: at most 1048576 words. -/
import Derived.Laws.CopyOwn
import Derived.Deep.RegionHeld3
import Derived.Lib.Strings
import Derived.Lib.Walk
import Derived.Lib.TrimByte
import Derived.Laws.Strings3
import Derived.Laws.BytesArg
import Derived.Test.YthilnpfpllplaaaGreatDoorS1
import Derived.Test.YthilnpfpllplaaaGreatDoorS4
import Derived.Test.YthilnpfpllplaaaGreatDoorS6
import Derived.Test.YthilnpfpllplaaaGreatDoorS7
namespace Go.Proofs.YthilnpfpllplaaaGreatDoor
open Go.RowKit RuleP

/-- A list of lists: lt the inner lists' type, et their elements'. -/
structure RowsG (lt et : TypeId) (w : World) (B : Nat) (lv : Value) (rows : List Value) (L : List (List Value)) (X : Nat → Prop) : Prop where
  lst : w.ownsRow B lt 1 lv L.length rows
  el : ∀ (j : Nat) l, L[j]? = some l → ∃ v, rows[j]? = some v ∧ w.ownsRow B et 1 v l.length l ∧ ∀ g, v.ownBlock = some g → ¬ X g
  far : FarV rows
namespace RowsG
variable {lt et : TypeId} {w w' : World} {B : Nat} {lv lv' : Value} {rows : List Value} {L : List (List Value)} {X X' : Nat → Prop}
theorem len (h : RowsG lt et w B lv rows L X) : rows.length = L.length := by simpa using h.lst.1
theorem mem (h : RowsG lt et w B lv rows L X) {v : Value} (hv : v ∈ rows) : ∃ l, l ∈ L ∧ w.ownsRow B et 1 v l.length l ∧ ∀ g, v.ownBlock = some g → ¬ X g := by
  obtain ⟨j, hj⟩ := List.getElem?_of_mem hv
  have hl : j < L.length := by have := (List.getElem?_eq_some_iff.1 hj).1; have := h.len; omega
  obtain ⟨u, h1, h2, h3⟩ := h.el j _ (List.getElem?_eq_getElem hl)
  rw [hj] at h1
  cases h1
  exact ⟨_, List.getElem_mem hl, h2, h3⟩
theorem nil (w : World) (B : Nat) (X : Nat → Prop) : RowsG lt et w B (.slice none 0 0) [] [] X :=
  ⟨World.ownsRow_nil _ _ _ _, fun j l h => by simp at h, fun i j v v' g _ h => by simp at h⟩
theorem mono (h : RowsG lt et w B lv rows L X) (hx : ∀ b, X' b → X b ∨ w.heap.size ≤ b) : RowsG lt et w B lv rows L X' :=
  { h with
    el := fun j l hj => by
      obtain ⟨v, h1, h2, h3⟩ := h.el j l hj
      exact ⟨v, h1, h2, fun g hg hx' => by
        rcases hx g hx' with h' | h'
        · exact h3 g hg h'
        · have := (h2.lt g hg).2; omega⟩ }
theorem base (h : RowsG lt et w B lv rows L X) {B' : Nat} (hb : B' ≤ B) : RowsG lt et w B' lv rows L X :=
  ⟨own_base h.lst hb, fun j l hj => (let ⟨v, h1, h2, h3⟩ := h.el j l hj; ⟨v, h1, own_base h2 hb, h3⟩), h.far⟩
theorem keeps {Q : Nat → Prop} (h : RowsG lt et w B lv rows L X) (hk : Keeps Q w w') (h1 : ∀ b, Q b → lv.ownBlock ≠ some b) (h2 : ∀ b, Q b → ∀ v ∈ rows, v.ownBlock ≠ some b) : RowsG lt et w' B lv rows L X :=
  ⟨own_keeps h.lst hk (fun g hg hQ => h1 g hQ hg), fun j l hj => by
    obtain ⟨v, e1, e2, e3⟩ := h.el j l hj
    exact ⟨v, e1, own_keeps e2 hk (fun g hg hQ => h2 g hQ v (List.mem_of_getElem? e1) hg), e3⟩, h.far⟩
theorem pure (h : RowsG lt et w B lv rows L X) (hb : Below w.heap.size w w') : RowsG lt et w' B lv rows L X :=
  h.keeps (Keeps.of_pure hb (fun _ => False)) (fun _ hf => hf.elim) (fun _ hf => hf.elim)
/-- A block of another kind is none of the list's. -/
theorem not_lst (h : RowsG lt et w B lv rows L X) {b e : Nat} {cs : Array Value} (hb : w.heap[b]? = some (.cells cs e (0, 0))) (he : e ≠ lt) : lv.ownBlock ≠ some b := own_ne_blk h.lst hb he.symm
theorem not_el (h : RowsG lt et w B lv rows L X) {b e : Nat} {cs : Array Value} (hb : w.heap[b]? = some (.cells cs e (0, 0))) (he : e ≠ et) : ∀ v ∈ rows, v.ownBlock ≠ some b := fun v hv => by
  obtain ⟨l, _, h2, _⟩ := h.mem hv
  exact own_ne_blk h2 hb he.symm
theorem not_X (h : RowsG lt et w B lv rows L X) {b : Nat} (hb : X b) : ∀ v ∈ rows, v.ownBlock ≠ some b := fun v hv hg => by
  obtain ⟨l, _, _, h3⟩ := h.mem hv
  exact h3 b hg hb
theorem not_new (h : RowsG lt et w B lv rows L X) {b : Nat} (hb : w.heap.size ≤ b) : lv.ownBlock ≠ some b ∧ ∀ v ∈ rows, v.ownBlock ≠ some b :=
  ⟨fun hg => by have := (h.lst.lt b hg).2; omega, fun v hv hg => by
    obtain ⟨l, _, h2, _⟩ := h.mem hv
    have := (h2.lt b hg).2
    omega⟩
/-- One element more: the list grown beside it. -/
theorem put (hT : et ≠ lt) (h : RowsG lt et w B lv rows L X) {l : List Value} {v : Value} (hv : w.ownsRow B et 1 v l.length l) (hX : ∀ g, v.ownBlock = some g → ¬ X g) (hnew : ∀ g, v.ownBlock = some g → ∀ u ∈ rows, u.ownBlock ≠ some g)
    (hl : w'.ownsRow B lt 1 lv' (L.length + 1) (rows ++ [v])) (hk : Keeps (fun b => lv.ownBlock = some b) w w') :
    RowsG lt et w' B lv' (rows ++ [v]) (L ++ [l]) X := by
  have hrl := h.len
  have hne : ∀ {n : Nat} {u : Value} {xs : List Value}, w.ownsRow B et 1 u n xs → ∀ g, u.ownBlock = some g → ¬ (lv.ownBlock = some g) := fun ho g hg e => own_ne_own ho h.lst hT hg e
  refine ⟨by rw [List.length_append]; exact hl, fun j l' hj => ?_, fun i j u u' g hij hu hu' hg hg' => ?_⟩
  · rcases Nat.lt_or_ge j L.length with hlt | hge
    · rw [List.getElem?_append_left hlt] at hj
      obtain ⟨u, h1, h2, h3⟩ := h.el j l' hj
      exact ⟨u, by rw [List.getElem?_append_left (by omega)]; exact h1, own_keeps h2 hk (hne h2), h3⟩
    · rw [List.getElem?_append_right hge] at hj
      rcases Nat.eq_zero_or_pos (j - L.length) with h0 | h0
      · rw [h0] at hj
        simp at hj
        subst hj
        exact ⟨v, by rw [List.getElem?_append_right (by omega), hrl, h0]; rfl, own_keeps hv hk (hne hv), hX⟩
      · rw [List.getElem?_eq_none (by simp; omega)] at hj; cases hj
  · have hin : ∀ (i : Nat) (u : Value), (rows ++ [v])[i]? = some u → (rows[i]? = some u ∧ u ∈ rows) ∨ (i = rows.length ∧ u = v) := fun i u hu => by
      rcases Nat.lt_or_ge i rows.length with hlt | hge
      · rw [List.getElem?_append_left hlt] at hu
        exact .inl ⟨hu, List.mem_of_getElem? hu⟩
      · rw [List.getElem?_append_right hge] at hu
        rcases Nat.eq_zero_or_pos (i - rows.length) with h0 | h0
        · rw [h0] at hu; simp at hu; exact .inr ⟨by omega, hu.symm⟩
        · rw [List.getElem?_eq_none (by simp; omega)] at hu; cases hu
    rcases hin i u hu with ⟨a1, a2⟩ | ⟨a1, a2⟩ <;> rcases hin j u' hu' with ⟨b1, b2⟩ | ⟨b1, b2⟩
    · exact h.far i j u u' g hij a1 b1 hg hg'
    · subst b2; exact hnew g hg' u a2 hg
    · subst a2; exact hnew g hg u' b2 hg'
    · omega
end RowsG

/-- A list of lists of numbers. -/
def iVs (L : List (List Int)) : List (List Value) := L.map fun l => l.map (Value.int .i64)
def RowsAt (w : World) (B : Nat) (lv : Value) (rows : List Value) (L : List (List Int)) (X : Nat → Prop) : Prop := RowsG 22 3 w B lv rows (iVs L) X
namespace RowsAt
variable {w w' : World} {B : Nat} {lv lv' : Value} {rows : List Value} {L : List (List Int)} {X X' : Nat → Prop}
theorem lst (h : RowsAt w B lv rows L X) : w.ownsRow B 22 1 lv L.length rows := by
  have := RowsG.lst h
  unfold iVs at this
  rwa [List.length_map] at this
theorem el (h : RowsAt w B lv rows L X) (j : Nat) (l : List Int) (hj : L[j]? = some l) : ∃ v, rows[j]? = some v ∧ w.ownsRow B 3 1 v l.length (l.map (Value.int .i64)) ∧ ∀ g, v.ownBlock = some g → ¬ X g := by
  obtain ⟨v, h1, h2, h3⟩ := RowsG.el h j (l.map (Value.int .i64)) (by unfold iVs; rw [List.getElem?_map, hj]; rfl)
  rw [List.length_map] at h2
  exact ⟨v, h1, h2, h3⟩
theorem mk' (h1 : w.ownsRow B 22 1 lv L.length rows) (h2 : ∀ (j : Nat) l, L[j]? = some l → ∃ v, rows[j]? = some v ∧ w.ownsRow B 3 1 v l.length (l.map (Value.int .i64)) ∧ ∀ g, v.ownBlock = some g → ¬ X g) (h3 : FarV rows) : RowsAt w B lv rows L X :=
  ⟨by unfold iVs; rw [List.length_map]; exact h1, fun j l hj => by
    unfold iVs at hj
    rw [List.getElem?_map] at hj
    cases hl : L[j]? with
    | none => rw [hl] at hj; cases hj
    | some l' =>
      rw [hl] at hj
      obtain rfl := Option.some.inj hj
      obtain ⟨v, a1, a2, a3⟩ := h2 j l' hl
      exact ⟨v, a1, by rw [List.length_map]; exact a2, a3⟩, h3⟩
theorem far (h : RowsAt w B lv rows L X) : FarV rows := RowsG.far h
theorem nil (w : World) (B : Nat) (X : Nat → Prop) : RowsAt w B (.slice none 0 0) [] [] X := RowsG.nil w B X
theorem len (h : RowsAt w B lv rows L X) : rows.length = L.length := by have := RowsG.len h; unfold iVs at this; rwa [List.length_map] at this
theorem mem (h : RowsAt w B lv rows L X) {v : Value} (hv : v ∈ rows) : ∃ l, l ∈ iVs L ∧ w.ownsRow B 3 1 v l.length l ∧ ∀ g, v.ownBlock = some g → ¬ X g := RowsG.mem h hv
theorem mono (h : RowsAt w B lv rows L X) (hx : ∀ b, X' b → X b ∨ w.heap.size ≤ b) : RowsAt w B lv rows L X' := RowsG.mono h hx
theorem base (h : RowsAt w B lv rows L X) {B' : Nat} (hb : B' ≤ B) : RowsAt w B' lv rows L X := RowsG.base h hb
theorem keeps {Q : Nat → Prop} (h : RowsAt w B lv rows L X) (hk : Keeps Q w w') (h1 : ∀ b, Q b → lv.ownBlock ≠ some b) (h2 : ∀ b, Q b → ∀ v ∈ rows, v.ownBlock ≠ some b) : RowsAt w' B lv rows L X := RowsG.keeps h hk h1 h2
theorem pure (h : RowsAt w B lv rows L X) (hb : Below w.heap.size w w') : RowsAt w' B lv rows L X := RowsG.pure h hb
theorem not_lst (h : RowsAt w B lv rows L X) {b e : Nat} {cs : Array Value} (hb : w.heap[b]? = some (.cells cs e (0, 0))) (he : e ≠ 22) : lv.ownBlock ≠ some b := RowsG.not_lst h hb he
theorem not_el (h : RowsAt w B lv rows L X) {b e : Nat} {cs : Array Value} (hb : w.heap[b]? = some (.cells cs e (0, 0))) (he : e ≠ 3) : ∀ v ∈ rows, v.ownBlock ≠ some b := RowsG.not_el h hb he
theorem not_X (h : RowsAt w B lv rows L X) {b : Nat} (hb : X b) : ∀ v ∈ rows, v.ownBlock ≠ some b := RowsG.not_X h hb
theorem not_new (h : RowsAt w B lv rows L X) {b : Nat} (hb : w.heap.size ≤ b) : lv.ownBlock ≠ some b ∧ ∀ v ∈ rows, v.ownBlock ≠ some b := RowsG.not_new h hb
theorem put (h : RowsAt w B lv rows L X) {l : List Int} {v : Value} (hv : w.ownsRow B 3 1 v l.length (l.map (Value.int .i64))) (hX : ∀ g, v.ownBlock = some g → ¬ X g) (hnew : ∀ g, v.ownBlock = some g → ∀ u ∈ rows, u.ownBlock ≠ some g)
    (hl : w'.ownsRow B 22 1 lv' (L.length + 1) (rows ++ [v])) (hk : Keeps (fun b => lv.ownBlock = some b) w w') :
    RowsAt w' B lv' (rows ++ [v]) (L ++ [l]) X := by
  have := RowsG.put (by decide) h (l := l.map (Value.int .i64)) (by rw [List.length_map]; exact hv) hX hnew (lv' := lv') (w' := w') (by unfold iVs; rw [List.length_map]; exact hl) hk
  unfold RowsAt iVs at *
  rw [List.map_append]
  exact this
end RowsAt
end Go.Proofs.YthilnpfpllplaaaGreatDoor

namespace Go.Proofs.YthilnpfpllplaaaGreatDoor
open Go.RowKit

theorem ints_c (w : World) (A1 A2 : Option Addr) (n1 n2 c1 c2 : Nat) (xs ys : List Int) (h1 : Sl w A1 n1 (xs.map (Value.int .i64))) (h2 : Sl w A2 n2 (ys.map (Value.int .i64)))
    (m1 : n1 ≤ 9223372036854775807) (m2 : n2 ≤ 9223372036854775807) :
    Calls Tryz.prog 26 #[.slice A1 n1 c1, .slice A2 n2 c2] w fun e w' => e = .returned (.bool (decide (xs = ys))) ∧ ∃ k, w' = w.drewN k := by
  have l1 : xs.length = n1 := by simpa using h1.1
  have l2 : ys.length = n2 := by simpa using h2.1
  by_cases hn : n1 = n2
  · subst hn
    have hne : ((n1 : Int) != (n1 : Int)) = false := by simp
    have H1 := Lib.hid l1
    have H2 := Lib.hid l2
    clear l1 l2
    go_enter Tryz.func26, Tryz.ntmps26
    go_wp2
    go_loopw [5] (fun i wr => ∃ k q : Nat, k ≤ n1 ∧ i = .int .i64 k ∧ wr = w.drewN q ∧ xs.take k = ys.take k) (fun i _ => n1 - (intOf i).toNat)
    case atStart => exact ⟨0, 0, Nat.zero_le _, rfl, rfl, rfl⟩
    case round =>
      obtain ⟨k, q, hk, rfl, rfl, ht⟩ := hrel
      have HT := Lib.hid ht
      clear ht
      by_cases hlt : k < n1
      · obtain ⟨a1, x1, rfl, hx1, hc1⟩ := h1.int_ hlt
        obtain ⟨a2, x2, rfl, hx2, hc2⟩ := h2.int_ hlt
        have HX1 := Lib.hid hx1
        have HX2 := Lib.hid hx2
        clear hx1 hx2
        by_cases e : x1 = x2
        · have t1 : (x1 != x2) = false := by simp [e]
          have E := Lib.hid e
          clear e
          go_wp2
          go_quiet (fail)
          go_wp2
          go_roundw
          case rel => exact ⟨k + 1, _, by omega, by go_num, rfl, by rw [List.take_add_one, List.take_add_one, HT.out, HX1.out, HX2.out, E.out]⟩
          case measure => simp [intOf]; omega
        · have t1 : (x1 != x2) = true := by simp [e]
          have hne2 : xs ≠ ys := by
            intro he; subst he
            have := HX1.out.symm.trans HX2.out
            simp at this; exact e this
          have E := Lib.hid hne2
          clear e hne2
          go_wp2
          go_quiet (fail)
          go_wp2
          go_ret
          exact ⟨by simp [E.out], _, World.drewN_drewN _ _ _⟩
      · have he : xs = ys := by
          have := HT.out
          rwa [List.take_of_length_le (by have := H1.out; omega), List.take_of_length_le (by have := H2.out; omega)] at this
        have E := Lib.hid he
        clear he
        go_wp2
        go_ret
        exact ⟨by simp [E.out], _, rfl⟩
  · have hne : ((n1 : Int) != (n2 : Int)) = true := by simp; omega
    have hne2 : xs ≠ ys := by rintro rfl; omega
    clear l1 l2 hn
    have E := Lib.hid hne2
    clear hne2
    go_enter Tryz.func26, Tryz.ntmps26
    go_wp2
    go_ret
    exact ⟨by simp [E.out], 0, rfl⟩

theorem ints_b (w : World) (A1 A2 : Option Addr) (n1 n2 c1 c2 : Nat) (xs ys : List Int) (h1 : Sl w A1 n1 (xs.map (Value.int .i64))) (h2 : Sl w A2 n2 (ys.map (Value.int .i64)))
    (m1 : n1 ≤ 9223372036854775807) (m2 : n2 ≤ 9223372036854775807) :
    Calls Tryz.prog 26 #[.slice A1 n1 c1, .slice A2 n2 c2] w fun e w' => e = .returned (.bool (decide (xs = ys))) ∧ Below w.heap.size w w' :=
  (ints_c w A1 A2 n1 n2 c1 c2 xs ys h1 h2 m1 m2).mono fun _ _ ⟨he, k, hk⟩ => ⟨he, by rw [hk]; exact pure_drewN w k⟩

end Go.Proofs.YthilnpfpllplaaaGreatDoor

namespace Go.Proofs.YthilnpfpllplaaaGreatDoor
open Go.RowKit

end Go.Proofs.YthilnpfpllplaaaGreatDoor

namespace Go.Proofs.YthilnpfpllplaaaGreatDoor
open Go.RowKit

theorem make_row_ints (w : World) (n : Nat) (h : n ≤ maxLen) : (w.alloc (.cells (madeCells #[.int .i64 0] n) 3)).ownsRow w.heap.size 3 1 (.slice (some ⟨w.heap.size, 0, none⟩) n n) n (List.replicate n (.int .i64 0)) := by
  have := World.ownsRow_lit (base := w.heap.size) (e := 3) (size := 1) w (madeCells #[.int .i64 0] n) n (Nat.le_refl _) h (by rw [size_madeCells]; simp)
  rwa [toList_madeCells_one] at this

end Go.Proofs.YthilnpfpllplaaaGreatDoor

namespace Go.Proofs.YthilnpfpllplaaaGreatDoor
open Go.RowKit RuleP

end Go.Proofs.YthilnpfpllplaaaGreatDoor

namespace Go.Proofs.YthilnpfpllplaaaGreatDoor
open Go.RowKit

/-- The slice reads as a list of lists. -/
def ListAt (w : World) (A : Option Addr) (n : Nat) (L : List (List Int)) : Prop :=
  ∃ vs : List Value, Sl w A n vs ∧ n = L.length ∧ ∀ (j : Nat) l, L[j]? = some l → ∃ P c, vs[j]? = some (.slice P l.length c) ∧ l.length ≤ 9223372036854775807 ∧ Sl w P l.length (l.map (Value.int .i64))
theorem ListAt.keep {w w' : World} {A : Option Addr} {n : Nat} {L : List (List Int)} (h : ListAt w A n L) (hb : Below w.heap.size w w') : ListAt w' A n L := by
  obtain ⟨vs, h1, h2, h3⟩ := h
  exact ⟨vs, h1.below hb, h2, fun j l hj => by obtain ⟨P, c, a, b, d⟩ := h3 j l hj; exact ⟨P, c, a, b, d.below hb⟩⟩
theorem ListAt.at_ {w : World} {A : Option Addr} {n j : Nat} {L : List (List Int)} (h : ListAt w A n L) (hj : j < n) : ∃ ad l P c, A = some ad ∧ L[j]? = some l ∧ w.cell? (ad.add j) = some (.slice P l.length c) ∧ l.length ≤ 9223372036854775807 ∧ Sl w P l.length (l.map (Value.int .i64)) := by
  obtain ⟨vs, h1, h2, h3⟩ := h
  obtain ⟨ad, v, e, hv, hc⟩ := h1.at_ hj
  obtain ⟨P, c, a, b, d⟩ := h3 j _ (List.getElem?_eq_getElem (by omega))
  rw [hv] at a
  cases a
  exact ⟨ad, _, P, c, e, List.getElem?_eq_getElem (by omega), hc, b, d⟩

set_option maxRecDepth 100000 in
set_option maxHeartbeats 1000000 in
theorem lists_same (w : World) (A B : Option Addr) (n c d : Nat) (L : List (List Int)) (hA : ListAt w A n L) (hB : ListAt w B n L) (hn : n ≤ 9223372036854775807) :
    Calls Tryz.prog 50 #[.slice A n c, .slice B n d] w fun e w' => e = .returned (.bool true) ∧ Below w.heap.size w w' := by
  have HA := Lib.hid hA
  have HB := Lib.hid hB
  have hnn : ((n : Int) != (n : Int)) = false := by simp
  clear hA hB
  go_enter Tryz.func50, Tryz.ntmps50
  go_wp2_with fail
  go_loopw [5] (fun iv wr => ∃ j : Nat, j ≤ n ∧ iv = .int .i64 (j : Int) ∧ Hid (Below w.heap.size w wr)) (fun iv _ => n - (intOf iv).toNat)
  case atStart => exact ⟨0, Nat.zero_le _, rfl, Lib.hid (Below.refl _ _)⟩
  case round =>
    obtain ⟨j, hj, rfl, hb⟩ := hrel
    by_cases hlt : j < n
    · obtain ⟨ad, l, P, pc, rfl, hl, hc, hll, hs⟩ := (HA.out.keep hb.out).at_ hlt
      obtain ⟨ad2, l2, P2, pc2, rfl, hl2, hc2, _, hs2⟩ := (HB.out.keep hb.out).at_ hlt
      rw [hl] at hl2
      obtain rfl : l = l2 := Option.some.inj hl2
      have hi := ints_b wr.drew P P2 l.length l.length pc pc2 l l hs hs2 hll hll
      rw [decide_eq_true rfl] at hi
      have HI := Lib.hid hi
      obtain ⟨nl, hnl⟩ : ∃ nl, l.length = nl := ⟨_, rfl⟩
      rw [hnl] at HI hc hc2
      clear hi hl hl2 hs hs2 hll hnl
      go_wp2_with fail
      go_region_held3 (fun w' => w'.cell? (ad.add j) = some (.slice P nl pc) ∧ w'.cell? (ad2.add j) = some (.slice P2 nl pc2))
        (first | (refine ⟨?_, ?_⟩ <;> assumption) | go_keep)
        (first
          | (go_at_call 26
             refine (HI.out).mono ?_
             rintro e w2 ⟨rfl, hb2⟩
             have x0 := cell_later hb2 hc
             have x1 := cell_later hb2 hc2))
      have HB2 := Lib.hid (hb.out.trans ((Below.refl wr.heap.size wr).drew.trans hb2 |>.mono hb.out.size))
      clear hb2 x0 x1 hc hc2 hb
      go_wp2_with fail
      exact ⟨⟨j + 1, by omega, by go_num, HB2⟩, by simp [intOf]; omega⟩
    · obtain rfl : j = n := by omega
      go_wp2_with fail
      go_ret
      exact ⟨rfl, hb.out⟩
end Go.Proofs.YthilnpfpllplaaaGreatDoor

namespace Go.Proofs.YthilnpfpllplaaaGreatDoor
open Go.RowKit Go.Maps BagP

theorem keyLaw : Keyed Tryz.prog 9 := string_keyed Tryz.underlying9
theorem zeroInt (w : World) : (zeroValue 3).run Tryz.prog w = .ok (.int .i64 0) w := by kernel_rfl

/-- A bag for numbers below n that keeps the sets S lies in blocks of O. -/
structure BagAt (w : World) (bb mb : Nat) (sv : Value) (rows : List Value) (D : DataW Unit) (n : Nat) (S : List (List Nat)) (O : Nat → Prop) : Prop where
  blk : w.heap[bb]? = some (.cells #[.int .i64 (n : Int), sv, .map (some mb)] 192 (0, 0))
  map : w.ownsMap Tryz.prog 9 (plainElem (H := Unit) Tryz.prog 3) mb S.length D
  rel : RelMap D S
  own : w.ownsRow 0 193 1 sv S.length rows
  row : ∀ (i : Nat) (l : List Nat), S[i]? = some l → ∃ v, rows[i]? = some v ∧ w.ownsRow 0 70 1 v (wlen n) (l.map uv) ∧ ∀ g, v.ownBlock = some g → O g
  fb : O bb
  fm : O mb
  fs : ∀ g, sv.ownBlock = some g → O g
  okw : ∀ l ∈ S, Ok64 l ∧ l.length = wlen n
  nd : S.Nodup
  big : S.length ≤ 4096
  nn : n ≤ 8192

def BagIs (w : World) (p : Value) (n : Nat) (S : List (List Nat)) (O : Nat → Prop) : Prop :=
  ∃ bb mb sv rows D, p = .pointer (some ⟨bb, 0, none⟩) ∧ BagAt w bb mb sv rows D n S O

theorem BagAt.ltb {w : World} {bb mb : Nat} {sv : Value} {rows : List Value} {D : DataW Unit} {n : Nat} {S : List (List Nat)} {O : Nat → Prop} (h : BagAt w bb mb sv rows D n S O) : bb < w.heap.size :=
  (Array.getElem?_eq_some_iff.1 h.blk).1

theorem BagAt.keeps {w w' : World} {bb mb : Nat} {sv : Value} {rows : List Value} {D : DataW Unit} {n : Nat} {S : List (List Nat)} {O O2 : Nat → Prop} (h : BagAt w bb mb sv rows D n S O) (hk : Keeps O2 w w') (ho : ∀ k, O k → ¬ O2 k) :
    BagAt w' bb mb sv rows D n S O where
  blk := (hk.block bb h.ltb (ho _ h.fb)).trans h.blk
  map := by
    obtain ⟨es, clock, hb, rest⟩ := h.map
    exact ⟨es, clock, (hk.block mb (Array.getElem?_eq_some_iff.1 hb).1 (ho _ h.fm)).trans hb, rest⟩
  rel := h.rel
  own := own_keeps h.own hk (fun g hg => ho _ (h.fs g hg))
  row := fun i l hl => by
    obtain ⟨v, h1, h2, h3⟩ := h.row i l hl
    exact ⟨v, h1, own_keeps h2 hk (fun g hg => ho _ (h3 g hg)), h3⟩
  fb := h.fb
  fm := h.fm
  fs := h.fs
  okw := h.okw
  nd := h.nd
  big := h.big
  nn := h.nn
theorem BagIs.keeps {w w' : World} {p : Value} {n : Nat} {S : List (List Nat)} {O O2 : Nat → Prop} (h : BagIs w p n S O) (hk : Keeps O2 w w') (ho : ∀ k, O k → ¬ O2 k) : BagIs w' p n S O := by
  obtain ⟨bb, mb, sv, rows, D, hp, hb⟩ := h
  exact ⟨bb, mb, sv, rows, D, hp, hb.keeps hk ho⟩
theorem BagIs.below {w w' : World} {p : Value} {n : Nat} {S : List (List Nat)} {O : Nat → Prop} (h : BagIs w p n S O) (hk : Below w.heap.size w w') : BagIs w' p n S O :=
  h.keeps (Keeps.of_pure hk (fun _ => False)) (fun _ _ h => h)

/-- bag.New. -/
theorem newBag_c (w : World) (n : Nat) (hn : n ≤ 8192) :
    Calls Tryz.prog 115 #[.int .i64 (n : Int)] w fun e w' => e = .returned (.tuple #[.pointer (some ⟨w.heap.size + 1, 0, none⟩), .nilIface]) ∧
      BagIs w' (.pointer (some ⟨w.heap.size + 1, 0, none⟩)) n [] (fun k => w.heap.size ≤ k) ∧ Below w.heap.size w w' := by
  have hmm := @run_makeMap Tryz.prog
  have t1 : ¬ ((n : Int) < 0) := by omega
  have t2 : ¬ (8192 < (n : Int)) := by omega
  go_enter Tryz.func115, Tryz.ntmps115
  go_wp2
  go_ret2
  refine ⟨rfl, ⟨w.heap.size + 1, w.heap.size, .slice none 0 0, [], .map [], rfl, ?_⟩, ((Below.refl _ _).alloc (Nat.le_refl _) _).alloc (by simp) _⟩
  exact {
    blk := by rw [show w.heap.size + 1 = (w.alloc (.map #[] 0)).heap.size from by simp]; exact heap_alloc_new _ _
    map := (World.ownsMap_made w Tryz.prog 9 _).alloc _
    rel := rel_nil
    own := World.ownsRow_nil _ _ _ _
    row := fun i l h => by simp at h
    fb := by simp
    fm := Nat.le_refl _
    fs := fun g h => by simp [Value.ownBlock] at h
    okw := fun l h => by simp at h
    nd := List.nodup_nil
    big := by simp
    nn := hn }

theorem wlen_le {n : Nat} (hn : n ≤ 8192) : wlen n ≤ 128 := by unfold wlen; omega

theorem or_shift {u y : Nat} (hu : u < 2 ^ 64) : bits .or .u64 (u : Int) (IntKind.u64.wrap (2 ^ (y % 64))) = ((u ||| 2 ^ (y % 64) : Nat) : Int) := by
  have h2 : (2 : Nat) ^ (y % 64) < 2 ^ 64 := Nat.pow_lt_pow_right (by decide) (Nat.mod_lt _ (by decide))
  have e : IntKind.u64.wrap (2 ^ (y % 64)) = ((2 ^ (y % 64) : Nat) : Int) := by
    have e0 : ((2 : Int) ^ (y % 64)) = ((2 ^ (y % 64) : Nat) : Int) := (Int.natCast_pow 2 (y % 64)).symm
    rw [IntKind.wrap_u64, e0]
    generalize (2 : Nat) ^ (y % 64) = z at h2
    omega
  rw [e, u64_or_nat _ _ hu h2]

/-- The set of a list of members. -/
theorem bits_c (w : World) (bb n : Nat) (hn : n ≤ 8192) (hc : w.cell? ⟨bb, 0, none⟩ = some (.int .i64 (n : Int))) (A : Option Addr) (m c : Nat) (xs : List Int) (hm : m ≤ 140737488355328)
    (h : Sl w A m (xs.map (Value.int .i64))) (hx : ∀ x ∈ xs, 0 ≤ x ∧ x < (n : Int)) :
    Calls Tryz.prog 131 #[.pointer (some ⟨bb, 0, none⟩), .slice A m c] w fun e w' => e = .returned (.tuple #[.slice (some ⟨w.heap.size, 0, none⟩) (wlen n) (wlen n), .nilIface]) ∧
      w'.ownsRow w.heap.size 70 1 (.slice (some ⟨w.heap.size, 0, none⟩) (wlen n) (wlen n)) (wlen n) ((bitsOf n xs).map uv) ∧ Below w.heap.size w w' := by
  have hl : xs.length = m := by simpa using h.1
  have HL := Lib.hid hl
  clear hl
  have hwl := wlen_le hn
  have hmk := run_make_row' (P := Tryz.prog) 193 70 (.int .u64 0) 8 tU64s.und tU64s.info rfl .i64 .i64 (wlen n) (by omega) (by omega)
  have hq : ((n : Int) + 63) / 64 = (wlen n : Int) := by unfold wlen; omega
  go_enter Tryz.func131, Tryz.ntmps131
  go_wp2
  clear hmk hq
  go_loopw [21] (fun i wr => ∃ k : Nat, k ≤ m ∧ i = .int .i64 k ∧ wr.ownsRow w.heap.size 70 1 (.slice (some ⟨w.heap.size, 0, none⟩) (wlen n) (wlen n)) (wlen n) ((bitsTo (zeros n) (xs.take k)).map uv) ∧ Below w.heap.size w wr) (fun i _ => m - (intOf i).toNat)
  case atStart =>
    refine ⟨0, Nat.zero_le _, rfl, ?_, (Below.refl _ _).alloc (Nat.le_refl _) _⟩
    have := World.ownsRow_lit (base := w.heap.size) (e := 70) (size := 1) w (madeCells #[.int .u64 0] (wlen n)) (wlen n) (Nat.le_refl _) (by simp only [maxLen]; omega) (by rw [size_madeCells]; simp)
    rw [toList_madeCells_one] at this
    simpa [bitsTo, zeros, uv] using this
  case round =>
    obtain ⟨k, hk, rfl, hown, hb⟩ := hrel
    by_cases hlt : k < m
    · obtain ⟨ad, x, rfl, hxk, hcx⟩ := (h.below hb).int_ hlt
      obtain ⟨hx0, hxn⟩ := hx x (List.mem_of_getElem? hxk)
      obtain ⟨y, rfl⟩ := Int.eq_ofNat_of_zero_le hx0
      have hcb := cell_later hb hc
      have hL : ((bitsTo (zeros n) (xs.take k)).map uv).length = wlen n := by rw [List.length_map, length_bitsTo]; simp [zeros]
      have hyw : y / 64 < wlen n := wlen_lt (by omega)
      have hcell := hown.cellAt (y / 64) (by omega)
      have hfr := hown.frozenAt (y / 64)
      rw [List.getElem?_map] at hcell
      obtain ⟨u, hu⟩ : ∃ u, (bitsTo (zeros n) (xs.take k))[y / 64]? = some u := ⟨_, List.getElem?_eq_getElem (by rw [List.length_map] at hL; omega)⟩
      rw [hu] at hcell
      simp only [Option.map_some, uv] at hcell
      have HU := Lib.hid hu
      have HX := Lib.hid hxk
      have HL2 := Lib.hid hL
      have HO := Lib.hid hown
      clear hu hxk hL hown hx0
      go_wp2
      go_region
      have hst := HO.out.stored (y / 64) (.int .u64 (bits .or .u64 (u : Int) (IntKind.u64.wrap (2 ^ (y % 64)))))
      have hval : ((bitsTo (zeros n) (xs.take k)).map uv).set (y / 64) (.int .u64 (bits .or .u64 (u : Int) (IntKind.u64.wrap (2 ^ (y % 64))))) = (bitsTo (zeros n) (xs.take (k + 1))).map uv := by
        rw [or_shift (ok_bitsTo _ (ok_zeros n) u (List.mem_of_getElem? HU.out)), bits_step HU.out HX.out, List.map_set]
        rfl
      rw [hval] at hst
      have R1 := hst.1
      have R2 := hb.grown hst.2 hb.size (fun j hj => by cases hj; exact Nat.le_refl _)
      clear hst hval hcell hfr hb HO
      go_wp2
      go_roundw
      case rel => exact ⟨k + 1, by omega, by go_num, R1.drew, R2.drew⟩
      case measure => simp [intOf]; omega
    · have hkm : k = m := by omega
      have E := Lib.hid hkm
      clear hkm
      go_wp2
      go_ret2
      rw [E.out, List.take_of_length_le (by rw [HL.out]; exact Nat.le_refl _)] at hown
      exact ⟨rfl, hown, hb⟩

end Go.Proofs.YthilnpfpllplaaaGreatDoor

namespace Go.Proofs.YthilnpfpllplaaaGreatDoor
open Go.RowKit

end Go.Proofs.YthilnpfpllplaaaGreatDoor

namespace Go.Proofs.YthilnpfpllplaaaGreatDoor
open Go.RowKit

def bv (b : UInt8) : Value := .int .u8 (b.toNat : Int)

theorem run_own_string {P : Program} (w : World) (src dst e : TypeId) (hs : P.underlying src = some (.slice e)) (he : P.underlying e = some (.int .u8)) (hd : P.underlying dst = some .string)
    {base : Nat} {A : Option Addr} {n c : Nat} {bs : List UInt8} (h : w.ownsRow base e 1 (.slice A n c) n (bs.map bv)) :
    (convert src dst (.slice A n c)).run P w = .ok (.string ⟨bs.toArray⟩) w := by
  have hl : bs.length = n := by simpa using h.1
  have hsl := Sl.of_own h
  cases A with
  | none =>
    have hb : bs = [] := by
      cases bs with
      | nil => rfl
      | cons b bs =>
        obtain ⟨ad, e', _⟩ := hsl.2 0 (bv b) (by simp)
        cases e'
    subst hb
    rw [run_convert_bytes_nil w src e hs he n c dst hd]
    rfl
  | some ad =>
    have hcells : (loadCells ad n).run P w = .ok ((bs.map (fun b => (b.toNat : Int))).map (Value.int .u8)).toArray w := by
      have := run_loadCells_list (P := P) w ad (bs.map bv) (fun j v hj => by
        obtain ⟨ad', e', hc⟩ := hsl.2 j v hj
        cases e'
        exact hc)
      rw [List.length_map, hl] at this
      rw [this, List.map_map]
      rfl
    rw [run_convert_bytes_string w src dst e _ n c hs he hd, run_bytesToString w _ n c _ hcells, foldl_push_bytes]
    congr 1
    congr 1
    simp only [ByteArray.empty, ByteArray.emptyWithCapacity, List.map_map]
    have : (bs.map ((fun (n : Int) => UInt8.ofNat n.toNat) ∘ fun b => (b.toNat : Int))) = bs := by
      conv => rhs; rw [← List.map_id bs]
      apply List.map_congr_left
      intro b _
      simp
    rw [this]
    simp
    rfl

end Go.Proofs.YthilnpfpllplaaaGreatDoor

namespace Go.Proofs.YthilnpfpllplaaaGreatDoor
open Go.RowKit BagP

theorem shr_step (u j : Nat) : Value.int .u64 ((u : Int) / 256 ^ j / 256) = Value.int .u64 ((u / 256 ^ (j + 1) : Nat) : Int) := by
  rw [Nat.pow_succ, ← Nat.div_div_eq_div_mul]
  simp
theorem byte_step {A : List UInt8} (u j : Nat) (hj : j < 8) : (A ++ (keyW u).take j).map bv ++ [Value.int .u8 ((u : Int) / 256 ^ j % 256)] = (A ++ (keyW u).take (j + 1)).map bv := by
  have : (keyW u)[j]? = some (keyByte u j) := by rw [keyW, List.getElem?_map, List.getElem?_range hj]; rfl
  rw [List.take_add_one, this]
  simp [bv, toNat_keyByte]
theorem key_step {l : List Nat} {k u : Nat} (h : l[k]? = some u) : keyB (l.take (k + 1)) = keyB (l.take k) ++ (keyW u).take 8 := by
  rw [List.take_add_one, h]
  have h8 : (keyW u).take 8 = keyW u := List.take_of_length_le (by rw [length_keyW]; exact Nat.le_refl _)
  rw [h8]
  simp [keyB]

set_option maxRecDepth 100000 in
set_option maxHeartbeats 400000 in
theorem key_c (w : World) (A : Option Addr) (m c : Nat) (l : List Nat) (hm : m ≤ 1048576) (h : Sl w A m (l.map uv)) (ho : Ok64 l) :
    Calls Tryz.prog 139 #[.slice A m c] w fun e w' => e = .returned (.string ⟨(keyB l).toArray⟩) ∧ Below w.heap.size w w' := by
  have hl : l.length = m := by simpa using h.1
  have HL := Lib.hid hl
  clear hl
  obtain ⟨i0, hi, hz0, hz1, hz2⟩ := info_parts tBytes.info
  go_enter Tryz.func139, Tryz.ntmps139
  go_wp2_with (at_make; refine wpList_make_own _ rfl _ _ _ rfl w.heap.size 5 i0 (.int .u8 0) 1 tBytes.und hi hz0 hz1 _ _ (8 * (m : Int)) (8 * m) rfl rfl (by simp) (by rw [hz2]; omega) (by simp only [maxLen]; omega) (Nat.le_refl _) ?_; intro w1 hown1 hg1)
  go_loopw [3, 12] (fun s i wr => ∃ k : Nat, k ≤ m ∧ i = .int .i64 k ∧ wr.ownsRow w.heap.size 5 1 s (8 * k) ((keyB (l.take k)).map bv) ∧ Below w.heap.size w wr) (fun _ i _ => m - (intOf i).toNat)
  case atStart => exact ⟨0, Nat.zero_le _, rfl, hown1, (Below.refl _ _).grown hg1 (Nat.le_refl _) (by simp)⟩
  case round =>
    obtain ⟨k, hk, rfl, hown, hb⟩ := hrel
    clear hown1 hg1 
    by_cases hlt : k < m
    · obtain ⟨ad, u, rfl, hxk, hcx⟩ := (h.below hb).word_ hlt
      have hu := ho u (List.mem_of_getElem? hxk)
      have HX := Lib.hid hxk
      have HU := Lib.hid hu
      clear hxk hu
      obtain ⟨wo, rfl⟩ : ∃ wo : World, wo = wr := ⟨_, rfl⟩
      go_wp2
      go_loopw [3, 5, 16] (fun s x i wr => ∃ j : Nat, j ≤ 8 ∧ i = .int .i64 j ∧ x = .int .u64 ((u / 256 ^ j : Nat) : Int) ∧ wr.ownsRow w.heap.size 5 1 s (8 * k + j) ((keyB (l.take k) ++ (keyW u).take j).map bv) ∧ Below w.heap.size w wr) (fun _ _ i _ => 8 - (intOf i).toNat)
      case atStart => exact ⟨0, by omega, rfl, by simp, by simpa using hown, hb⟩
      case round =>
        obtain ⟨j, hj, rfl, rfl, hown2, hb2⟩ := hrel
        clear hown hb hcx
        by_cases hj8 : j < 8
        · go_wp2_with (at_builtin; refine wpList_push rfl _ _ _ rfl tBytes hown2 rfl _ 0 rfl rfl rfl (by simp only [maxLen]; omega) (by omega) hb2.size ?_; intro g cap w2 hown3 hg3 hat3 hlt3)
          have hb3 := hb2.grown hg3 hb2.size (fun q hq => (hown2.lt q hq).1)
          refine ⟨⟨j + 1, by omega, by go_num, shr_step u j, ?_, hb3⟩, by simp [intOf]; omega⟩
          rw [byte_step u j hj8] at hown3
          exact hown3
        · have E := Lib.hid (show j = 8 by omega)
          go_wp2
          refine ⟨⟨k + 1, by omega, by go_num, ?_, hb2⟩, by simp [intOf]; omega⟩
          have e2 := key_step (l := l) HX.out
          rw [E.out] at hown2
          rw [e2]
          exact hown2
    · have E := Lib.hid (show k = m by omega)
      rw [show keyB (l.take k) = keyB l from by rw [E.out, List.take_of_length_le (by rw [HL.out]; exact Nat.le_refl _)]] at hown
      obtain ⟨A', c', rfl, _, _⟩ := own_slice hown
      have hconv := run_own_string (P := Tryz.prog) wr 176 9 5 tBytes.und Tryz.underlying5 Tryz.underlying9 hown
      go_wp2
      go_ret
      exact ⟨rfl, hb⟩

end Go.Proofs.YthilnpfpllplaaaGreatDoor
