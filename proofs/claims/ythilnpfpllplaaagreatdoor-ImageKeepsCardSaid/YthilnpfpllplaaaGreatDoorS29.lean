/- Lists that share no memory: edenraw.Apart returns true. Condition: each list is a slice in a row of its own, no two in one row. Lists that share no memory: the call of edenraw.Apart. Condition: each list is a slice in a row of its own, no two in one row. Lists in rows of their own, one behind the other: what edenraw.ApartNats asks. No condition. -/
import Derived.Test.YthilnpfpllplaaaGreatDoorS4
import Derived.Test.YthilnpfpllplaaaGreatDoorS7
namespace Go.Proofs.YthilnpfpllplaaaGreatDoor
open Go.RowKit
namespace ApartN

def mk (i : Nat) : Int := 2 * (i : Int) + 1
def mk2 (i : Nat) : Int := 2 * (i : Int) + 2
/-- What list i holds, when k lists have been marked, and j places of the next. -/
def cont (k j i : Nat) (xs : List Int) : List Int := if i < k then List.replicate xs.length (mk i) else if i = k then List.replicate j (mk i) ++ xs.drop j else xs

theorem len_cont {k j i : Nat} {xs : List Int} (h : j ≤ xs.length) : i = k → (cont k j i xs).length = xs.length := by
  intro e; subst e; simp [cont]; omega
theorem cont_zero (k i : Nat) (xs : List Int) : cont k 0 i xs = if i < k then List.replicate xs.length (mk i) else xs := by
  unfold cont; split
  · rfl
  · split <;> simp
theorem cont_next (k i : Nat) {n : Nat} (xs : List Int) (h : i = k → n = xs.length) : cont k n i xs = cont (k + 1) 0 i xs := by
  rw [cont_zero]
  unfold cont
  rcases Nat.lt_trichotomy i k with h1 | h1 | h1
  · rw [if_pos h1, if_pos (by omega)]
  · rw [if_neg (by omega), if_pos h1, if_pos (by omega), h h1]; simp
  · rw [if_neg (by omega), if_neg (by omega), if_neg (by omega)]
theorem cont_set {k j : Nat} {xs : List Int} (h : j < xs.length) : (cont k j k xs).set j (mk k) = cont k (j + 1) k xs := by
  simp only [cont, Nat.lt_irrefl, if_false, if_true]
  rw [List.set_append_right _ _ (by simp), List.length_replicate, Nat.sub_self, List.drop_eq_getElem_cons h, List.set_cons_zero, List.replicate_succ', List.append_assoc]
  rfl
theorem cont_other {k j i : Nat} {xs : List Int} (h : i ≠ k) : cont k j i xs = cont k (j + 1) i xs := by
  simp only [cont, h, if_false]

/-- Every list in a row of its own. -/
structure Rows (w : World) (R : List (Value × List Int)) (k j : Nat) : Prop where
  own : ∀ (i : Nat) (p : Value × List Int), R[i]? = some p → w.ownsRow 0 75 1 p.1 p.2.length ((cont k j i p.2).map (Value.int .u32))
def Far (R : List (Value × List Int)) : Prop := ∀ (i j : Nat) (p q : Value × List Int) (g : Nat), i ≠ j → R[i]? = some p → R[j]? = some q → p.1.ownBlock = some g → q.1.ownBlock ≠ some g
def Foot (R : List (Value × List Int)) (b : Nat) : Prop := ∃ p ∈ R, p.1.ownBlock = some b

theorem rows_next {w : World} {R : List (Value × List Int)} {k n : Nat} (h : Rows w R k n) (hn : ∀ p, R[k]? = some p → n = p.2.length) : Rows w R (k + 1) 0 :=
  ⟨fun i p hp => by rw [← cont_next k i (n := n) p.2 (fun e => hn p (by rw [← e]; exact hp))]; exact h.own i p hp⟩
theorem rows_set {w : World} {R : List (Value × List Int)} {k j g c : Nat} {xs : List Int} (h : Rows w R k j) (hf : Far R) (hp : R[k]? = some (.slice (some ⟨g, 0, none⟩) xs.length c, xs)) (hj : j < xs.length) :
    Rows (w.setCell ⟨g, j, none⟩ (.int .u32 (mk k))) R k (j + 1) ∧ Keeps (Foot R) w (w.setCell ⟨g, j, none⟩ (.int .u32 (mk k))) := by
  refine ⟨⟨fun i p hi => ?_⟩, (Keeps.of_setCell w _ _).mono (fun b _ e => ⟨_, List.mem_of_getElem? hp, by simp [Value.ownBlock, e]⟩)⟩
  by_cases e : i = k
  · subst e
    rw [hp] at hi
    cases hi
    have := ((h.own i _ hp).stored j (.int .u32 (mk i))).1
    rw [← List.map_set, cont_set hj] at this
    exact this
  · rw [← cont_other e]
    exact own_keeps (h.own i p hi) (Keeps.of_setCell w _ _) (fun b hb e' => by subst e'; exact hf i k p _ _ e hi hp hb (by simp [Value.ownBlock]))

/-- Behind the second round over the lists: what the lists and the grown ones hold. -/
structure Grown2 (w : World) (H : Nat) (R : List (Value × List Int)) (G : List Value) : Prop where
  len : G.length ≤ R.length
  own : ∀ (i : Nat) (p : Value × List Int), G.length ≤ i → R[i]? = some p → w.ownsRow 0 75 1 p.1 p.2.length ((List.replicate p.2.length (mk i)).map (Value.int .u32))
  old : ∀ (i : Nat) (A : Option Addr) (c : Nat) (xs : List Int), R[i]? = some (.slice A xs.length c, xs) → Sl w A xs.length ((List.replicate xs.length (mk i)).map (Value.int .u32))
  new : ∀ (i : Nat) (v : Value) (p : Value × List Int), G[i]? = some v → R[i]? = some p → ∃ A c, v = .slice A (p.2.length + 40) c ∧ Sl w A (p.2.length + 40) ((List.replicate p.2.length (mk i) ++ List.replicate 40 (mk2 i)).map (Value.int .u32)) ∧
    ∀ ad, A = some ad → (p.1.ownBlock = some ad.block ∨ H ≤ ad.block)

theorem grown_keep {w w' : World} {H : Nat} {R : List (Value × List Int)} {G : List Value} {q : Value × List Int} (h : Grown2 w H R G) (hf : Far R) (hq : R[G.length]? = some q) (hk : Keeps (fun b => q.1.ownBlock = some b) w w') (hH : ∀ b, q.1.ownBlock = some b → b < H) :
    (∀ (i : Nat) (p : Value × List Int), G.length < i → R[i]? = some p → w'.ownsRow 0 75 1 p.1 p.2.length ((List.replicate p.2.length (mk i)).map (Value.int .u32))) ∧
    (∀ (i : Nat) (A : Option Addr) (c : Nat) (xs : List Int), i ≠ G.length → R[i]? = some (.slice A xs.length c, xs) → Sl w' A xs.length ((List.replicate xs.length (mk i)).map (Value.int .u32))) ∧
    (∀ (i : Nat) (v : Value) (p : Value × List Int), G[i]? = some v → R[i]? = some p → ∃ A c, v = .slice A (p.2.length + 40) c ∧ Sl w' A (p.2.length + 40) ((List.replicate p.2.length (mk i) ++ List.replicate 40 (mk2 i)).map (Value.int .u32)) ∧
      ∀ ad, A = some ad → (p.1.ownBlock = some ad.block ∨ H ≤ ad.block)) := by
  refine ⟨fun i p hi hp => own_keeps (h.own i p (by omega) hp) hk (fun g hg e => hf i _ p q g (by omega) hp hq hg e), fun i A c xs hi hp => ?_, fun i v p hv hp => ?_⟩
  · refine (h.old i A c xs hp).keeps hk (fun ad e e' => ?_)
    by_cases h0 : ∃ g, (Value.slice A xs.length c).ownBlock = some g ∧ g = ad.block
    · obtain ⟨g, h1, h2⟩ := h0
      subst h2
      exact hf i _ _ q _ hi hp hq h1 e'
    · exact h0 ⟨ad.block, by rw [e]; rfl, rfl⟩
  · obtain ⟨A, c, h1, h2, h3⟩ := h.new i v p hv hp
    have hi : i ≠ G.length := by have := (List.getElem?_eq_some_iff.1 hv).1; omega
    refine ⟨A, c, h1, h2.keeps hk (fun ad e e' => ?_), h3⟩
    rcases h3 ad e with h4 | h4
    · exact hf i _ p q _ hi hp hq h4 e'
    · have := hH _ e'; omega

theorem grown_start {w : World} {H : Nat} {R : List (Value × List Int)} (h : ∀ (i : Nat) (p : Value × List Int), R[i]? = some p → w.ownsRow 0 75 1 p.1 p.2.length ((List.replicate p.2.length (mk i)).map (Value.int .u32))) : Grown2 w H R [] :=
  ⟨Nat.zero_le _, fun i p _ hp => h i p hp, fun i _ _ _ hp => Sl.of_own (h i _ hp), fun i v p hv _ => by simp at hv⟩

theorem sl_prefix {w : World} {A : Option Addr} {n m : Nat} {xs ys : List Value} (h : Sl w A m (xs ++ ys)) (hn : xs.length = n) : Sl w A n xs :=
  ⟨hn, fun k v hv => h.2 k v (by rw [List.getElem?_append_left (List.getElem?_eq_some_iff.1 hv).1]; exact hv)⟩
theorem sl_after {w w' : World} {A : Option Addr} {n N g cap base e : Nat} {ys zs : List Value} (hs : Sl w A n ys) (hA : A = none ∨ ∃ b, A = some ⟨b, 0, none⟩)
    (hown : w'.ownsRow base e 1 (.slice (some ⟨g, 0, none⟩) N cap) N (ys ++ zs)) (hg : w.grownBy w' (some g)) : Sl w' A n ys := by
  rcases hA with rfl | ⟨b, rfl⟩
  · exact ⟨hs.1, fun k v hv => by obtain ⟨ad, e', _⟩ := hs.2 k v hv; cases e'⟩
  · by_cases hb : b = g
    · subst hb
      exact sl_prefix (Sl.of_own hown) hs.1
    · exact hs.keeps (Keeps.of_grown hg) (fun ad e' h => by cases e'; simp at h; exact hb h.symm)
theorem own_form {w : World} {base e n c : Nat} {A : Option Addr} {xs : List Value} (h : w.ownsRow base e 1 (.slice A n c) n xs) : A = none ∨ ∃ b, A = some ⟨b, 0, none⟩ := by
  rcases h.2 with ⟨hv, _⟩ | ⟨g, cap, cur, hv, _⟩
  · injection hv with hA; exact .inl hA
  · injection hv with hA; exact .inr ⟨g, hA⟩

theorem grown_next {w w' : World} {H G0 : Nat} {R : List (Value × List Int)} {G : List Value} {A GA : Option Addr} {c gc : Nat} {xs : List Int} (h : Grown2 w H R G) (hf : Far R) (hfoot : ∀ b, Foot R b → b < G0) (hG0 : H = G0 + 1)
    (hp : R[G.length]? = some (.slice A xs.length c, xs)) (hk : Keeps (fun b => (Value.slice A xs.length c).ownBlock = some b) w w') (hHw : H ≤ w.heap.size)
    (hown : w'.ownsRow 0 75 1 (.slice GA (xs.length + 40) gc) (xs.length + 40) ((List.replicate xs.length (mk G.length) ++ List.replicate 40 (mk2 G.length)).map (Value.int .u32)))
    (hblk : ∀ b, (Value.slice GA (xs.length + 40) gc).ownBlock = some b → (Value.slice A xs.length c).ownBlock = some b ∨ w.heap.size ≤ b)
    (hsl : Sl w' A xs.length ((List.replicate xs.length (mk G.length)).map (Value.int .u32))) (j : Nat) (u : Value) :
    Grown2 (w'.setCell ⟨G0, j, none⟩ u) H R (G ++ [.slice GA (xs.length + 40) gc]) := by
  have hst := Keeps.of_setCell w' ⟨G0, j, none⟩ u
  have hm : (Value.slice A xs.length c, xs) ∈ R := List.mem_of_getElem? hp
  obtain ⟨h1, h2, h3⟩ := grown_keep h hf hp hk (fun b hb => by have := hfoot b ⟨_, hm, hb⟩; omega)
  have hlt : G.length < R.length := (List.getElem?_eq_some_iff.1 hp).1
  have oldBlk : ∀ (i : Nat) (A' : Option Addr) (c' : Nat) (ys : List Int), R[i]? = some (.slice A' ys.length c', ys) → ∀ ad, A' = some ad → ad.block < G0 := fun i A' c' ys hi ad e =>
    hfoot _ ⟨_, List.mem_of_getElem? hi, by rw [e]; rfl⟩
  refine ⟨by simp; omega, fun i p hi hp' => ?_, fun i A' c' ys hi => ?_, fun i v p hv hp' => ?_⟩
  · have hi' : G.length < i := by simp at hi; omega
    exact own_keeps (h1 i p hi' hp') hst (fun g hg e => by have := hfoot g ⟨p, List.mem_of_getElem? hp', hg⟩; simp at e; omega)
  · by_cases e : i = G.length
    · subst e
      rw [hp] at hi
      obtain ⟨q1, q2⟩ := Prod.mk.inj (Option.some.inj hi)
      subst q2
      injection q1 with q3
      subst q3
      exact hsl.keeps hst (fun ad e' e => by have := oldBlk _ _ _ _ hp ad e'; simp at e; omega)
    · exact (h2 i A' c' ys e hi).keeps hst (fun ad e' e => by have := oldBlk _ _ _ _ hi ad e'; simp at e; omega)
  · rcases Nat.lt_or_ge i G.length with hlt' | hge
    · rw [List.getElem?_append_left hlt'] at hv
      obtain ⟨A', c', e1, e2, e3⟩ := h3 i v p hv hp'
      refine ⟨A', c', e1, e2.keeps hst (fun ad e' e => ?_), e3⟩
      simp at e
      rcases e3 ad e' with h4 | h4
      · have := hfoot _ ⟨p, List.mem_of_getElem? hp', h4⟩; omega
      · omega
    · rw [List.getElem?_append_right hge] at hv
      rcases Nat.eq_zero_or_pos (i - G.length) with h0 | h0
      · rw [h0] at hv
        simp at hv
        subst hv
        obtain rfl : i = G.length := by omega
        rw [hp] at hp'
        cases hp'
        have e3 : ∀ ad, GA = some ad → ((Value.slice A xs.length c).ownBlock = some ad.block ∨ H ≤ ad.block) := fun ad e => (hblk ad.block (by rw [e]; rfl)).imp id (fun h => by omega)
        refine ⟨GA, gc, rfl, (Sl.of_own hown).keeps hst (fun ad e' e => ?_), e3⟩
        simp at e
        rcases e3 ad e' with h4 | h4
        · have := hfoot _ ⟨_, hm, h4⟩; omega
        · omega
      · rw [List.getElem?_eq_none (by simp; omega)] at hv; cases hv

theorem rep_snoc (n q i : Nat) : (List.replicate n (mk i) ++ List.replicate q (mk2 i)).map (Value.int .u32) ++ [.int .u32 (mk2 i)] = (List.replicate n (mk i) ++ List.replicate (q + 1) (mk2 i)).map (Value.int .u32) := by
  rw [List.replicate_succ' (n := q)]
  simp
theorem rep_at1 {n j i : Nat} (h : j < n) : (List.replicate n (mk i) ++ List.replicate 40 (mk2 i))[j]? = some (mk i) := by
  rw [List.getElem?_append_left (by simpa using h), List.getElem?_replicate, if_pos h]
theorem rep_at2 {n j i : Nat} (h : n ≤ j) (h' : j < n + 40) : (List.replicate n (mk i) ++ List.replicate 40 (mk2 i))[j]? = some (mk2 i) := by
  rw [List.getElem?_append_right (by simpa using h), List.getElem?_replicate, if_pos (by simp; omega)]

theorem app_set {α : Type} {G : List α} {k : Nat} {z u : α} (h : G.length < k) : (G ++ List.replicate (k - G.length) z).set G.length u = (G ++ [u]) ++ List.replicate (k - (G ++ [u]).length) z := by
  rw [List.set_append_right _ _ (Nat.le_refl _), Nat.sub_self, show k - G.length = (k - (G.length + 1)) + 1 from by omega, List.replicate_succ, List.set_cons_zero]
  simp

end ApartN
end Go.Proofs.YthilnpfpllplaaaGreatDoor

namespace Go.Proofs.YthilnpfpllplaaaGreatDoor
open Go.RowKit ApartN

set_option maxRecDepth 100000 in
set_option maxHeartbeats 4000000 in
theorem apartN_c (w : World) (LA : Option Addr) (m lc : Nat) (R : List (Value × List Int)) (hL : Sl w LA m (R.map (·.1))) (hR : ApartN.Rows w R 0 0) (hd : Far R)
    (hLA : ∀ ad, LA = some ad → ¬ ApartN.Foot R ad.block) (hm : m ≤ 1000000) (hn : ∀ p ∈ R, p.2.length ≤ 1000000) :
    Calls Tryz.prog 24 #[.slice LA m lc] w fun e w' => e = .returned (.bool true) ∧ Keeps (ApartN.Foot R) w w' := by
  have hl : R.length = m := by simpa using hL.1
  have HL := Lib.hid hl
  clear hl
  have hshape : ∀ (i : Nat) (p : Value × List Int), R[i]? = some p → ∃ A c, p.1 = .slice A p.2.length c := fun i p hp => by
    obtain ⟨A, c, h, _⟩ := own_slice (hR.own i p hp)
    exact ⟨A, c, h⟩
  have HSH := Lib.hid hshape
  clear hshape
  go_enter Tryz.func24, Tryz.ntmps24
  go_wp2_with fail
  go_loopw [3] (fun i wr => ∃ k : Nat, k ≤ m ∧ i = .int .i64 k ∧ ApartN.Rows wr R k 0 ∧ Keeps (ApartN.Foot R) w wr) (fun i _ => m - (intOf i).toNat)
  case atStart => exact ⟨0, Nat.zero_le _, rfl, hR, Keeps.refl _ _⟩
  case round =>
    clear hR
    obtain ⟨k, hk, rfl, hR, hK⟩ := hrel
    by_cases hlt : k < m
    · obtain ⟨⟨v, xs⟩, hp⟩ : ∃ p, R[k]? = some p := ⟨_, List.getElem?_eq_getElem (by rw [HL.out]; exact hlt)⟩
      have hxn : xs.length ≤ 1000000 := hn _ (List.mem_of_getElem? hp)
      have hown : wr.ownsRow 0 75 1 v xs.length _ := hR.own k _ hp
      obtain ⟨A, c, rfl, _, _⟩ := own_slice hown
      obtain ⟨la, u, rfl, hu, hcu⟩ := (hL.keeps hK hLA).at_ hlt
      rw [List.getElem?_map, hp] at hu
      cases hu
      clear hown
      obtain ⟨wo, rfl⟩ : ∃ wo : World, wo = wr := ⟨_, rfl⟩
      have HP := Lib.hid hp
      clear hp
      go_wp2_with fail
      go_loopw [4] (fun i wr => ∃ j : Nat, j ≤ xs.length ∧ i = .int .i64 j ∧ ApartN.Rows wr R k j ∧ Keeps (ApartN.Foot R) w wr) (fun i _ => xs.length - (intOf i).toNat)
      case atStart => exact ⟨0, Nat.zero_le _, rfl, hR, hK⟩
      case round =>
        clear hR hK hcu
        obtain ⟨j, hj, rfl, hR, hK⟩ := hrel
        obtain ⟨la', u, e', hu, hcu⟩ := (hL.keeps hK hLA).at_ hlt
        cases e'
        rw [List.getElem?_map, HP.out] at hu
        cases hu
        by_cases hlj : j < xs.length
        · have hown : wr.ownsRow 0 75 1 (.slice A xs.length c) xs.length _ := hR.own k _ HP.out
          obtain ⟨g, cap, hv, _, hg2⟩ := hown.form (by omega)
          injection hv with hA _ hc
          subst hA hc
          have hlc := len_cont (k := k) (i := k) hj rfl
          obtain ⟨z, hz⟩ : ∃ z, (cont k j k xs)[j]? = some z := ⟨_, List.getElem?_eq_getElem (by omega)⟩
          have hcell : wr.cell? ⟨g, j, none⟩ = some (.int .u32 z) := by rw [hown.cellAt j (by omega), List.getElem?_map, hz]; rfl
          have hfr := hown.frozenAt j
          have hset := rows_set hR hd HP.out hlj
          have hmk : (2 * (k : Int) + 1) = mk k := rfl
          have R1 := hset.1
          have R2 := hK.trans hset.2 (fun _ _ h => h)
          clear hset hz hlc hown hR hK
          go_wp2_with fail
          exact ⟨⟨j + 1, by omega, by go_num, R1, R2⟩, by simp [intOf]; omega⟩
        · obtain rfl : j = xs.length := by omega
          have R1 := rows_next hR (fun p hp => by rw [HP.out] at hp; cases hp; rfl)
          clear hR
          go_wp2_with fail
          exact ⟨⟨k + 1, by omega, by go_num, R1, hK⟩, by simp [intOf]; omega⟩
    · obtain rfl : k = m := by omega
      clear hlt hk
      obtain ⟨wp, rfl⟩ : ∃ wp : World, wp = wr := ⟨_, rfl⟩
      have hR0 : ∀ (i : Nat) (p : Value × List Int), R[i]? = some p → wp.ownsRow 0 75 1 p.1 p.2.length ((List.replicate p.2.length (mk i)).map (Value.int .u32)) := fun i p hp => by
        have := hR.own i p hp
        rwa [cont_zero, if_pos (by have := (List.getElem?_eq_some_iff.1 hp).1; rw [HL.out] at this; exact this)] at this
      have hw0 : w.heap.size ≤ wp.heap.size := hK.size
      have hfoot : ∀ b, ApartN.Foot R b → b < wp.heap.size := by
        rintro b ⟨p, hp, hb⟩
        obtain ⟨i, hi⟩ := List.getElem?_of_mem hp
        exact ((hR0 i p hi).lt b hb).2
      have hmk := run_make_row' (P := Tryz.prog) 82 38 (.slice none 0 0) 24 tNats.und tNats.info rfl .i64 .i64 k (by omega) (by omega)
      have hgs0 := World.ownsRow_lit (base := 0) (e := 38) (size := 1) wp (madeCells #[.slice none 0 0] k) k (Nat.zero_le _) (by simp only [maxLen]; omega) (by rw [size_madeCells]; simp)
      rw [toList_madeCells_one] at hgs0
      have hG := grown_start (H := wp.heap.size + 1) (w := wp.alloc (.cells (madeCells #[.slice none 0 0] k) 38)) (fun i p hp => (hR0 i p hp).alloc _)
      have hK1 : Keeps (ApartN.Foot R) w (wp.alloc (.cells (madeCells #[.slice none 0 0] k) 38)) := hK.trans (Keeps.of_pure ((Below.refl _ _).alloc (Nat.le_refl _) _) (ApartN.Foot R)) (fun _ _ h => h)
      clear hR hR0 hK
      go_wp2_with fail
      clear hmk
      go_loopw [6] (fun i wx => ∃ G : List Value, G.length ≤ k ∧ i = .int .i64 (G.length : Nat) ∧ Grown2 wx (wp.heap.size + 1) R G ∧ wx.ownsRow 0 38 1 (.slice (some ⟨wp.heap.size, 0, none⟩) k k) k (G ++ List.replicate (k - G.length) (.slice none 0 0)) ∧ Keeps (ApartN.Foot R) w wx ∧ wp.heap.size + 1 ≤ wx.heap.size) (fun i _ => k - (intOf i).toNat)
      case atStart => exact ⟨[], Nat.zero_le _, rfl, hG, by simpa using hgs0, hK1, by simp⟩
      case round =>
        clear hG hK1 hgs0
        obtain ⟨G, hGk, rfl, hG, hgs, hK, hsz⟩ := hrel
        obtain ⟨wx, rfl⟩ : ∃ wx : World, wx = wr := ⟨_, rfl⟩
        by_cases hlt : G.length < k
        · obtain ⟨⟨v, xs⟩, hp⟩ : ∃ p, R[G.length]? = some p := ⟨_, List.getElem?_eq_getElem (by rw [HL.out]; exact hlt)⟩
          have hxn : xs.length ≤ 1000000 := hn _ (List.mem_of_getElem? hp)
          have hown : wx.ownsRow 0 75 1 v xs.length _ := hG.own G.length _ (Nat.le_refl _) hp
          obtain ⟨A, c, rfl, _, _⟩ := own_slice hown
          have hsl := hG.old G.length A c xs hp
          have hform := own_form hown
          have hown0 := hown
          obtain ⟨la, u, rfl, hu, hcu⟩ := (hL.keeps hK hLA).at_ hlt
          rw [List.getElem?_map, hp] at hu
          cases hu
          have HP := Lib.hid hp
          clear hp
          generalize hGL : G.length = gl at hlt hcu hGk
          have HGL := Lib.hid hGL
          clear hGL
          go_wp2_with fail
          go_loopw [7, 8] (fun g j wy => ∃ q : Nat, q ≤ 40 ∧ j = .int .i64 q ∧ wy.ownsRow 0 75 1 g (xs.length + q) ((List.replicate xs.length (mk gl) ++ List.replicate q (mk2 gl)).map (Value.int .u32)) ∧
              (∀ b, g.ownBlock = some b → (Value.slice A xs.length c).ownBlock = some b ∨ wx.heap.size ≤ b) ∧ Sl wy A xs.length ((List.replicate xs.length (mk gl)).map (Value.int .u32)) ∧ Keeps (fun b => (Value.slice A xs.length c).ownBlock = some b) wx wy) (fun _ j _ => 40 - (intOf j).toNat)
          case atStart => exact ⟨0, by omega, rfl, by rw [HGL.out] at hown; simpa using hown, fun b hb => .inl hb, by rw [HGL.out] at hsl; exact hsl, Keeps.refl _ _⟩
          case round =>
            clear hown hsl hcu
            obtain ⟨q, hq, rfl, hown, hblk, hsl, hk⟩ := hrel
            have hs1 := hk.size
            by_cases hq40 : q < 40
            · have hmk : (2 * (gl : Int) + 2) = mk2 gl := rfl
              go_wp2_with (at_builtin; refine wpList_push2 rfl _ _ _ rfl tNat hown rfl _ 0 rfl rfl rfl (by simp only [maxLen]; omega) (by omega) (Nat.zero_le _) ?_; intro g' cap w3 hown3 hor hlt3)
              rw [rep_snoc] at hown3
              refine ⟨⟨q + 1, by omega, by go_num, hown3, fun b hb => ?_, ?_, ?_⟩, by simp [intOf]; omega⟩
              · obtain rfl : g' = b := by simpa [Value.ownBlock] using hb
                rcases hor with ⟨h1, _⟩ | ⟨h1, _⟩
                · exact hblk _ h1
                · right; omega
              · rcases hor with ⟨h1, h2⟩ | ⟨h1, h2⟩
                · have h3 := hown3
                  rw [List.map_append] at h3
                  exact sl_after hsl hform h3 h2
                · exact hsl.keeps (keeps_new (Keeps.refl (fun _ => False) wr) h2) (fun _ _ h => h)
              · rcases hor with ⟨h1, h2⟩ | ⟨h1, h2⟩
                · exact keeps_row hk h2 (hblk _ h1)
                · exact keeps_new hk h2
            · obtain rfl : q = 40 := by omega
              have hgs' := own_keeps hgs hk (fun g' hg' e => own_ne_own hgs hown0 (by decide) hg' e)
              obtain ⟨GA, gc, rfl, _, _⟩ := own_slice hown
              have hnext := grown_next hG hd hfoot rfl HP.out hk hsz (by rw [HGL.out]; exact hown) hblk (by rw [HGL.out]; exact hsl) gl (.slice GA (xs.length + 40) gc)
              have hst := hgs'.stored gl (.slice GA (xs.length + 40) gc)
              have hset := app_set (G := G) (k := k) (z := Value.slice none 0 0) (u := .slice GA (xs.length + 40) gc) (by rw [HGL.out]; exact hlt)
              rw [HGL.out] at hset
              rw [HGL.out, hset] at hst
              have hcell : ∃ u, wr.cell? ⟨wp.heap.size, gl, none⟩ = some u := by
                rw [hgs'.cellAt gl (by omega)]
                exact ⟨_, List.getElem?_eq_getElem (by rw [hgs'.1]; omega)⟩
              obtain ⟨u, hcell⟩ := hcell
              have hfr := hgs'.frozenAt gl
              have hK' : Keeps (ApartN.Foot R) w (wr.setCell ⟨wp.heap.size, gl, none⟩ (.slice GA (xs.length + 40) gc)) := by
                refine (hK.trans (hk.mono (O' := ApartN.Foot R) (fun b _ hb => ⟨_, List.mem_of_getElem? HP.out, hb⟩)) (fun _ _ h => h)).trans (Keeps.of_setCell wr _ _) (fun b hb e => ?_)
                simp at e
                have := hw0
                omega
              have hGl : (G ++ [Value.slice GA (xs.length + 40) gc]).length = gl + 1 := by rw [List.length_append, HGL.out]; rfl
              have S1 := hst.1
              clear hst hset hgs' hown hsl hk hblk hG hgs
              go_wp2_with fail
              refine ⟨⟨G ++ [.slice GA (xs.length + 40) gc], by omega, by rw [hGl]; go_num, hnext, S1, hK', by simp only [World.size_setCell]; omega⟩, by simp [intOf]; omega⟩
        · have hGk' : G.length = k := by omega
          rw [hGk', Nat.sub_self, List.replicate_zero, List.append_nil] at hgs
          have HGK := Lib.hid hGk'
          clear hGk'
          go_wp2_with fail
          clear hlt
          go_loop [9] (fun i => ∃ t : Nat, t ≤ k ∧ i = .int .i64 t) (fun i => k - (intOf i).toNat)
          case atStart => exact ⟨0, Nat.zero_le _, rfl⟩
          case round =>
            obtain ⟨t, htk, rfl⟩ := hrel
            by_cases hlt : t < k
            · obtain ⟨⟨v, xs⟩, hp⟩ : ∃ p, R[t]? = some p := ⟨_, List.getElem?_eq_getElem (by rw [HL.out]; exact hlt)⟩
              have hxn : xs.length ≤ 1000000 := hn _ (List.mem_of_getElem? hp)
              obtain ⟨A, c, hv⟩ := HSH.out t _ hp
              simp only at hv
              subst hv
              obtain ⟨gv, hgv⟩ : ∃ gv, G[t]? = some gv := ⟨_, List.getElem?_eq_getElem (by rw [HGK.out]; exact hlt)⟩
              obtain ⟨GA, gc, rfl, hGs, _⟩ := hG.new t gv _ hgv hp
              simp only at hGs
              have hAs := hG.old t A c xs hp
              obtain ⟨la, u, rfl, hu, hcu⟩ := (hL.keeps hK hLA).at_ hlt
              rw [List.getElem?_map, hp] at hu
              cases hu
              have hgc := hgs.cellAt t (by omega)
              rw [hgv] at hgc
              clear hgv hp
              go_wp2_with fail
              go_loop [11] (fun i => ∃ j : Nat, j ≤ xs.length + 40 ∧ i = .int .i64 j) (fun i => xs.length + 40 - (intOf i).toNat)
              case atStart => exact ⟨0, Nat.zero_le _, rfl⟩
              case round =>
                obtain ⟨j, hj, rfl⟩ := hrel
                by_cases hlj : j < xs.length
                · obtain ⟨ga, a, rfl, hga, hca⟩ := hGs.int_ (show j < xs.length + 40 by omega)
                  obtain ⟨aa, b, rfl, hab, hcb⟩ := hAs.int_ hlj
                  rw [rep_at1 hlj] at hga
                  rw [List.getElem?_replicate, if_pos hlj] at hab
                  cases hga
                  cases hab
                  have hmk : (2 * (t : Int) + 1) = mk t := rfl
                  go_wp2_with fail
                  exact ⟨⟨j + 1, by omega, by go_num⟩, by simp [intOf]; omega⟩
                · by_cases hlj2 : j < xs.length + 40
                  · obtain ⟨ga, a, rfl, hga, hca⟩ := hGs.int_ hlj2
                    rw [rep_at2 (by omega) hlj2] at hga
                    cases hga
                    have hmk : (2 * (t : Int) + 2) = mk2 t := rfl
                    go_wp2_with fail
                    exact ⟨⟨j + 1, by omega, by go_num⟩, by simp [intOf]; omega⟩
                  · go_wp2_with fail
                    exact ⟨⟨t + 1, by omega, by go_num⟩, by simp [intOf]; omega⟩
            · go_wp2_with fail
              go_ret
              exact ⟨rfl, hK⟩

end Go.Proofs.YthilnpfpllplaaaGreatDoor

namespace Go.Proofs.YthilnpfpllplaaaGreatDoor
open Go.RowKit

/-- A row of the call's own whose block lies from lo on and before hi. -/
structure RowN (w : World) (lo hi : Nat) (v : Value) (n : Nat) (xs : List Value) : Prop where
  own : w.ownsRow lo 75 1 v n xs
  hi : ∀ g, v.ownBlock = some g → g < hi
namespace RowN
variable {w w' : World} {lo hi n : Nat} {v : Value} {xs : List Value}
theorem of (h : w.ownsRow lo 75 1 v n xs) : RowN w lo w.heap.size v n xs := ⟨h, fun g hg => (h.lt g hg).2⟩
theorem keeps {O : Nat → Prop} (h : RowN w lo hi v n xs) (hk : Keeps O w w') (ho : ∀ b, O b → lo ≤ b → b < hi → False) : RowN w' lo hi v n xs :=
  ⟨own_keeps h.own hk (fun g hg hO => ho g hO (h.own.lt g hg).1 (h.hi g hg)), h.hi⟩
theorem below (h : RowN w lo hi v n xs) (hb : Below w.heap.size w w') : RowN w' lo hi v n xs := ⟨own_below h.own hb, h.hi⟩
theorem sl {A : Option Addr} {c : Nat} (h : RowN w lo hi (.slice A n c) n xs) : Sl w A n xs := Sl.of_own h.own
end RowN

/-- Rows one behind the other, from block lo on. -/
def RangedN (w : World) : Nat → List (Value × List Int) → Prop
  | _, [] => True
  | lo, p :: R => ∃ l hi, lo ≤ l ∧ l ≤ hi ∧ RowN w l hi p.1 p.2.length (p.2.map (Value.int .u32)) ∧ RangedN w hi R
namespace RangedN
variable {w : World}
theorem at_ : ∀ {R : List (Value × List Int)} {lo : Nat}, RangedN w lo R → ∀ (i : Nat) (p : Value × List Int), R[i]? = some p → ∃ l hi, lo ≤ l ∧ l ≤ hi ∧ RowN w l hi p.1 p.2.length (p.2.map (Value.int .u32))
  | [], _, _, i, p, h => by simp at h
  | q :: R, lo, ⟨l, hi, h1, h2, h3, h4⟩, 0, p, h => by simp at h; subst h; exact ⟨l, hi, h1, h2, h3⟩
  | q :: R, lo, ⟨l, hi, h1, h2, h3, h4⟩, i + 1, p, h => by
    obtain ⟨l', hi', a, b, c⟩ := at_ h4 i p (by simpa using h)
    exact ⟨l', hi', by omega, b, c⟩
theorem rows {R : List (Value × List Int)} {lo : Nat} (h : RangedN w lo R) : ApartN.Rows w R 0 0 := ⟨fun i p hp => by
  obtain ⟨l, hi, _, _, hr⟩ := h.at_ i p hp
  rw [ApartN.cont_zero, if_neg (by omega)]
  exact own_base hr.own (Nat.zero_le _)⟩
theorem foot {R : List (Value × List Int)} {lo b : Nat} (h : RangedN w lo R) (hb : ApartN.Foot R b) : lo ≤ b := by
  obtain ⟨p, hp, hg⟩ := hb
  obtain ⟨i, hi⟩ := List.getElem?_of_mem hp
  obtain ⟨l, hi', h1, _, hr⟩ := h.at_ i p hi
  have := (hr.own.lt b hg).1
  omega
theorem far : ∀ {R : List (Value × List Int)} {lo : Nat}, RangedN w lo R → ApartN.Far R
  | [], _, _ => fun i j p q g _ hi => by simp at hi
  | r :: R, lo, ⟨l, hi, h1, h2, h3, h4⟩ => by
    have ih := far h4
    have hd : ∀ (j : Nat) (q : Value × List Int) (g : Nat), R[j]? = some q → r.1.ownBlock = some g → q.1.ownBlock ≠ some g := fun j q g hq hg hq' => by
      have := h3.hi g hg
      have := h4.foot ⟨q, List.mem_of_getElem? hq, hq'⟩
      omega
    intro i j p q g hij hp hq hg hq'
    match i, j, hij, hp, hq with
    | 0, 0, hij, _, _ => exact hij rfl
    | 0, j + 1, _, hp, hq =>
      simp at hp hq
      subst hp
      exact hd j q g hq hg hq'
    | i + 1, 0, _, hp, hq =>
      simp at hp hq
      subst hq
      exact hd i p g hp hq' hg
    | i + 1, j + 1, hij, hp, hq =>
      simp at hp hq
      exact ih i j p q g (by omega) hp hq hg hq'
theorem mono {R : List (Value × List Int)} {lo lo' : Nat} (h : RangedN w lo R) (hl : lo' ≤ lo) : RangedN w lo' R := by
  cases R with
  | nil => trivial
  | cons p R => obtain ⟨l, hi, h1, h2, h3, h4⟩ := h; exact ⟨l, hi, by omega, h2, h3, h4⟩
theorem cons {R : List (Value × List Int)} {lo l hi hi' : Nat} {v : Value} {xs : List Int} {n : Nat} (h1 : lo ≤ l) (h2 : l ≤ hi) (hr : RowN w l hi v n (xs.map (Value.int .u32))) (hn : xs.length = n) (h3 : hi ≤ hi') (h : RangedN w hi' R) : RangedN w lo ((v, xs) :: R) := by
  subst hn
  exact ⟨l, hi, h1, h2, hr, h.mono h3⟩
theorem nil (w : World) (lo : Nat) : RangedN w lo [] := trivial
end RangedN

/-- edenraw.ApartNats of lists that lie one behind the other. -/
theorem apartN_r (w : World) (LA : Option Addr) (m lc : Nat) (R : List (Value × List Int)) (lo : Nat) (hL : Sl w LA m (R.map (·.1))) (hR : RangedN w lo R) (hLA : ∀ ad, LA = some ad → ¬ ApartN.Foot R ad.block) (hm : m ≤ 1000000) (hn : ∀ p ∈ R, p.2.length ≤ 1000000) :
    Calls Tryz.prog 24 #[.slice LA m lc] w fun e w' => e = .returned (.bool true) ∧ Keeps (ApartN.Foot R) w w' :=
  apartN_c w LA m lc R hL hR.rows hR.far hLA hm hn
end Go.Proofs.YthilnpfpllplaaaGreatDoor
