/- The first preimages of a word: overlap.Before where it succeeds. Condition: the rule is small, the word is one over its symbols, and both read from memory. -/
import Derived.Test.YthilnpfpllplaaaGreatDoorS7
import Derived.Test.YthilnpfpllplaaaGreatDoorS10
import Derived.Test.YthilnpfpllplaaaGreatDoorS11
namespace Go.Proofs.YthilnpfpllplaaaGreatDoor
open Go.RowKit RuleP

theorem on_all {D : DeadP} (hD : DeadOk D) : ∀ (j i : Nat), i + j = D.W.length → OnC D i := by
  intro j
  induction j with
  | zero =>
    intro i hij
    obtain rfl : i = D.W.length := by omega
    intro w lv rows L X XA xc u x P h hX hx hxX hxl hu hF
    have hl := hD.len
    by_cases hlt : L.length < D.most
    · exact on_put h hD hX XA xc u x P hx (by omega) hF hlt
    · exact on_full h hD XA xc u x P hx hF hlt
  | succ j ih =>
    intro i hij
    exact on_loop hD (by omega) (ih (i + 1) (by omega))

/-- The rows of marks, the first j of them made. -/
structure PreAt (w : World) (D : DeadP) (G : List Value) (j : Nat) : Prop where
  blk : w.heap[D.db]? = some (.cells (D.cells (.slice none 0 0) false) 138 (0, 0))
  old : Below D.B D.w0 w
  atb : w.ownsRow D.B 139 1 D.atv D.W.length G
  row : ∀ i, i < j → ∃ g, G[i]? = some (.slice (some ⟨g, 0, none⟩) D.N D.N) ∧ w.ownsRow D.B 4 1 (.slice (some ⟨g, 0, none⟩) D.N D.N) D.N (List.replicate D.N (.bool false))
  rest : ∀ i, j ≤ i → i < D.W.length → G[i]? = some (.slice none 0 0)
  inj : FarV G
  fb : D.B ≤ D.db

variable {w w' : World} {D : DeadP} {G : List Value} {j : Nat}

theorem PreAt.lt (h : PreAt w D G j) : D.db < w.heap.size := (Array.getElem?_eq_some_iff.1 h.blk).1
theorem PreAt.facts (h : PreAt w D G j) :
    w.cell? ⟨D.db, 0, none⟩ = some (.int .i64 (D.k : Int)) ∧ w.cell? ⟨D.db, 1, none⟩ = some (.int .i64 (D.r : Int)) ∧ w.cell? ⟨D.db, 2, none⟩ = some (.slice D.TA D.t.length D.tc) ∧ w.cell? ⟨D.db, 3, none⟩ = some (.slice D.WA D.W.length D.wc) ∧
    w.cell? ⟨D.db, 4, none⟩ = some D.atv ∧ w.cell? ⟨D.db, 5, none⟩ = some (.int .i64 (D.most : Int)) ∧ w.cell? ⟨D.db, 6, none⟩ = some (.slice none 0 0) ∧ w.cell? ⟨D.db, 7, none⟩ = some (.bool false) := by
  have hb := h.blk
  refine ⟨?_, ?_, ?_, ?_, ?_, ?_, ?_, ?_⟩ <;> rw [cell_of_row w D.db _ _ _ _ hb] <;> rfl
theorem PreAt.pure (h : PreAt w D G j) (hb : Below w.heap.size w w') : PreAt w' D G j :=
  { blk := (hb.block _ h.lt).trans h.blk, old := h.old.trans (hb.mono h.old.size), atb := own_below h.atb hb, rest := h.rest, inj := h.inj, fb := h.fb,
    row := fun i hi => by obtain ⟨g, h1, h2⟩ := h.row i hi; exact ⟨g, h1, own_below h2 hb⟩ }
/-- One row more. -/
theorem PreAt.step (h : PreAt w D G j) (hj : j < D.W.length) {ab ac : Nat} (hav : D.atv = .slice (some ⟨ab, 0, none⟩) D.W.length ac) (hN : D.N ≤ maxLen) :
    PreAt ((w.alloc (.cells (madeCells #[.bool false] D.N) 4)).setCell ⟨ab, j, none⟩ (.slice (some ⟨w.heap.size, 0, none⟩) D.N D.N)) D (G.set j (.slice (some ⟨w.heap.size, 0, none⟩) D.N D.N)) (j + 1) := by
  have ha := h.pure ((Below.refl w.heap.size w).alloc (Nat.le_refl _) (.cells (madeCells #[.bool false] D.N) 4))
  have hsz : (w.alloc (.cells (madeCells #[.bool false] D.N) 4)).heap.size = w.heap.size + 1 := by simp
  have hnew := World.ownsRow_lit (base := w.heap.size) (e := 4) (size := 1) w (madeCells #[.bool false] D.N) D.N (Nat.le_refl _) hN (by rw [size_madeCells]; simp)
  rw [toList_madeCells_one] at hnew
  have hnew := own_base hnew (show D.B ≤ w.heap.size from h.old.size)
  obtain ⟨wa, hwa⟩ : ∃ wa, w.alloc (.cells (madeCells #[.bool false] D.N) 4) = wa := ⟨_, rfl⟩
  rw [hwa] at ha hsz hnew ⊢
  have hat := ha.atb
  rw [hav] at hat
  have hGl : G.length = D.W.length := by simpa using h.atb.1
  have hk := Keeps.of_setCell wa ⟨ab, j, none⟩ (.slice (some ⟨w.heap.size, 0, none⟩) D.N D.N)
  have hne : ∀ {e n : Nat} {v : Value} {xs : List Value}, wa.ownsRow D.B e 1 v n xs → e ≠ 139 → ∀ g, v.ownBlock = some g → ¬ (g = (⟨ab, j, none⟩ : Addr).block) := fun ho he g hg e => by
    have e' : g = ab := e
    subst e'
    exact own_ne_own ho hat he hg rfl
  have hlt : ∀ (i : Nat) (v : Value) (g : Nat), G[i]? = some v → v.ownBlock = some g → g < w.heap.size := fun i v g hi hg => by
    have hil : i < D.W.length := by have := (List.getElem?_eq_some_iff.1 hi).1; omega
    rcases Nat.lt_or_ge i j with h1 | h1
    · obtain ⟨g', e1, e2⟩ := h.row i h1
      rw [hi] at e1
      cases e1
      exact (e2.lt g hg).2
    · rw [h.rest i h1 hil] at hi
      cases hi
      simp [Value.ownBlock] at hg
  exact {
    blk := (hk.block _ ha.lt (fun e => by
      have e' : D.db = ab := e
      rw [← e'] at hat
      exact own_ne_blk hat ha.blk (by decide) rfl)).trans ha.blk
    old := ha.old.setCell (hat.lt ab rfl).1 _
    atb := by
      rw [hav]
      exact (hat.stored j _).1
    row := fun i hi => by
      rcases Nat.lt_or_ge i j with h1 | h1
      · obtain ⟨g, e1, e2⟩ := ha.row i h1
        exact ⟨g, by rw [List.getElem?_set_ne (by omega)]; exact e1, own_keeps e2 hk (hne e2 (by decide))⟩
      · obtain rfl : i = j := by omega
        exact ⟨_, List.getElem?_set_self (by omega), own_keeps hnew hk (hne hnew (by decide))⟩
    rest := fun i h1 h2 => by rw [List.getElem?_set_ne (by omega)]; exact h.rest i (by omega) h2
    inj := fun i i' v v' g hii hi hi' hg hg' => by
      rcases Decidable.em (j = i) with e | e
      · subst e
        rw [List.getElem?_set_self (by omega)] at hi
        rw [List.getElem?_set_ne hii] at hi'
        cases hi
        have e1 : w.heap.size = g := by simpa [Value.ownBlock] using hg
        have := hlt _ _ _ hi' hg'
        omega
      · rw [List.getElem?_set_ne e] at hi
        rcases Decidable.em (j = i') with e2 | e2
        · subst e2
          rw [List.getElem?_set_self (by omega)] at hi'
          cases hi'
          have e1 : w.heap.size = g := by simpa [Value.ownBlock] using hg'
          have := hlt _ _ _ hi hg
          omega
        · rw [List.getElem?_set_ne e2] at hi'
          exact h.inj i i' v v' g hii hi hi' hg hg'
    fb := h.fb }
/-- The search as it begins. -/
theorem PreAt.dead (h : PreAt w D G D.W.length) (X : Nat → Prop) : DeadAt w { D with G := G } (.slice none 0 0) [] [] false X :=
  { blk := h.blk, old := h.old, atb := h.atb, inj := h.inj, fb := h.fb
    row := fun i hi => by
      obtain ⟨g, e1, e2⟩ := h.row i hi
      exact ⟨g, List.replicate D.N false, e1, by rw [List.map_replicate]; exact e2, fun u hu => by rw [List.getElem?_replicate] at hu; split at hu <;> cases hu⟩
    lst := World.ownsRow_nil _ _ _ _
    el := fun j l hj => by simp at hj
    far := fun i j v v' g _ hi => by simp at hi }

theorem befTo_rest {k r : Nat} {t w : List Nat} {n : Nat} (h : n ≤ k ^ (2 * r)) : ∃ Q, before k r t w = befTo k r t w n ++ Q := by
  refine ⟨((List.range (k ^ (2 * r) - n)).map (n + ·)).flatMap fun u => (sols k (k ^ (2 * r)) t u w).map (digB k (2 * r) u ++ ·), ?_⟩
  have e : List.range (k ^ (2 * r)) = List.range n ++ (List.range (k ^ (2 * r) - n)).map (n + ·) := by
    conv => lhs; rw [show k ^ (2 * r) = n + (k ^ (2 * r) - n) from by omega, List.range_add]
  unfold before befTo
  rw [e, List.flatMap_append]
theorem before_end {k r u most : Nat} {t w : List Nat} {L : List (List Nat)} {more : Bool} (h : RuleP.Found most (befTo k r t w u) L more) (hu : u ≤ k ^ (2 * r)) (he : more = true ∨ u = k ^ (2 * r)) : RuleP.Found most (before k r t w) L more := by
  rcases he with rfl | rfl
  · obtain ⟨Q, hQ⟩ := befTo_rest (t := t) (w := w) hu
    rw [hQ]
    exact h.stay Q
  · exact h
theorem next_dig {k r u : Nat} (hk : 1 ≤ k) (h : u + 1 < k ^ (2 * r)) : nextB k (digB k (2 * r) u) = digB k (2 * r) (u + 1) := by
  unfold nextB
  rw [wval_digB hk (by omega), digB_len, if_pos h]
/-- The box of the rule is none of what the search writes. -/
theorem rule_apart {w w' : World} {D : DeadP} {lv xv : Value} {rows : List Value} {L : List (List Nat)} {more : Bool} {X : Nat → Prop} {g n : Nat} {x0 x1 x2 : Value} {xs : List Value} (h : DeadAt w D lv rows L more X) (hr : RuleAt w g x0 x1 x2) (hx : w.ownsRow D.B 3 1 xv n xs)
    (hk : Keeps (fun b => Foot D lv b ∨ xv.ownBlock = some b) w w') : RuleAt w' g x0 x1 x2 := by
  refine hr.keeps hk ?_
  rintro ((e | ⟨i, v, hi, hv⟩ | hv) | hv)
  · have := h.blk
    rw [← e] at this
    unfold RuleAt at hr
    rw [hr] at this
    injection this with this
    injection this with _ this
    exact absurd this (by decide)
  · have hlt : i < D.W.length := by have := (List.getElem?_eq_some_iff.1 hi).1; have := h.atb.1; simp at this; omega
    obtain ⟨g', fl, e1, e2, _⟩ := h.row i hlt
    rw [hi] at e1
    cases e1
    exact own_ne_blk e2 hr (by decide) hv
  · exact own_ne_blk h.lst hr (by decide) hv
  · exact own_ne_blk hx hr (by decide) hv

/-- Between two rounds over the nodes: u have been gone through. -/
structure BefMid (wr : World) (D : DeadP) (g0 : Nat) (u : Nat) (lv : Value) (rows : List Value) (L : List (List Nat)) (more : Bool) (bv : Value) (bl : List Nat) : Prop where
  dead : DeadAt wr D lv rows L more (fun b => bv.ownBlock = some b)
  found : RuleP.Found D.most (befTo D.k D.r D.t D.W u) L more
  own : wr.ownsRow D.B 3 1 bv bl.length ((ints bl).map (Value.int .i64))
  box : RuleAt wr g0 (.int .i64 (D.k : Int)) (.int .i64 (D.r : Int)) (.slice D.TA D.t.length D.tc)

theorem BefMid.on {wr : World} {D : DeadP} {g0 u : Nat} {lv : Value} {rows : List Value} {L : List (List Nat)} {BA : Option Addr} {bc : Nat} {bl : List Nat} (hD : DeadOk D) (h : BefMid wr D g0 u lv rows L false (.slice BA bl.length bc) bl) (hu : u < D.N) (hb : bl = digB D.k (2 * D.r) u) :
    Calls Tryz.prog 89 #[.pointer (some ⟨D.db, 0, none⟩), .slice BA bl.length bc, .int .i64 (u : Int), .int .i64 0] wr fun e w' => ∃ (b : Bool) (lv' : Value) (rows' : List Value) (L' : List (List Nat)) (more' : Bool), e = .returned (.bool b) ∧ BefMid w' D g0 (u + 1) lv' rows' L' more' (.slice BA bl.length bc) bl := by
  have hl : bl.length ≤ 500 + 0 := by
    rw [hb, digB_len]
    have := hD.rule.r3
    omega
  refine (on_all hD D.W.length 0 (by omega) wr lv rows L _ BA bc u bl _ h.dead (fun b hb => (h.own.lt b hb).2) h.own (fun g hg => hg) hl hu h.found).mono ?_
  rintro e w' ⟨lv', rows', L', more', rfl, hd, hf, ho, hk, hfr⟩
  refine ⟨_, lv', rows', L', more', rfl, hd, ?_, ho, rule_apart h.dead h.box h.own hk⟩
  rw [befTo_succ]
  rw [List.drop_zero, hb] at hf
  exact hf

theorem BefMid.next {wr w' : World} {D : DeadP} {g0 u : Nat} {lv : Value} {rows : List Value} {L : List (List Nat)} {more : Bool} {bv bv' : Value} {bl bl' : List Nat} (h : BefMid wr D g0 u lv rows L more bv bl) (hb : Below wr.heap.size wr w') (hown : w'.ownsRow wr.heap.size 3 1 bv' bl'.length ((ints bl').map (Value.int .i64))) :
    BefMid w' D g0 u lv rows L more bv' bl' :=
  ⟨(h.dead.mono (fun b hb => Or.inr (hown.lt b hb).1)).pure hb, h.found, own_base hown h.dead.old.size, h.box.below hb h.box.lt⟩

/-- What Before answers. -/
def BefPost (w : World) (most : Nat) (P : List (List Nat)) (e : Ending) (w' : World) : Prop :=
  ∃ (LA : Option Addr) (lc : Nat) (rows : List Value) (L : List (List Nat)) (more : Bool), e = .returned (.tuple #[.slice LA L.length lc, .bool more, .nilIface]) ∧ w'.ownsRow w.heap.size 22 1 (.slice LA L.length lc) L.length rows ∧
    (∀ (j : Nat) l, L[j]? = some l → ∃ v, rows[j]? = some v ∧ w'.ownsRow w.heap.size 3 1 v l.length ((ints l).map (Value.int .i64))) ∧ FarV rows ∧ Below w.heap.size w w' ∧ RuleP.Found most P L more

/-- The search laid in memory. -/
theorem PreAt.start {w w1 : World} {k r most : Nat} {t W : List Nat} {A B : Option Addr} {c d : Nat} (hb : Below w.heap.size w w1) (hm : W.length ≤ maxLen) :
    PreAt (((w1.alloc (.cells (madeCells #[.slice none 0 0] W.length) 139)).alloc (.cells #[.int .i64 (k : Int), .int .i64 (r : Int), .slice A t.length c, .slice B W.length d, .slice (some ⟨w1.heap.size, 0, none⟩) W.length W.length, .int .i64 (most : Int), .slice none 0 0, .bool false] 138)).drew)
      ⟨w, k, r, most, t, W, A, c, B, d, w1.heap.size + 1, .slice (some ⟨w1.heap.size, 0, none⟩) W.length W.length, []⟩ (List.replicate W.length (.slice none 0 0)) 0 := by
  have h1 := World.ownsRow_lit (base := w1.heap.size) (e := 139) (size := 1) w1 (madeCells #[.slice none 0 0] W.length) W.length (Nat.le_refl _) hm (by rw [size_madeCells]; simp)
  rw [toList_madeCells_one] at h1
  have hs := hb.size
  have h2 := heap_new (w1.alloc (.cells (madeCells #[.slice none 0 0] W.length) 139)) (.cells #[.int .i64 (k : Int), .int .i64 (r : Int), .slice A t.length c, .slice B W.length d, .slice (some ⟨w1.heap.size, 0, none⟩) W.length W.length, .int .i64 (most : Int), .slice none 0 0, .bool false] 138)
  rw [World.size_alloc] at h2
  exact {
    blk := h2
    old := (((hb.alloc hs _).alloc (by simp; omega) _).drew)
    atb := own_base ((h1.alloc _)) hs
    row := fun i hi => absurd hi (Nat.not_lt_zero _)
    rest := fun i _ hi => by rw [List.getElem?_replicate, if_pos hi]
    inj := fun i j v v' g _ hi => by
      rw [List.getElem?_replicate] at hi
      split at hi
      · cases hi; intro _ hg; simp [Value.ownBlock] at hg
      · cases hi
    fb := by show w.heap.size ≤ w1.heap.size + 1; omega }

set_option maxRecDepth 100000 in
set_option maxHeartbeats 4000000 in
theorem before_good (w : World) (E : Nat → Addr) (hE : Errs w E) (k r most : Nat) (A B : Option Addr) (n c m d : Nat) (t W : List Nat) (hr : IsRule k r t) (hsm : t.length ≤ 256) (hs : ∀ x ∈ W, x < k) (hT : Sl w A n ((ints t).map (Value.int .i64))) (hW : Sl w B m ((ints W).map (Value.int .i64)))
    (hm : m ≤ 256) (hmost : most ≤ 256) :
    Calls Tryz.prog 51 #[ruleV k r A n c, .slice B m d, .int .i64 (most : Int)] w (BefPost w most (before k r t W)) := by
  have hnt256 := hsm
  have hnt : t.length = n := by simpa [ints] using hT.1
  have hmw : W.length = m := by simpa [ints] using hW.1
  subst hnt hmw
  have hr0 := RuleAt.new w (.int .i64 k) (.int .i64 r) (.slice A t.length c)
  have hb0 := (Below.refl w.heap.size w).alloc (Nat.le_refl _) (.cells #[.int .i64 (k : Int), .int .i64 (r : Int), .slice A t.length c] 24)
  obtain ⟨r0, r1, r2, _⟩ := hr0.facts
  have hck := overCheck_c _ E (hE.below hb0) k r A B t.length c W.length d 256 (ints t) (ints W) (hT.below hb0) (by omega) (hW.below hb0) (by omega) (by decide)
  rw [checkO_good hr hsm hs hm] at hck
  have HCK := Lib.hid hck
  have HR0 := Lib.hid hr0
  have HB0 := Lib.hid hb0
  have HR := Lib.hid hr
  have HS := Lib.hid hs
  have HT := Lib.hid hT
  have HW := Lib.hid hW
  have h0 : decide ((most : Int) < 0) = false := decide_eq_false (by omega)
  have h256 : decide ((256 : Int) < (most : Int)) = false := decide_eq_false (by omega)
  have h256' : ¬ 256 < most := by omega
  clear hck hr0 hb0 hr hs hT hW hE
  unfold ruleV at *
  go_enter Tryz.func51, Tryz.ntmps51
  go_wp2_with fail
  refine (HCK.out).mono ?_
  rintro e w1 ⟨v, rfl, rfl, hb1⟩
  have hr1 := HR0.out.below hb1 (by simp)
  obtain ⟨q0, q1, q2, _⟩ := hr1.facts
  have z1 := hr1.lt
  have hmk := run_make_row' (P := Tryz.prog) 136 139 (.slice none 0 0) 24 tBoolss.und tBoolss.info rfl .i64 .i64 W.length (by omega) (by omega)
  clear r0 r1 r2
  go_wp2_with fail
  go_region
  have hP0 := PreAt.start (k := k) (r := r) (most := most) (t := t) (W := W) (A := A) (B := B) (c := c) (d := d) (HB0.out.trans (hb1.mono HB0.out.size)) (show W.length ≤ maxLen by simp only [maxLen]; omega)
  have hRS : RuleAt (((w1.alloc (.cells (madeCells #[.slice none 0 0] W.length) 139)).alloc (.cells #[.int .i64 (k : Int), .int .i64 (r : Int), .slice A t.length c, .slice B W.length d, .slice (some ⟨w1.heap.size, 0, none⟩) W.length W.length, .int .i64 (most : Int), .slice none 0 0, .bool false] 138)).drew) w.heap.size (.int .i64 k) (.int .i64 r) (.slice A t.length c) := (hr1.alloc _).alloc _
  obtain ⟨c0, c1, c2, c3, c4, c5, c6, c7⟩ := hP0.facts
  obtain ⟨D0, hD0⟩ : ∃ D0 : DeadP, (⟨w, k, r, most, t, W, A, c, B, d, w1.heap.size + 1, .slice (some ⟨w1.heap.size, 0, none⟩) W.length W.length, []⟩ : DeadP) = D0 := ⟨_, rfl⟩
  have HD0 := Lib.hid hD0
  have HP0 := Lib.hid hP0
  have HRS := Lib.hid hRS
  clear hP0 hRS q0 q1 q2 hmk hD0 hr1 hb1
  go_wp2_with fail
  go_loopw [43] (fun iv wr => ∃ (j : Nat) (G : List Value), j ≤ W.length ∧ iv = .int .i64 (j : Int) ∧ Hid (PreAt wr ⟨w, k, r, most, t, W, A, c, B, d, w1.heap.size + 1, .slice (some ⟨w1.heap.size, 0, none⟩) W.length W.length, []⟩ G j) ∧
      Hid (RuleAt wr w.heap.size (.int .i64 k) (.int .i64 r) (.slice A t.length c))) (fun iv _ => W.length - (intOf iv).toNat)
  case atStart => exact ⟨0, _, Nat.zero_le _, rfl, HP0, HRS⟩
  case round =>
    obtain ⟨j, G, hj, rfl, hP, hRr⟩ := hrel
    clear HP0 HRS c0 c1 c2 c3 c4 c5 c6 c7
    obtain ⟨d0, d1, d2, d3, d4, d5, d6, d7⟩ := hP.out.facts
    obtain ⟨b0, b1, b2, _⟩ := hRr.out.facts
    have hnd := nodes_div HR.out
    have hN256 : k ^ (2 * r) ≤ 256 := by
      have h1 := HR.out.k1
      have := hnd.2
      have : k ^ (2 * r) * 1 ≤ k ^ (2 * r) * k := Nat.mul_le_mul_left _ h1
      omega
    have HNODES := Lib.hid (fun (wz : World) => nodes_c wz (k := k) (r := r) (A := A) (n := t.length) (c := c) HR.out.k1 (by omega))
    rw [hnd.1] at HNODES
    unfold ruleV at HNODES
    by_cases hlt : j < W.length
    · have hmk := run_make_row' (P := Tryz.prog) 139 4 (.bool false) 1 tBools.und tBools.info rfl .i64 .i64 (k ^ (2 * r)) (by omega) (by omega)
      have HST := Lib.hid (fun (wz : World) (hz : Below wr.heap.size wr wz) => (by
        have h1 := PreAt.step (hP.out.pure hz) hlt rfl (show k ^ (2 * r) ≤ maxLen by simp only [maxLen]; omega)
        have h2 := ((hRr.out.below hz hRr.out.lt).keeps (Keeps.of_setCell wz ⟨w1.heap.size, j, none⟩ (.slice (some ⟨wz.heap.size, 0, none⟩) (k ^ (2 * r)) (k ^ (2 * r)))) (fun e => by have e' : w.heap.size = w1.heap.size := e; omega)).alloc (.cells (madeCells #[.bool false] (k ^ (2 * r))) 4)
        rw [World.setCell_alloc_past (hn := ((hP.out.pure hz).atb.lt _ rfl).2)] at h1
        exact ⟨h1, h2⟩ :
          PreAt ((wz.setCell ⟨w1.heap.size, j, none⟩ (.slice (some ⟨wz.heap.size, 0, none⟩) (k ^ (2 * r)) (k ^ (2 * r)))).alloc (.cells (madeCells #[.bool false] (k ^ (2 * r))) 4)) ⟨w, k, r, most, t, W, A, c, B, d, w1.heap.size + 1, .slice (some ⟨w1.heap.size, 0, none⟩) W.length W.length, []⟩ (G.set j (.slice (some ⟨wz.heap.size, 0, none⟩) (k ^ (2 * r)) (k ^ (2 * r)))) (j + 1) ∧
            RuleAt ((wz.setCell ⟨w1.heap.size, j, none⟩ (.slice (some ⟨wz.heap.size, 0, none⟩) (k ^ (2 * r)) (k ^ (2 * r)))).alloc (.cells (madeCells #[.bool false] (k ^ (2 * r))) 4)) w.heap.size (.int .i64 k) (.int .i64 r) (.slice A t.length c)))
      have HRD := Lib.hid (fun (wz : World) (hz : Below wr.heap.size wr wz) => (⟨(hP.out.pure hz).facts.2.2.2.2.1, ((hRr.out.below hz hRr.out.lt).facts), (hP.out.pure hz).atb.cellAt j (by omega), (hP.out.pure hz).atb.frozenAt j, ((hP.out.pure hz).atb.lt _ rfl).2, (hP.out.pure hz).lt, (hRr.out.below hz hRr.out.lt).lt⟩ : _ ∧ _ ∧ _ ∧ _ ∧ _ ∧ _ ∧ _))
      have hg := hP.out.rest j (Nat.le_refl _) hlt
      obtain ⟨N, hN⟩ : ∃ N, k ^ (2 * r) = N := ⟨_, rfl⟩
      rw [hN] at HNODES hmk HST
      have HN := Lib.hid hN
      clear hnd hN
      have z8 : ¬ w.heap.size = w1.heap.size := by omega
      have z9 : ¬ w1.heap.size = w.heap.size := by omega
      go_wp2_with fail
      go_region_held3 (fun w' => w'.cell? ⟨w1.heap.size + 1, 4, none⟩ = some (.slice (some ⟨w1.heap.size, 0, none⟩) W.length W.length) ∧ w'.cell? ⟨w.heap.size, 0, none⟩ = some (.int .i64 (k : Int)) ∧ w'.cell? ⟨w.heap.size, 1, none⟩ = some (.int .i64 (r : Int)) ∧ w'.cell? ⟨w.heap.size, 2, none⟩ = some (.slice A t.length c))
        (first | (refine ⟨?_, ?_, ?_, ?_⟩ <;> assumption) | go_keep)
        (first
          | (go_at_call 88
             refine (HNODES.out _).mono ?_
             rintro e5 wN ⟨rfl, hbN⟩
             have hbz := (Below.refl wr.heap.size wr).drew.trans hbN
             obtain ⟨e4, ⟨x0, x1, x2, _⟩, e5, e6, l1, l2, l3⟩ := HRD.out wN hbz))
      obtain ⟨hP2, hR2⟩ := HST.out wN hbz
      have HP2 := Lib.hid hP2
      have HR2 := Lib.hid hR2
      clear hP2 hR2 HST HRD hP hRr
      go_wp2_with fail
      exact ⟨⟨j + 1, _, by omega, by go_num, HP2, HR2⟩, by simp [intOf]; omega⟩
    · obtain rfl : j = W.length := by omega
      have hdead := hP.out.dead (fun b => (Value.slice (some ⟨wr.heap.size, 0, none⟩) (2 * r) (2 * r)).ownBlock = some b)
      obtain ⟨D, hD⟩ : ∃ D : DeadP, (⟨w, k, r, most, t, W, A, c, B, d, w1.heap.size + 1, .slice (some ⟨w1.heap.size, 0, none⟩) W.length W.length, G⟩ : DeadP) = D := ⟨_, rfl⟩
      have hr3 := HR.out.r3
      have hk1 := HR.out.k1
      have hk4 := HR.out.k4
      have hmk := run_make_row' (P := Tryz.prog) 22 3 (.int .i64 0) 8 tInts.und tInts.info rfl .i64 .i64 (2 * r) (by omega) (by omega)
      have hmk' : ∀ wz : World, (Instr.makeSlice 22 (.int .i64 (2 * (r : Int))) (.int .i64 (2 * (r : Int)))).run Tryz.prog wz = .ok (.slice (some ⟨wz.heap.size, 0, none⟩) (2 * r) (2 * r)) (wz.alloc (.cells (madeCells #[.int .i64 0] (2 * r)) 3)) := fun wz => by simpa using hmk wz
      clear hmk
      have s1 : IntKind.i64.wrap (2 * (r : Int)) = 2 * (r : Int) := IntWalk.i64_in _ (by omega)
      have h02 : (0 : Int) ≤ 2 * (r : Int) := by omega
      have hdd : DeadAt wr ⟨w, k, r, most, t, W, A, c, B, d, w1.heap.size + 1, .slice (some ⟨w1.heap.size, 0, none⟩) W.length W.length, G⟩ (.slice none 0 0) [] [] false (fun _ => False) := hP.out.dead _
      have hown := make_ints wr (2 * r) (by simp only [maxLen]; omega)
      have hbe := (Below.refl wr.heap.size wr).alloc (Nat.le_refl _) (.cells (madeCells #[.int .i64 0] (2 * r)) 3)
      have hbm00 : BefMid wr D w.heap.size 0 (.slice none 0 0) [] [] false (.slice none 0 0) [] := by
        subst hD
        exact ⟨hdd.mono (fun b hb => by simp [Value.ownBlock] at hb), RuleP.Found.start _, World.ownsRow_nil _ _ _ _, hRr.out⟩
      have hbm0 := hbm00.next (bl' := List.replicate (2 * r) 0) (bv' := .slice (some ⟨wr.heap.size, 0, none⟩) (List.replicate (2 * r) 0).length (2 * r)) hbe (by simpa using hown)
      have hok : DeadOk D := by
        subst hD
        exact ⟨HR.out, by simpa using hnt256, HS.out, hm, hmost, HT.out, HW.out⟩
      have HON := Lib.hid (fun (wz : World) (u : Nat) (lv : Value) (rows : List Value) (L : List (List Nat)) (BA : Option Addr) (bc : Nat) (bl : List Nat) (h : BefMid wz D w.heap.size u lv rows L false (.slice BA bl.length bc) bl) (hu : u < k ^ (2 * r)) (hb : bl = digB k (2 * r) u) =>
        (by subst hD; exact BefMid.on hok h hu hb : Calls Tryz.prog 89 #[.pointer (some ⟨w1.heap.size + 1, 0, none⟩), .slice BA bl.length bc, .int .i64 (u : Int), .int .i64 0] wz fun e w' => ∃ (b : Bool) (lv' : Value) (rows' : List Value) (L' : List (List Nat)) (more' : Bool), e = .returned (.bool b) ∧ BefMid w' D w.heap.size (u + 1) lv' rows' L' more' (.slice BA bl.length bc) bl))
      have HFA := Lib.hid (fun (wz : World) (u : Nat) (lv : Value) (rows : List Value) (L : List (List Nat)) (more : Bool) (bv : Value) (bl : List Nat) (h : BefMid wz D w.heap.size u lv rows L more bv bl) =>
        (by have h1 := h.dead.facts; have h2 := h.box; subst hD; exact ⟨h1.2.2.2.2.2.2.1, h1.2.2.2.2.2.2.2.1, h2⟩ : wz.cell? ⟨w1.heap.size + 1, 6, none⟩ = some lv ∧ wz.cell? ⟨w1.heap.size + 1, 7, none⟩ = some (.bool more) ∧ RuleAt wz w.heap.size (.int .i64 (k : Int)) (.int .i64 (r : Int)) (.slice A t.length c)))
      have HEND := Lib.hid (fun (wz w' : World) (u : Nat) (lv : Value) (rows : List Value) (L : List (List Nat)) (more : Bool) (bv : Value) (bl : List Nat) (h : BefMid wz D w.heap.size u lv rows L more bv bl) (hu : u ≤ k ^ (2 * r)) (he : more = true ∨ u = k ^ (2 * r)) (hb : Below wz.heap.size wz w') =>
        (by
          have h1 := h.dead.pure hb
          have h2 := h.found
          obtain ⟨LA, lc, hlv, _⟩ := own_slice h1.lst
          subst hD
          subst hlv
          exact ⟨LA, lc, rows, L, more, rfl, h1.lst, fun j l hj => by obtain ⟨v, a1, a2, _⟩ := h1.el j l hj; exact ⟨v, a1, a2⟩, h1.far, h1.old, before_end h2 hu he⟩ : BefPost w most (before k r t W) (.returned (.tuple #[lv, .bool more, .nilIface])) w'))
      have HBM := Lib.hid hbm0
      have HBG := Lib.hid (show 0 < k ^ (2 * r) → List.replicate (2 * r) 0 = digB k (2 * r) 0 from fun _ => by
        have : ∀ n, digB k n 0 = List.replicate n 0 := fun n => by
          induction n with
          | zero => rfl
          | succ n ih => rw [digB, Nat.zero_div, ih, Nat.zero_mod, List.replicate_succ']
        rw [this])
      have hlen0 : (List.replicate (2 * r) 0).length = 2 * r := by simp
      clear hbm0 hbm00 hdd hdead hown hbe hP hRr d0 d1 d2 d3 d4 d5 d6 d7 hok hD hnd
      go_wp2_with fail
      go_loopw [12, 13] (fun bv nv wz => ∃ (u : Nat) (lv : Value) (rows : List Value) (L : List (List Nat)) (more : Bool) (BA : Option Addr) (bc : Nat) (bl : List Nat), u ≤ k ^ (2 * r) ∧ nv = .int .i64 (u : Int) ∧ bv = .slice BA bl.length bc ∧
          Hid (BefMid wz D w.heap.size u lv rows L more (.slice BA bl.length bc) bl) ∧ Hid (u < k ^ (2 * r) → bl = digB k (2 * r) u)) (fun _ nv _ => k ^ (2 * r) - (intOf nv).toNat)
      case atStart => exact ⟨0, _, _, _, _, _, _, _, Nat.zero_le _, rfl, by rw [hlen0], HBM, HBG⟩
      case round =>
        obtain ⟨u, lv, rows, L, more, BA, bc, bl, hu, rfl, rfl, hB, hbl⟩ := hrel
        clear HBM HBG hlen0 b0 b1 b2 hmk'
        obtain ⟨e6, e7, hbx⟩ := HFA.out _ _ _ _ _ _ _ _ hB.out
        obtain ⟨x0, x1, x2, _⟩ := hbx.facts
        by_cases he : more = true ∨ u = k ^ (2 * r)
        · have HEN := Lib.hid (fun (w' : World) => HEND.out wr w' u lv rows L more _ _ hB.out hu he)
          obtain ⟨N, hN⟩ : ∃ N, k ^ (2 * r) = N := ⟨_, rfl⟩
          rw [hN] at HNODES hu he
          have HB := Lib.hid hB
          clear hN hbl HON
          have he' : (more = true ∧ u < N) ∨ u = N := by
            rcases he with h | h
            · rcases Nat.lt_or_ge u N with h' | h'
              · exact Or.inl ⟨h, h'⟩
              · exact Or.inr (by omega)
            · exact Or.inr h
          clear he
          rcases he' with ⟨rfl, hlt⟩ | rfl
          all_goals
            go_wp2_with fail
            refine (HNODES.out _).mono ?_
            rintro e5 wN ⟨rfl, hbN⟩
            obtain ⟨y6, y7, _⟩ := HFA.out wN _ _ _ _ _ _ _ (hB.out.next hbN (bv' := .slice none 0 0) (bl' := []) (World.ownsRow_nil _ _ _ _))
            have HFIN := Lib.hid (HEN.out wN.drew (hbN.drew))
            go_wp2_with fail
            go_region
            go_wp2_with fail
            go_ret3
            exact HFIN.out
        · have hmf : more = false := by cases more with
            | false => rfl
            | true => exact absurd (Or.inl rfl) he
          subst hmf
          have hlt : u < k ^ (2 * r) := by
            rcases Nat.lt_or_ge u (k ^ (2 * r)) with h' | h'
            · exact h'
            · exact absurd (Or.inr (by omega)) he
          have hble := hbl.out hlt
          have hbllen : bl.length = 2 * r := by rw [hble, digB_len]
          have HON2 := Lib.hid (fun (wz : World) (h : BefMid wz D w.heap.size u lv rows L false (.slice BA bl.length bc) bl) => HON.out wz u lv rows L BA bc bl h hlt hble)
          have hsy : ∀ y ∈ bl, y < k := by rw [hble]; exact digB_sym (by omega) _ _
          have hnd : u + 1 < k ^ (2 * r) → nextB k bl = digB k (2 * r) (u + 1) := fun h => by rw [hble]; exact next_dig hk1 h
          have HND := Lib.hid hnd
          obtain ⟨N, hN⟩ : ∃ N, k ^ (2 * r) = N := ⟨_, rfl⟩
          rw [hN] at HNODES hu hlt he hN256
          have HN := Lib.hid hN
          have HB := Lib.hid hB
          have HSY := Lib.hid hsy
          have HBL := Lib.hid hbllen
          clear hN hbl HON hnd hsy he hbllen hble
          go_wp2_with fail
          refine (HNODES.out _).mono ?_
          rintro e5 wN ⟨rfl, hbN⟩
          have hBN : BefMid wN D w.heap.size u lv rows L false (.slice BA bl.length bc) bl := ⟨hB.out.dead.pure hbN, hB.out.found, own_below hB.out.own hbN, hB.out.box.below hbN hB.out.box.lt⟩
          obtain ⟨y6, y7, ybx⟩ := HFA.out wN _ _ _ _ _ _ _ hBN
          have HON3 := Lib.hid (HON2.out wN hBN)
          clear hBN
          go_wp2_with fail
          refine (HON3.out).mono ?_
          rintro e6 wO ⟨b, lv2, rows2, L2, more2, rfl, hB2⟩
          obtain ⟨v6, v7, vbx⟩ := HFA.out wO _ _ _ _ _ _ _ hB2
          obtain ⟨t0, t1, t2, _⟩ := vbx.facts
          have HB2 := Lib.hid hB2
          rcases Nat.eq_zero_or_pos r with hz | hz
          · have hc0 : decide ((0 : Int) < 2 * (r : Int)) = false := decide_eq_false (by omega)
            have hc1 : ¬ 0 < r := by omega
            have HBG := Lib.hid (show u + 1 < k ^ (2 * r) → bl = digB k (2 * r) (u + 1) from fun h => by rw [hz] at h; simp at h)
            clear hB2 hB hz
            go_wp2_with fail
            exact ⟨⟨u + 1, lv2, rows2, L2, more2, BA, bc, bl, by rw [HN.out]; exact hlt, by go_num, rfl, HB2, HBG⟩, by rw [HN.out]; simp [intOf]; omega⟩
          · have hc0 : decide ((0 : Int) < 2 * (r : Int)) = true := decide_eq_true (by omega)
            have hc1 : decide (0 < r) = true := decide_eq_true hz
            have HNX := Lib.hid (next_c wO k BA bl.length bc bl hk1 hk4 HSY.out rfl (Sl.of_own hB2.own) (by rw [HBL.out]; omega) (by rw [HBL.out]; omega))
            clear hB2 hB
            go_wp2_with fail
            refine (HNX.out).mono ?_
            rintro e7 wP ⟨C, cc, rfl, hown3, hb3⟩
            have HB3 := Lib.hid (HB2.out.next hb3 hown3)
            clear hown3 hb3
            go_wp2_with fail
            exact ⟨⟨u + 1, lv2, rows2, L2, more2, C, cc, nextB k bl, by rw [HN.out]; exact hlt, by go_num, rfl, HB3, Lib.hid (fun h => HND.out h)⟩, by rw [HN.out]; simp [intOf]; omega⟩
end Go.Proofs.YthilnpfpllplaaaGreatDoor
