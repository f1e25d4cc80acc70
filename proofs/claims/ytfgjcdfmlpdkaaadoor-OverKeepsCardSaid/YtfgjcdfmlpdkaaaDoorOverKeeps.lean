/- The call of OverKeeps: it returns true. Condition: the lists read from memory; the error variables hold what E says. -/
import Derived.Test.YtfgjcdfmlpdkaaaDoorLentR
import Derived.Test.YtfgjcdfmlpdkaaaDoorLaw8A
import Derived.Test.YtfgjcdfmlpdkaaaDoorOverH
import Derived.Test.YtfgjcdfmlpdkaaaDoorApartC
namespace Go.Proofs.YtfgjcdfmlpdkaaaDoor
open Go.RowKit RuleP

/-- Rows and what they hold. -/
def rowsOf (rows : List Value) (L : List (List Nat)) : List (Value × List Int) := rows.zip (L.map ints)
theorem rowsOf_fst {rows : List Value} {L : List (List Nat)} (h : rows.length = L.length) : (rowsOf rows L).map (·.1) = rows := by
  unfold rowsOf
  exact List.map_fst_zip (by simp; omega)
theorem rowsOf_at {rows : List Value} {L : List (List Nat)} {i : Nat} {p : Value × List Int} (hp : (rowsOf rows L)[i]? = some p) : ∃ v l, rows[i]? = some v ∧ L[i]? = some l ∧ p = (v, ints l) := by
  unfold rowsOf at hp
  rw [List.getElem?_zip_eq_some] at hp
  obtain ⟨h1, h2⟩ := hp
  rw [List.getElem?_map] at h2
  cases hl : L[i]? with
  | none => rw [hl] at h2; cases h2
  | some l =>
    rw [hl] at h2
    have h3 : ints l = p.2 := Option.some.inj h2
    exact ⟨p.1, l, h1, rfl, by rw [h3]⟩
theorem far_of {rows : List Value} {L : List (List Nat)} (h : FarV rows) : Apart.Far (rowsOf rows L) := fun i j p q g hij hp hq hg => by
  obtain ⟨v, l, h1, _, rfl⟩ := rowsOf_at hp
  obtain ⟨v', l', h2, _, rfl⟩ := rowsOf_at hq
  exact h i j v v' g hij h1 h2 hg
theorem far_append {R1 R2 : List (Value × List Int)} (h1 : Apart.Far R1) (h2 : Apart.Far R2) (h : ∀ p ∈ R1, ∀ q ∈ R2, ∀ g, p.1.ownBlock = some g → q.1.ownBlock ≠ some g) : Apart.Far (R1 ++ R2) := by
  have hin : ∀ (i : Nat) (p : Value × List Int), (R1 ++ R2)[i]? = some p → (i < R1.length ∧ R1[i]? = some p) ∨ (R1.length ≤ i ∧ R2[i - R1.length]? = some p) := fun i p hp => by
    rcases Nat.lt_or_ge i R1.length with hl | hl
    · rw [List.getElem?_append_left hl] at hp; exact Or.inl ⟨hl, hp⟩
    · rw [List.getElem?_append_right hl] at hp; exact Or.inr ⟨hl, hp⟩
  intro i j p q g hij hp hq hg hq'
  rcases hin i p hp with ⟨a1, a2⟩ | ⟨a1, a2⟩ <;> rcases hin j q hq with ⟨b1, b2⟩ | ⟨b1, b2⟩
  · exact h1 i j p q g hij a2 b2 hg hq'
  · exact h p (List.mem_of_getElem? a2) q (List.mem_of_getElem? b2) g hg hq'
  · exact h q (List.mem_of_getElem? b2) p (List.mem_of_getElem? a2) g hq' hg
  · exact h2 _ _ p q g (by omega) a2 b2 hg hq'
theorem rows_of {w : World} {R : List (Value × List Int)} (h : ∀ p ∈ R, w.ownsRow 0 3 1 p.1 p.2.length (p.2.map (Value.int .i64))) : Apart.Rows w R 0 0 :=
  ⟨fun i p hp => by
    rw [Apart.cont_zero, if_neg (by omega)]
    exact h p (List.mem_of_getElem? hp)⟩
theorem rows_one {w : World} {base : Nat} {rows : List Value} {L : List (List Nat)} (hl : rows.length = L.length) (hel : ∀ (j : Nat) l, L[j]? = some l → ∃ v, rows[j]? = some v ∧ w.ownsRow base 3 1 v l.length ((ints l).map (Value.int .i64))) : ∀ u ∈ rows, u.oneCell' = true := by
  intro u hu
  obtain ⟨j, hj⟩ := List.getElem?_of_mem hu
  have hjl : j < L.length := by have := (List.getElem?_eq_some_iff.1 hj).1; omega
  obtain ⟨v, h1, h2⟩ := hel j _ (List.getElem?_eq_getElem hjl)
  rw [hj] at h1
  cases h1
  obtain ⟨A, c, rfl, _, _⟩ := own_slice h2
  rfl

/-- What Before has left, later. -/
structure BefRows (w : World) (lo hi : Nat) (rows : List Value) (L : List (List Nat)) : Prop where
  len : rows.length = L.length
  el : ∀ (j : Nat) l, L[j]? = some l → ∃ v, rows[j]? = some v ∧ w.ownsRow lo 3 1 v l.length ((ints l).map (Value.int .i64)) ∧ ∀ g, v.ownBlock = some g → g < hi
  far : FarV rows
theorem BefRows.pure {w w' : World} {lo hi : Nat} {rows : List Value} {L : List (List Nat)} (h : BefRows w lo hi rows L) (hb : Below w.heap.size w w') : BefRows w' lo hi rows L :=
  ⟨h.len, fun j l hj => by obtain ⟨v, a, b, c⟩ := h.el j l hj; exact ⟨v, a, own_below b hb, c⟩, h.far⟩
theorem BefRows.of {w : World} {lo n : Nat} {LA : Option Addr} {lc : Nat} {rows : List Value} {L : List (List Nat)} (hown : w.ownsRow lo 22 1 (.slice LA n lc) n rows) (hn : n = L.length)
    (hel : ∀ (j : Nat) l, L[j]? = some l → ∃ v, rows[j]? = some v ∧ w.ownsRow lo 3 1 v l.length ((ints l).map (Value.int .i64))) (hf : FarV rows) : BefRows w lo w.heap.size rows L :=
  ⟨by have := hown.1; simp at this; omega, fun j l hj => by obtain ⟨v, a, b⟩ := hel j l hj; exact ⟨v, a, b, fun g hg => (b.lt g hg).2⟩, hf⟩
theorem BefRows.mem {w : World} {lo hi : Nat} {rows : List Value} {L : List (List Nat)} (h : BefRows w lo hi rows L) : ∀ p ∈ rowsOf rows L, w.ownsRow 0 3 1 p.1 p.2.length (p.2.map (Value.int .i64)) ∧ (∀ g, p.1.ownBlock = some g → lo ≤ g ∧ g < hi) ∧ ∃ l ∈ L, p.2 = ints l := by
  intro p hp
  obtain ⟨i, hi'⟩ := List.getElem?_of_mem hp
  obtain ⟨v, l, h1, h2, rfl⟩ := rowsOf_at hi'
  obtain ⟨v', a, b, c⟩ := h.el i l h2
  rw [h1] at a
  cases a
  exact ⟨by rw [ints_len]; exact own_base b (Nat.zero_le _), fun g hg => ⟨(b.lt g hg).1, c g hg⟩, l, List.mem_of_getElem? h2, rfl⟩

set_option maxRecDepth 100000 in
set_option maxHeartbeats 1000000 in
theorem overKeeps_long (w : World) (E : Nat → Addr) (hE : Errs w E) (K R : Int) (A B : Option Addr) (n c m d : Nat) (h : 60 < m) :
    Calls Tryd.prog 3 #[ruleV K R A n c, .slice B m d] w fun e w' => e = .returned (.bool true) ∧ Below w.heap.size w w' := by
  have hb0 := (Below.refl w.heap.size w).alloc (Nat.le_refl _) (.cells #[.int .i64 K, .int .i64 R, .slice A n c] 24)
  have HE := Lib.hid (hE.below hb0)
  unfold ruleV at *
  go_enter Tryd.func3, Tryd.ntmps3
  go_wp2_with fail
  refine (awake8_c _ E HE.out).mono ?_
  rintro e w1 ⟨rfl, b1⟩
  have hb1 := below_box b1
  clear b1
  go_wp2_with fail
  go_ret
  exact ⟨rfl, hb1⟩

set_option maxRecDepth 100000 in
set_option maxHeartbeats 4000000 in
theorem overKeeps_bad (w : World) (E : Nat → Addr) (hE : Errs w E) (K R : Int) (A B : Option Addr) (n c m d : Nat) (T W : List Int) (hS : Sl w A n (T.map (Value.int .i64))) (hn : n ≤ c) (_ : c * 8 ≤ 140737488351232)
    (hS1 : Sl w B m (W.map (Value.int .i64))) (_ : m ≤ d) (_ : d * 8 ≤ 140737488351232) (hm : m ≤ 60) (tl : Tale) (hbad : beforeT K R T W 8 = some tl) :
    Calls Tryd.prog 3 #[ruleV K R A n c, .slice B m d] w fun e w' => e = .returned (.bool true) ∧ Below w.heap.size w w' := by
  have hb0 := (Below.refl w.heap.size w).alloc (Nat.le_refl _) (.cells #[.int .i64 K, .int .i64 R, .slice A n c] 24)
  have HE := Lib.hid (hE.below hb0)
  have hr0 := RuleAt.new w (.int .i64 K) (.int .i64 R) (.slice A n c)
  unfold ruleV at *
  go_enter Tryd.func3, Tryd.ntmps3
  go_wp2_with fail
  refine (awake8_c _ E HE.out).mono ?_
  rintro e w1 ⟨rfl, b1⟩
  have hr1 := hr0.below b1 (by simp)
  have hb1 := below_box b1
  clear b1 hb0 hr0
  go_wp2_with fail
  refine (lent_c w1 B m d _ (hS1.below hb1) (ints_one W) (by omega)).mono ?_
  rintro e w2 ⟨rfl, hV2, b2⟩
  have hb2 := hb1.trans (b2.mono hb1.size)
  have hr2 := hr1.below b2 hr1.lt
  have hVs : Sl w2 (some ⟨w1.heap.size, 0, none⟩) m (W.map (Value.int .i64)) := sl_take' (Sl.of_own hV2) (by simpa using hS1.1)
  obtain ⟨r0, r1, r2, _⟩ := hr2.facts
  have HB := Lib.hid (before_bad w2 E (hE.below hb2) K R 8 A (some ⟨w1.heap.size, 0, none⟩) n c m (m + 2) T W (hS.below hb2) (by omega) hVs (by omega) tl hbad)
  have HB2 := Lib.hid hb2
  have HV2 := Lib.hid hV2
  have HS1 := Lib.hid hS1
  unfold ruleV at HB
  clear hr1 hb1 b2 hr2 hV2 hVs hb2 hS1
  go_wp2_with fail
  refine (HB.out).mono ?_
  rintro e w3 ⟨v3, rfl, he3, b3⟩
  obtain ⟨u, q, rfl⟩ := ErrIs.iface (show ErrIs w3 E tl.1 tl.2 v3 from he3)
  have hb3 := HB2.out.trans (b3.mono HB2.out.size)
  have HK := Lib.hid (kept_c w3 (some ⟨w1.heap.size, 0, none⟩) B m (m + 2) d W (HS1.out.below hb3) ((Sl.of_own HV2.out).below b3) (Nat.le_refl _) (by simp only [maxLen]; omega))
  clear he3 b3
  go_wp2_with fail
  refine (HK.out).mono ?_
  rintro e w4 ⟨rfl, b4⟩
  have HBW := Lib.hid (hb3.trans (b4.mono hb3.size))
  clear b4 hb3
  go_wp2_with fail
  go_ret
  exact ⟨rfl, HBW.out⟩

theorem grown_own {B : Nat} {wx w8 w' : World} {e n : Nat} {v : Value} {xs : List Value} (hk : Below B wx w8) (h : w8.ownsRow B e 1 v n xs) (hg : w8.grownBy w' v.ownBlock) (hs : B ≤ w8.heap.size) : Below B wx w' :=
  hk.trans ((Keeps.of_grown hg).below hs (fun b hb => (h.lt b hb).1))
theorem take_len {k r most : Nat} {t w : List Nat} {L : List (List Nat)} {more : Bool} (h : RuleP.Found most (before k r t w) L more) : L.length ≤ most ∧ ∀ y ∈ L, y.length = 2 * r + w.length := by
  have e := h.list
  refine ⟨by rw [e]; simp; omega, fun y hy => ?_⟩
  rw [e] at hy
  exact befTo_len (List.mem_of_mem_take hy)
theorem found_eq {most : Nat} {P L L' : List (List Nat)} {more more' : Bool} (h : RuleP.Found most P L more) (h' : RuleP.Found most P L' more') : L = L' ∧ more = more' :=
  ⟨h.list.trans h'.list.symm, h.more.trans h'.more.symm⟩

set_option maxRecDepth 100000 in
set_option maxHeartbeats 4000000 in
theorem overKeeps_main (w : World) (E : Nat → Addr) (hE : Errs w E) (k r : Nat) (A B : Option Addr) (n c m d : Nat) (t W : List Nat) (hS : Sl w A n ((ints t).map (Value.int .i64))) (hn : n ≤ c) (_ : c * 8 ≤ 140737488351232)
    (hS1 : Sl w B m ((ints W).map (Value.int .i64))) (_ : m ≤ d) (_ : d * 8 ≤ 140737488351232) (hm : m ≤ 60) (hr : IsRule k r t) (hsm : t.length ≤ 256) (hs : ∀ x ∈ W, x < k) :
    Calls Tryd.prog 3 #[ruleV k r A n c, .slice B m d] w fun e w' => e = .returned (.bool true) ∧ Below w.heap.size w w' := by
  have hb0 := (Below.refl w.heap.size w).alloc (Nat.le_refl _) (.cells #[.int .i64 (k : Int), .int .i64 (r : Int), .slice A n c] 24)
  have HE := Lib.hid (hE.below hb0)
  have hr0 := RuleAt.new w (.int .i64 k) (.int .i64 r) (.slice A n c)
  have hWl : W.length = m := by simpa [ints] using hS1.1
  have hS1w : W.length ≤ 60 := by omega
  have hr3 := hr.r3
  unfold ruleV at *
  go_enter Tryd.func3, Tryd.ntmps3
  go_wp2_with fail
  refine (awake8_c _ E HE.out).mono ?_
  rintro e w1 ⟨rfl, b1⟩
  have hr1 := hr0.below b1 (by simp)
  have hb1 := below_box b1
  clear b1 hb0 hr0
  go_wp2_with fail
  refine (lent_c w1 B m d _ (hS1.below hb1) (ints_one _) (by omega)).mono ?_
  rintro e w2 ⟨rfl, hV2, b2⟩
  have hb2 := hb1.trans (b2.mono hb1.size)
  have hr2 := hr1.below b2 hr1.lt
  have hVs : Sl w2 (some ⟨w1.heap.size, 0, none⟩) m ((ints W).map (Value.int .i64)) := sl_take' (Sl.of_own hV2) (by simpa using hS1.1)
  have hv2 := (hV2.lt _ rfl).2
  obtain ⟨r0, r1, r2, _⟩ := hr2.facts
  have HBF := Lib.hid (fun (wz : World) (hz : Below w2.heap.size w2 wz) => before_good wz E (hE.below (hb2.trans (hz.mono hb2.size))) k r 8 A (some ⟨w1.heap.size, 0, none⟩) n c m (m + 2) t W hr hsm hs (hS.below (hb2.trans (hz.mono hb2.size))) (hVs.below hz) (by omega) (by decide))
  have HPA := Lib.hid (fun (wz : World) (hz : Below w2.heap.size w2 wz) => path_good wz E (hE.below (hb2.trans (hz.mono hb2.size))) k r A (some ⟨w1.heap.size, 0, none⟩) n c m (m + 2) t W hr hsm hs (hS.below (hb2.trans (hz.mono hb2.size))) (hVs.below hz) (by omega))
  have HFX := Lib.hid (fun (wz : World) (hz : Below w2.heap.size w2 wz) => (hr2.below hz hr2.lt).facts)
  have HB2 := Lib.hid hb2
  have HV2 := Lib.hid hV2
  have HS1 := Lib.hid hS1
  unfold ruleV at HBF HPA
  clear hr1 hb1 b2 hr2 hV2 hVs hb2 hS1 hS hE hr hs
  go_wp2_with fail
  refine (HBF.out w2 (Below.refl _ _)).mono ?_
  rintro e w3 ⟨LA, lc, rows, L, more, rfl, ho3, hel3, hf3, b3, hF3⟩
  obtain ⟨r0, r1, r2, _⟩ := HFX.out w3 b3
  go_wp2_with fail
  refine (HBF.out w3 b3).mono ?_
  rintro e w4 ⟨LB, ld, rows4, L4, more4, rfl, ho4, hel4, hf4, b4, hF4⟩
  obtain ⟨rfl, rfl⟩ := found_eq hF3 hF4
  have c4 := b3.trans (b4.mono b3.size)
  obtain ⟨r0, r1, r2, _⟩ := HFX.out w4 c4
  go_wp2_with fail
  refine (HPA.out w4 c4).mono ?_
  rintro e w5 ⟨C, cc, D, dd, rfl, hC, hD, hfar, b5⟩
  have c5 := c4.trans (b5.mono c4.size)
  have hLl := (take_len hF3).1
  have hLe := (take_len hF3).2
  have s3 := b3.size
  have s4 := b4.size
  have s5 := b5.size
  have hQ3 := ((BefRows.of ho3 rfl hel3 hf3).pure b4).pure b5
  have hQ4 := (BefRows.of ho4 rfl hel4 hf4).pure b5
  have hl3 := ((bef_list ho3 rfl hel3).keep b4).keep b5
  have hl4 := (bef_list ho4 rfl hel4).keep b5
  have hro3 := own_below (own_below ho3 b4) b5
  have hro4 := own_below ho4 b5
  have HLS := Lib.hid (lists_same w5 LA LB L.length lc ld _ hl3 hl4 (by omega))
  clear ho3 hel3 hf3 ho4 hel4 hf4 hl3 hl4 b3 b4 hF3 hF4 r0 r1 r2 c4
  go_wp2_with fail
  refine (HLS.out).mono ?_
  rintro e w6 ⟨rfl, b6⟩
  have c6 := c5.trans (b6.mono c5.size)
  have s6 := b6.size
  have ba := (Below.refl w6.heap.size w6).alloc (Nat.le_refl _) (.cells #[.slice C (m + 1 - 2 * r) cc, .slice D (m - 2 * r) dd] 22)
  have hlit := World.ownsRow_lit (base := w6.heap.size) (e := 22) (size := 1) w6 #[.slice C (m + 1 - 2 * r) cc, .slice D (m - 2 * r) dd] 2 (Nat.le_refl _) (by decide) rfl
  obtain ⟨w7, hw7⟩ : ∃ w7, w6.alloc (.cells #[.slice C (m + 1 - 2 * r) cc, .slice D (m - 2 * r) dd] 22) = w7 := ⟨_, rfl⟩
  have HW7 := Lib.hid hw7
  rw [hw7] at ba hlit
  have b67 := b6.trans (ba.mono b6.size)
  have c7 := c6.trans (ba.mono c6.size)
  have hQ37 := hQ3.pure b67
  have hQ47 := hQ4.pure b67
  have hC7 := own_below hC b67
  have hD7 := own_below hD b67
  have h37 := own_below hro3 b67
  have h47 := own_below hro4 b67
  have hone3 := rows_one hQ37.len (fun j l hj => by obtain ⟨v, a, b, _⟩ := hQ37.el j l hj; exact ⟨v, a, b⟩)
  have hone4 := rows_one hQ47.len (fun j l hj => by obtain ⟨v, a, b, _⟩ := hQ47.el j l hj; exact ⟨v, a, b⟩)
  have H3 := Lib.hid hone3
  have H4 := Lib.hid hone4
  have hs37 := Sl.of_own h37
  have hs47 := Sl.of_own h47
  have hs64 := Sl.of_own (own_below hro4 b6)
  have hQ36 := hQ3.pure b6
  have hQ46 := hQ4.pure b6
  have hC6 := own_below hC b6
  have hD6 := own_below hD b6
  have HC6 := Lib.hid c6
  have hnl : (nodesW k r W).length = m + 1 - 2 * r := by unfold nodesW; rw [nodesTo_len, hWl]
  have hil : (image k r t W).length = m - 2 * r := by rw [image_len, hWl]
  have HNL := Lib.hid hnl
  have HIL := Lib.hid hil
  have Z := Lib.hid (⟨s3, s4, s5, s6, hv2⟩ : w2.heap.size ≤ w3.heap.size ∧ w3.heap.size ≤ w4.heap.size ∧ w4.heap.size ≤ w5.heap.size ∧ w5.heap.size ≤ w6.heap.size ∧ w1.heap.size < w2.heap.size)
  have HFAR := Lib.hid hfar
  have HLE := Lib.hid hLe
  clear b6 hone3 hone4 hQ3 hQ4 hC hD hro3 hro4 b5 b67 c6 hQ37 hQ47 hC7 hD7 h37 h47 hs47 s3 s4 s5 s6 hnl hil hfar hLe hWl HW7
  subst hw7
  go_wp2_with (first
    | (at_builtin; refine wpList_cat rfl (.tmp 64) (.tmp 65) _ rfl tIntss hlit rfl hs37 rfl H3.out (by simp only [maxLen]; omega) (by omega) ba.size ?_; intro v8 w8 hown8 hg8 hv8 _; obtain ⟨C8, cc8, rfl, _, _⟩ := own_slice hown8; have hb8 := grown_own ba hlit hg8 ba.size; have hs84 := hs64.below hb8)
    | (at_builtin; refine wpList_cat rfl (.tmp 67) (.tmp 68) _ rfl tIntss hown8 rfl hs84 rfl H4.out (by simp only [maxLen]; omega) (by omega) hb8.size ?_; intro v9 w9 hown9 hg9 hv9 _; obtain ⟨C9, cc9, rfl, _, _⟩ := own_slice hown9; have hb9 := grown_own hb8 hown8 hg9 hb8.size))
  obtain ⟨s3, s4, s5, s6, hv2'⟩ := Z.out
  have c9 := HC6.out.trans (hb9.mono HC6.out.size)
  have hQ39 := hQ36.pure hb9
  have hQ49 := hQ46.pure hb9
  have hC9 := own_below hC6 hb9
  have hD9 := own_below hD6 hb9
  have hV9 := own_below HV2.out c9
  have hcd : ∀ p ∈ [(Value.slice C (m + 1 - 2 * r) cc, ints (nodesW k r W)), (Value.slice D (m - 2 * r) dd, ints (image k r t W))], w9.ownsRow 0 3 1 p.1 p.2.length (p.2.map (Value.int .i64)) ∧ (∀ g, p.1.ownBlock = some g → w4.heap.size ≤ g ∧ g < w6.heap.size) ∧ p.2.length ≤ 1000 := by
    intro p hp
    simp only [List.mem_cons, List.not_mem_nil, or_false] at hp
    rcases hp with rfl | rfl
    · refine ⟨by rw [ints_len, HNL.out]; exact own_base hC9 (Nat.zero_le _), fun g hg => ⟨(hC9.lt g hg).1, (hC6.lt g hg).2⟩, by rw [ints_len, HNL.out]; omega⟩
    · refine ⟨by rw [ints_len, HIL.out]; exact own_base hD9 (Nat.zero_le _), fun g hg => ⟨(hD9.lt g hg).1, (hD6.lt g hg).2⟩, by rw [ints_len, HIL.out]; omega⟩
  have hR1 := hQ39.mem
  have hR2 := hQ49.mem
  obtain ⟨R, hR⟩ : ∃ R, [(Value.slice C (m + 1 - 2 * r) cc, ints (nodesW k r W)), (Value.slice D (m - 2 * r) dd, ints (image k r t W))] ++ (rowsOf rows L ++ rowsOf rows4 L) = R := ⟨_, rfl⟩
  have hall : ∀ p ∈ R, w9.ownsRow 0 3 1 p.1 p.2.length (p.2.map (Value.int .i64)) ∧ (∀ g, p.1.ownBlock = some g → w2.heap.size ≤ g ∧ g < w6.heap.size) ∧ p.2.length ≤ 1000 := by
    intro p hp
    rw [← hR] at hp
    rcases List.mem_append.1 hp with h | h
    · obtain ⟨a1, a2, a3⟩ := hcd p h
      exact ⟨a1, fun g hg => by have := a2 g hg; omega, a3⟩
    · rcases List.mem_append.1 h with h | h
      · obtain ⟨a1, a2, l, hl, a3⟩ := hR1 p h
        exact ⟨a1, fun g hg => by have := a2 g hg; omega, by rw [a3, ints_len, HLE.out l hl]; have := hS1w; omega⟩
      · obtain ⟨a1, a2, l, hl, a3⟩ := hR2 p h
        exact ⟨a1, fun g hg => by have := a2 g hg; omega, by rw [a3, ints_len, HLE.out l hl]; have := hS1w; omega⟩
  have hfarR : Apart.Far R := by
    rw [← hR]
    refine far_append ?_ (far_append (far_of hQ39.far) (far_of hQ49.far) ?_) ?_
    · intro i j p q g hij hp hq hg hq'
      match i, j, hij, hp, hq with
      | 0, 0, hij, _, _ => exact hij rfl
      | 0, 1, _, hp, hq => simp at hp hq; subst hp hq; exact HFAR.out g hg hq'
      | 1, 0, _, hp, hq => simp at hp hq; subst hp hq; exact HFAR.out g hq' hg
      | 1, 1, hij, _, _ => exact hij rfl
      | i + 2, _, _, hp, _ => simp at hp
      | 0, j + 2, _, _, hq => simp at hq
      | 1, j + 2, _, _, hq => simp at hq
    · intro p hp q hq g hg hg'
      have h1 := (hR1 p hp).2.1 g hg
      have h2 := (hR2 q hq).2.1 g hg'
      omega
    · intro p hp q hq g hg hg'
      have h1 := (hcd p hp).2.1 g hg
      rcases List.mem_append.1 hq with h | h
      · have h2 := (hR1 q h).2.1 g hg'; omega
      · have h2 := (hR2 q h).2.1 g hg'; omega
  have hfst : R.map (·.1) = (#[Value.slice C (m + 1 - 2 * r) cc, Value.slice D (m - 2 * r) dd].toList ++ rows) ++ rows4 := by
    rw [← hR, List.map_append, List.map_append, rowsOf_fst hQ39.len, rowsOf_fst hQ49.len, ← List.append_assoc]
    rfl
  have hL9 := Sl.of_own hown9
  rw [← hfst] at hL9
  have hfoot : ∀ b, Apart.Foot R b → w2.heap.size ≤ b ∧ b < w6.heap.size := by
    rintro b ⟨p, hp, hg⟩
    exact (hall p hp).2.1 b hg
  have HAP := Lib.hid (apart_c w9 C9 (2 + L.length + L.length) cc9 R hL9 (rows_of (fun p hp => (hall p hp).1)) hfarR (fun ad e hf => by
    have h1 := (hown9.lt ad.block (by rw [e]; rfl)).1
    have h2 := hfoot _ hf
    omega) (by omega) (fun p hp => by have := (hall p hp).2.2; omega))
  have HFT := Lib.hid hfoot
  clear hQ39 hQ49 hC9 hD9 hR1 hR2 hall hfarR hfst hL9 hfoot hcd hR hown9 hg9 hown8 hg8 hv8 hv9 hlit ba hQ36 hQ46 hC6 hD6 hs37 hs64
  refine (HAP.out).mono ?_
  rintro e w10 ⟨rfl, hk10⟩
  have hV10 := own_keeps hV9 hk10 (fun g hg h => by have h1 := HFT.out g h; have : w1.heap.size = g := by simpa [Value.ownBlock] using hg
                                                    omega)
  have hb2s := HB2.out.size
  have hb9w := HB2.out.trans (c9.mono HB2.out.size)
  have hb10 := hb9w.trans (hk10.below hb9w.size (fun b h => by have h1 := HFT.out b h; omega))
  have HK := Lib.hid (kept_c w10 (some ⟨w1.heap.size, 0, none⟩) B m (m + 2) d (ints W) (HS1.out.below hb10) (Sl.of_own hV10) (Nat.le_refl _) (by simp only [maxLen]; omega))
  have HB10 := Lib.hid hb10
  clear hk10 hV10 hV9 hb9w hb10 hb2s
  go_wp2_with fail
  refine (HK.out).mono ?_
  rintro e w11 ⟨rfl, b11⟩
  have HBW := Lib.hid (HB10.out.trans (b11.mono HB10.out.size))
  clear b11
  go_wp2_with fail
  go_ret
  exact ⟨rfl, HBW.out⟩

theorem overKeeps_c (w : World) (E : Nat → Addr) (hE : Errs w E) (K R : Int) (A B : Option Addr) (n c m d : Nat) (T W : List Int) (hS : Sl w A n (T.map (Value.int .i64))) (hn : n ≤ c) (hz : c * 8 ≤ 140737488351232)
    (hS1 : Sl w B m (W.map (Value.int .i64))) (hn1 : m ≤ d) (hz1 : d * 8 ≤ 140737488351232) :
    Calls Tryd.prog 3 #[ruleV K R A n c, .slice B m d] w fun e w' => e = .returned (.bool true) ∧ Below w.heap.size w w' := by
  by_cases h1 : 60 < m
  · exact overKeeps_long w E hE K R A B n c m d h1
  · cases h : beforeT K R T W 8 with
    | some tl => exact overKeeps_bad w E hE K R A B n c m d T W hS hn hz hS1 hn1 hz1 (by omega) tl h
    | none =>
      obtain ⟨k, r, q, t, v, rfl, rfl, _, rfl, rfl, hr, hl, _, _, hs⟩ := beforeT_none h
      exact overKeeps_main w E hE k r A B n c m d t v hS hn hz hS1 hn1 hz1 (by omega) hr hl hs

theorem befTo_sub {k r n : Nat} {t w y : List Nat} (h : y ∈ befTo k r t w n) : y.length ≤ 2 * r + w.length := Nat.le_of_eq (befTo_len h)
end Go.Proofs.YtfgjcdfmlpdkaaaDoor
