/- The tops' own checks: decides and counts of edentop. Condition: the error variables hold what E says. How many ways lead from each node, place by place, as plain lists; for a word they are its preimages. No program. No condition. Mirrored, and with other names for the symbols, words and rings have as many preimages, and as many rings stay as they are. Plain lists, no program. No condition. By a rule that permutes at one end of the window each word has just its fair share of preimages. Plain lists, no program. No condition. What count tells of a rule and a word, and which windows fit: count.wrong, small, symbols, the closures. Condition: the lists read from memory; the error variables hold what E says. How great the numbers of ways can be: plain lists, no program. No condition. count.ways: of each node how many ways lead from it, place by place. Condition: the closure answers whether a window fits, and writes to nothing that was there. -/
import Derived.Deep.RegionHeld3
import Derived.Deep.RegionLaw
import Derived.IntWalk
import Derived.Test.YtibplgpolmplpaaGreatDoorW3
import Derived.Test.YtibplgpolmplpaaGreatDoorW8
import Derived.Test.YtibplgpolmplpaaGreatDoorW10
import Derived.Test.YtibplgpolmplpaaGreatDoorW15
import Derived.Test.YtibplgpolmplpaaGreatDoorW16
import Derived.Test.YtibplgpolmplpaaGreatDoorW20
namespace Go.Proofs.YtibplgpolmplpaaGreatDoor
open Go.RowKit RuleP SubP

theorem ecaT_90 : ecaT 90 8 = [0, 1, 0, 1, 1, 0, 1, 0] := by decide
theorem ecaT_110 : ecaT 110 8 = [0, 1, 1, 1, 0, 1, 1, 0] := by decide
theorem ecaT_0 : ecaT 0 8 = [0, 0, 0, 0, 0, 0, 0, 0] := by decide
theorem eca_rule90 : IsRule 2 1 [0, 1, 0, 1, 1, 0, 1, 0] := ⟨by decide, by decide, by decide, by decide, by decide⟩
theorem eca_rule110 : IsRule 2 1 [0, 1, 1, 1, 0, 1, 1, 0] := ⟨by decide, by decide, by decide, by decide, by decide⟩
theorem eca_rule0 : IsRule 2 1 [0, 0, 0, 0, 0, 0, 0, 0] := ⟨by decide, by decide, by decide, by decide, by decide⟩
theorem eca_round110 : ∃ n, n ≤ 4097 ∧ roundTo 2 4 [0, 1, 1, 1, 0, 1, 1, 0] true n = .orphan [0, 1, 0, 1, 0] := ⟨16, by decide, by kernel_rfl⟩
theorem eca_fin110 : fin 2 (2 ^ (2 * 1)) [0, 1, 1, 1, 0, 1, 1, 0] true = .orphan [0, 1, 0, 1, 0] := by
  obtain ⟨n, hn, h⟩ := eca_round110
  have := round_over (.inl ⟨_, rfl⟩) h (4097 - n)
  rw [Nat.add_sub_cancel' hn] at this
  exact this
theorem eca_round90 : roundTo 2 4 [0, 1, 0, 1, 1, 0, 1, 0] true 1 = .go ⟨[[true, true, true, true]], [[]], [[0, 0]]⟩ [] := by kernel_rfl
theorem eca_fin90 : ∃ S, fin 2 (2 ^ (2 * 1)) [0, 1, 0, 1, 1, 0, 1, 0] true = .go S [] := ⟨_, fin_go eca_round90 (by decide) (by decide)⟩

/-- The error variables, and what else the calls ask of the world. -/
def ErrW (w : World) (E : Nat → Addr) : Prop := Errs w E ∧ ErrT w ∧ Apart12 E ∧ ErrBlk w E
theorem ErrW.below {w w' : World} {E : Nat → Addr} (h : ErrW w E) (hb : Below w.heap.size w w') : ErrW w' E := ⟨h.1.below hb, h.2.1.below hb, h.2.2.1, h.2.2.2.below hb⟩

theorem onto90_c (w : World) (E : Nat → Addr) (hE : ErrW w E) (A : Option Addr) (c : Nat) (hT : Sl w A 8 ((ints (ecaT 90 8)).map (Value.int .i64))) :
    Calls Tryz.prog 9 #[ruleV 2 1 A 8 c] w fun e w' => e = .returned (.tuple #[.bool true, .slice none 0 0, .nilIface]) ∧ Below w.heap.size w w' := by
  rw [ecaT_90] at hT
  obtain ⟨S, hS⟩ := eca_fin90
  exact (onto_good w E hE.1 hE.2.1 hE.2.2.1 hE.2.2.2 2 1 A 8 c _ hT eca_rule90 (by decide)).mono fun _ _ h => h.1 S hS
theorem onto110_c (w : World) (E : Nat → Addr) (hE : ErrW w E) (A : Option Addr) (c : Nat) (hT : Sl w A 8 ((ints (ecaT 110 8)).map (Value.int .i64))) :
    Calls Tryz.prog 9 #[ruleV 2 1 A 8 c] w fun e w' => ∃ (C : Option Addr) (d : Nat), e = .returned (.tuple #[.bool false, .slice C 5 d, .nilIface]) ∧ Below w.heap.size w w' := by
  rw [ecaT_110] at hT
  refine (onto_good w E hE.1 hE.2.1 hE.2.2.1 hE.2.2.2 2 1 A 8 c _ hT eca_rule110 (by decide)).mono fun _ _ h => ?_
  obtain ⟨v, rfl, ho, hb⟩ := h.2.1 _ eca_fin110
  obtain ⟨C, d, rfl, _, _⟩ := own_slice ho
  exact ⟨C, d, rfl, hb⟩
theorem finite90_c (w : World) (E : Nat → Addr) (hE : ErrW w E) (A : Option Addr) (c : Nat) (hT : Sl w A 8 ((ints (ecaT 90 8)).map (Value.int .i64))) :
    Calls Tryz.prog 19 #[ruleV 2 1 A 8 c] w fun e w' => ∃ (C : Option Addr) (n d : Nat) (v : Value), e = .returned (.tuple #[.bool true, .slice C n d, v, .nilIface]) ∧ Below w.heap.size w w' := by
  rw [ecaT_90] at hT
  refine (finite_c w E hE.1 2 1 8 c A _ hT eca_rule90 (by decide)).mono fun _ _ h => ?_
  obtain ⟨f, C, n, d, v, rfl, hb, _, _, h0⟩ := h
  obtain ⟨h1, _⟩ := h0 (by decide)
  obtain rfl : f = true := h1.2 PairP.meet_90
  exact ⟨C, n, d, v, rfl, hb⟩
theorem finite0_c (w : World) (E : Nat → Addr) (hE : ErrW w E) (A : Option Addr) (c : Nat) (hT : Sl w A 8 ((ints (ecaT 0 8)).map (Value.int .i64))) :
    Calls Tryz.prog 19 #[ruleV 2 1 A 8 c] w fun e w' => ∃ (C : Option Addr) (d : Nat) (v : Value), e = .returned (.tuple #[.bool false, .slice C 5 d, v, .nilIface]) ∧ Below w.heap.size w w' := by
  rw [ecaT_0] at hT
  refine (finite_c w E hE.1 2 1 8 c A _ hT eca_rule0 (by decide)).mono fun _ _ h => ?_
  obtain ⟨f, C, n, d, v, rfl, hb, _, _, h0⟩ := h
  obtain ⟨h1, h2⟩ := h0 (by decide)
  have hm : (MeetP.meetF (2 ^ (2 * 1)) (PairP.pairG 2 (2 ^ (2 * 1)) [0, 0, 0, 0, 0, 0, 0, 0])).length = 4 := PairP.meet_0
  cases f with
  | true =>
    have := h1.1 rfl
    rw [this] at hm
    cases hm
  | false =>
    have h3 := h2 rfl
    rw [hm] at h3
    obtain rfl : n = 5 := by omega
    exact ⟨C, d, v, rfl, hb⟩

set_option maxRecDepth 100000 in
set_option maxHeartbeats 2000000 in
theorem decides_c (w : World) (E : Nat → Addr) (hE : ErrW w E) : Calls Tryz.prog 30 #[] w fun e w' => e = .returned (.bool true) ∧ Below w.heap.size w w' := by
  have HE := Lib.hid (fun (wz : World) (hz : Below w.heap.size w wz) => hE.below hz)
  clear hE
  go_enter Tryz.func30, Tryz.ntmps30
  have HC1 := Lib.hid (eca_c w 90 (by decide))
  go_wp2_with fail
  refine (HC1.out).mono ?_
  rintro e w1 ⟨A1, c1, rfl, hT1, hb1⟩
  have HO1 := onto90_c w1 E (HE.out w1 hb1) A1 c1 hT1
  unfold ruleV at HO1
  have HO1 := Lib.hid HO1
  have HB1 := Lib.hid hb1
  clear hT1 hb1 HC1
  go_wp2_with fail
  refine (HO1.out).mono ?_
  rintro e w2 ⟨rfl, hb2⟩
  have HB2 := Lib.hid (HB1.out.trans (hb2.mono HB1.out.size))
  have HC2 := Lib.hid (eca_c w2 110 (by decide))
  clear hb2 HO1
  go_wp2_with fail
  refine (HC2.out).mono ?_
  rintro e w3 ⟨A3, c3, rfl, hT3, hb3⟩
  have hb03 := HB2.out.trans (hb3.mono HB2.out.size)
  have HO3 := onto110_c w3 E (HE.out w3 hb03) A3 c3 hT3
  unfold ruleV at HO3
  have HO3 := Lib.hid HO3
  have HB3 := Lib.hid hb03
  clear hT3 hb3 hb03 HC2
  go_wp2_with fail
  refine (HO3.out).mono ?_
  rintro e w4 ⟨C4, d4, rfl, hb4⟩
  have HB4 := Lib.hid (HB3.out.trans (hb4.mono HB3.out.size))
  have HC4 := Lib.hid (eca_c w4 90 (by decide))
  clear hb4 HO3
  go_wp2_with fail
  refine (HC4.out).mono ?_
  rintro e w5 ⟨A5, c5, rfl, hT5, hb5⟩
  have hb05 := HB4.out.trans (hb5.mono HB4.out.size)
  have HF5 := finite90_c w5 E (HE.out w5 hb05) A5 c5 hT5
  unfold ruleV at HF5
  have HF5 := Lib.hid HF5
  have HB5 := Lib.hid hb05
  clear hT5 hb5 hb05 HC4
  go_wp2_with fail
  refine (HF5.out).mono ?_
  rintro e w6 ⟨C6, n6, d6, v6, rfl, hb6⟩
  have HB6 := Lib.hid (HB5.out.trans (hb6.mono HB5.out.size))
  have HC6 := Lib.hid (eca_c w6 0 (by decide))
  clear hb6 HF5
  go_wp2_with fail
  refine (HC6.out).mono ?_
  rintro e w7 ⟨A7, c7, rfl, hT7, hb7⟩
  have hb07 := HB6.out.trans (hb7.mono HB6.out.size)
  have HF7 := finite0_c w7 E (HE.out w7 hb07) A7 c7 hT7
  unfold ruleV at HF7
  have HF7 := Lib.hid HF7
  have HB7 := Lib.hid hb07
  clear hT7 hb7 hb07 HC6
  go_wp2_with fail
  refine (HF7.out).mono ?_
  rintro e w8 ⟨C8, d8, v8, rfl, hb8⟩
  have HB8 := Lib.hid (HB7.out.trans (hb8.mono HB7.out.size))
  clear hb8 HF7
  go_wp2_with fail
  go_ret
  exact ⟨rfl, HB8.out⟩
end Go.Proofs.YtibplgpolmplpaaGreatDoor

namespace Go.Proofs.YtibplgpolmplpaaGreatDoor
namespace RuleP

/-- One place: the windows one by one. -/
def stepW (k N : Nat) (p : Nat → Bool) (V : List Nat) : Nat → List Nat
  | 0 => List.replicate N 0
  | i + 1 => if p i = true then (stepW k N p V i).set (i / k) ((stepW k N p V i).getD (i / k) 0 + V.getD (i % N) 0) else stepW k N p V i
theorem stepW_succ (k N : Nat) (p : Nat → Bool) (V : List Nat) (i : Nat) : stepW k N p V (i + 1) = if p i = true then (stepW k N p V i).set (i / k) ((stepW k N p V i).getD (i / k) 0 + V.getD (i % N) 0) else stepW k N p V i := by rw [stepW]
theorem stepW_len (k N : Nat) (p : Nat → Bool) (V : List Nat) : ∀ i, (stepW k N p V i).length = N
  | 0 => by rw [stepW, List.length_replicate]
  | i + 1 => by
    rw [stepW_succ]
    split
    · rw [List.length_set, stepW_len k N p V i]
    · exact stepW_len k N p V i
def sumW (k N : Nat) (p : Nat → Bool) (V : List Nat) (u s : Nat) : Nat := ((List.range s).map fun s => if p (u * k + s) = true then V.getD ((u * k + s) % N) 0 else 0).sum
theorem sumW_zero (k N : Nat) (p : Nat → Bool) (V : List Nat) (u : Nat) : sumW k N p V u 0 = 0 := rfl
theorem sumW_succ (k N : Nat) (p : Nat → Bool) (V : List Nat) (u s : Nat) : sumW k N p V u (s + 1) = sumW k N p V u s + if p (u * k + s) = true then V.getD ((u * k + s) % N) 0 else 0 := by
  unfold sumW
  rw [List.range_succ, List.map_append, List.sum_append]
  simp
theorem stepW_at {k N : Nat} (hk : 0 < k) (p : Nat → Bool) (V : List Nat) : ∀ i, i ≤ N * k → ∀ u, u < N → (stepW k N p V i).getD u 0 = sumW k N p V u (min (i - u * k) k)
  | 0, _, u, hu => by
    rw [stepW, Nat.zero_sub, Nat.zero_min, sumW_zero, List.getD_eq_getElem?_getD, List.getElem?_replicate, if_pos hu]
    rfl
  | i + 1, hi, u, hu => by
    have ih := stepW_at hk p V i (by omega) u hu
    have hq : i / k < N := by
      rw [Nat.div_lt_iff_lt_mul hk]
      omega
    rw [stepW_succ]
    by_cases e : i / k = u
    · have h1 : u * k + i % k = i := by rw [← e, Nat.mul_comm]; exact Nat.div_add_mod i k
      have h2 : i % k < k := Nat.mod_lt _ hk
      have e1 : min (i - u * k) k = i % k := by omega
      have e2 : min (i + 1 - u * k) k = i % k + 1 := by omega
      rw [e1] at ih
      rw [e2, sumW_succ, h1, ← ih]
      by_cases hp : p i = true
      · rw [if_pos hp, if_pos hp, e, List.getD_eq_getElem?_getD, List.getElem?_set, if_pos rfl, if_pos (by rw [stepW_len]; exact hu)]
        rfl
      · rw [if_neg hp, if_neg hp, Nat.add_zero]
    · have h1 : (if p i = true then (stepW k N p V i).set (i / k) ((stepW k N p V i).getD (i / k) 0 + V.getD (i % N) 0) else stepW k N p V i).getD u 0 = (stepW k N p V i).getD u 0 := by
        split
        · rw [List.getD_eq_getElem?_getD, List.getElem?_set, if_neg e, ← List.getD_eq_getElem?_getD]
        · rfl
      rw [h1, ih]
      congr 1
      rcases Nat.lt_or_ge (i / k) u with hl | hg
      · have h3 : i < u * k := (Nat.div_lt_iff_lt_mul hk).1 hl
        rw [show i - u * k = 0 by omega, show i + 1 - u * k = 0 by omega]
      · have h3 : u + 1 ≤ i / k := by omega
        have h4 := (Nat.le_div_iff_mul_le hk).1 h3
        rw [Nat.succ_mul] at h4
        rw [Nat.min_eq_right (by omega), Nat.min_eq_right (by omega)]
theorem stepW_all {k N : Nat} (hk : 0 < k) (p : Nat → Bool) (V : List Nat) {u : Nat} (hu : u < N) : (stepW k N p V (N * k)).getD u 0 = sumW k N p V u k := by
  rw [stepW_at hk p V (N * k) (Nat.le_refl _) u hu]
  have h1 := Nat.mul_le_mul_right k (show u + 1 ≤ N from hu)
  rw [Nat.succ_mul] at h1
  rw [Nat.min_eq_right (by omega)]
/-- The last j of n places. -/
def waysW (k N : Nat) (p : Nat → Nat → Bool) (n : Nat) (ends : List Nat) : Nat → List Nat
  | 0 => ends
  | j + 1 => stepW k N (p (n - 1 - j)) (waysW k N p n ends j) (N * k)
theorem waysW_len {k N : Nat} (p : Nat → Nat → Bool) (n : Nat) {ends : List Nat} (h : ends.length = N) : ∀ j, (waysW k N p n ends j).length = N
  | 0 => h
  | _ + 1 => stepW_len _ _ _ _ _
theorem sols_sum {k N : Nat} {t : List Nat} {u c : Nat} {w : List Nat} : (sols k N t u (c :: w)).length = ((List.range k).map fun s => if t.getD (u * k + s) 0 = c then (sols k N t ((u * k + s) % N) w).length else 0).sum := by
  simp only [sols]
  rw [List.length_flatMap]
  congr 1
  refine List.map_congr_left fun s _ => ?_
  split
  · rw [List.length_map]
  · rfl
theorem ways_sols {k N : Nat} {t w : List Nat} (hk : 0 < k) (hN : 0 < N) : ∀ j, j ≤ w.length → ∀ u, u < N →
    (waysW k N (fun place i => decide (t.getD i 0 = w.getD place 0)) w.length (List.replicate N 1) j).getD u 0 = (sols k N t u (w.drop (w.length - j))).length
  | 0, _, u, hu => by
    rw [Nat.sub_zero, List.drop_length]
    show (List.replicate N 1).getD u 0 = _
    rw [List.getD_eq_getElem?_getD, List.getElem?_replicate, if_pos hu]
    simp [sols]
  | j + 1, hj, u, hu => by
    rw [waysW, stepW_all hk _ _ hu]
    have hl : w.length - (j + 1) < w.length := by omega
    have e : w.drop (w.length - (j + 1)) = w.getD (w.length - (j + 1)) 0 :: w.drop (w.length - j) := by
      rw [List.drop_eq_getElem_cons hl, List.getD_eq_getElem?_getD, List.getElem?_eq_getElem hl, show w.length - (j + 1) + 1 = w.length - j by omega]
      rfl
    rw [e, sols_sum]
    unfold sumW
    congr 1
    refine List.map_congr_left fun s _ => ?_
    rw [show w.length - 1 - j = w.length - (j + 1) by omega, ways_sols hk hN j (by omega) _ (Nat.mod_lt _ hN)]
    by_cases h : t.getD (u * k + s) 0 = w.getD (w.length - (j + 1)) 0
    · rw [if_pos (decide_eq_true h), if_pos h]
    · rw [if_neg (fun e' => h (of_decide_eq_true e')), if_neg h]
/-- All preimages of a word. -/
theorem ways_before {k r : Nat} {t w : List Nat} (hk : 0 < k) : (waysW k (k ^ (2 * r)) (fun place i => decide (t.getD i 0 = w.getD place 0)) w.length (List.replicate (k ^ (2 * r)) 1) w.length).sum = (before k r t w).length := by
  have hN : 0 < k ^ (2 * r) := Nat.pow_pos hk
  obtain ⟨V, hV⟩ : ∃ V, waysW k (k ^ (2 * r)) (fun place i => decide (t.getD i 0 = w.getD place 0)) w.length (List.replicate (k ^ (2 * r)) 1) w.length = V := ⟨_, rfl⟩
  have hl : V.length = k ^ (2 * r) := by rw [← hV]; exact waysW_len _ _ (by rw [List.length_replicate]) _
  have hat : ∀ u, u < k ^ (2 * r) → V.getD u 0 = (sols k (k ^ (2 * r)) t u w).length := fun u hu => by
    have h := ways_sols (t := t) (w := w) hk hN w.length (Nat.le_refl _) u hu
    rw [hV, Nat.sub_self, List.drop_zero] at h
    exact h
  rw [hV]
  have e : V = (List.range (k ^ (2 * r))).map fun u => (sols k (k ^ (2 * r)) t u w).length := by
    apply List.ext_getElem?
    intro u
    by_cases hu : u < k ^ (2 * r)
    · have h1 : V[u]? = some (V.getD u 0) := by rw [List.getD_eq_getElem?_getD, List.getElem?_eq_getElem (by omega)]; rfl
      rw [h1, hat u hu, List.getElem?_map, List.getElem?_range hu]
      rfl
    · rw [List.getElem?_eq_none (by omega), List.getElem?_eq_none (by rw [List.length_map, List.length_range]; omega)]
  rw [e]
  unfold before befTo
  rw [List.length_flatMap]
  congr 1
  exact List.map_congr_left fun u _ => by rw [List.length_map]
end RuleP
end Go.Proofs.YtibplgpolmplpaaGreatDoor

namespace Go.Proofs.YtibplgpolmplpaaGreatDoor
namespace RuleP

/-- A window's symbol is a place's. -/
def fitP (t w : List Nat) : Nat → Nat → Bool := fun i x => decide (t.getD x 0 = w.getD i 0)
end RuleP
end Go.Proofs.YtibplgpolmplpaaGreatDoor

namespace Go.Proofs.YtibplgpolmplpaaGreatDoor
namespace RuleP

theorem nodup_flat {α β : Type} {f : α → List β} : ∀ {l : List α}, l.Nodup → (∀ x ∈ l, (f x).Nodup) → (∀ x ∈ l, ∀ y ∈ l, ∀ z, z ∈ f x → z ∈ f y → x = y) → (l.flatMap f).Nodup
  | [], _, _, _ => List.nodup_nil
  | x :: l, h, h1, h2 => by
    rw [List.nodup_cons] at h
    rw [List.flatMap_cons, List.nodup_append]
    refine ⟨h1 x (List.mem_cons_self ..), nodup_flat h.2 (fun y hy => h1 y (List.mem_cons_of_mem _ hy)) (fun y hy z hz => h2 y (List.mem_cons_of_mem _ hy) z (List.mem_cons_of_mem _ hz)), fun a ha b hb e => ?_⟩
    subst e
    obtain ⟨y, hy, hay⟩ := List.mem_flatMap.1 hb
    have := h2 x (List.mem_cons_self ..) y (List.mem_cons_of_mem _ hy) a ha hay
    exact h.1 (by rw [this]; exact hy)
theorem nodup_mapc {α β : Type} {f : α → β} (hf : ∀ x y, f x = f y → x = y) {l : List α} (h : l.Nodup) : (l.map f).Nodup := by
  rw [List.nodup_iff_pairwise_ne, List.pairwise_map]
  exact h.imp fun hne e => hne (hf _ _ e)
theorem sols_nodup {k N : Nat} {t : List Nat} : ∀ (w : List Nat) (u : Nat), (sols k N t u w).Nodup
  | [], _ => by simp [sols]
  | c :: w, u => by
    simp only [sols]
    refine nodup_flat List.nodup_range (fun s _ => ?_) (fun x _ y _ z hx hy => ?_)
    · split
      · exact nodup_mapc (fun a b e => by injection e) (sols_nodup w _)
      · exact List.nodup_nil
    · split at hx
      · split at hy
        · obtain ⟨a, _, rfl⟩ := List.mem_map.1 hx
          obtain ⟨b, _, e⟩ := List.mem_map.1 hy
          injection e with e _
          exact e.symm
        · simp at hy
      · simp at hx
theorem before_nodup {k r : Nat} (hk : 0 < k) (t w : List Nat) : (before k r t w).Nodup := by
  unfold before befTo
  refine nodup_flat List.nodup_range (fun u _ => nodup_mapc (fun a b e => List.append_cancel_left e) (sols_nodup w u)) (fun x hx y hy z h1 h2 => ?_)
  have hx := List.mem_range.1 hx
  have hy := List.mem_range.1 hy
  obtain ⟨a, _, rfl⟩ := List.mem_map.1 h1
  obtain ⟨b, _, e⟩ := List.mem_map.1 h2
  have e1 := congrArg (List.take (2 * r)) e
  rw [List.take_append_of_le_length (by rw [digB_len]; exact Nat.le_refl _), List.take_append_of_le_length (by rw [digB_len]; exact Nat.le_refl _), List.take_of_length_le (by rw [digB_len]; exact Nat.le_refl _), List.take_of_length_le (by rw [digB_len]; exact Nat.le_refl _)] at e1
  rw [← dig_wval hk hx, ← dig_wval hk hy, e1]
theorem before_pre {k r : Nat} (hk : 0 < k) {t w : List Nat} : (before k r t w).length = (preL k r t w).length := before_len hk (before_nodup hk t w)
end RuleP
end Go.Proofs.YtibplgpolmplpaaGreatDoor

namespace Go.Proofs.YtibplgpolmplpaaGreatDoor
open Go.RowKit RuleP

def sCount : ByteArray := ⟨#[99, 111, 117, 110, 116]⟩
theorem cntWrong_c (w : World) (E : Nat → Addr) (hE : Errs w E) (at' : Int) (n : Nat) (h1 : 1 ≤ n) (h2 : n ≤ 11) :
    Calls Tryz.prog 50 #[.int .i64 at', .int .i64 (n : Int)] w fun e w' => e = .returned (errV w.heap.size) ∧ ErrIs w' E n [(sCount, at')] (errV w.heap.size) ∧ Below w.heap.size w w' := by
  have HE := Lib.hid hE
  clear hE
  go_enter Tryz.func50, Tryz.ntmps50
  go_wp2_with fail
  refine (new_c w E HE.out sCount at' n h1 h2).mono ?_
  rintro e w' ⟨rfl, rfl⟩
  go_wp2_with fail
  go_ret
  exact ⟨rfl, ⟨w.heap.size, _, rfl, heap_new _ _, rfl⟩, (Below.refl _ _).alloc (Nat.le_refl _) _⟩
/-- What count tells of a rule that is no small one. -/
def smallC (K R : Int) (T : List Int) : Option Tale := under sCount 0 (small K R T)
theorem smallC_none {K R : Int} {T : List Int} (h : smallC K R T = none) : ∃ (k r : Nat) (t : List Nat), K = (k : Int) ∧ R = (r : Int) ∧ T = ints t ∧ IsRule k r t ∧ t.length ≤ 256 := by
  have hs : small K R T = none := by
    unfold smallC under at h
    split at h
    · assumption
    · cases h
  exact smallO_none (by unfold smallO; rw [hs]; rfl)
theorem smallC_rule {k r : Nat} {t : List Nat} (h : IsRule k r t) (hl : t.length ≤ 256) : smallC k r (ints t) = none := by
  unfold smallC
  rw [small_rule h hl]
  rfl
theorem smallC_bad {K R : Int} {T : List Int} {tl : Tale} (h : small K R T = some tl) : ∃ t, smallC K R T = some t := by
  unfold smallC under
  rw [h]
  exact ⟨_, rfl⟩
set_option maxRecDepth 100000 in
theorem cntSmall_c (w : World) (E : Nat → Addr) (hE : Errs w E) (K R : Int) (A : Option Addr) (n c : Nat) (T : List Int) (hT : Sl w A n (T.map (Value.int .i64))) (hm : n ≤ 9223372036854775807) :
    Calls Tryz.prog 38 #[ruleV K R A n c] w fun e w' => ∃ v, e = .returned v ∧ ErrV w' E (smallC K R T) v ∧ Below w.heap.size w w' := by
  have hb0 := (Below.refl w.heap.size w).alloc (Nat.le_refl _) (.cells #[.int .i64 K, .int .i64 R, .slice A n c] 24)
  have hr0 := RuleAt.new w (.int .i64 K) (.int .i64 R) (.slice A n c)
  obtain ⟨r0, r1, r2, _⟩ := hr0.facts
  have HS := Lib.hid (small_c _ E (hE.below hb0) K R A n c T (hT.below hb0) hm)
  have HB := Lib.hid hb0
  clear hb0 hr0 hT hE
  unfold ruleV at *
  go_enter Tryz.func38, Tryz.ntmps38
  go_wp2_with fail
  refine (HS.out).mono ?_
  rintro e w1 ⟨v, rfl, he, hb⟩
  have HU := Lib.hid (under_c w1 E sCount 0 _ v he)
  have HB1 := Lib.hid (below_box hb)
  clear he hb
  go_wp2_with fail
  refine (HU.out).mono ?_
  rintro e w2 ⟨v', rfl, he, hb⟩
  have HE := Lib.hid he
  have HB2 := Lib.hid (HB1.out.trans (hb.mono HB1.out.size))
  clear he hb
  go_wp2_with fail
  go_ret
  exact ⟨_, rfl, HE.out, HB2.out⟩
set_option maxHeartbeats 400000 in
theorem cntOddF_c (w : World) (x k : Int) (b : Nat) (hb : w.cell? ⟨b, 0, none⟩ = some (.int .i64 k)) :
    Calls Tryz.prog 88 #[.int .i64 x, .pointer (some ⟨b, 0, none⟩)] w fun e w' => e = .returned (.bool (decide (x < 0 ∨ k ≤ x))) ∧ w = w' := by
  by_cases h : x < 0
  · have h1 : decide (x < 0) = true := decide_eq_true h
    have hd : Hid (decide (x < 0 ∨ k ≤ x) = true) := Lib.hid (decide_eq_true (.inl h))
    go_enter Tryz.func88, Tryz.ntmps88
    go_wp2_with fail
    go_ret
    exact ⟨by first | rfl | (rw [hd.out]; rfl), rfl⟩
  · have h1 : decide (x < 0) = false := decide_eq_false h
    have hd : Hid (decide (x < 0 ∨ k ≤ x) = decide (k ≤ x)) := Lib.hid (by simp [h])
    go_enter Tryz.func88, Tryz.ntmps88
    go_wp2_with fail
    go_ret
    exact ⟨by first | rfl | (rw [hd.out]; rfl), rfl⟩
/-- What count tells of a word of at most so many symbols. -/
def symT (K : Int) (W : List Int) (most : Nat) : Option Tale := if most < W.length then some (4, [(sCount, 1)]) else match odd K W with
    | some i => some (2, [(sCount, (i : Int))])
    | none => none
theorem symT_none {k : Nat} {W : List Int} {most : Nat} (h : symT (k : Int) W most = none) : ∃ v, W = ints v ∧ v.length ≤ most ∧ ∀ x ∈ v, x < k := by
  unfold symT at h
  split at h
  · cases h
  · rename_i hm
    split at h
    · cases h
    · rename_i ho
      obtain ⟨v, rfl, hv⟩ := odd_nat ho
      exact ⟨v, rfl, by rw [ints_len] at hm; omega, hv⟩
theorem symT_good {k : Nat} {v : List Nat} {most : Nat} (hv : ∀ x ∈ v, x < k) (hm : v.length ≤ most) : symT (k : Int) (ints v) most = none := by
  unfold symT
  rw [if_neg (by rw [ints_len]; omega), odd_ints hv]
set_option maxRecDepth 100000 in
set_option maxHeartbeats 2000000 in
theorem cntSymbols_c (w : World) (E : Nat → Addr) (hE : Errs w E) (K : Int) (B : Option Addr) (m d most : Nat) (W : List Int) (hW : Sl w B m (W.map (Value.int .i64))) (hm2 : m ≤ 9223372036854775807) (_ : most ≤ 100000) :
    Calls Tryz.prog 39 #[.int .i64 K, .slice B m d, .int .i64 (most : Int)] w fun e w' => ∃ v, e = .returned v ∧ ErrV w' E (symT K W most) v ∧ Below w.heap.size w w' := by
  have hl : W.length = m := by simpa using hW.1
  have HL := Lib.hid hl
  have hb0 := (Below.refl w.heap.size w).alloc (Nat.le_refl _) (.cells #[.int .i64 K] 3)
  have hc0 : (w.alloc (.cells #[.int .i64 K] 3)).cell? ⟨w.heap.size, 0, none⟩ = some (.int .i64 K) := by rw [cell_of_row _ _ _ _ _ _ (heap_new _ _)]; rfl
  obtain ⟨wb, hwb⟩ : ∃ wb, w.alloc (.cells #[.int .i64 K] 3) = wb := ⟨_, rfl⟩
  rw [hwb] at hb0 hc0
  have HWB := Lib.hid hwb
  have HB := Lib.hid hb0
  have HE := Lib.hid hE
  have HW := Lib.hid hW
  have HC := Lib.hid hc0
  clear hb0 hE hW hl hc0 hwb
  by_cases hmm : most < m
  · have hs : Hid (symT K W most = some (4, [(sCount, 1)])) := Lib.hid (by unfold symT; rw [if_pos (by rw [HL.out]; exact hmm)])
    have HW1 := Lib.hid (cntWrong_c _ E (HE.out.below HB.out) 1 4 (by decide) (by decide))
    go_enter Tryz.func39, Tryz.ntmps39
    go_wp2_with fail
    rw [HWB.out]
    refine (HW1.out).mono ?_
    rintro e w2 ⟨rfl, he, hb2⟩
    have hP := ErrV.some he
    rw [← hs.out] at hP
    have HP := Lib.hid hP
    have HB2 := Lib.hid (HB.out.trans (hb2.mono HB.out.size))
    clear he hb2 hP
    go_wp2_with fail
    go_ret
    exact ⟨_, rfl, HP.out, HB2.out⟩
  · have hi := indexFunc_c wb 88 ⟨w.heap.size, 0, none⟩ (fun x => decide (x < 0 ∨ K ≤ x)) B m d W (HW.out.below HB.out) hm2
      (fun x wz => run_enter Tryz.func88 (by kernel_rfl) (by kernel_rfl) _ _) (fun x => cntOddF_c _ x K _ HC.out)
    change Calls _ _ _ _ (fun e w' => e = .returned (.int .i64 (place (odd K W))) ∧ _ = w') at hi
    have HI := Lib.hid hi
    clear hi
    go_enter Tryz.func39, Tryz.ntmps39
    go_wp2_with fail
    rw [HWB.out]
    refine (HI.out).mono ?_
    rintro e w2 ⟨rfl, rfl⟩
    cases hod : odd K W with
    | none =>
      have hs : Hid (symT K W most = none) := Lib.hid (by unfold symT; rw [if_neg (by rw [HL.out]; exact hmm), hod])
      have hpl : place none = -1 := rfl
      rw [hpl]
      clear hod hpl
      go_wp2_with fail
      go_ret
      exact ⟨_, rfl, by rw [hs.out]; rfl, HB.out⟩
    | some i =>
      have hs : Hid (symT K W most = some (2, [(sCount, (i : Int))])) := Lib.hid (by unfold symT; rw [if_neg (by rw [HL.out]; exact hmm), hod])
      have hpl : place (some i) = (i : Int) := rfl
      have hi0 : (0 : Int) ≤ (i : Int) := by omega
      rw [hpl]
      clear hod hpl
      have HW1 := Lib.hid (cntWrong_c _ E (HE.out.below HB.out) (i : Int) 2 (by decide) (by decide))
      go_wp2_with fail
      refine (HW1.out).mono ?_
      rintro e w2 ⟨rfl, he, hb2⟩
      have hP := ErrV.some he
      rw [← hs.out] at hP
      have HP := Lib.hid hP
      have HB2 := Lib.hid (HB.out.trans (hb2.mono HB.out.size))
      clear he hb2 hP
      go_wp2_with fail
      go_ret
      exact ⟨_, rfl, HP.out, HB2.out⟩

set_option maxRecDepth 100000 in
set_option maxHeartbeats 1000000 in
theorem fitsW_c (w : World) (rb wb k r n c m d : Nat) (A B : Option Addr) (t x : List Nat) (hr : RuleAt w rb (.int .i64 (k : Int)) (.int .i64 (r : Int)) (.slice A n c)) (hw : w.cell? ⟨wb, 0, none⟩ = some (.slice B m d)) (hT : Sl w A n ((ints t).map (Value.int .i64)))
    (hX : Sl w B m ((ints x).map (Value.int .i64))) (p q : Nat) (hp : p < m) (hq : q < n) :
    Calls Tryz.prog 91 #[.int .i64 (p : Int), .int .i64 (q : Int), .pointer (some ⟨rb, 0, none⟩), .pointer (some ⟨wb, 0, none⟩)] w fun e w' => e = .returned (.bool (fitP t x p q)) ∧ Below w.heap.size w w' := by
  obtain ⟨r0, r1, r2, _⟩ := hr.facts
  obtain ⟨aA, y, rfl, hy, hcy⟩ := hT.int_ hq
  obtain ⟨aB, z, rfl, hz, hcz⟩ := hX.int_ hp
  have hp' : (p : Int) < (m : Int) := by omega
  have hq' : (q : Int) < (n : Int) := by omega
  have hp0 : (0 : Int) ≤ (p : Int) := by omega
  have hq0 : (0 : Int) ≤ (q : Int) := by omega
  obtain ⟨y', hy', rfl⟩ : ∃ y' : Nat, t[q]? = some y' ∧ (y' : Int) = y := by
    rw [ints, List.getElem?_map] at hy
    cases h : t[q]? with
    | none => rw [h] at hy; cases hy
    | some v => rw [h] at hy; exact ⟨v, rfl, Option.some.inj hy⟩
  obtain ⟨z', hz', rfl⟩ : ∃ z' : Nat, x[p]? = some z' ∧ (z' : Int) = z := by
    rw [ints, List.getElem?_map] at hz
    cases h : x[p]? with
    | none => rw [h] at hz; cases hz
    | some v => rw [h] at hz; exact ⟨v, rfl, Option.some.inj hz⟩
  have HK : Hid (fitP t x p q = decide ((y' : Int) = (z' : Int))) := Lib.hid (by
    unfold fitP
    rw [List.getD_eq_getElem?_getD, List.getD_eq_getElem?_getD, hy', hz']
    simp
    omega)
  rw [HK.out]
  clear hr hT hX hy hz hy' hz'
  go_enter Tryz.func91, Tryz.ntmps91
  go_wp2_with (go_quiet (fail))
  go_ret
  exact ⟨rfl, below_drewN (Below.refl _ _) _⟩
end Go.Proofs.YtibplgpolmplpaaGreatDoor

namespace Go.Proofs.YtibplgpolmplpaaGreatDoor
namespace RuleP
open NatP

theorem sumW_le {k N : Nat} (p : Nat → Bool) {V : List Nat} {B : Nat} (hV : ∀ u, V.getD u 0 ≤ B) (u : Nat) : ∀ s, sumW k N p V u s ≤ s * B
  | 0 => by rw [sumW_zero]; exact Nat.zero_le _
  | s + 1 => by
    rw [sumW_succ, Nat.succ_mul]
    refine Nat.add_le_add (sumW_le p hV u s) ?_
    split
    · exact hV _
    · exact Nat.zero_le _
theorem stepW_le {k N : Nat} (hk : 0 < k) (p : Nat → Bool) {V : List Nat} {B : Nat} (hV : ∀ u, V.getD u 0 ≤ B) {i : Nat} (hi : i ≤ N * k) (u : Nat) : (stepW k N p V i).getD u 0 ≤ k * B := by
  rcases Nat.lt_or_ge u N with hu | hu
  · rw [stepW_at hk p V i hi u hu]
    exact Nat.le_trans (sumW_le p hV u _) (Nat.mul_le_mul_right B (Nat.min_le_right _ _))
  · rw [List.getD_eq_getElem?_getD, List.getElem?_eq_none (by rw [stepW_len]; exact hu)]
    exact Nat.zero_le _
theorem waysW_le {k N : Nat} (hk : 0 < k) (p : Nat → Nat → Bool) (n : Nat) {ends : List Nat} (he : ∀ u, ends.getD u 0 ≤ 1) : ∀ j u, (waysW k N p n ends j).getD u 0 ≤ k ^ j
  | 0, u => by rw [waysW, Nat.pow_zero]; exact he u
  | j + 1, u => by
    rw [waysW, Nat.pow_succ]
    exact Nat.le_trans (stepW_le hk _ (waysW_le hk p n he j) (Nat.le_refl _) u) (Nat.le_of_eq (Nat.mul_comm _ _))
theorem getD_set_self : ∀ (l : List Nat) (i : Nat), l.set i (l.getD i 0) = l
  | [], _ => rfl
  | a :: l, 0 => rfl
  | a :: l, i + 1 => by
    have := getD_set_self l i
    simp only [List.getD_cons_succ, List.set_cons_succ, this]
theorem pow_fitW0 (e f g : Nat) (h : 2 * e < f * g) : 4 ^ e < (2 ^ f) ^ g := by
  rw [← Nat.pow_mul, show (4 : Nat) = 2 ^ 2 from rfl, ← Nat.pow_mul]
  exact Nat.pow_lt_pow_right (by decide) h
theorem pow_fitW {e : Nat} (h : e ≤ 257) : 4 ^ e < W32 ^ 17 := pow_fitW0 e 32 17 (by omega)
theorem small17 {x k m : Nat} (hk : k ≤ 4) (hm : m ≤ 257) (h : x ≤ k ^ m) : (limbs x).length ≤ 17 :=
  limbs_len_of_lt _ _ (Nat.lt_of_le_of_lt h (Nat.lt_of_le_of_lt (Nat.pow_le_pow_left hk m) (pow_fitW hm)))
end RuleP
end Go.Proofs.YtibplgpolmplpaaGreatDoor

namespace Go.Proofs.YtibplgpolmplpaaGreatDoor
open Go.RowKit RuleP NatP

set_option maxRecDepth 100000 in
set_option maxHeartbeats 4000000 in
theorem ways_c (w : World) (k : Nat) (R : Int) (A : Option Addr) (n c N m B g : Nat) (Q : List (Option Addr × Nat × Nat)) (ends : List Nat) (F : FuncId) (p1 p2 : Value) (p : Nat → Nat → Bool) (hk1 : 1 ≤ k) (hk4 : k ≤ 4) (hN0 : 0 < N) (hN4 : N ≤ 4096) (hn : n = N * k) (hm : m ≤ 256)
    (hE : NatsAt w B g Q ends) (hEl : ends.length = N) (he1 : ∀ u, ends.getD u 0 ≤ 1) (hB : B ≤ w.heap.size)
    (he : ∀ (v1 v2 : Value) (wz : World), (callFunc F #[v1, v2, p1, p2]).run Tryz.prog wz = .ok (.enter F #[v1, v2, p1, p2]) wz)
    (hf : ∀ (wz : World), Below w.heap.size w wz → ∀ place window : Nat, place < m → window < n →
      Calls Tryz.prog F #[.int .i64 (place : Int), .int .i64 (window : Int), p1, p2] wz fun e w' => e = .returned (.bool (p place window)) ∧ Below wz.heap.size wz w') :
    Calls Tryz.prog 90 #[ruleV (k : Int) R A n c, .int .i64 (m : Int), .slice (some ⟨g, 0, none⟩) N N, .func (.func F) #[] #[p1, p2]] w fun e w' => ∃ (g' : Nat) (Q' : List (Option Addr × Nat × Nat)),
      e = .returned (.slice (some ⟨g', 0, none⟩) N N) ∧ NatsAt w' B g' Q' (waysW k N p m ends m) ∧ Below w.heap.size w w' := by
  have hb1 := (Below.refl w.heap.size w).alloc (Nat.le_refl _) (.cells #[.int .i64 (k : Int), .int .i64 R, .slice A n c] 24)
  obtain ⟨w1, hw1⟩ : ∃ w1, w.alloc (.cells #[.int .i64 (k : Int), .int .i64 R, .slice A n c] 24) = w1 := ⟨_, rfl⟩
  rw [hw1] at hb1
  have hr1 : RuleAt w1 w.heap.size (.int .i64 (k : Int)) (.int .i64 R) (.slice A n c) := by rw [← hw1]; exact RuleAt.new w _ _ _
  have hE1 : NatsAt w1 B g Q (waysW k N p m ends 0) := hE.below hb1
  have HW1 := Lib.hid hw1
  have HB1 := Lib.hid hb1
  have HR1 := Lib.hid hr1
  have HE1 := Lib.hid hE1
  have HF := Lib.hid hf
  have HEE := Lib.hid he
  have HBB := Lib.hid hB
  have HN := Lib.hid hn
  have HLW := Lib.hid (fun j => waysW_len (k := k) p m hEl j)
  have HLE := Lib.hid (fun j (hj : j ≤ 256) u => small17 (x := (waysW k N p m ends j).getD u 0) (k := k) (m := j) hk4 (Nat.le_trans hj (by omega)) (waysW_le hk1 p m he1 j u))
  have HLM := Lib.hid (fun j (hj : j ≤ 256) i (hi : i ≤ N * k) (q : Nat → Bool) u => small17 (x := (stepW k N q (waysW k N p m ends j) i).getD u 0) (k := k) (m := j + 1) hk4 (by omega) (by
    rw [Nat.pow_succ]
    exact Nat.le_trans (stepW_le hk1 q (waysW_le hk1 p m he1 j) hi u) (Nat.le_of_eq (Nat.mul_comm _ _))))
  have hn16 : n ≤ 16384 := by rw [hn]; exact Nat.le_trans (Nat.mul_le_mul hN4 hk4) (by decide)
  have hk0 : ¬ ((k : Int) = 0) := by omega
  have hN0' : ¬ ((N : Int) = 0) := by omega
  clear hw1 hb1 hr1 hE1 hf he hE hB hn hEl he1
  unfold ruleV
  go_enter Tryz.func90, Tryz.ntmps90
  go_wp2_with fail
  rw [HW1.out]
  go_loopw [10, 11] (fun av pv wl => ∃ (gg j : Nat) (QQ : List (Option Addr × Nat × Nat)), av = .slice (some ⟨gg, 0, none⟩) N N ∧ pv = .int .i64 ((m : Int) - 1 - (j : Int)) ∧ j ≤ m ∧ Hid (NatsAt wl B gg QQ (waysW k N p m ends j)) ∧ Hid (Below w1.heap.size w1 wl)) (fun _ pv _ => (intOf pv + 1).toNat)
  case atStart => exact ⟨g, 0, Q, rfl, by go_num, Nat.zero_le _, HE1, Lib.hid (Below.refl _ _)⟩
  case round =>
    obtain ⟨gg, j, QQ, rfl, rfl, hj, hV, hBl⟩ := hrel
    clear HE1
    obtain ⟨v0, rfl⟩ : ∃ v0, v0 = wr := ⟨_, rfl⟩
    by_cases hjm : j < m
    · obtain ⟨pl, hpl⟩ : ∃ pl, m - 1 - j = pl := ⟨_, rfl⟩
      have hpe : (m : Int) - 1 - (j : Int) = (pl : Int) := by omega
      rw [hpe]
      have hp0 : (0 : Int) ≤ (pl : Int) := by omega
      have hp0' : (pl : Int) ≥ 0 := by omega
      have hplm : pl < m := by omega
      have HPE := Lib.hid (And.intro hpe hpl)
      clear hpe
      have hlV : (waysW k N p m ends j).length = N := HLW.out j
      have hmk := run_make_row' (P := Tryz.prog) 149 38 (.slice none 0 0) 24 tNats.und tNats.info rfl .i64 .i64 N (by omega) (by omega)
      have hmd := NatsAt.made v0 N (by simp only [maxLen]; omega)
      have hb01 := (Below.refl v0.heap.size v0).alloc (Nat.le_refl _) (.cells (madeCells #[.slice none 0 0] N) 38)
      obtain ⟨v1, hv1⟩ : ∃ v1, v0.alloc (.cells (madeCells #[.slice none 0 0] N) 38) = v1 := ⟨_, rfl⟩
      rw [hv1] at hmd hb01
      obtain ⟨g2, hg2⟩ : ∃ g2, v0.heap.size = g2 := ⟨_, rfl⟩
      have hBg : B ≤ g2 := by have h1 := HB1.out.size; have h2 := hBl.out.size; have h3 := HBB.out; omega
      rw [hg2] at hmd
      have hm2 : NatsAt v1 B g2 (List.replicate N (none, 0, 0)) (stepW k N (p pl) (waysW k N p m ends j) 0) := by
        rw [stepW]
        exact hmd.base hBg
      have HMD := Lib.hid hm2
      have HB01 := Lib.hid hb01
      have HV1 := Lib.hid hv1
      have HG2 := Lib.hid hg2
      have hgg : gg ≠ g2 := by have := hV.out.lt.2; omega
      have hw1g : w.heap.size < v0.heap.size := by have h1 := HR1.out.lt; have h2 := hBl.out.size; omega
      have hr0 := HR1.out.below hBl.out HR1.out.lt
      have hr1' := hr0.alloc (.cells (madeCells #[.slice none 0 0] N) 38)
      obtain ⟨r0, r1, r2, _⟩ := hr1'.facts
      have HR0 := Lib.hid hr0
      clear hmd hm2 hb01 hv1 hg2 hlV hpl hr0 hr1'
      go_wp2_with fail
      rw [HV1.out, HG2.out]
      clear hmk r0 r1 r2
      go_loopw [29] (fun iv wl => ∃ (i : Nat) (Q2 : List (Option Addr × Nat × Nat)), iv = .int .i64 (i : Int) ∧ i ≤ n ∧ Hid (NatsAt wl B g2 Q2 (stepW k N (p pl) (waysW k N p m ends j) i)) ∧ Hid (Below v0.heap.size v0 wl)) (fun iv _ => n - (intOf iv).toNat)
      case atStart => exact ⟨0, _, rfl, Nat.zero_le _, HMD, HB01⟩
      case round =>
        obtain ⟨i, Q2, rfl, hi, hN2, hB2⟩ := hrel
        clear HMD HB01
        obtain ⟨v2, rfl⟩ : ∃ v2, v2 = wr := ⟨_, rfl⟩
        by_cases hin : i < n
        · have hin' : (i : Int) < (n : Int) := by omega
          have hi0 : (0 : Int) ≤ (i : Int) := by omega
          have hb12 := hBl.out.trans (hB2.out.mono hBl.out.size)
          have hb02 := HB1.out.trans (hb12.mono HB1.out.size)
          have hmod : (i : Int).tmod (N : Int) = ((i % N : Nat) : Int) := rfl
          have hmlt : i % N < N := Nat.mod_lt _ hN0
          have hdlt : i / k < N := Nat.div_lt_of_lt_mul (by rw [Nat.mul_comm, ← HN.out]; exact hin)
          have hdiv : (i : Int).tdiv (k : Int) = ((i / k : Nat) : Int) := rfl
          obtain ⟨i1, hi1⟩ : ∃ i1, i % N = i1 := ⟨_, rfl⟩
          obtain ⟨i2, hi2⟩ : ∃ i2, i / k = i2 := ⟨_, rfl⟩
          rw [hi1] at hmod hmlt
          rw [hi2] at hdiv hdlt
          obtain ⟨Ac, ccn, _, hoc, qc0, pc⟩ := hV.out.at_ (i := i1) (by rw [HLW.out]; exact hmlt)
          have qc := cell_later hB2.out qc0
          have hml' : (i1 : Int) < (N : Int) := by omega
          have hm0' : (0 : Int) ≤ (i1 : Int) := by omega
          have hxl := HLE.out j (by omega) i1
          obtain ⟨x, hx⟩ : ∃ x, (waysW k N p m ends j).getD i1 0 = x := ⟨_, rfl⟩
          rw [hx] at hoc qc hxl
          obtain ⟨lx, hlx⟩ : ∃ lx, (limbs x).length = lx := ⟨_, rfl⟩
          rw [hlx] at qc hxl
          have HLX := Lib.hid hlx
          have HXX := Lib.hid hx
          have HI12 := Lib.hid (And.intro hi1 hi2)
          have HOC := Lib.hid (own_below hoc hB2.out)
          have HB02 := Lib.hid hb02
          have hr2 := HR0.out.below hB2.out HR0.out.lt
          have HR2 := Lib.hid hr2
          obtain ⟨V, hVV⟩ : ∃ V, waysW k N p m ends j = V := ⟨_, rfl⟩
          have HVV := Lib.hid hVV
          rw [hVV] at hN2
          by_cases hl0 : lx = 0
          · have HNX : Hid (NatsAt v2 B g2 Q2 (stepW k N (p pl) V (i + 1))) := Lib.hid (by
              have hx0 : V.getD i1 0 = 0 := by rw [← HVV.out, HXX.out]; exact limbs_zero (by rw [HLX.out]; exact hl0)
              rw [stepW_succ, HI12.out.1, hx0, Nat.add_zero]
              split
              · rw [getD_set_self]; exact hN2.out
              · exact hN2.out)
            have hl0' : ¬ (lx : Int) > 0 := by omega
            clear hVV hmlt hdlt hi1 hi2 hx hlx hoc qc0 pc hr2 hb12 hb02 hl0 hN2
            go_wp2_with fail
            exact ⟨⟨i + 1, Q2, by go_num, by omega, by rw [HVV.out]; exact HNX, hB2⟩, by simp [intOf]; omega⟩
          · have hl0' : (lx : Int) > 0 := by omega
            have HC := Lib.hid (HF.out v2 hb02 pl i hplm hin)
            clear hVV hi1 hi2 hx hlx hoc qc0 pc hr2 hb12 hb02 hl0
            have hcal := HEE.out (.int .i64 (pl : Int)) (.int .i64 (i : Int)) v2
            go_wp2_with fail
            clear hcal
            refine (HC.out).mono ?_
            rintro e v3 ⟨rfl, hb3⟩
            have hN3 := hN2.out.below hb3
            have hB3 := hB2.out.trans (hb3.mono hB2.out.size)
            obtain ⟨fr, hfr⟩ : ∃ fr, p pl i = fr := ⟨_, rfl⟩
            rw [hfr]
            cases fr with
            | false =>
              have HNX : Hid (NatsAt v3 B g2 Q2 (stepW k N (p pl) V (i + 1))) := Lib.hid (by
                rw [stepW_succ, hfr, if_neg (by decide)]
                exact hN3)
              have HB3 := Lib.hid hB3
              clear hfr hN3 hN2 hb3 hB3 HC
              go_wp2_with fail
              exact ⟨⟨i + 1, Q2, by go_num, by omega, by rw [HVV.out]; exact HNX, HB3⟩, by simp [intOf]; omega⟩
            | true =>
              obtain ⟨Z, hZ⟩ : ∃ Z, stepW k N (p pl) V i = Z := ⟨_, rfl⟩
              have hul := HLM.out j (by omega) i (by rw [← HN.out]; exact Nat.le_of_lt hin) (p pl) i2
              have hZl : Z.length = N := by rw [← hZ]; exact stepW_len _ _ _ _ _
              rw [HVV.out, hZ] at hul
              rw [hZ] at hN3
              have HGO : Hid (stepW k N (p pl) V (i + 1) = Z.set i2 (Z.getD i2 0 + x)) := Lib.hid (by
                rw [stepW_succ, hfr, if_pos rfl, hZ, HI12.out.1, HI12.out.2, ← HVV.out, HXX.out])
              obtain ⟨A3, c3, _, ho3, q3, p3⟩ := hN3.at_ (i := i2) (by rw [hZl]; exact hdlt)
              obtain ⟨u, hu⟩ : ∃ u, Z.getD i2 0 = u := ⟨_, rfl⟩
              rw [hu] at ho3 q3 hul HGO
              have hocl := own_below HOC.out hb3
              obtain ⟨lu, hlu⟩ : ∃ lu, (limbs u).length = lu := ⟨_, rfl⟩
              have HAD := Lib.hid (fun (wz : World) (hz : Below v3.heap.size v3 wz) => add_n (num_own (own_below ho3 hz)) (num_own (own_below hocl hz)) (by omega) (by rw [HLX.out]; omega) (r := u + x) rfl)
              rw [HLX.out, hlu] at HAD
              rw [hlu] at q3
              have hr3 := HR2.out.below hb3 HR2.out.lt
              obtain ⟨r0, r1, r2, _⟩ := hr3.facts
              have HFX := Lib.hid (fun (wz : World) (hz : Below v3.heap.size v3 wz) => (⟨(hr3.below hz hr3.lt).facts.1, (hN3.below hz).at_ (i := i2) (by rw [hZl]; exact hdlt)⟩ : _ ∧ _))
              have HN3 := Lib.hid hN3
              have HT := Lib.hid (⟨hZl, hdlt⟩ : _ ∧ _)
              have hdl' : (i2 : Int) < (N : Int) := by omega
              have hd0 : (0 : Int) ≤ (i2 : Int) := by omega
              have hk0n : ¬ k = 0 := by omega
              have hwr : IntKind.i64.wrap (i2 : Int) = (i2 : Int) := IntWalk.i64_in _ (by omega)
              have HB3 := Lib.hid hB3
              clear hfr hZ hu hocl hlu ho3 hN3 hul hr3 hB3 hZl hN2 HC hb3 qc hmod hmlt
              go_wp2_with fail
              go_region_law (first
                | (go_simp
                   go_at_call 97
                   refine (HAD.out _ (by first | exact (Below.refl _ _).drew | fail)).mono ?_
                   rintro e v4 ⟨A4, c4, rfl, _, ho4, hb4⟩
                   have hb34 : Below v3.heap.size v3 v4 := ((Below.refl v3.heap.size v3).drew).trans hb4
                   obtain ⟨x0, _, _, _, _, q4, p4⟩ := HFX.out v4 hb34
                   dsimp only)
                | fail)
              all_goals
                have hN4 := HN3.out.below hb34
                have HNX : Hid (NatsAt (v4.setCell ⟨g2, i2, none⟩ (.slice A4 (limbs (u + x)).length c4)) B g2 (Q2.set i2 (A4, (limbs (u + x)).length, c4)) (stepW k N (p pl) V (i + 1))) := Lib.hid (by
                  rw [HGO.out]
                  exact hN4.put (own_base ho4 (by have h1 := HBB.out; have h2 := HB3.out.size; have h3 := hb34.size; have h4 : v3.heap.size = v3.drew.heap.size := rfl; omega)))
                have HBX := Lib.hid ((HB3.out.trans (hb34.mono HB3.out.size)).setCell (p := ⟨g2, i2, none⟩) (by rw [HG2.out]; exact Nat.le_refl _) (.slice A4 (limbs (u + x)).length c4))
                clear hN4 ho4 hb4 hb34 x0 q4 p4
                go_wp2_with fail
                exact ⟨⟨i + 1, _, by go_num, by omega, by rw [HVV.out]; exact HNX, HBX⟩, by simp [intOf]; omega⟩
        · obtain rfl : i = n := by omega
          have hin' : ¬ (i : Int) < (i : Int) := by omega
          have HNX : Hid (NatsAt v2 B g2 Q2 (waysW k N p m ends (j + 1))) := Lib.hid (by
            rw [waysW, HPE.out.2, ← HN.out]
            exact hN2.out)
          have HBX := Lib.hid (hBl.out.trans (hB2.out.mono hBl.out.size))
          have hpn : (pl : Int) - 1 = (m : Int) - 1 - ((j + 1 : Nat) : Int) := by have := HPE.out.1; omega
          have HPN := Lib.hid hpn
          have hmea : ((m : Int) - 1 - ((j + 1 : Nat) : Int) + 1).toNat < ((pl : Int) + 1).toNat := by omega
          clear hpn
          go_wp2_with fail
          exact ⟨⟨g2, j + 1, Q2, rfl, by rw [← HPN.out], by omega, HNX, HBX⟩, by simp [intOf] <;> omega⟩
    · obtain rfl : j = m := by omega
      have hpe : ¬ (j : Int) - 1 - (j : Int) ≥ 0 := by omega
      have HBX := Lib.hid (HB1.out.trans (hBl.out.mono HB1.out.size))
      go_wp2_with fail
      go_ret
      exact ⟨gg, rfl, ⟨QQ, hV.out⟩, HBX.out⟩
end Go.Proofs.YtibplgpolmplpaaGreatDoor
