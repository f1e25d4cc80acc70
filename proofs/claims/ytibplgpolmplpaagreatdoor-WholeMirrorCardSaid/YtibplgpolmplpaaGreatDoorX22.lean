/- The tops' own checks: decides and counts of edentop. Condition: the error variables hold what E says. How many ways lead from each node, place by place, as plain lists; for a word they are its preimages. No program. No condition. Ways that come back to where they began: they are the rings whose image is the ring. Plain lists, no program. No condition. -/
import Derived.Test.YtibplgpolmplpaaGreatDoorX3
import Derived.Test.YtibplgpolmplpaaGreatDoorX7
import Derived.Test.YtibplgpolmplpaaGreatDoorX8
import Derived.Test.YtibplgpolmplpaaGreatDoorX18
import Derived.Test.YtibplgpolmplpaaGreatDoorX21
namespace Go.Proofs.YtibplgpolmplpaaGreatDoor
open Go.RowKit RuleP SubP

theorem ecaT_90 : ecaT 90 8 = [0, 1, 0, 1, 1, 0, 1, 0] := by decide
theorem ecaT_110 : ecaT 110 8 = [0, 1, 1, 1, 0, 1, 1, 0] := by decide
theorem ecaT_0 : ecaT 0 8 = [0, 0, 0, 0, 0, 0, 0, 0] := by decide
theorem eca_rule90 : IsRule 2 1 [0, 1, 0, 1, 1, 0, 1, 0] := ⟨by decide, by decide, by decide, by decide, by decide⟩
theorem eca_rule110 : IsRule 2 1 [0, 1, 1, 1, 0, 1, 1, 0] := ⟨by decide, by decide, by decide, by decide, by decide⟩
theorem eca_rule0 : IsRule 2 1 [0, 0, 0, 0, 0, 0, 0, 0] := ⟨by decide, by decide, by decide, by decide, by decide⟩
theorem eca_round110 : ∃ n, n ≤ 4097 ∧ roundTo 2 4 [0, 1, 1, 1, 0, 1, 1, 0] true n = .orphan [0, 1, 0, 1, 0] := ⟨16, by decide, by kernel_rfl⟩
theorem eca_fin110 : fin 2 (2 ^ (2 * 1)) [0, 1, 1, 1, 0, 1, 1, 0] true = .orphan [0, 1, 0, 1, 0] := by
  obtain ⟨n, hn, h⟩ := eca_round110
  have := round_over (.inl ⟨_, rfl⟩) h (4097 - n)
  rw [Nat.add_sub_cancel' hn] at this
  exact this
theorem eca_round90 : roundTo 2 4 [0, 1, 0, 1, 1, 0, 1, 0] true 1 = .go ⟨[[true, true, true, true]], [[]], [[0, 0]]⟩ [] := by kernel_rfl
theorem eca_fin90 : ∃ S, fin 2 (2 ^ (2 * 1)) [0, 1, 0, 1, 1, 0, 1, 0] true = .go S [] := ⟨_, fin_go eca_round90 (by decide) (by decide)⟩

/-- The error variables, and what else the calls ask of the world. -/
def ErrW (w : World) (E : Nat → Addr) : Prop := Errs w E ∧ ErrT w ∧ Apart12 E ∧ ErrBlk w E
theorem ErrW.below {w w' : World} {E : Nat → Addr} (h : ErrW w E) (hb : Below w.heap.size w w') : ErrW w' E := ⟨h.1.below hb, h.2.1.below hb, h.2.2.1, h.2.2.2.below hb⟩

theorem onto90_c (w : World) (E : Nat → Addr) (hE : ErrW w E) (A : Option Addr) (c : Nat) (hT : Sl w A 8 ((ints (ecaT 90 8)).map (Value.int .i64))) :
    Calls Tryz.prog 9 #[ruleV 2 1 A 8 c] w fun e w' => e = .returned (.tuple #[.bool true, .slice none 0 0, .nilIface]) ∧ Below w.heap.size w w' := by
  rw [ecaT_90] at hT
  obtain ⟨S, hS⟩ := eca_fin90
  exact (onto_good w E hE.1 hE.2.1 hE.2.2.1 hE.2.2.2 2 1 A 8 c _ hT eca_rule90 (by decide)).mono fun _ _ h => h.1 S hS
theorem onto110_c (w : World) (E : Nat → Addr) (hE : ErrW w E) (A : Option Addr) (c : Nat) (hT : Sl w A 8 ((ints (ecaT 110 8)).map (Value.int .i64))) :
    Calls Tryz.prog 9 #[ruleV 2 1 A 8 c] w fun e w' => ∃ (C : Option Addr) (d : Nat), e = .returned (.tuple #[.bool false, .slice C 5 d, .nilIface]) ∧ Below w.heap.size w w' := by
  rw [ecaT_110] at hT
  refine (onto_good w E hE.1 hE.2.1 hE.2.2.1 hE.2.2.2 2 1 A 8 c _ hT eca_rule110 (by decide)).mono fun _ _ h => ?_
  obtain ⟨v, rfl, ho, hb⟩ := h.2.1 _ eca_fin110
  obtain ⟨C, d, rfl, _, _⟩ := own_slice ho
  exact ⟨C, d, rfl, hb⟩
theorem finite90_c (w : World) (E : Nat → Addr) (hE : ErrW w E) (A : Option Addr) (c : Nat) (hT : Sl w A 8 ((ints (ecaT 90 8)).map (Value.int .i64))) :
    Calls Tryz.prog 19 #[ruleV 2 1 A 8 c] w fun e w' => ∃ (C : Option Addr) (n d : Nat) (v : Value), e = .returned (.tuple #[.bool true, .slice C n d, v, .nilIface]) ∧ Below w.heap.size w w' := by
  rw [ecaT_90] at hT
  refine (finite_c w E hE.1 2 1 8 c A _ hT eca_rule90 (by decide)).mono fun _ _ h => ?_
  obtain ⟨f, C, n, d, v, rfl, hb, _, _, h0⟩ := h
  obtain ⟨h1, _⟩ := h0 (by decide)
  obtain rfl : f = true := h1.2 PairP.meet_90
  exact ⟨C, n, d, v, rfl, hb⟩
theorem finite0_c (w : World) (E : Nat → Addr) (hE : ErrW w E) (A : Option Addr) (c : Nat) (hT : Sl w A 8 ((ints (ecaT 0 8)).map (Value.int .i64))) :
    Calls Tryz.prog 19 #[ruleV 2 1 A 8 c] w fun e w' => ∃ (C : Option Addr) (d : Nat) (v : Value), e = .returned (.tuple #[.bool false, .slice C 5 d, v, .nilIface]) ∧ Below w.heap.size w w' := by
  rw [ecaT_0] at hT
  refine (finite_c w E hE.1 2 1 8 c A _ hT eca_rule0 (by decide)).mono fun _ _ h => ?_
  obtain ⟨f, C, n, d, v, rfl, hb, _, _, h0⟩ := h
  obtain ⟨h1, h2⟩ := h0 (by decide)
  have hm : (MeetP.meetF (2 ^ (2 * 1)) (PairP.pairG 2 (2 ^ (2 * 1)) [0, 0, 0, 0, 0, 0, 0, 0])).length = 4 := PairP.meet_0
  cases f with
  | true =>
    have := h1.1 rfl
    rw [this] at hm
    cases hm
  | false =>
    have h3 := h2 rfl
    rw [hm] at h3
    obtain rfl : n = 5 := by omega
    exact ⟨C, d, v, rfl, hb⟩

set_option maxRecDepth 100000 in
set_option maxHeartbeats 2000000 in
theorem decides_c (w : World) (E : Nat → Addr) (hE : ErrW w E) : Calls Tryz.prog 30 #[] w fun e w' => e = .returned (.bool true) ∧ Below w.heap.size w w' := by
  have HE := Lib.hid (fun (wz : World) (hz : Below w.heap.size w wz) => hE.below hz)
  clear hE
  go_enter Tryz.func30, Tryz.ntmps30
  have HC1 := Lib.hid (eca_c w 90 (by decide))
  go_wp2_with fail
  refine (HC1.out).mono ?_
  rintro e w1 ⟨A1, c1, rfl, hT1, hb1⟩
  have HO1 := onto90_c w1 E (HE.out w1 hb1) A1 c1 hT1
  unfold ruleV at HO1
  have HO1 := Lib.hid HO1
  have HB1 := Lib.hid hb1
  clear hT1 hb1 HC1
  go_wp2_with fail
  refine (HO1.out).mono ?_
  rintro e w2 ⟨rfl, hb2⟩
  have HB2 := Lib.hid (HB1.out.trans (hb2.mono HB1.out.size))
  have HC2 := Lib.hid (eca_c w2 110 (by decide))
  clear hb2 HO1
  go_wp2_with fail
  refine (HC2.out).mono ?_
  rintro e w3 ⟨A3, c3, rfl, hT3, hb3⟩
  have hb03 := HB2.out.trans (hb3.mono HB2.out.size)
  have HO3 := onto110_c w3 E (HE.out w3 hb03) A3 c3 hT3
  unfold ruleV at HO3
  have HO3 := Lib.hid HO3
  have HB3 := Lib.hid hb03
  clear hT3 hb3 hb03 HC2
  go_wp2_with fail
  refine (HO3.out).mono ?_
  rintro e w4 ⟨C4, d4, rfl, hb4⟩
  have HB4 := Lib.hid (HB3.out.trans (hb4.mono HB3.out.size))
  have HC4 := Lib.hid (eca_c w4 90 (by decide))
  clear hb4 HO3
  go_wp2_with fail
  refine (HC4.out).mono ?_
  rintro e w5 ⟨A5, c5, rfl, hT5, hb5⟩
  have hb05 := HB4.out.trans (hb5.mono HB4.out.size)
  have HF5 := finite90_c w5 E (HE.out w5 hb05) A5 c5 hT5
  unfold ruleV at HF5
  have HF5 := Lib.hid HF5
  have HB5 := Lib.hid hb05
  clear hT5 hb5 hb05 HC4
  go_wp2_with fail
  refine (HF5.out).mono ?_
  rintro e w6 ⟨C6, n6, d6, v6, rfl, hb6⟩
  have HB6 := Lib.hid (HB5.out.trans (hb6.mono HB5.out.size))
  have HC6 := Lib.hid (eca_c w6 0 (by decide))
  clear hb6 HF5
  go_wp2_with fail
  refine (HC6.out).mono ?_
  rintro e w7 ⟨A7, c7, rfl, hT7, hb7⟩
  have hb07 := HB6.out.trans (hb7.mono HB6.out.size)
  have HF7 := finite0_c w7 E (HE.out w7 hb07) A7 c7 hT7
  unfold ruleV at HF7
  have HF7 := Lib.hid HF7
  have HB7 := Lib.hid hb07
  clear hT7 hb7 hb07 HC6
  go_wp2_with fail
  refine (HF7.out).mono ?_
  rintro e w8 ⟨C8, d8, v8, rfl, hb8⟩
  have HB8 := Lib.hid (HB7.out.trans (hb8.mono HB7.out.size))
  clear hb8 HF7
  go_wp2_with fail
  go_ret
  exact ⟨rfl, HB8.out⟩
end Go.Proofs.YtibplgpolmplpaaGreatDoor

namespace Go.Proofs.YtibplgpolmplpaaGreatDoor
namespace RuleP

/-- One place: the windows one by one. -/
def stepW (k N : Nat) (p : Nat → Bool) (V : List Nat) : Nat → List Nat
  | 0 => List.replicate N 0
  | i + 1 => if p i = true then (stepW k N p V i).set (i / k) ((stepW k N p V i).getD (i / k) 0 + V.getD (i % N) 0) else stepW k N p V i
theorem stepW_succ (k N : Nat) (p : Nat → Bool) (V : List Nat) (i : Nat) : stepW k N p V (i + 1) = if p i = true then (stepW k N p V i).set (i / k) ((stepW k N p V i).getD (i / k) 0 + V.getD (i % N) 0) else stepW k N p V i := by rw [stepW]
theorem stepW_len (k N : Nat) (p : Nat → Bool) (V : List Nat) : ∀ i, (stepW k N p V i).length = N
  | 0 => by rw [stepW, List.length_replicate]
  | i + 1 => by
    rw [stepW_succ]
    split
    · rw [List.length_set, stepW_len k N p V i]
    · exact stepW_len k N p V i
def sumW (k N : Nat) (p : Nat → Bool) (V : List Nat) (u s : Nat) : Nat := ((List.range s).map fun s => if p (u * k + s) = true then V.getD ((u * k + s) % N) 0 else 0).sum
theorem sumW_zero (k N : Nat) (p : Nat → Bool) (V : List Nat) (u : Nat) : sumW k N p V u 0 = 0 := rfl
theorem sumW_succ (k N : Nat) (p : Nat → Bool) (V : List Nat) (u s : Nat) : sumW k N p V u (s + 1) = sumW k N p V u s + if p (u * k + s) = true then V.getD ((u * k + s) % N) 0 else 0 := by
  unfold sumW
  rw [List.range_succ, List.map_append, List.sum_append]
  simp
theorem stepW_at {k N : Nat} (hk : 0 < k) (p : Nat → Bool) (V : List Nat) : ∀ i, i ≤ N * k → ∀ u, u < N → (stepW k N p V i).getD u 0 = sumW k N p V u (min (i - u * k) k)
  | 0, _, u, hu => by
    rw [stepW, Nat.zero_sub, Nat.zero_min, sumW_zero, List.getD_eq_getElem?_getD, List.getElem?_replicate, if_pos hu]
    rfl
  | i + 1, hi, u, hu => by
    have ih := stepW_at hk p V i (by omega) u hu
    have hq : i / k < N := by
      rw [Nat.div_lt_iff_lt_mul hk]
      omega
    rw [stepW_succ]
    by_cases e : i / k = u
    · have h1 : u * k + i % k = i := by rw [← e, Nat.mul_comm]; exact Nat.div_add_mod i k
      have h2 : i % k < k := Nat.mod_lt _ hk
      have e1 : min (i - u * k) k = i % k := by omega
      have e2 : min (i + 1 - u * k) k = i % k + 1 := by omega
      rw [e1] at ih
      rw [e2, sumW_succ, h1, ← ih]
      by_cases hp : p i = true
      · rw [if_pos hp, if_pos hp, e, List.getD_eq_getElem?_getD, List.getElem?_set, if_pos rfl, if_pos (by rw [stepW_len]; exact hu)]
        rfl
      · rw [if_neg hp, if_neg hp, Nat.add_zero]
    · have h1 : (if p i = true then (stepW k N p V i).set (i / k) ((stepW k N p V i).getD (i / k) 0 + V.getD (i % N) 0) else stepW k N p V i).getD u 0 = (stepW k N p V i).getD u 0 := by
        split
        · rw [List.getD_eq_getElem?_getD, List.getElem?_set, if_neg e, ← List.getD_eq_getElem?_getD]
        · rfl
      rw [h1, ih]
      congr 1
      rcases Nat.lt_or_ge (i / k) u with hl | hg
      · have h3 : i < u * k := (Nat.div_lt_iff_lt_mul hk).1 hl
        rw [show i - u * k = 0 by omega, show i + 1 - u * k = 0 by omega]
      · have h3 : u + 1 ≤ i / k := by omega
        have h4 := (Nat.le_div_iff_mul_le hk).1 h3
        rw [Nat.succ_mul] at h4
        rw [Nat.min_eq_right (by omega), Nat.min_eq_right (by omega)]
theorem stepW_all {k N : Nat} (hk : 0 < k) (p : Nat → Bool) (V : List Nat) {u : Nat} (hu : u < N) : (stepW k N p V (N * k)).getD u 0 = sumW k N p V u k := by
  rw [stepW_at hk p V (N * k) (Nat.le_refl _) u hu]
  have h1 := Nat.mul_le_mul_right k (show u + 1 ≤ N from hu)
  rw [Nat.succ_mul] at h1
  rw [Nat.min_eq_right (by omega)]
/-- The last j of n places. -/
def waysW (k N : Nat) (p : Nat → Nat → Bool) (n : Nat) (ends : List Nat) : Nat → List Nat
  | 0 => ends
  | j + 1 => stepW k N (p (n - 1 - j)) (waysW k N p n ends j) (N * k)
theorem waysW_len {k N : Nat} (p : Nat → Nat → Bool) (n : Nat) {ends : List Nat} (h : ends.length = N) : ∀ j, (waysW k N p n ends j).length = N
  | 0 => h
  | _ + 1 => stepW_len _ _ _ _ _
theorem sols_sum {k N : Nat} {t : List Nat} {u c : Nat} {w : List Nat} : (sols k N t u (c :: w)).length = ((List.range k).map fun s => if t.getD (u * k + s) 0 = c then (sols k N t ((u * k + s) % N) w).length else 0).sum := by
  simp only [sols]
  rw [List.length_flatMap]
  congr 1
  refine List.map_congr_left fun s _ => ?_
  split
  · rw [List.length_map]
  · rfl
theorem ways_sols {k N : Nat} {t w : List Nat} (hk : 0 < k) (hN : 0 < N) : ∀ j, j ≤ w.length → ∀ u, u < N →
    (waysW k N (fun place i => decide (t.getD i 0 = w.getD place 0)) w.length (List.replicate N 1) j).getD u 0 = (sols k N t u (w.drop (w.length - j))).length
  | 0, _, u, hu => by
    rw [Nat.sub_zero, List.drop_length]
    show (List.replicate N 1).getD u 0 = _
    rw [List.getD_eq_getElem?_getD, List.getElem?_replicate, if_pos hu]
    simp [sols]
  | j + 1, hj, u, hu => by
    rw [waysW, stepW_all hk _ _ hu]
    have hl : w.length - (j + 1) < w.length := by omega
    have e : w.drop (w.length - (j + 1)) = w.getD (w.length - (j + 1)) 0 :: w.drop (w.length - j) := by
      rw [List.drop_eq_getElem_cons hl, List.getD_eq_getElem?_getD, List.getElem?_eq_getElem hl, show w.length - (j + 1) + 1 = w.length - j by omega]
      rfl
    rw [e, sols_sum]
    unfold sumW
    congr 1
    refine List.map_congr_left fun s _ => ?_
    rw [show w.length - 1 - j = w.length - (j + 1) by omega, ways_sols hk hN j (by omega) _ (Nat.mod_lt _ hN)]
    by_cases h : t.getD (u * k + s) 0 = w.getD (w.length - (j + 1)) 0
    · rw [if_pos (decide_eq_true h), if_pos h]
    · rw [if_neg (fun e' => h (of_decide_eq_true e')), if_neg h]
/-- All preimages of a word. -/
theorem ways_before {k r : Nat} {t w : List Nat} (hk : 0 < k) : (waysW k (k ^ (2 * r)) (fun place i => decide (t.getD i 0 = w.getD place 0)) w.length (List.replicate (k ^ (2 * r)) 1) w.length).sum = (before k r t w).length := by
  have hN : 0 < k ^ (2 * r) := Nat.pow_pos hk
  obtain ⟨V, hV⟩ : ∃ V, waysW k (k ^ (2 * r)) (fun place i => decide (t.getD i 0 = w.getD place 0)) w.length (List.replicate (k ^ (2 * r)) 1) w.length = V := ⟨_, rfl⟩
  have hl : V.length = k ^ (2 * r) := by rw [← hV]; exact waysW_len _ _ (by rw [List.length_replicate]) _
  have hat : ∀ u, u < k ^ (2 * r) → V.getD u 0 = (sols k (k ^ (2 * r)) t u w).length := fun u hu => by
    have h := ways_sols (t := t) (w := w) hk hN w.length (Nat.le_refl _) u hu
    rw [hV, Nat.sub_self, List.drop_zero] at h
    exact h
  rw [hV]
  have e : V = (List.range (k ^ (2 * r))).map fun u => (sols k (k ^ (2 * r)) t u w).length := by
    apply List.ext_getElem?
    intro u
    by_cases hu : u < k ^ (2 * r)
    · have h1 : V[u]? = some (V.getD u 0) := by rw [List.getD_eq_getElem?_getD, List.getElem?_eq_getElem (by omega)]; rfl
      rw [h1, hat u hu, List.getElem?_map, List.getElem?_range hu]
      rfl
    · rw [List.getElem?_eq_none (by omega), List.getElem?_eq_none (by rw [List.length_map, List.length_range]; omega)]
  rw [e]
  unfold before befTo
  rw [List.length_flatMap]
  congr 1
  exact List.map_congr_left fun u _ => by rw [List.length_map]
end RuleP
end Go.Proofs.YtibplgpolmplpaaGreatDoor

namespace Go.Proofs.YtibplgpolmplpaaGreatDoor
namespace RuleP

/-- The walk from node u by the symbols fits, place by place from i on. -/
def fitA (k N : Nat) (p : Nat → Nat → Bool) : Nat → Nat → List Nat → Bool
  | _, _, [] => true
  | i, u, c :: s => p i (u * k + c) && fitA k N p (i + 1) ((u * k + c) % N) s
def endA (k N : Nat) : Nat → List Nat → Nat
  | u, [] => u
  | u, c :: s => endA k N ((u * k + c) % N) s
theorem sum_flat {α β : Type} (g : β → Nat) (f : α → List β) : ∀ l : List α, ((l.flatMap f).map g).sum = (l.map fun x => ((f x).map g).sum).sum
  | [] => rfl
  | x :: l => by rw [List.flatMap_cons, List.map_append, List.sum_append, List.map_cons, List.sum_cons, sum_flat g f l]
theorem sum_nil0 {α : Type} (l : List α) : (l.map fun _ => 0).sum = 0 := by
  induction l with
  | nil => rfl
  | cons x l ih => rw [List.map_cons, List.sum_cons, ih]
theorem sum_add2 {α : Type} (f g : α → Nat) : ∀ l : List α, (l.map fun x => f x + g x).sum = (l.map f).sum + (l.map g).sum
  | [] => rfl
  | x :: l => by
    rw [List.map_cons, List.map_cons, List.map_cons, List.sum_cons, List.sum_cons, List.sum_cons, sum_add2 f g l]
    omega
theorem sum_swap {α β : Type} (f : α → β → Nat) : ∀ (l : List α) (m : List β), (l.map fun x => (m.map fun y => f x y).sum).sum = (m.map fun y => (l.map fun x => f x y).sum).sum
  | [], m => by
    simp only [List.map_nil, List.sum_nil]
    exact (sum_nil0 m).symm
  | x :: l, m => by
    rw [List.map_cons, List.sum_cons, sum_swap f l m, ← sum_add2]
    congr 1
theorem ways_all {k N : Nat} (hk : 0 < k) (hN : 0 < N) (p : Nat → Nat → Bool) (n : Nat) (ends : List Nat) : ∀ j, j ≤ n → ∀ u, u < N →
    (waysW k N p n ends j).getD u 0 = ((allW k j).map fun s => if fitA k N p (n - j) u s = true then ends.getD (endA k N u s) 0 else 0).sum
  | 0, _, u, _ => by simp [waysW, allW, fitA, endA]
  | j + 1, hj, u, hu => by
    rw [waysW, stepW_all hk _ _ hu, allW, sum_flat]
    unfold sumW
    congr 1
    refine List.map_congr_left fun c _ => ?_
    rw [List.map_map, show n - 1 - j = n - (j + 1) by omega]
    by_cases hp : p (n - (j + 1)) (u * k + c) = true
    · rw [if_pos hp, ways_all hk hN p n ends j (by omega) _ (Nat.mod_lt _ hN)]
      congr 1
      refine List.map_congr_left fun s _ => ?_
      simp only [Function.comp, fitA, endA, hp, Bool.true_and]
      rw [show n - (j + 1) + 1 = n - j by omega]
    · rw [if_neg hp]
      refine ((sum_nil0 (allW k j)).symm.trans ?_)
      congr 1
      refine List.map_congr_left fun s _ => ?_
      refine (if_neg ?_).symm
      intro h
      have h : (p (n - (j + 1)) (u * k + c) && fitA k N p (n - (j + 1) + 1) ((u * k + c) % N) s) = true := h
      rw [Bool.and_eq_true] at h
      exact hp h.1
theorem endA_val {k N : Nat} : ∀ (s : List Nat) (u : Nat), endA k N u s % N = (u * k ^ s.length + wval k s) % N
  | [], u => by simp [endA, wval]
  | c :: s, u => by
    rw [endA, endA_val s, List.length_cons, show c :: s = [c] ++ s from rfl, wval_append, show wval k [c] = c by simp [wval]]
    rw [Nat.add_mod, Nat.mod_mul_mod, ← Nat.add_mod, Nat.add_mul, Nat.pow_succ, Nat.mul_comm (k ^ s.length) k, Nat.mul_assoc, Nat.add_assoc]
theorem endA_lt {k N : Nat} (hN : 0 < N) : ∀ (s : List Nat) (u : Nat), u < N → endA k N u s < N
  | [], _, h => h
  | _ :: s, _, _ => endA_lt hN s _ (Nat.mod_lt _ hN)
theorem endA_eq {k N : Nat} (hN : 0 < N) {s : List Nat} {u : Nat} (hu : u < N) : endA k N u s = (u * k ^ s.length + wval k s) % N := by
  rw [← endA_val, Nat.mod_eq_of_lt (endA_lt hN s u hu)]
theorem endA_app {k N : Nat} : ∀ (a b : List Nat) (u : Nat), endA k N u (a ++ b) = endA k N (endA k N u a) b
  | [], _, _ => rfl
  | _ :: a, b, u => by rw [List.cons_append, endA, endA_app a b]; rfl
/-- m times the ring. -/
def repW (s : List Nat) : Nat → List Nat
  | 0 => []
  | m + 1 => s ++ repW s m
theorem repW_len (s : List Nat) : ∀ m, (repW s m).length = m * s.length
  | 0 => by simp [repW]
  | m + 1 => by rw [repW, List.length_append, repW_len s m, Nat.succ_mul]; omega
theorem repW_comm (s : List Nat) : ∀ m, s ++ repW s m = repW s m ++ s
  | 0 => by simp [repW]
  | m + 1 => by
    rw [repW, List.append_assoc]
    congr 1
    exact repW_comm s m
theorem endA_rep {k N u : Nat} {s : List Nat} (h : endA k N u s = u) : ∀ m, endA k N u (repW s m) = u
  | 0 => rfl
  | m + 1 => by rw [repW, endA_app, h, endA_rep h m]
/-- Where the ring's ways begin and end. -/
def homeA (k r : Nat) (s : List Nat) : Nat := wval k (repW s (2 * r)) % k ^ (2 * r)
theorem far_zero {k r u : Nat} {s : List Nat} (hs : s ≠ []) : (u * k ^ (repW s (2 * r)).length + wval k (repW s (2 * r))) % k ^ (2 * r) = homeA k r s := by
  have hl : 0 < s.length := List.length_pos_iff.2 hs
  have e : (repW s (2 * r)).length = (repW s (2 * r)).length - 2 * r + 2 * r := by
    have := Nat.le_mul_of_pos_right (2 * r) hl
    rw [repW_len]
    omega
  rw [e, Nat.pow_add, ← Nat.mul_assoc, Nat.add_comm, Nat.add_mul_mod_self_right]
  rfl
theorem home_lt {k r : Nat} (hk : 0 < k) (s : List Nat) : homeA k r s < k ^ (2 * r) := Nat.mod_lt _ (Nat.pow_pos hk)
theorem home_fix {k r : Nat} (hk : 0 < k) {s : List Nat} (hs : s ≠ []) : endA k (k ^ (2 * r)) (homeA k r s) s = homeA k r s := by
  have hN : 0 < k ^ (2 * r) := Nat.pow_pos hk
  have h0 : endA k (k ^ (2 * r)) 0 (repW s (2 * r)) = homeA k r s := by rw [endA_eq hN hN]; exact far_zero hs
  calc endA k (k ^ (2 * r)) (homeA k r s) s = endA k (k ^ (2 * r)) 0 (repW s (2 * r) ++ s) := by rw [endA_app, h0]
    _ = endA k (k ^ (2 * r)) (endA k (k ^ (2 * r)) 0 s) (repW s (2 * r)) := by rw [← repW_comm, endA_app]
    _ = homeA k r s := by rw [endA_eq hN (endA_lt hN s 0 hN)]; exact far_zero hs
theorem fix_home {k r u : Nat} (hk : 0 < k) {s : List Nat} (hs : s ≠ []) (hu : u < k ^ (2 * r)) (h : endA k (k ^ (2 * r)) u s = u) : u = homeA k r s := by
  have hN : 0 < k ^ (2 * r) := Nat.pow_pos hk
  have h1 := endA_rep h (2 * r)
  rw [endA_eq hN hu, far_zero hs] at h1
  exact h1.symm
/-- One at u, else none. -/
def unitV (N u : Nat) : List Nat := (List.replicate N 0).set u 1
theorem unitV_at {N u v : Nat} (hv : v < N) : (unitV N u).getD v 0 = if v = u then 1 else 0 := by
  unfold unitV
  rw [List.getD_eq_getElem?_getD, List.getElem?_set, List.length_replicate, List.getElem?_replicate]
  by_cases e : u = v
  · subst e
    rw [if_pos rfl, if_pos hv, if_pos rfl]
    rfl
  · rw [if_neg e, if_pos hv, if_neg (fun e' => e e'.symm)]
    rfl
def ringsW (k N : Nat) (p : Nat → Nat → Bool) (n m : Nat) : Nat := ((List.range m).map fun u => (waysW k N p n (unitV N u) n).getD u 0).sum
theorem sum_one {N h : Nat} (x : Nat) (hh : h < N) (f : Nat → Nat) (hf : ∀ u, u < N → f u = if u = h then x else 0) : ((List.range N).map f).sum = x := by
  induction N with
  | zero => omega
  | succ N ih =>
    rw [List.range_succ, List.map_append, List.sum_append]
    rcases Nat.lt_or_ge h N with h1 | h1
    · rw [ih h1 (fun u hu => hf u (by omega))]
      have := hf N (by omega)
      rw [if_neg (by omega)] at this
      simp [this]
    · obtain rfl : h = N := by omega
      have hz : ((List.range h).map f).sum = 0 := by
        refine Eq.trans ?_ (sum_nil0 (List.range h))
        congr 1
        refine List.map_congr_left fun u hu => ?_
        have hu := List.mem_range.1 hu
        have := hf u (by omega)
        rw [if_neg (by omega)] at this
        exact this
      have := hf h (by omega)
      rw [if_pos rfl] at this
      rw [hz]
      simp [this]
theorem sum_filter {α : Type} (q : α → Bool) : ∀ l : List α, (l.map fun s => if q s = true then 1 else 0).sum = (l.filter q).length
  | [] => rfl
  | x :: l => by
    rw [List.map_cons, List.sum_cons, sum_filter q l, List.filter_cons]
    by_cases h : q x = true
    · rw [if_pos h, if_pos h, List.length_cons]; omega
    · rw [if_neg h, if_neg h]; omega
/-- The ways that come back are the rings that fit. -/
theorem rings_all {k r : Nat} (hk : 0 < k) (p : Nat → Nat → Bool) {n : Nat} (hn : 0 < n) : ringsW k (k ^ (2 * r)) p n (k ^ (2 * r)) = ((allW k n).filter fun s => fitA k (k ^ (2 * r)) p 0 (homeA k r s) s).length := by
  have hN : 0 < k ^ (2 * r) := Nat.pow_pos hk
  unfold ringsW
  have e1 : ((List.range (k ^ (2 * r))).map fun u => (waysW k (k ^ (2 * r)) p n (unitV (k ^ (2 * r)) u) n).getD u 0) =
      (List.range (k ^ (2 * r))).map fun u => ((allW k n).map fun s => if fitA k (k ^ (2 * r)) p 0 u s = true then (unitV (k ^ (2 * r)) u).getD (endA k (k ^ (2 * r)) u s) 0 else 0).sum := by
    refine List.map_congr_left fun u hu => ?_
    have hu := List.mem_range.1 hu
    rw [ways_all hk hN p n _ n (Nat.le_refl _) u hu, Nat.sub_self]
  rw [e1, sum_swap, ← sum_filter]
  congr 1
  refine List.map_congr_left fun s hs => ?_
  have hsl := (allW_sym hs).1
  have hs0 : s ≠ [] := fun e => by subst e; simp at hsl; omega
  refine sum_one _ (home_lt hk s) _ fun u hu => ?_
  by_cases h : u = homeA k r s
  · subst h
    rw [if_pos rfl]
    by_cases hf : fitA k (k ^ (2 * r)) p 0 (homeA k r s) s = true
    · rw [if_pos hf, if_pos hf, home_fix hk hs0, unitV_at hu, if_pos rfl]
    · rw [if_neg hf, if_neg hf]
  · rw [if_neg h]
    by_cases hf : fitA k (k ^ (2 * r)) p 0 u s = true
    · rw [if_pos hf, unitV_at (endA_lt hN s u hu), if_neg (fun e => h (fix_home hk hs0 hu e))]
    · rw [if_neg hf]
/-! ### rings read round and round -/
/-- The symbol at any place of a ring. -/
def cy (s : List Nat) (z : Int) : Nat := s.getD (z % (s.length : Int)).toNat 0
theorem cy_add (s : List Nat) (z q : Int) : cy s (z + s.length * q) = cy s z := by
  unfold cy
  rw [Int.add_mul_emod_self_left]
theorem cy_at {s : List Nat} {i : Nat} (h : i < s.length) : cy s (i : Int) = s.getD i 0 := by
  unfold cy
  rw [Int.emod_eq_of_lt (by omega) (by omega), Int.toNat_natCast]
theorem cy_lt {k : Nat} {s : List Nat} (hs : ∀ x ∈ s, x < k) (h0 : s ≠ []) (z : Int) : cy s z < k := by
  have hl : 0 < s.length := List.length_pos_iff.2 h0
  have h1 := Int.emod_nonneg z (show (s.length : Int) ≠ 0 by omega)
  have h2 := Int.emod_lt_of_pos z (show (0 : Int) < s.length by omega)
  unfold cy
  rw [List.getD_eq_getElem?_getD, List.getElem?_eq_getElem (show (z % (s.length : Int)).toNat < s.length by omega)]
  exact hs _ (List.getElem_mem _)
/-- Two rings of one length that read alike are one. -/
theorem cy_ext {a b : List Nat} (hl : a.length = b.length) (h : ∀ z : Int, cy a z = cy b z) : a = b := by
  apply List.ext_getElem?
  intro i
  rcases Nat.lt_or_ge i a.length with hi | hi
  · have h1 := h (i : Int)
    rw [cy_at hi, cy_at (by omega)] at h1
    rw [List.getD_eq_getElem?_getD, List.getD_eq_getElem?_getD, List.getElem?_eq_getElem hi, List.getElem?_eq_getElem (by omega)] at h1
    rw [List.getElem?_eq_getElem hi, List.getElem?_eq_getElem (by omega)]
    exact congrArg some h1
  · rw [List.getElem?_eq_none hi, List.getElem?_eq_none (by omega)]
/-- m symbols from place z on. -/
def winC (s : List Nat) (m : Nat) (z : Int) : List Nat := (List.range m).map fun (j : Nat) => cy s (z + (j : Int))
theorem winC_len (s : List Nat) (m : Nat) (z : Int) : (winC s m z).length = m := by simp [winC]
theorem winC_sym {k : Nat} {s : List Nat} (hs : ∀ x ∈ s, x < k) (h0 : s ≠ []) (m : Nat) (z : Int) : ∀ x ∈ winC s m z, x < k := fun x hx => by
  obtain ⟨j, _, rfl⟩ := List.mem_map.1 hx
  exact cy_lt hs h0 _
theorem winC_snoc (s : List Nat) (m : Nat) (z : Int) : winC s (m + 1) z = winC s m z ++ [cy s (z + m)] := by
  unfold winC
  rw [List.range_succ, List.map_append]
  rfl
theorem winC_cons (s : List Nat) (m : Nat) (z : Int) : winC s (m + 1) z = [cy s z] ++ winC s m (z + 1) := by
  unfold winC
  rw [List.range_succ_eq_map, List.map_cons, List.map_map, List.singleton_append]
  congr 1
  · rw [show z + ((0 : Nat) : Int) = z by omega]
  · refine List.map_congr_left fun j _ => ?_
    simp only [Function.comp]
    rw [show z + ((j.succ : Nat) : Int) = z + 1 + (j : Int) by omega]
theorem rep_get {s : List Nat} : ∀ (m i : Nat), i < m * s.length → (repW s m).getD i 0 = cy s (i : Int)
  | 0, i, h => by simp at h
  | m + 1, i, h => by
    rw [repW, List.getD_eq_getElem?_getD]
    rcases Nat.lt_or_ge i s.length with hi | hi
    · rw [List.getElem?_append_left hi, cy_at hi, List.getD_eq_getElem?_getD]
    · rw [Nat.succ_mul] at h
      rw [List.getElem?_append_right hi, ← List.getD_eq_getElem?_getD, rep_get m (i - s.length) (by omega)]
      have := cy_add s ((i - s.length : Nat) : Int) 1
      rw [← this, show ((i - s.length : Nat) : Int) + s.length * 1 = (i : Int) by omega]
theorem home_win {k r : Nat} {s : List Nat} (hs : ∀ x ∈ s, x < k) (h0 : s ≠ []) : homeA k r s = wval k (winC s (2 * r) (-((2 * r : Nat) : Int))) := by
  have hl : 0 < s.length := List.length_pos_iff.2 h0
  have hL : (repW s (2 * r)).length = 2 * r * s.length := repW_len s _
  have hge : 2 * r ≤ 2 * r * s.length := Nat.le_mul_of_pos_right _ hl
  obtain ⟨Z, hZ⟩ : ∃ Z, repW s (2 * r) = Z := ⟨_, rfl⟩
  have hd : Z.drop (2 * r * s.length - 2 * r) = winC s (2 * r) (-((2 * r : Nat) : Int)) := by
    apply List.ext_getElem?
    intro j
    rcases Nat.lt_or_ge j (2 * r) with hj | hj
    · rw [List.getElem?_drop]
      have h1 := rep_get (s := s) (2 * r) (2 * r * s.length - 2 * r + j) (by omega)
      rw [hZ, List.getD_eq_getElem?_getD, List.getElem?_eq_getElem (by rw [← hZ, hL]; omega)] at h1
      rw [List.getElem?_eq_getElem (by rw [← hZ, hL]; omega)]
      unfold winC
      rw [List.getElem?_map, List.getElem?_range hj]
      refine congrArg some (h1.trans ?_)
      have := cy_add s (-((2 * r : Nat) : Int) + (j : Int)) ((2 * r : Nat) : Int)
      refine Eq.trans ?_ this
      congr 1
      rw [Int.mul_comm, ← Int.natCast_mul]
      omega
    · rw [List.getElem?_eq_none (by rw [List.length_drop, ← hZ, hL]; omega), List.getElem?_eq_none (by rw [winC_len]; exact hj)]
  unfold homeA
  have e : Z = Z.take (2 * r * s.length - 2 * r) ++ winC s (2 * r) (-((2 * r : Nat) : Int)) := by rw [← hd, List.take_append_drop]
  rw [hZ, e]
  have h2 := wval_mod (k := k) (Z.take (2 * r * s.length - 2 * r)) (winC_sym hs h0 (2 * r) (-((2 * r : Nat) : Int)))
  rw [winC_len] at h2
  exact h2
theorem node_step_c {k r : Nat} {s : List Nat} (hs : ∀ x ∈ s, x < k) (h0 : s ≠ []) (z : Int) : wval k (winC s (2 * r) z) * k + cy s (z + ((2 * r : Nat) : Int)) = wval k (winC s (2 * r + 1) z) ∧ wval k (winC s (2 * r + 1) z) % k ^ (2 * r) = wval k (winC s (2 * r) (z + 1)) := by
  refine ⟨by rw [winC_snoc, wval_snoc], ?_⟩
  rw [winC_cons]
  have h2 := wval_mod (k := k) [cy s z] (winC_sym hs h0 (2 * r) (z + 1))
  rw [winC_len] at h2
  exact h2
theorem fit_from {k r : Nat} {s : List Nat} (hs : ∀ x ∈ s, x < k) (h0 : s ≠ []) (p : Nat → Nat → Bool) : ∀ (m i : Nat), i + m = s.length →
    (fitA k (k ^ (2 * r)) p i (wval k (winC s (2 * r) ((i : Int) - ((2 * r : Nat) : Int)))) (s.drop i) = true ↔ ∀ j, i ≤ j → j < s.length → p j (wval k (winC s (2 * r + 1) ((j : Int) - ((2 * r : Nat) : Int)))) = true)
  | 0, i, h => by
    rw [List.drop_eq_nil_of_le (by omega)]
    exact ⟨fun _ j h1 h2 => by omega, fun _ => rfl⟩
  | m + 1, i, h => by
    have hi : i < s.length := by omega
    have ed : s.drop i = s.getD i 0 :: s.drop (i + 1) := by
      rw [List.drop_eq_getElem_cons hi, List.getD_eq_getElem?_getD, List.getElem?_eq_getElem hi]
      rfl
    obtain ⟨e1, e2⟩ := node_step_c (r := r) hs h0 ((i : Int) - ((2 * r : Nat) : Int))
    rw [show (i : Int) - ((2 * r : Nat) : Int) + ((2 * r : Nat) : Int) = (i : Int) by omega, cy_at hi] at e1
    rw [show (i : Int) - ((2 * r : Nat) : Int) + 1 = ((i + 1 : Nat) : Int) - ((2 * r : Nat) : Int) by omega] at e2
    rw [ed, fitA, e1, e2, Bool.and_eq_true, fit_from hs h0 p m (i + 1) (by omega)]
    constructor
    · rintro ⟨h1, h2⟩ j hj hjl
      rcases Nat.eq_or_lt_of_le hj with rfl | hlt
      · exact h1
      · exact h2 j hlt hjl
    · intro hall
      exact ⟨hall i (Nat.le_refl _) hi, fun j hj hjl => hall j (by omega) hjl⟩
theorem fit_iff {k r : Nat} {s : List Nat} (hs : ∀ x ∈ s, x < k) (h0 : s ≠ []) (p : Nat → Nat → Bool) : fitA k (k ^ (2 * r)) p 0 (homeA k r s) s = true ↔ ∀ j, j < s.length → p j (wval k (winC s (2 * r + 1) ((j : Int) - ((2 * r : Nat) : Int)))) = true := by
  have h := fit_from (r := r) hs h0 p s.length 0 (by omega)
  rw [show ((0 : Nat) : Int) - ((2 * r : Nat) : Int) = -((2 * r : Nat) : Int) by omega, ← home_win hs h0, List.drop_zero] at h
  exact h.trans ⟨fun hh j hj => hh j (Nat.zero_le _) hj, fun hh j _ hj => hh j hj⟩
/-- The rings whose windows all fit. -/
def ringL (k r n : Nat) (p : Nat → Nat → Bool) : List (List Nat) := (allW k n).filter fun s => (List.range n).all fun j => p j (wval k (winC s (2 * r + 1) ((j : Int) - ((2 * r : Nat) : Int))))
theorem mem_ringL {k r n : Nat} {p : Nat → Nat → Bool} {s : List Nat} : s ∈ ringL k r n p ↔ s.length = n ∧ (∀ x ∈ s, x < k) ∧ ∀ j, j < n → p j (wval k (winC s (2 * r + 1) ((j : Int) - ((2 * r : Nat) : Int)))) = true := by
  unfold ringL
  rw [List.mem_filter, List.all_eq_true]
  constructor
  · rintro ⟨h1, h2⟩
    exact ⟨(allW_sym h1).1, (allW_sym h1).2, fun j hj => h2 j (List.mem_range.2 hj)⟩
  · rintro ⟨h1, h2, h3⟩
    exact ⟨mem_allW h1 h2, fun j hj => h3 j (List.mem_range.1 hj)⟩
theorem ringL_nodup {k r n : Nat} (hk : 0 < k) (p : Nat → Nat → Bool) : (ringL k r n p).Nodup := List.Nodup.sublist List.filter_sublist (allW_nodup hk _)
theorem rings_ringL {k r : Nat} (hk : 0 < k) (p : Nat → Nat → Bool) {n : Nat} (hn : 0 < n) : ringsW k (k ^ (2 * r)) p n (k ^ (2 * r)) = (ringL k r n p).length := by
  rw [rings_all hk p hn]
  unfold ringL
  congr 1
  refine List.filter_congr fun s hs => ?_
  obtain ⟨h1, h2⟩ := allW_sym hs
  have h0 : s ≠ [] := fun e => by subst e; simp at h1; omega
  have h := fit_iff (r := r) h2 h0 p
  rw [h1] at h
  rw [Bool.eq_iff_iff, h, List.all_eq_true]
  exact ⟨fun hh j hj => hh j (List.mem_range.1 hj), fun hh j hj => hh j (List.mem_range.2 hj)⟩
/-- Two ways to count that turn into one another count alike. -/
theorem rings_same {k r n : Nat} (hk : 0 < k) {p p' : Nat → Nat → Bool} {r' : Nat} (f g : List Nat → List Nat) (hf : ∀ s ∈ ringL k r n p, f s ∈ ringL k r' n p') (hg : ∀ s ∈ ringL k r' n p', g s ∈ ringL k r n p)
    (h1 : ∀ s ∈ ringL k r n p, g (f s) = s) (h2 : ∀ s ∈ ringL k r' n p', f (g s) = s) : (ringL k r n p).length = (ringL k r' n p').length := by
  refine Nat.le_antisymm (inj_le f (ringL_nodup hk p) hf fun x hx y hy e => ?_) (inj_le g (ringL_nodup hk p') hg fun x hx y hy e => ?_)
  · rw [← h1 x hx, ← h1 y hy, e]
  · rw [← h2 x hx, ← h2 y hy, e]
end RuleP
end Go.Proofs.YtibplgpolmplpaaGreatDoor
