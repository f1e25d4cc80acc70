/- The rows of the walk over the subsets, as SubsetRuns asks of them: lengths, sources, runs along a word. Plain lists, no program. No condition. Words of one length compared: word.Cmp, slices.Compare, cmp.Compare, cmp.Or. Condition: the words read from memory and have one length. The words that have an image, in their order: which they are. Plain lists, no program. No condition. Rules out of rules, as plain lists: tables told window by window; widened, narrowed, mirrored, shifted, one behind the other. No program. No condition. Rules out of rules, as plain lists: widened, narrowed, shifted, mirrored. No program. No condition. -/
import Derived.Test.YthilnpfpllplaaaGreatDoorS1
import Derived.Test.YthilnpfpllplaaaGreatDoorS4
import Derived.Test.YthilnpfpllplaaaGreatDoorS6
import Derived.Test.YthilnpfpllplaaaGreatDoorS11
import Derived.Test.YthilnpfpllplaaaGreatDoorS15
namespace Go.Proofs.YthilnpfpllplaaaGreatDoor
open BagP RuleP
namespace SubP
variable {k N : Nat} {t : List Nat}

structure RowsOk (k N : Nat) (t : List Nat) (S : St) : Prop where
  len : S.next.length = S.sets.length
  row : ∀ (i : Nat) r, S.next[i]? = some r → r.length = k
  set : ∀ B ∈ S.sets, B.length = N ∧ nodesOf B ≠ []
  zero : S.sets[0]? = some (List.replicate N true)
  to : ∀ (i s : Nat) r x, S.next[i]? = some r → r[s]? = some x → (x = -1 ∧ nodesOf (beh k N t (S.sets.getD i []) s) = []) ∨ ∃ j : Nat, x = (j : Int) ∧ j < S.sets.length ∧ S.sets[j]? = some (beh k N t (S.sets.getD i []) s)
  src : ∀ j, 0 < j → j < S.sets.length → ∃ i s r, i < j ∧ s < k ∧ S.next[i]? = some r ∧ r[s]? = some (j : Int)
theorem fin_rows (hN : 0 < N) {S : St} {row : List Int} (h : fin k N t false = .go S row) : RowsOk k N t S := by
  obtain ⟨_, hl, P, Q, h2⟩ := fin_inv hN h
  refine ⟨hl, fun i r hr => (h2.done i r hr).1, fun B hB => ⟨h2.inv.ok B hB, h2.inv.some B hB⟩, h2.zero, fun i s r x hr hx => ?_, fun j h0 hj => ?_⟩
  · rcases (h2.done i r hr).2 s x hx with ⟨a, b, _⟩ | ⟨j, a, b, _⟩
    · exact .inl ⟨b, a⟩
    · exact .inr ⟨j, a, (List.getElem?_eq_some_iff.1 b).1, b⟩
  · obtain ⟨a, b, _, _, _, f⟩ := h2.src j h0 hj
    rcases f with ⟨r, f1, f2⟩ | ⟨_, f2⟩
    · exact ⟨P j, Q j, r, b, a, f1, f2⟩
    · simp at f2
theorem RowsOk.pos {S : St} (h : RowsOk k N t S) : 0 < S.sets.length := (List.getElem?_eq_some_iff.1 h.zero).1
/-- Marked are state 0 and all to which the rows ahead of row i lead, and row i's first s symbols. -/
structure Seen (S : St) (i s : Nat) (L : List Bool) : Prop where
  len : L.length = S.sets.length
  zero : L[0]? = some true
  all : ∀ (i' s' : Nat) r (j : Nat), (i' < i ∨ (i' = i ∧ s' < s)) → S.next[i']? = some r → r[s']? = some (j : Int) → L[j]? = some true
theorem Seen.start {S : St} (h : RowsOk k N t S) : Seen S 0 0 ((List.replicate S.sets.length false).set 0 true) where
  len := by simp
  zero := by
    rw [List.getElem?_set_self (by have := h.pos; simpa using this)]
  all := fun i' s' r j hp => by omega
theorem Seen.at_ {S : St} {i : Nat} {L : List Bool} (h : RowsOk k N t S) (hs : Seen S i 0 L) (hi : i < S.sets.length) : L[i]? = some true := by
  rcases Nat.eq_zero_or_pos i with rfl | h0
  · exact hs.zero
  · obtain ⟨i', s, r, h1, _, h3, h4⟩ := h.src i h0 hi
    exact hs.all i' s r i (.inl h1) h3 h4
theorem Seen.none {S : St} {i s : Nat} {L : List Bool} {r : List Int} {x : Int} (hs : Seen S i s L) (hr : S.next[i]? = some r) (hx : r[s]? = some x) (hn : x < 0) : Seen S i (s + 1) L where
  len := hs.len
  zero := hs.zero
  all := fun i' s' r' j hp hr' hx' => by
    by_cases e : i' = i ∧ s' = s
    · obtain ⟨rfl, rfl⟩ := e
      rw [hr] at hr'
      cases hr'
      rw [hx] at hx'
      cases hx'
      omega
    · exact hs.all i' s' r' j (by omega) hr' hx'
theorem Seen.put {S : St} {i s q : Nat} {L : List Bool} {r : List Int} (hs : Seen S i s L) (hr : S.next[i]? = some r) (hx : r[s]? = some (q : Int)) (hq : q < S.sets.length) : Seen S i (s + 1) (L.set q true) where
  len := by simp [hs.len]
  zero := by
    by_cases e : q = 0
    · subst e; rw [List.getElem?_set_self (by rw [hs.len]; exact hq)]
    · rw [List.getElem?_set_ne e]; exact hs.zero
  all := fun i' s' r' j hp hr' hx' => by
    by_cases e : q = j
    · subst e; rw [List.getElem?_set_self (by rw [hs.len]; exact hq)]
    · rw [List.getElem?_set_ne e]
      refine hs.all i' s' r' j ?_ hr' hx'
      by_cases e' : i' = i ∧ s' = s
      · obtain ⟨rfl, rfl⟩ := e'
        rw [hr] at hr'
        cases hr'
        rw [hx] at hx'
        cases hx'
        exact absurd rfl e
      · omega
theorem Seen.row {S : St} {i : Nat} {L : List Bool} (h : RowsOk k N t S) (hs : Seen S i k L) : Seen S (i + 1) 0 L where
  len := hs.len
  zero := hs.zero
  all := fun i' s' r' j hp hr' hx' => by
    refine hs.all i' s' r' j ?_ hr' hx'
    have h1 := h.row i' r' hr'
    have h2 := (List.getElem?_eq_some_iff.1 hx').1
    omega
end SubP
end Go.Proofs.YthilnpfpllplaaaGreatDoor

namespace Go.Proofs.YthilnpfpllplaaaGreatDoor
open Go.RowKit RuleP

namespace RuleP
/-- By the first place that differs. -/
def cmpL : List Nat → List Nat → Int
  | x :: a, y :: b => if x < y then -1 else if y < x then 1 else cmpL a b
  | _, _ => 0
theorem cmpL_drop {a b : List Nat} {i : Nat} (ha : i < a.length) (hb : i < b.length) : cmpL (a.drop i) (b.drop i) = if a.getD i 0 < b.getD i 0 then -1 else if b.getD i 0 < a.getD i 0 then 1 else cmpL (a.drop (i + 1)) (b.drop (i + 1)) := by
  rw [List.drop_eq_getElem_cons ha, List.drop_eq_getElem_cons hb, cmpL]
  simp only [List.getD_eq_getElem?_getD, List.getElem?_eq_getElem ha, List.getElem?_eq_getElem hb, Option.getD_some]
theorem cmpL_end {a b : List Nat} : cmpL (a.drop a.length) (b.drop a.length) = 0 := by
  rw [List.drop_length]
  simp [cmpL]
theorem wval_cons (k x : Nat) (a : List Nat) : wval k (x :: a) = x * k ^ a.length + wval k a := by
  have := wval_append k [x] a
  simpa [wval] using this
/-- Of words of one length: as their numbers. -/
theorem cmpL_lt {k : Nat} : ∀ {a b : List Nat}, a.length = b.length → (∀ x ∈ a, x < k) → (∀ x ∈ b, x < k) → wval k a < wval k b → cmpL a b = -1
  | [], [], _, _, _, h => by simp [wval] at h
  | [], _ :: _, h, _, _, _ => by simp at h
  | _ :: _, [], h, _, _, _ => by simp at h
  | x :: a, y :: b, hl, ha, hb, h => by
    have hl' : a.length = b.length := by simpa using hl
    have h1 := wval_lt (k := k) (w := a) (fun z hz => ha z (by simp [hz]))
    have h2 := wval_lt (k := k) (w := b) (fun z hz => hb z (by simp [hz]))
    rw [wval_cons, wval_cons, hl'] at h
    rw [hl'] at h1
    rw [cmpL]
    rcases Nat.lt_trichotomy x y with hxy | hxy | hxy
    · rw [if_pos hxy]
    · subst hxy
      rw [if_neg (by omega), if_neg (by omega)]
      exact cmpL_lt hl' (fun z hz => ha z (by simp [hz])) (fun z hz => hb z (by simp [hz])) (by omega)
    · have : (y + 1) * k ^ b.length ≤ x * k ^ b.length := Nat.mul_le_mul_right _ hxy
      rw [Nat.add_mul, Nat.one_mul] at this
      omega
end RuleP

theorem cmpI_c (w : World) (a b : Nat) : Calls Tryz.prog 68 #[.int .i64 (a : Int), .int .i64 (b : Int)] w fun e w' => e = .returned (.int .i64 (if a < b then -1 else if b < a then 1 else 0)) ∧ w = w' := by
  rcases Nat.lt_trichotomy a b with h | h | h
  · have c1 : decide ((a : Int) < (b : Int)) = true := decide_eq_true (by omega)
    rw [if_pos h]
    go_enter Tryz.func68, Tryz.ntmps68
    go_wp2
    go_ret
    exact ⟨rfl, rfl⟩
  · subst h
    rw [if_neg (Nat.lt_irrefl _), if_neg (Nat.lt_irrefl _)]
    go_enter Tryz.func68, Tryz.ntmps68
    go_wp2
    go_ret
    exact ⟨rfl, rfl⟩
  · have c1 : decide ((a : Int) < (b : Int)) = false := decide_eq_false (by omega)
    have c2 : decide ((b : Int) < (a : Int)) = true := decide_eq_true (by omega)
    have c3 : ¬ a < b := by omega
    rw [if_neg c3, if_pos h]
    go_enter Tryz.func68, Tryz.ntmps68
    go_wp2
    go_ret
    exact ⟨rfl, rfl⟩

set_option maxRecDepth 100000 in
theorem cmpS_c (w : World) (A B : Option Addr) (n c d : Nat) (a b : List Nat) (hA : Sl w A n ((ints a).map (Value.int .i64))) (hB : Sl w B n ((ints b).map (Value.int .i64))) (hn : n ≤ 9223372036854775807) :
    Calls Tryz.prog 69 #[.slice A n c, .slice B n d] w fun e w' => e = .returned (.int .i64 (cmpL a b)) ∧ w = w' := by
  have hla : a.length = n := by simpa [ints] using hA.1
  have hlb : b.length = n := by simpa [ints] using hB.1
  rw [ints_map] at hA hB
  have HA := Lib.hid hA
  have HB := Lib.hid hB
  have HLA := Lib.hid hla
  have HLB := Lib.hid hlb
  clear hla hlb hA hB
  go_enter Tryz.func69, Tryz.ntmps69
  go_wp2_with fail
  go_loop [11] (fun i => ∃ j : Nat, j ≤ n ∧ i = .int .i64 (j : Int) ∧ Hid (cmpL a b = cmpL (a.drop j) (b.drop j))) (fun i => n - (intOf i).toNat)
  case atStart => exact ⟨0, Nat.zero_le _, rfl, Lib.hid (by simp)⟩
  case round =>
    obtain ⟨j, hj, rfl, hI⟩ := hrel
    by_cases hlt : j < n
    · obtain ⟨ad, x, rfl, hx, hc⟩ := HA.out.word_ hlt
      obtain ⟨ad2, y, rfl, hy, hc2⟩ := HB.out.word_ hlt
      have hstep := cmpL_drop (a := a) (b := b) (i := j) (by rw [HLA.out]; exact hlt) (by rw [HLB.out]; exact hlt)
      rw [List.getD_eq_getElem?_getD, hx, List.getD_eq_getElem?_getD, hy, ← hI.out] at hstep
      simp only [Option.getD_some] at hstep
      have HS := Lib.hid hstep
      have HC := Lib.hid (cmpI_c w x y)
      have hnj : decide ((n : Int) ≤ (j : Int)) = false := decide_eq_false (by omega)
      clear hstep hx hy
      rcases Nat.lt_trichotomy x y with h | h | h
      · have hv : Hid (cmpL a b = -1) := Lib.hid (by rw [HS.out, if_pos h])
        rw [if_pos h] at HC
        clear h
        go_wp2_with fail
        refine (HC.out).mono ?_
        rintro e w' ⟨rfl, rfl⟩
        go_wp2_with fail
        go_ret
        exact ⟨by rw [hv.out]; rfl, rfl⟩
      · subst h
        have hv : Hid (cmpL a b = cmpL (a.drop (j + 1)) (b.drop (j + 1))) := Lib.hid (by rw [HS.out, if_neg (Nat.lt_irrefl _), if_neg (Nat.lt_irrefl _)])
        rw [if_neg (Nat.lt_irrefl _), if_neg (Nat.lt_irrefl _)] at HC
        go_wp2_with fail
        refine (HC.out).mono ?_
        rintro e w' ⟨rfl, rfl⟩
        go_wp2_with fail
        exact ⟨⟨j + 1, by omega, by go_num, hv⟩, by simp [intOf]; omega⟩
      · have hv : Hid (cmpL a b = 1) := Lib.hid (by rw [HS.out, if_neg (by omega), if_pos h])
        rw [if_neg (by omega), if_pos h] at HC
        clear h
        go_wp2_with fail
        refine (HC.out).mono ?_
        rintro e w' ⟨rfl, rfl⟩
        go_wp2_with fail
        go_ret
        exact ⟨by rw [hv.out]; rfl, rfl⟩
    · obtain rfl : j = n := by omega
      have hv : Hid (cmpL a b = 0) := Lib.hid (by rw [hI.out, ← HLA.out]; exact cmpL_end)
      go_wp2_with fail
      go_ret
      exact ⟨by rw [hv.out]; rfl, rfl⟩

set_option maxRecDepth 100000 in
theorem or_c (w : World) (g : Nat) (x : Int) (h0 : w.cell? ⟨g, 0, none⟩ = some (.int .i64 0)) (h1 : w.cell? ⟨g, 1, none⟩ = some (.int .i64 x)) (hx : x = -1 ∨ x = 0 ∨ x = 1) :
    Calls Tryz.prog 67 #[.slice (some ⟨g, 0, none⟩) 2 2] w fun e w' => e = .returned (.int .i64 x) ∧ w = w' := by
  by_cases h : x = 0
  · subst h
    go_enter Tryz.func67, Tryz.ntmps67
    go_wp2_with fail
    go_loop [8] (fun i => ∃ j : Nat, j ≤ 2 ∧ i = .int .i64 (j : Int)) (fun i => 2 - (intOf i).toNat)
    case atStart => exact ⟨0, Nat.zero_le _, rfl⟩
    case round =>
      obtain ⟨j, hj, rfl⟩ := hrel
      have hjj : j = 0 ∨ j = 1 ∨ j = 2 := by omega
      rcases hjj with rfl | rfl | rfl
      · go_wp2_with fail
        exact ⟨⟨1, by decide, rfl⟩, by decide⟩
      · go_wp2_with fail
        exact ⟨⟨2, by decide, rfl⟩, by decide⟩
      · go_wp2_with fail
        go_ret
        exact ⟨rfl, rfl⟩
  · have hx0 : (x != 0) = true := by simpa using h
    clear hx
    go_enter Tryz.func67, Tryz.ntmps67
    go_wp2_with fail
    go_loop [8] (fun i => ∃ j : Nat, j ≤ 1 ∧ i = .int .i64 (j : Int)) (fun i => 2 - (intOf i).toNat)
    case atStart => exact ⟨0, Nat.zero_le _, rfl⟩
    case round =>
      obtain ⟨j, hj, rfl⟩ := hrel
      have hjj : j = 0 ∨ j = 1 := by omega
      rcases hjj with rfl | rfl
      · go_wp2_with fail
        exact ⟨⟨1, by decide, rfl⟩, by decide⟩
      · go_wp2_with fail
        go_ret
        exact ⟨rfl, rfl⟩
theorem cmpL_range : ∀ (a b : List Nat), cmpL a b = -1 ∨ cmpL a b = 0 ∨ cmpL a b = 1
  | [], _ => by simp [cmpL]
  | _ :: _, [] => by simp [cmpL]
  | x :: a, y :: b => by
    rw [cmpL]
    split
    · exact Or.inl rfl
    · split
      · exact Or.inr (Or.inr rfl)
      · exact cmpL_range a b

set_option maxRecDepth 100000 in
/-- Words of one length. -/
theorem wordCmp_c (w : World) (A B : Option Addr) (n c d : Nat) (a b : List Nat) (hA : Sl w A n ((ints a).map (Value.int .i64))) (hB : Sl w B n ((ints b).map (Value.int .i64))) (hn : n ≤ 9223372036854775807) :
    Calls Tryz.prog 36 #[.slice A n c, .slice B n d] w fun e w' => e = .returned (.int .i64 (cmpL a b)) ∧ Below w.heap.size w w' := by
  have h1 := cmpI_c w n n
  rw [if_neg (Nat.lt_irrefl _), if_neg (Nat.lt_irrefl _)] at h1
  have H1 := Lib.hid h1
  have H2 := Lib.hid (cmpS_c w A B n c d a b hA hB hn)
  have hr := cmpL_range a b
  obtain ⟨x, hx⟩ : ∃ x, cmpL a b = x := ⟨_, rfl⟩
  rw [hx] at hr H2 ⊢
  have hb := (Below.refl w.heap.size w).alloc (Nat.le_refl _) (.cells #[.int .i64 0, .int .i64 x] 3)
  have h0 := heap_new w (.cells #[.int .i64 0, .int .i64 x] 3)
  have H3 := Lib.hid (or_c (w.alloc (.cells #[.int .i64 0, .int .i64 x] 3)) w.heap.size x ((cell_of_row _ w.heap.size 0 _ _ _ h0).trans rfl) ((cell_of_row _ w.heap.size 1 _ _ _ h0).trans rfl) hr)
  have HB := Lib.hid hb
  clear h1 hx hr h0 hb hA hB
  go_enter Tryz.func36, Tryz.ntmps36
  go_wp2_with fail
  refine (H1.out).mono ?_
  rintro e w1 ⟨rfl, rfl⟩
  go_wp2_with fail
  refine (H2.out).mono ?_
  rintro e w1 ⟨rfl, rfl⟩
  go_wp2_with fail
  refine (H3.out).mono ?_
  rintro e w1 ⟨rfl, rfl⟩
  go_wp2_with fail
  go_ret
  exact ⟨rfl, HB.out⟩
end Go.Proofs.YthilnpfpllplaaaGreatDoor

namespace Go.Proofs.YthilnpfpllplaaaGreatDoor
namespace RuleP

theorem image_cons {k r : Nat} {t y : List Nat} (h : 2 * r < y.length) : image k r t y = t.getD (wval k (y.take (2 * r + 1))) 0 :: image k r t (y.drop 1) := by
  unfold image
  rw [List.length_drop, show y.length - 2 * r = (y.length - 1 - 2 * r) + 1 from by omega, List.range_succ_eq_map, List.map_cons, List.map_map]
  congr 1
  apply List.map_congr_left
  intro i _
  simp only [Function.comp, win, List.drop_drop]
  rw [show 1 + i = i.succ from by omega]
theorem image_few {k r : Nat} {t y : List Nat} (h : y.length ≤ 2 * r) : image k r t y = [] := by
  unfold image
  rw [show y.length - 2 * r = 0 from by omega]
  rfl
/-- The node behind a symbol. -/
theorem node_next {k r u s : Nat} (hk : 0 < k) (hu : u < k ^ (2 * r)) (hs : s < k) : (digB k (2 * r) u ++ [s]).drop 1 = digB k (2 * r) ((u * k + s) % k ^ (2 * r)) := by
  have hsy : ∀ x ∈ digB k (2 * r) u ++ [s], x < k := by
    intro x hx
    rcases List.mem_append.1 hx with h | h
    · exact digB_sym hk _ _ x h
    · simp at h; subst h; exact hs
  have hl : ((digB k (2 * r) u ++ [s]).drop 1).length = 2 * r := by simp [digB_len]
  have h2 := wval_mod (k := k) ((digB k (2 * r) u ++ [s]).take 1) (b := (digB k (2 * r) u ++ [s]).drop 1) (fun x hx => hsy x (List.mem_of_mem_drop hx))
  rw [List.take_append_drop, wval_snoc, wval_digB hk hu, hl] at h2
  rw [h2, digB_wval hk (2 * r) _ hl (fun x hx => hsy x (List.mem_of_mem_drop hx))]
theorem sols_mem {k N : Nat} {t : List Nat} {u c : Nat} {w z : List Nat} : z ∈ sols k N t u (c :: w) ↔ ∃ s z', s < k ∧ t.getD (u * k + s) 0 = c ∧ z' ∈ sols k N t ((u * k + s) % N) w ∧ z = s :: z' := by
  simp only [sols, List.mem_flatMap, List.mem_range]
  constructor
  · rintro ⟨s, hs, h⟩
    split at h
    · rename_i hc
      obtain ⟨z', h1, rfl⟩ := List.mem_map.1 h
      exact ⟨s, z', hs, hc, h1, rfl⟩
    · cases h
  · rintro ⟨s, z', hs, hc, h1, rfl⟩
    exact ⟨s, hs, by rw [if_pos hc]; exact List.mem_map.2 ⟨z', h1, rfl⟩⟩
theorem image_step {k r u s : Nat} {t z : List Nat} (hk : 0 < k) (hu : u < k ^ (2 * r)) (hs : s < k) :
    image k r t (digB k (2 * r) u ++ s :: z) = t.getD (u * k + s) 0 :: image k r t (digB k (2 * r) ((u * k + s) % k ^ (2 * r)) ++ z) := by
  have e : digB k (2 * r) u ++ s :: z = (digB k (2 * r) u ++ [s]) ++ z := by simp
  have hl : (digB k (2 * r) u ++ [s]).length = 2 * r + 1 := by simp [digB_len]
  rw [e, image_cons (by simp [digB_len]), List.take_append_of_le_length (by omega), List.take_of_length_le (by omega), wval_snoc, wval_digB hk hu, List.drop_append_of_le_length (by omega), node_next hk hu hs]
theorem sols_iff {k r : Nat} {t : List Nat} (hk : 0 < k) : ∀ {w : List Nat} {u : Nat} {z : List Nat}, u < k ^ (2 * r) → (z ∈ sols k (k ^ (2 * r)) t u w ↔ z.length = w.length ∧ (∀ x ∈ z, x < k) ∧ image k r t (digB k (2 * r) u ++ z) = w)
  | [], u, z, hu => by
    constructor
    · intro h
      simp [sols] at h
      subst h
      exact ⟨rfl, by simp, image_few (by simp [digB_len])⟩
    · rintro ⟨h, _, _⟩
      have : z = [] := List.eq_nil_of_length_eq_zero h
      subst this
      simp [sols]
  | c :: w, u, z, hu => by
    have hN : ∀ s, (u * k + s) % k ^ (2 * r) < k ^ (2 * r) := fun s => Nat.mod_lt _ (Nat.pow_pos hk)
    rw [sols_mem]
    constructor
    · rintro ⟨s, z', hs, hc, h1, rfl⟩
      obtain ⟨a, b, d⟩ := (sols_iff hk (hN s)).1 h1
      refine ⟨by simp [a], fun x hx => ?_, ?_⟩
      · rcases List.mem_cons.1 hx with rfl | hx
        · exact hs
        · exact b x hx
      · rw [image_step hk hu hs, hc, d]
    · rintro ⟨h1, h2, h3⟩
      cases z with
      | nil => simp at h1
      | cons s z' =>
        have hs := h2 s (by simp)
        rw [image_step hk hu hs] at h3
        injection h3 with h4 h5
        exact ⟨s, z', hs, h4, (sols_iff hk (hN s)).2 ⟨by simpa using h1, fun x hx => h2 x (by simp [hx]), h5⟩, rfl⟩
theorem before_mem {k r : Nat} {t w y : List Nat} : y ∈ before k r t w ↔ ∃ u z, u < k ^ (2 * r) ∧ z ∈ sols k (k ^ (2 * r)) t u w ∧ y = digB k (2 * r) u ++ z := by
  unfold before befTo
  simp only [List.mem_flatMap, List.mem_range, List.mem_map]
  constructor
  · rintro ⟨u, hu, z, hz, rfl⟩
    exact ⟨u, z, hu, hz, rfl⟩
  · rintro ⟨u, z, hu, hz, rfl⟩
    exact ⟨u, hu, z, hz, rfl⟩
end RuleP
end Go.Proofs.YthilnpfpllplaaaGreatDoor

namespace Go.Proofs.YthilnpfpllplaaaGreatDoor
namespace RuleP

/-- A window's symbol by a table. -/
def sy (k : Nat) (t v : List Nat) : Nat := t.getD (wval k v) 0
/-- The table whose symbols are told window by window. -/
def tab (k n : Nat) (f : List Nat → Nat) : List Nat := (List.range (k ^ n)).map fun i => f (digB k n i)
theorem tab_len (k n : Nat) (f : List Nat → Nat) : (tab k n f).length = k ^ n := by simp [tab]
theorem dig_wval {k : Nat} (hk : 0 < k) : ∀ {n u : Nat}, u < k ^ n → wval k (digB k n u) = u
  | 0, u, h => by simp at h; subst h; rfl
  | n + 1, u, h => by
    have h1 : u / k < k ^ n := by
      rw [Nat.pow_succ] at h
      exact Nat.div_lt_of_lt_mul (by rw [Nat.mul_comm]; exact h)
    rw [digB, wval_snoc, dig_wval hk h1, Nat.mul_comm]
    exact Nat.div_add_mod u k
theorem tab_at {k n : Nat} (hk : 0 < k) (f : List Nat → Nat) {v : List Nat} (hl : v.length = n) (hs : ∀ x ∈ v, x < k) : (tab k n f)[wval k v]? = some (f v) := by
  have h := wval_lt hs
  rw [hl] at h
  unfold tab
  rw [List.getElem?_map, List.getElem?_range h]
  simp only [Option.map_some]
  rw [digB_wval hk n v hl hs]
theorem tab_get {k n i : Nat} (f : List Nat → Nat) (h : i < k ^ n) : (tab k n f)[i]? = some (f (digB k n i)) := by
  unfold tab
  rw [List.getElem?_map, List.getElem?_range h]
  rfl
theorem sy_tab {k n : Nat} (hk : 0 < k) (f : List Nat → Nat) {v : List Nat} (hl : v.length = n) (hs : ∀ x ∈ v, x < k) : sy k (tab k n f) v = f v := by
  unfold sy
  rw [List.getD_eq_getElem?_getD, tab_at hk f hl hs]
  rfl
theorem tab_sym {k n : Nat} (hk : 0 < k) {f : List Nat → Nat} (hf : ∀ v : List Nat, v.length = n → (∀ x ∈ v, x < k) → f v < k) : ∀ x ∈ tab k n f, x < k := by
  intro x hx
  unfold tab at hx
  obtain ⟨i, _, rfl⟩ := List.mem_map.1 hx
  exact hf _ (digB_len _ _ _) (digB_sym hk _ _)
theorem tab_rule {k r : Nat} (k1 : 1 ≤ k) (k4 : k ≤ 4) (r3 : r ≤ 3) {f : List Nat → Nat} (hf : ∀ v : List Nat, v.length = 2 * r + 1 → (∀ x ∈ v, x < k) → f v < k) : IsRule k r (tab k (2 * r + 1) f) :=
  ⟨k1, k4, r3, tab_len _ _ _, tab_sym k1 hf⟩
theorem tab_congr {k n : Nat} (hk : 0 < k) {f g : List Nat → Nat} (h : ∀ v : List Nat, v.length = n → (∀ x ∈ v, x < k) → f v = g v) : tab k n f = tab k n g := by
  unfold tab
  exact List.map_congr_left fun i _ => h _ (digB_len _ _ _) (digB_sym hk _ _)
theorem sy_lt {k r : Nat} {t v : List Nat} (hr : IsRule k r t) (hl : v.length = 2 * r + 1) (hs : ∀ x ∈ v, x < k) : sy k t v < k := by
  have h := wval_lt hs
  rw [hl, ← hr.len] at h
  unfold sy
  rw [List.getD_eq_getElem?_getD, List.getElem?_eq_getElem h]
  exact hr.sym _ (List.getElem_mem _)
theorem tab_sy {k r : Nat} {t : List Nat} (hr : IsRule k r t) : tab k (2 * r + 1) (sy k t) = t := by
  apply List.ext_getElem (by rw [tab_len, hr.len])
  intro i h1 h2
  have h3 : i < k ^ (2 * r + 1) := by rwa [tab_len] at h1
  have h4 := tab_get (sy k t) h3
  rw [List.getElem?_eq_getElem h1] at h4
  rw [Option.some.inj h4]
  unfold sy
  rw [dig_wval hr.k1 h3, List.getD_eq_getElem?_getD, List.getElem?_eq_getElem h2]
  rfl

/-! ### windows of windows -/
theorem win_win {w : List Nat} {i m j n : Nat} (h : j + n ≤ m) : win (win w i m) j n = win w (i + j) n := by
  unfold win
  rw [List.drop_take, List.take_take, List.drop_drop, Nat.min_eq_left (by omega)]
theorem win_all {w : List Nat} {n : Nat} (h : w.length = n) : win w 0 n = w := by
  unfold win
  rw [List.drop_zero, List.take_of_length_le (by omega)]
theorem win_at {w : List Nat} {i n j : Nat} (h : j < n) : (win w i n)[j]? = w[i + j]? := by
  unfold win
  rw [List.getElem?_take, if_pos h, List.getElem?_drop]
theorem image_part {k r : Nat} {t w : List Nat} {i m : Nat} (h : i + m ≤ w.length) (hm : 2 * r ≤ m) : image k r t (win w i m) = win (image k r t w) i (m - 2 * r) := by
  have hl : (win w i m).length = m := win_len h
  apply List.ext_getElem?
  intro j
  by_cases hj : j + 2 * r < m
  · rw [image_at (by rw [hl]; exact hj), win_at (by omega), image_at (by omega), win_win (by omega)]
  · rw [List.getElem?_eq_none (by rw [image_len, hl]; omega), List.getElem?_eq_none]
    rw [win_len (by rw [image_len]; omega)]
    omega
/-! ### one behind the other -/
def comp (k ra : Nat) (ta : List Nat) (rb : Nat) (tb : List Nat) : List Nat := tab k (2 * (ra + rb) + 1) fun v => sy k ta (image k rb tb v)
theorem image_comp {k ra rb : Nat} {ta tb w : List Nat} (ha : IsRule k ra ta) (hb : IsRule k rb tb) (hs : ∀ x ∈ w, x < k) : image k (ra + rb) (comp k ra ta rb tb) w = image k ra ta (image k rb tb w) := by
  apply List.ext_getElem?
  intro i
  by_cases hi : i + 2 * (ra + rb) < w.length
  · rw [image_at hi, image_at (by rw [image_len]; omega)]
    have h1 : i + (2 * (ra + rb) + 1) ≤ w.length := by omega
    have h2 := sy_tab ha.k1 (fun v => sy k ta (image k rb tb v)) (win_len h1) (win_sym hs i (2 * (ra + rb) + 1))
    rw [image_part h1 (by omega), show 2 * (ra + rb) + 1 - 2 * rb = 2 * ra + 1 by omega] at h2
    exact congrArg some h2
  · rw [List.getElem?_eq_none (by rw [image_len]; omega), List.getElem?_eq_none (by rw [image_len, image_len]; omega)]
end RuleP
end Go.Proofs.YthilnpfpllplaaaGreatDoor

namespace Go.Proofs.YthilnpfpllplaaaGreatDoor
namespace RuleP

/-- With a radius d greater: the outer symbols tell nothing. -/
def wide (k r d : Nat) (t : List Nat) : List Nat := tab k (2 * (r + d) + 1) fun v => sy k t (win v d (2 * r + 1))
theorem wide_zero {k r : Nat} {t : List Nat} (hr : IsRule k r t) : wide k r 0 t = t := by
  have : wide k r 0 t = tab k (2 * r + 1) (sy k t) := tab_congr hr.k1 fun v hl _ => by
    show sy k t (win v 0 (2 * r + 1)) = sy k t v
    rw [win_all (show v.length = 2 * r + 1 from hl)]
  rw [this, tab_sy hr]
/-- With a radius 1 less, noughts outside. -/
def inn (k r : Nat) (t : List Nat) : List Nat := tab k (2 * r + 1) fun v => sy k t (0 :: (v ++ [0]))
theorem out_sym {k : Nat} {v : List Nat} (hk : 0 < k) (hs : ∀ x ∈ v, x < k) : ∀ x ∈ 0 :: (v ++ [0]), x < k := by
  intro x hx
  simp only [List.mem_cons, List.mem_append, List.not_mem_nil, or_false] at hx
  rcases hx with rfl | hx | rfl
  · exact hk
  · exact hs x hx
  · exact hk
theorem out_len (v : List Nat) : (0 :: (v ++ [0])).length = v.length + 2 := by simp
theorem inn_rule {k r : Nat} {t : List Nat} (hr : IsRule k (r + 1) t) : IsRule k r (inn k r t) := by
  have h3 := hr.r3
  exact tab_rule hr.k1 hr.k4 (by omega) fun v hl hs => sy_lt hr (by rw [out_len, hl]; omega) (out_sym hr.k1 hs)
theorem wide_one {k r d : Nat} {t : List Nat} (hr : IsRule k r t) : wide k (r + d) 1 (wide k r d t) = wide k r (d + 1) t :=
  tab_congr hr.k1 fun v hl hs => by
    show sy k (tab k (2 * (r + d) + 1) fun v => sy k t (win v d (2 * r + 1))) (win v 1 (2 * (r + d) + 1)) = sy k t (win v (d + 1) (2 * r + 1))
    rw [sy_tab hr.k1 _ (win_len (by omega)) (win_sym hs _ _), win_win (by omega), Nat.add_comm 1 d]
/-- The least radius that makes the same. -/
def narrow (k : Nat) : Nat → List Nat → Nat × List Nat
  | 0, t => (0, t)
  | r + 1, t => if wide k r 1 (inn k r t) = t then narrow k r (inn k r t) else (r + 1, t)
theorem narrow_rule {k : Nat} : ∀ {r : Nat} {t : List Nat}, IsRule k r t → IsRule k (narrow k r t).1 (narrow k r t).2
  | 0, _, h => h
  | r + 1, t, h => by
    unfold narrow
    split
    · exact narrow_rule (inn_rule h)
    · exact h
/-- The row read at place p of each window. -/
def shT (k r p : Nat) : List Nat := tab k (2 * r + 1) fun v => v.getD p 0
theorem getD_sym {k p : Nat} {v : List Nat} (hp : p < v.length) (hs : ∀ x ∈ v, x < k) : v.getD p 0 < k := by
  rw [List.getD_eq_getElem?_getD, List.getElem?_eq_getElem hp]
  exact hs _ (List.getElem_mem _)
theorem shT_rule {k r p : Nat} (k1 : 1 ≤ k) (k4 : k ≤ 4) (r3 : r ≤ 3) (hp : p < 2 * r + 1) : IsRule k r (shT k r p) :=
  tab_rule k1 k4 r3 fun v hl hs => getD_sym (by omega) hs
end RuleP
end Go.Proofs.YthilnpfpllplaaaGreatDoor
