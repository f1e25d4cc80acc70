/- Symbols by other names, as plain lists: the renamed table, its images, there and back; when a list of numbers is such names. No program. No condition. Symbols by other names: slices.Index, forms.Rename's closure. Condition: the table, the names and the window read from memory. Rules out of rules: forms.Rename of any rule and any names. Condition: the table and the names read from memory; the error variables hold what E says. Two symbols with one image, of a rule with the radius 0: plain, and the walk of twins.single. Condition: the table reads from memory. -/
import Derived.Test.YtibplgpolmplpaaGreatDoorX7
import Derived.Test.YtibplgpolmplpaaGreatDoorX8
import Derived.Test.YtibplgpolmplpaaGreatDoorX11
import Derived.Test.YtibplgpolmplpaaGreatDoorX12
import Derived.Test.YtibplgpolmplpaaGreatDoorX13
import Derived.Test.YtibplgpolmplpaaGreatDoorX15
namespace Go.Proofs.YtibplgpolmplpaaGreatDoor
namespace RuleP

/-- p names each symbol below k just once. -/
def IsNames (k : Nat) (p : List Nat) : Prop := p.Perm (List.range k)
def pos (p : List Nat) (x : Nat) : Nat := p.idxOf x
theorem IsNames.len {k : Nat} {p : List Nat} (h : IsNames k p) : p.length = k := by rw [h.length_eq, List.length_range]
theorem IsNames.sym {k : Nat} {p : List Nat} (h : IsNames k p) : ∀ x ∈ p, x < k := fun _ hx => List.mem_range.1 (h.mem_iff.1 hx)
theorem pos_at {p : List Nat} {k : Nat} (h : IsNames k p) {x : Nat} (hx : x < k) : pos p x < k ∧ p.getD (pos p x) 0 = x := by
  have hm : x ∈ p := h.mem_iff.2 (List.mem_range.2 hx)
  have hl := h.len
  have h1 : p.idxOf x < p.length := List.idxOf_lt_length_iff.2 hm
  refine ⟨by unfold pos; omega, ?_⟩
  unfold pos
  rw [List.getD_eq_getElem?_getD, List.getElem?_eq_getElem h1]
  simp [List.getElem_idxOf]
theorem at_pos {p : List Nat} {k : Nat} (h : IsNames k p) {i : Nat} (hi : i < k) : p.getD i 0 < k ∧ pos p (p.getD i 0) = i := by
  have hl := h.len
  have hn : p.Nodup := h.nodup_iff.2 List.nodup_range
  have hi' : i < p.length := by omega
  have e : p.getD i 0 = p[i] := by rw [List.getD_eq_getElem?_getD, List.getElem?_eq_getElem hi']; rfl
  rw [e]
  exact ⟨List.mem_range.1 (h.mem_iff.1 (List.getElem_mem hi')), hn.idxOf_getElem _ _⟩
/-- The list with p's names, and with its old ones. -/
def nam (p v : List Nat) : List Nat := v.map fun x => p.getD x 0
def old (p v : List Nat) : List Nat := v.map (pos p)
theorem nam_len (p v : List Nat) : (nam p v).length = v.length := by simp [nam]
theorem old_len (p v : List Nat) : (old p v).length = v.length := by simp [old]
theorem nam_sym {k : Nat} {p v : List Nat} (h : IsNames k p) (hs : ∀ x ∈ v, x < k) : ∀ x ∈ nam p v, x < k := by
  intro x hx
  obtain ⟨y, hy, rfl⟩ := List.mem_map.1 hx
  exact (at_pos h (hs y hy)).1
theorem old_sym {k : Nat} {p v : List Nat} (h : IsNames k p) (hs : ∀ x ∈ v, x < k) : ∀ x ∈ old p v, x < k := by
  intro x hx
  obtain ⟨y, hy, rfl⟩ := List.mem_map.1 hx
  exact (pos_at h (hs y hy)).1
theorem old_nam {k : Nat} {p v : List Nat} (h : IsNames k p) (hs : ∀ x ∈ v, x < k) : old p (nam p v) = v := by
  unfold old nam
  rw [List.map_map]
  exact (List.map_congr_left fun x hx => (at_pos h (hs x hx)).2).trans (List.map_id _)
theorem nam_old {k : Nat} {p v : List Nat} (h : IsNames k p) (hs : ∀ x ∈ v, x < k) : nam p (old p v) = v := by
  unfold old nam
  rw [List.map_map]
  exact (List.map_congr_left fun x hx => (pos_at h (hs x hx)).2).trans (List.map_id _)
/-- The renamed rule. -/
def renT (k r : Nat) (t p : List Nat) : List Nat := tab k (2 * r + 1) fun v => p.getD (sy k t (old p v)) 0
theorem renT_rule {k r : Nat} {t p : List Nat} (hr : IsRule k r t) (h : IsNames k p) : IsRule k r (renT k r t p) :=
  tab_rule hr.k1 hr.k4 hr.r3 fun v hl hs => (at_pos h (sy_lt hr (by rw [old_len, hl]) (old_sym h hs))).1
theorem sy_ren {k r : Nat} {t p v : List Nat} (hr : IsRule k r t) (h : IsNames k p) (hl : v.length = 2 * r + 1) (hs : ∀ x ∈ v, x < k) : sy k (renT k r t p) (nam p v) = p.getD (sy k t v) 0 := by
  have h1 := sy_tab (n := 2 * r + 1) hr.k1 (fun v => p.getD (sy k t (old p v)) 0) (v := nam p v) (by rw [nam_len]; exact hl) (nam_sym h hs)
  exact h1.trans (by rw [old_nam h hs])
theorem win_nam (p w : List Nat) (i m : Nat) : win (nam p w) i m = nam p (win w i m) := by
  unfold win nam
  rw [List.map_take, List.map_drop]
theorem image_ren {k r : Nat} {t p w : List Nat} (hr : IsRule k r t) (h : IsNames k p) (hs : ∀ x ∈ w, x < k) : image k r (renT k r t p) (nam p w) = nam p (image k r t w) := by
  unfold image
  rw [nam_len]
  unfold nam
  rw [List.map_map]
  refine List.map_congr_left fun i hi => ?_
  have hi' := List.mem_range.1 hi
  have := sy_ren hr h (v := win w i (2 * r + 1)) (win_len (by omega)) (win_sym hs _ _)
  rw [← win_nam] at this
  exact this
/-- The names back. -/
def inv (k : Nat) (p : List Nat) : List Nat := (List.range k).map (pos p)
theorem inv_len (k : Nat) (p : List Nat) : (inv k p).length = k := by simp [inv]
theorem inv_at {k : Nat} {p : List Nat} {x : Nat} (hx : x < k) : (inv k p).getD x 0 = pos p x := by
  unfold inv
  rw [List.getD_eq_getElem?_getD, List.getElem?_map, List.getElem?_range hx]
  rfl
theorem nodup_names {k : Nat} {p : List Nat} (hl : p.length = k) (hs : ∀ x ∈ p, x < k) (hn : p.Nodup) : IsNames k p := by
  refine List.perm_iff_count.2 fun x => ?_
  have key : ∀ (k : Nat) (p : List Nat), p.length = k → (∀ x ∈ p, x < k) → p.Nodup → ∀ x, x < k → x ∈ p := by
    intro k
    induction k with
    | zero => intro p _ _ _ x hx; omega
    | succ k ih =>
      intro p hl hs hn x hx
      by_cases hk : k ∈ p
      · by_cases e : x = k
        · rw [e]; exact hk
        · have h1 : (p.erase k).length = k := by rw [List.length_erase_of_mem hk, hl]; rfl
          have h2 : ∀ y ∈ p.erase k, y < k := fun y hy => by
            have h3 := hs y (List.mem_of_mem_erase hy)
            have h4 : y ≠ k := ((hn.mem_erase_iff).1 hy).1
            omega
          exact List.mem_of_mem_erase (ih (p.erase k) h1 h2 (hn.erase k) x (by omega))
      · exfalso
        have h2 : ∀ y ∈ p, y < k := fun y hy => by
          have h3 := hs y hy
          have h4 : y ≠ k := fun e => hk (e ▸ hy)
          omega
        match p, hl with
        | a :: q, hl =>
          have hq : q.length = k := by simpa using hl
          have h5 := ih q hq (fun y hy => h2 y (by simp [hy])) (List.nodup_cons.1 hn).2 a (h2 a (by simp))
          exact (List.nodup_cons.1 hn).1 h5
  by_cases hx : x < k
  · rw [hn.count, List.nodup_range.count, if_pos (key k p hl hs hn x hx), if_pos (List.mem_range.2 hx)]
  · rw [List.count_eq_zero.2 (fun h => hx (hs x h)), List.count_eq_zero.2 (fun h => hx (List.mem_range.1 h))]
theorem inv_names {k : Nat} {p : List Nat} (h : IsNames k p) : IsNames k (inv k p) := by
  refine nodup_names (inv_len k p) (fun x hx => ?_) ?_
  · obtain ⟨y, hy, rfl⟩ := List.mem_map.1 hx
    exact (pos_at h (List.mem_range.1 hy)).1
  · unfold inv
    rw [List.nodup_iff_pairwise_ne, List.pairwise_map]
    refine List.nodup_range.imp_of_mem fun {a b} ha hb hne e => hne ?_
    have h1 := (pos_at h (List.mem_range.1 ha)).2
    rw [e, (pos_at h (List.mem_range.1 hb)).2] at h1
    exact h1.symm
theorem pos_inv {k : Nat} {p : List Nat} (h : IsNames k p) {x : Nat} (hx : x < k) : pos (inv k p) x = p.getD x 0 := by
  have h1 := at_pos h hx
  have h2 := at_pos (inv_names h) h1.1
  rw [inv_at h1.1, h1.2] at h2
  exact h2.2
theorem old_inv {k : Nat} {p v : List Nat} (h : IsNames k p) (hs : ∀ x ∈ v, x < k) : old (inv k p) v = nam p v :=
  List.map_congr_left fun x hx => pos_inv h (hs x hx)
theorem ren_back {k r : Nat} {t p : List Nat} (hr : IsRule k r t) (h : IsNames k p) : renT k r (renT k r t p) (inv k p) = t := by
  have : renT k r (renT k r t p) (inv k p) = tab k (2 * r + 1) (sy k t) := tab_congr hr.k1 fun v hl hs => by
    rw [old_inv h hs, sy_ren hr h hl hs]
    have h1 := sy_lt hr hl hs
    rw [inv_at (at_pos h h1).1, (at_pos h h1).2]
  rw [this, tab_sy hr]

/-! ### when sorted numbers are names -/
theorem sorted_names {k : Nat} {P : List Int} (h : P.Perm (ints (List.range k))) : ∃ p, P = ints p ∧ IsNames k p := by
  refine ⟨P.map Int.toNat, ?_, ?_⟩
  · unfold ints
    rw [List.map_map]
    refine ((List.map_congr_left fun x hx => ?_).trans (List.map_id _)).symm
    obtain ⟨y, _, rfl⟩ := List.mem_map.1 (h.mem_iff.1 hx)
    rfl
  · have h1 := h.map Int.toNat
    unfold ints at h1
    rw [List.map_map] at h1
    have e : List.map (Int.toNat ∘ fun (x : Nat) => (x : Int)) (List.range k) = List.range k := (List.map_congr_left fun x _ => rfl).trans (List.map_id _)
    rw [e] at h1
    exact h1
theorem names_sort {k : Nat} {p : List Nat} (h : IsNames k p) : (ints p).mergeSort (fun x y => decide (x ≤ y)) = ints (List.range k) := by
  have tr : ∀ a b c : Int, decide (a ≤ b) = true → decide (b ≤ c) = true → decide (a ≤ c) = true := by
    intro a b c h1 h2
    simp only [decide_eq_true_eq] at h1 h2 ⊢
    omega
  have to : ∀ a b : Int, (decide (a ≤ b) || decide (b ≤ a)) = true := by
    intro a b
    simp only [Bool.or_eq_true, decide_eq_true_eq]
    omega
  have h1 : ((ints p).mergeSort (fun x y => decide (x ≤ y))).Perm (ints (List.range k)) := (List.mergeSort_perm _ _).trans (h.map _)
  have h2 : ((ints p).mergeSort (fun x y => decide (x ≤ y))).Pairwise (fun x y => decide (x ≤ y) = true) := List.pairwise_mergeSort tr to _
  have h3 : (ints (List.range k)).Pairwise (fun x y => decide (x ≤ y) = true) := by
    unfold ints
    rw [List.pairwise_map]
    exact List.pairwise_lt_range.imp fun {a b} hab => by simp only [decide_eq_true_eq]; omega
  exact h1.eq_of_pairwise (fun a b _ _ hab hba => by simp only [decide_eq_true_eq] at hab hba; omega) h2 h3
end RuleP
end Go.Proofs.YtibplgpolmplpaaGreatDoor

namespace Go.Proofs.YtibplgpolmplpaaGreatDoor
open Go.RowKit RuleP

theorem pos_ne {p : List Nat} {x i y : Nat} (hi : i < pos p x) (hy : p[i]? = some y) : y ≠ x := by
  intro e
  subst e
  have h := List.not_of_lt_findIdx (p := (· == y)) (xs := p) (i := i) hi
  have hl : i < p.length := (List.getElem?_eq_some_iff.1 hy).1
  have : p[i] = y := (List.getElem?_eq_some_iff.1 hy).2
  simp [this] at h

set_option maxRecDepth 100000 in
set_option maxHeartbeats 1000000 in
theorem index_c (w : World) (B : Option Addr) (m d : Nat) (p : List Nat) (x : Nat) (hx : x ∈ p) (hm : m ≤ 1000000) (hP : Sl w B m ((ints p).map (Value.int .i64))) :
    Calls Tryz.prog 71 #[.slice B m d, .int .i64 (x : Int)] w fun e w' => e = .returned (.int .i64 ((pos p x : Nat) : Int)) ∧ w' = w := by
  have hl : p.length = m := by simpa [ints] using hP.1
  have hpx : pos p x < m := by rw [← hl]; exact List.idxOf_lt_length_iff.2 hx
  have hget : p[pos p x]? = some x := by
    have h1 : p.idxOf x < p.length := List.idxOf_lt_length_iff.2 hx
    unfold pos
    rw [List.getElem?_eq_getElem h1]
    simp [List.getElem_idxOf]
  have HN := Lib.hid (fun (i y : Nat) (hi : i < pos p x) (hy : p[i]? = some y) => pos_ne hi hy)
  obtain ⟨q, hq⟩ : ∃ q, pos p x = q := ⟨_, rfl⟩
  rw [hq] at HN hpx hget
  rw [hq]
  have HG := Lib.hid hget
  rw [ints_map] at hP
  clear hl hx hget hq
  go_enter Tryz.func71, Tryz.ntmps71
  go_wp2_with fail
  go_loop [8] (fun iv => ∃ i : Nat, i ≤ q ∧ iv = .int .i64 (i : Int)) (fun iv => m - (intOf iv).toNat)
  case atStart => exact ⟨0, Nat.zero_le _, rfl⟩
  case round =>
    obtain ⟨i, hi, rfl⟩ := hrel
    obtain ⟨ad, y, rfl, hy, hc⟩ := hP.word_ (show i < m by omega)
    have hi' : (i : Int) < (m : Int) := by omega
    by_cases hiq : i = q
    · subst hiq
      have hxy : x = y := by have := HG.out; rw [hy] at this; exact (Option.some.inj this).symm
      subst hxy
      clear hy
      go_wp2_with fail
      go_ret
      exact ⟨rfl, rfl⟩
    · have hne : ¬ (x : Int) = (y : Int) := fun e => HN.out i y (by omega) hy (by omega)
      clear hy
      go_wp2_with fail
      exact ⟨⟨i + 1, by omega, by go_num⟩, by simp [intOf]; omega⟩

theorem make_ints' (w : World) (n : Nat) (h : n ≤ maxLen) : (w.alloc (.cells (madeCells #[.int .i64 0] n) 3)).ownsRow w.heap.size 3 1 (.slice (some ⟨w.heap.size, 0, none⟩) n n) n ((ints (List.replicate n 0)).map (Value.int .i64)) := by
  have := make_row_ints w n h
  have e : (ints (List.replicate n 0)).map (Value.int .i64) = List.replicate n (.int .i64 0) := by simp [ints]
  rw [e]
  exact this
theorem old_set {p v : List Nat} {i x L : Nat} (hl : v.length = L) (hx : v[i]? = some x) (hi : i < L) : ((old p v).take i ++ List.replicate (L - i) 0).set i (pos p x) = (old p v).take (i + 1) ++ List.replicate (L - (i + 1)) 0 := by
  have h1 : ((old p v).take i).length = i := by rw [List.length_take, old_len]; omega
  have h2 : (old p v)[i]? = some (pos p x) := by unfold old; rw [List.getElem?_map, hx]; rfl
  rw [List.set_append, h1, if_neg (by omega), Nat.sub_self]
  rw [show L - i = (L - (i + 1)) + 1 by omega, List.replicate_succ, List.set_cons_zero, List.take_add_one, h2]
  simp

set_option maxRecDepth 100000 in
set_option maxHeartbeats 2000000 in
theorem rename1_c (w : World) (g gp gr k r : Nat) (A B : Option Addr) (n c m d : Nat) (t v p : List Nat) (hr : IsRule k r t) (hp : IsNames k p) (hv : ∀ x ∈ v, x < k) (hT : Sl w A n ((ints t).map (Value.int .i64))) (hR : RuleAt w gr (.int .i64 (k : Int)) (.int .i64 (r : Int)) (.slice A n c))
    (hB : w.heap[gp]? = some (.cells #[.slice B m d] 22 (0, 0))) (hP : Sl w B m ((ints p).map (Value.int .i64)))
    (hV : Sl w (some ⟨g, 0, none⟩) (2 * r + 1) ((ints v).map (Value.int .i64))) :
    Calls Tryz.prog 70 #[.slice (some ⟨g, 0, none⟩) (2 * r + 1) (2 * r + 1), .pointer (some ⟨gp, 0, none⟩), .pointer (some ⟨gr, 0, none⟩)] w fun e w' => e = .returned (.int .i64 ((p.getD (sy k t (old p v)) 0 : Nat) : Int)) ∧ Below w.heap.size w w' := by
  have hvl : v.length = 2 * r + 1 := by simpa [ints] using hV.1
  have hpl : p.length = m := by simpa [ints] using hP.1
  have hmk' : m = k := by rw [← hpl, hp.len]
  have h3 := hr.r3
  have hk4 := hr.k4
  have hsl := sy_lt hr (v := old p v) (by rw [old_len, hvl]) (old_sym hp hv)
  have HSY := Lib.hid (fun (wz : World) (hz : Below w.heap.size w wz) (hC : Sl wz (some ⟨w.heap.size, 0, none⟩) (2 * r + 1) ((ints (old p v)).map (Value.int .i64))) => symbol_c wz k r A (some ⟨w.heap.size, 0, none⟩) n c (2 * r + 1) (2 * r + 1) t (old p v) hr (old_sym hp hv) (by rw [old_len, hvl]) (hT.below hz) hC)
  have HIX := Lib.hid (fun (wz : World) (hz : Below w.heap.size w wz) (x : Nat) (hx : x < k) => index_c wz B m d p x (hp.mem_iff.2 (List.mem_range.2 hx)) (by omega) (hP.below hz))
  have HRA := Lib.hid (fun (wz : World) (hz : Below w.heap.size w wz) => (hR.below hz hR.lt).facts)
  have hgp : gp < w.heap.size := (Array.getElem?_eq_some_iff.1 hB).1
  have HPB := Lib.hid (fun (wz : World) (hz : Below w.heap.size w wz) => (show wz.cell? ⟨gp, 0, none⟩ = some (.slice B m d) by
    rw [cell_of_row wz _ _ _ _ _ ((hz.block gp hgp).trans hB)]; rfl))
  obtain ⟨L, hL⟩ : ∃ L, 2 * r + 1 = L := ⟨_, rfl⟩
  obtain ⟨Y, hY⟩ : ∃ Y, sy k t (old p v) = Y := ⟨_, rfl⟩
  rw [hY] at hsl HSY
  rw [hY]
  have HPY := Lib.hid (fun (wz : World) (hz : Below w.heap.size w wz) => (hP.below hz).int_ (show Y < m by omega))
  rw [hL] at hV hvl HSY
  rw [hL]
  have hL1 : 0 < L := by omega
  have hL7 : L ≤ 7 := by omega
  have hmk := run_make_row' (P := Tryz.prog) 22 3 (.int .i64 0) 8 tInts.und tInts.info rfl .i64 .i64 L (by omega) (by omega) w
  have hb1 := (Below.refl w.heap.size w).alloc (Nat.le_refl _) (.cells (madeCells #[.int .i64 0] L) 3)
  have ho1 := make_ints' w L (by simp only [maxLen]; omega)
  have HV1 := Lib.hid hV
  have HVS := Lib.hid hv
  have HVL := Lib.hid hvl
  have HB1 := Lib.hid hb1
  have HO1 := Lib.hid ho1
  have HMK := Lib.hid hmk'
  unfold ruleV at HSY
  have hYm : Y < m := by omega
  clear hL hvl hT hR hr hV hv hB hP hpl hmk' hp hb1 ho1 hY hsl
  go_enter Tryz.func70, Tryz.ntmps70
  go_wp2_with fail
  go_loopw [13] (fun iv wl => ∃ i : Nat, i ≤ L ∧ iv = .int .i64 (i : Int) ∧ wl.ownsRow w.heap.size 3 1 (.slice (some ⟨w.heap.size, 0, none⟩) L L) L ((ints ((old p v).take i ++ List.replicate (L - i) 0)).map (Value.int .i64)) ∧ Hid (Below w.heap.size w wl)) (fun iv _ => L - (intOf iv).toNat)
  case atStart => exact ⟨0, Nat.zero_le _, rfl, HO1.out, HB1⟩
  case round =>
    obtain ⟨i, hi, rfl, hown, hb⟩ := hrel
    by_cases hlt : i < L
    · have hlt' : (i : Int) < (L : Int) := by omega
      obtain ⟨ad, x, e, hx, hc⟩ := (by have h := HV1.out.below hb.out; rw [ints_map] at h; exact h.word_ hlt : ∃ ad x, (some ⟨g, 0, none⟩ : Option Addr) = some ad ∧ v[i]? = some x ∧ wr.cell? (ad.add i) = some (.int .i64 (x : Int)))
      cases e
      have hxk : x < k := HVS.out x (List.mem_of_getElem? hx)
      have HI := Lib.hid (HIX.out wr hb.out x hxk)
      have hpb := HPB.out wr hb.out
      obtain ⟨q, hq⟩ : ∃ q, pos p x = q := ⟨_, rfl⟩
      have hst := old_set (p := p) HVL.out hx hlt
      rw [hq] at HI hst
      have fa := hown.frozenAt i
      have ca : wr.cell? ⟨w.heap.size, i, none⟩ = some (.int .i64 0) := by
        rw [hown.cellAt i (by omega), List.getElem?_map]
        unfold ints
        rw [List.getElem?_map, List.getElem?_append_right (by rw [List.length_take]; omega), List.length_take, old_len, HVL.out, Nat.min_eq_left (by omega), Nat.sub_self, List.getElem?_replicate, if_pos (by omega)]
        rfl
      have o1 := (hown.stored i (.int .i64 (q : Int))).1
      have e1 : ((ints ((old p v).take i ++ List.replicate (L - i) 0)).map (Value.int .i64)).set i (.int .i64 (q : Int)) = (ints ((old p v).take (i + 1) ++ List.replicate (L - (i + 1)) 0)).map (Value.int .i64) := by
        rw [← hst, ints_map, ints_map, List.map_set]
      rw [e1] at o1
      have HOO := Lib.hid o1
      have HBB := Lib.hid (hb.out.setCell (p := ⟨w.heap.size, i, none⟩) (Nat.le_refl _) (.int .i64 (q : Int)))
      rw [addr_add] at hc
      have hi0 : (0 : Int) ≤ (i : Int) := by omega
      clear hst e1 o1 hq hx hown hb
      go_wp2_with fail
      refine (HI.out).mono ?_
      rintro e w' ⟨rfl, rfl⟩
      go_wp2_with fail
      exact ⟨⟨i + 1, by omega, by go_num, HOO.out, HBB⟩, by simp [intOf]; omega⟩
    · have hlt' : ¬ (i : Int) < (L : Int) := by omega
      obtain rfl : i = L := by omega
      have hle : ((old p v).take i ++ List.replicate (i - i) 0) = old p v := by
        rw [Nat.sub_self, List.replicate_zero, List.append_nil, List.take_of_length_le (by rw [old_len, HVL.out]; exact Nat.le_refl _)]
      rw [hle] at hown
      obtain ⟨r0, r1, r2, _⟩ := HRA.out wr hb.out
      have hpb := HPB.out wr hb.out
      have hs2 := HSY.out wr.drew hb.out.drew ((Sl.of_own hown).below ((Below.refl wr.heap.size wr).drew))
      have HS := Lib.hid hs2
      obtain ⟨ad, y, e, hy, hc⟩ := HPY.out wr hb.out
      subst e
      have hy2 : p.getD Y 0 = y.toNat ∧ 0 ≤ y := by
        rw [List.getD_eq_getElem?_getD]
        unfold ints at hy
        rw [List.getElem?_map] at hy
        cases h : p[Y]? with
        | none => rw [h] at hy; cases hy
        | some z => rw [h] at hy; cases hy; exact ⟨rfl, Int.natCast_nonneg z⟩
      have HY2 := Lib.hid (show y = ((p.getD Y 0 : Nat) : Int) by rw [hy2.1]; have := hy2.2; omega)
      have HBW := Lib.hid hb.out
      have hYm' : (Y : Int) < (m : Int) := by omega
      have hY0 : (0 : Int) ≤ (Y : Int) := by omega
      clear hs2 hle hown hb hy hy2
      go_wp2_with fail
      go_region_held3 (fun w' => w'.cell? ⟨gr, 0, none⟩ = some (.int .i64 (k : Int)) ∧ w'.cell? ⟨gr, 1, none⟩ = some (.int .i64 (r : Int)) ∧ w'.cell? ⟨gr, 2, none⟩ = some (.slice A n c) ∧ w'.cell? ⟨gp, 0, none⟩ = some (.slice (some ad) m d) ∧ w'.cell? (ad.add Y) = some (.int .i64 y))
        (first | go_keep)
        (first
          | (go_at_call 66
             refine (HS.out).mono ?_
             rintro e w2 ⟨rfl, hb2⟩
             have x0 := cell_later hb2 r0
             have x1 := cell_later hb2 r1
             have x2 := cell_later hb2 r2
             have x3 := cell_later hb2 hpb
             have x4 := cell_later hb2 hc))
      have HB9 := Lib.hid (HBW.out.trans (((Below.refl wr.heap.size wr).drew.trans hb2).mono HBW.out.size))
      go_wp2_with fail
      go_ret
      exact ⟨by rw [HY2.out]; rfl, HB9.out⟩
end Go.Proofs.YtibplgpolmplpaaGreatDoor

namespace Go.Proofs.YtibplgpolmplpaaGreatDoor
open Go.RowKit RuleP

/-- The first place where a list is not its places' numbers. -/
theorem first_odd (S : List Int) (k : Nat) (hl : S.length = k) : S = ints (List.range k) ∨ ∃ i y, i < k ∧ S[i]? = some y ∧ y ≠ (i : Int) ∧ ∀ j, j < i → S[j]? = some (j : Int) := by
  have key : ∀ n, n ≤ k → (∀ j, j < n → S[j]? = some (j : Int)) ∨ ∃ i y, i < n ∧ S[i]? = some y ∧ y ≠ (i : Int) ∧ ∀ j, j < i → S[j]? = some (j : Int) := by
    intro n
    induction n with
    | zero => intro _; exact .inl fun j h => absurd h (Nat.not_lt_zero j)
    | succ n ih =>
      intro hn
      rcases ih (by omega) with h | ⟨i, y, h1, h2, h3, h4⟩
      · have hlt : n < S.length := by omega
        have hy := List.getElem?_eq_getElem hlt
        by_cases e : S[n] = (n : Int)
        · refine .inl fun j hj => ?_
          by_cases hjn : j = n
          · rw [hjn, hy, e]
          · exact h j (by omega)
        · exact .inr ⟨n, S[n], by omega, hy, e, h⟩
      · exact .inr ⟨i, y, by omega, h2, h3, h4⟩
  rcases key k (Nat.le_refl _) with h | ⟨i, y, h1, h2, h3, h4⟩
  · refine .inl (List.ext_getElem? fun j => ?_)
    by_cases hj : j < k
    · rw [h j hj]
      unfold ints
      rw [List.getElem?_map, List.getElem?_range hj]
      rfl
    · rw [List.getElem?_eq_none (by omega), List.getElem?_eq_none (by rw [ints_len, List.length_range]; omega)]
  · exact .inr ⟨i, y, h1, h2, h3, h4⟩

set_option maxRecDepth 100000 in
set_option maxHeartbeats 2000000 in
theorem rename_arg (w : World) (E : Nat → Addr) (hE : Errs w E) (k r : Nat) (A B : Option Addr) (n c m d : Nat) (t : List Nat) (Q : List Int) (hr : IsRule k r t) (hT : Sl w A n ((ints t).map (Value.int .i64))) (hQ : Sl w B m (Q.map (Value.int .i64))) (hm : m * 8 ≤ 140737488351232)
    (h : Q.length ≠ k ∨ (Q.mergeSort fun x y => decide (x ≤ y)) ≠ ints (List.range k)) :
    Calls Tryz.prog 24 #[ruleV k r A n c, .slice B m d] w (RuleRes w E 0 0 [] (some (3, [(sForms, 0)]))) := by
  have hbW := (((Below.refl w.heap.size w).alloc (Nat.le_refl _) (.cells #[.int .i64 (k : Int), .int .i64 (r : Int), .slice A n c] 24)).alloc (by simp) (.cells #[.slice B m d] 22)).alloc (by simp; omega) (.cells #[.int .i64 0, .int .i64 0, .slice none 0 0] 24)
  have hr0 := ((RuleAt.new w (.int .i64 (k : Int)) (.int .i64 (r : Int)) (.slice A n c)).alloc (.cells #[.slice B m d] 22)).alloc (.cells #[.int .i64 0, .int .i64 0, .slice none 0 0] 24)
  have hp1 : (((w.alloc (.cells #[.int .i64 (k : Int), .int .i64 (r : Int), .slice A n c] 24)).alloc (.cells #[.slice B m d] 22)).alloc (.cells #[.int .i64 0, .int .i64 0, .slice none 0 0] 24)).heap[w.heap.size + 1]? = some (.cells #[.slice B m d] 22 (0, 0)) :=
    (Below.heap_alloc _ _ _ (by simp)).trans (by have h := heap_new (w.alloc (.cells #[.int .i64 (k : Int), .int .i64 (r : Int), .slice A n c] 24)) (.cells #[.slice B m d] 22); rw [World.size_alloc] at h; exact h)
  have hr2 := RuleAt.new ((w.alloc (.cells #[.int .i64 (k : Int), .int .i64 (r : Int), .slice A n c] 24)).alloc (.cells #[.slice B m d] 22)) (.int .i64 0) (.int .i64 0) (.slice none 0 0)
  simp only [World.size_alloc] at hr2
  obtain ⟨W, hW⟩ : ∃ W, ((w.alloc (.cells #[.int .i64 (k : Int), .int .i64 (r : Int), .slice A n c] 24)).alloc (.cells #[.slice B m d] 22)).alloc (.cells #[.int .i64 0, .int .i64 0, .slice none 0 0] 24) = W := ⟨_, rfl⟩
  have hWs : W.heap.size = w.heap.size + 3 := by rw [← hW]; simp
  rw [hW] at hbW hr0 hr2 hp1
  have HR0 := Lib.hid hr0
  have HR2 := Lib.hid hr2
  have HP1 := Lib.hid hp1
  obtain ⟨a0, b0, c0, _⟩ := hr0.facts
  obtain ⟨a2, b2, c2, _⟩ := hr2.facts
  have HW := Lib.hid hW
  have HWS := Lib.hid hWs
  have HBW := Lib.hid hbW
  have hn : t.length = n := by simpa [ints] using hT.1
  have hn16 := hr.le
  rw [hn] at hn16
  have hlq : Q.length = m := by simpa using hQ.1
  have hck := formsCheck_c W E (hE.below HBW.out) 0 (k : Int) (r : Int) A n c (ints t) (hT.below HBW.out) (by omega)
  rw [checkF_rule 0 hr] at hck
  have HC1 := Lib.hid hck
  have HTT := Lib.hid (fun (wz : World) (hz : Below W.heap.size W wz) => hT.below (HBW.out.trans (hz.mono HBW.out.size)))
  have HQQ := Lib.hid (fun (wz : World) (hz : Below W.heap.size W wz) => hQ.below (HBW.out.trans (hz.mono HBW.out.size)))
  have HEE := Lib.hid (fun (wz : World) (hz : Below W.heap.size W wz) => hE.below (HBW.out.trans (hz.mono HBW.out.size)))
  have HPP := Lib.hid (fun (wz : World) (hz : Below W.heap.size W wz) => ((hz.block (w.heap.size + 1) (by have := HWS.out; omega)).trans HP1.out : wz.heap[w.heap.size + 1]? = some (.cells #[.slice B m d] 22 (0, 0))))
  have HRU := Lib.hid hr
  have hr3 := hr.r3
  have hk4 := hr.k4
  have HLQ := Lib.hid hlq
  have p1 : W.cell? ⟨w.heap.size + 1, 0, none⟩ = some (.slice B m d) := by rw [cell_of_row W _ _ _ _ _ HP1.out]; rfl
  clear hr0 hr2 hW hWs hbW hT hE hck hn hr hp1 hQ hlq
  unfold ruleV at *
  go_enter Tryz.func24, Tryz.ntmps24
  go_wp2_with fail
  rw [HW.out]
  refine (HC1.out).mono ?_
  rintro e w1 ⟨v1, rfl, he1, hb1⟩
  have he1' : v1 = .nilIface := he1
  clear he1
  subst he1'
  clear a0 b0 c0 a2 b2 c2 p1
  obtain ⟨a0, b0, c0, _⟩ := (HR0.out.below hb1 HR0.out.lt).facts
  have p1 : w1.cell? ⟨w.heap.size + 1, 0, none⟩ = some (.slice B m d) := by rw [cell_of_row w1 _ _ _ _ _ (HPP.out w1 hb1)]; rfl
  have HVA := Lib.hid (callsIn_wide.1 (values_in Fence.wide 7 trivial rfl B m d w1))
  have hb1x := hb1.alloc hb1.size (.cells #[.slice B m d] 22)
  have HSO := Lib.hid (sortedVals_c (w1.alloc (.cells #[.slice B m d] 22)) w1.heap.size B m d Q (HQQ.out _ hb1x) hm (by simp) (by rw [cell_of_row _ _ _ _ _ _ (heap_new w1 (.cells #[.slice B m d] 22))]; rfl))
  have HB1X := Lib.hid hb1x
  clear hb1x
  go_wp2_with fail
  refine (HVA.out).mono ?_
  rintro e w' ⟨rfl, rfl⟩
  go_wp2_with fail
  refine (HSO.out).mono ?_
  rintro e w2 ⟨SC, Sc, rfl, hS, hb2'⟩
  have hb2 := HB1X.out.trans (hb2'.mono HB1X.out.size)
  obtain ⟨S, hSS⟩ : ∃ S, (Q.mergeSort fun x y => decide (x ≤ y)) = S := ⟨_, rfl⟩
  have hSl : S.length = m := by rw [← hSS, List.length_mergeSort]; exact HLQ.out
  rw [hSS] at hS h
  have HSS := Lib.hid hSS
  have HSL := Lib.hid hSl
  clear a0 b0 c0 p1 hb2' hSS hSl
  obtain ⟨a0, b0, c0, _⟩ := (HR0.out.below hb2 HR0.out.lt).facts
  have p1 : w2.cell? ⟨w.heap.size + 1, 0, none⟩ = some (.slice B m d) := by rw [cell_of_row w2 _ _ _ _ _ (HPP.out w2 hb2)]; rfl
  rw [HLQ.out] at h
  by_cases hmk : m = k
  · have h' := h.resolve_left (fun e => e hmk)
    rcases first_odd S k (by rw [HSL.out, hmk]) with hx | ⟨i0, y0, h1, h2, h3, h4⟩
    · exact absurd hx h'
    have H4 := Lib.hid h4
    have H2 := Lib.hid h2
    have H3 := Lib.hid h3
    have HSW := Lib.hid (Sl.of_own hS)
    have hmk' : (m : Int) = (k : Int) := by omega
    clear h h' h2 h3 h4 hS hmk
    go_wp2_with fail
    go_loop [28] (fun iv => ∃ i : Nat, i ≤ i0 ∧ iv = .int .i64 (i : Int)) (fun iv => m - (intOf iv).toNat)
    case atStart => exact ⟨0, Nat.zero_le _, rfl⟩
    case round =>
      obtain ⟨i, hi, rfl⟩ := hrel
      obtain ⟨ad, y, rfl, hy, hc⟩ := HSW.out.int_ (show i < m by omega)
      have hi' : (i : Int) < (m : Int) := by omega
      by_cases hiq : i = i0
      · subst hiq
        have hne : ¬ (i : Int) = y := by
          have h2 := H2.out
          rw [hy] at h2
          have e := Option.some.inj h2
          exact fun e' => H3.out (by rw [← e, ← e'])
        clear hy
        have HWR := Lib.hid (formsWrong_c w2 E (HEE.out w2 hb2) 0 3 (by decide) (by decide))
        go_wp2_with fail
        refine (HWR.out).mono ?_
        rintro e w3 ⟨rfl, he3, hb3'⟩
        have hb3 := pure_trans hb2 hb3'
        unfold errV at *
        clear hb3'
        have hrx := HR2.out.below hb3 HR2.out.lt
        obtain ⟨hRA, hRS⟩ := res_err (tl := (3, [(sForms, 0)])) hrx he3 (HBW.out.trans (hb3.mono HBW.out.size)) (show w.heap.size ≤ w.heap.size + 1 + 1 by omega)
        have HRA := Lib.hid hRA
        have HRS := Lib.hid hRS
        obtain ⟨d0, d1, d2, f0, f1, f2⟩ := hrx.facts
        clear hRA hRS hrx he3
        go_wp2_with fail
        obtain ⟨d0, d1, d2, _⟩ := HRA.out.facts
        exact bodyPost_ret (v := .tuple #[.agg #[.int .i64 0, .int .i64 0, .slice none 0 0], .iface 131 (.pointer (some ⟨w2.heap.size, 0, none⟩))]) (by simp [results, Tryz.results24, go_sem, d0, d1, d2]) rfl HRS.out
      · have hyi : y = (i : Int) := by
          have h4 := H4.out i (by omega)
          rw [hy] at h4
          exact Option.some.inj h4
        subst hyi
        clear hy
        go_wp2_with fail
        exact ⟨⟨i + 1, by omega, by go_num⟩, by simp [intOf]; omega⟩
  · have hmk' : ¬ (m : Int) = (k : Int) := by omega
    clear h hS
    have HWR := Lib.hid (formsWrong_c w2 E (HEE.out w2 hb2) 0 3 (by decide) (by decide))
    go_wp2_with fail
    refine (HWR.out).mono ?_
    rintro e w3 ⟨rfl, he3, hb3'⟩
    have hb3 := pure_trans hb2 hb3'
    unfold errV at *
    clear hb3'
    have hrx := HR2.out.below hb3 HR2.out.lt
    obtain ⟨hRA, hRS⟩ := res_err (tl := (3, [(sForms, 0)])) hrx he3 (HBW.out.trans (hb3.mono HBW.out.size)) (show w.heap.size ≤ w.heap.size + 1 + 1 by omega)
    have HRA := Lib.hid hRA
    have HRS := Lib.hid hRS
    obtain ⟨d0, d1, d2, f0, f1, f2⟩ := hrx.facts
    clear hRA hRS hrx he3
    go_wp2_with fail
    obtain ⟨d0, d1, d2, _⟩ := HRA.out.facts
    exact bodyPost_ret (v := .tuple #[.agg #[.int .i64 0, .int .i64 0, .slice none 0 0], .iface 131 (.pointer (some ⟨w2.heap.size, 0, none⟩))]) (by simp [results, Tryz.results24, go_sem, d0, d1, d2]) rfl HRS.out
set_option maxRecDepth 100000 in
set_option maxHeartbeats 2000000 in
theorem rename_good (w : World) (E : Nat → Addr) (hE : Errs w E) (k r : Nat) (A B : Option Addr) (n c m d : Nat) (t p : List Nat) (hr : IsRule k r t) (hT : Sl w A n ((ints t).map (Value.int .i64))) (hp : IsNames k p) (hQ : Sl w B m ((ints p).map (Value.int .i64))) :
    Calls Tryz.prog 24 #[ruleV k r A n c, .slice B m d] w (RuleRes w E k r (ints (renT k r t p)) none) := by
  obtain ⟨Q, hQe⟩ : ∃ Q, ints p = Q := ⟨_, rfl⟩
  have hsrt := names_sort hp
  have hQl : Q.length = k := by rw [← hQe, ints_len, hp.len]
  rw [hQe] at hQ hsrt
  have hm : m * 8 ≤ 140737488351232 := by have h1 := hQ.1; rw [List.length_map] at h1; have := hr.k4; omega
  have HQE := Lib.hid hQe
  have HNP := Lib.hid hp
  clear hQe hp
  have hbW := (((Below.refl w.heap.size w).alloc (Nat.le_refl _) (.cells #[.int .i64 (k : Int), .int .i64 (r : Int), .slice A n c] 24)).alloc (by simp) (.cells #[.slice B m d] 22)).alloc (by simp; omega) (.cells #[.int .i64 0, .int .i64 0, .slice none 0 0] 24)
  have hr0 := ((RuleAt.new w (.int .i64 (k : Int)) (.int .i64 (r : Int)) (.slice A n c)).alloc (.cells #[.slice B m d] 22)).alloc (.cells #[.int .i64 0, .int .i64 0, .slice none 0 0] 24)
  have hp1 : (((w.alloc (.cells #[.int .i64 (k : Int), .int .i64 (r : Int), .slice A n c] 24)).alloc (.cells #[.slice B m d] 22)).alloc (.cells #[.int .i64 0, .int .i64 0, .slice none 0 0] 24)).heap[w.heap.size + 1]? = some (.cells #[.slice B m d] 22 (0, 0)) :=
    (Below.heap_alloc _ _ _ (by simp)).trans (by have h := heap_new (w.alloc (.cells #[.int .i64 (k : Int), .int .i64 (r : Int), .slice A n c] 24)) (.cells #[.slice B m d] 22); rw [World.size_alloc] at h; exact h)
  have hr2 := RuleAt.new ((w.alloc (.cells #[.int .i64 (k : Int), .int .i64 (r : Int), .slice A n c] 24)).alloc (.cells #[.slice B m d] 22)) (.int .i64 0) (.int .i64 0) (.slice none 0 0)
  simp only [World.size_alloc] at hr2
  obtain ⟨W, hW⟩ : ∃ W, ((w.alloc (.cells #[.int .i64 (k : Int), .int .i64 (r : Int), .slice A n c] 24)).alloc (.cells #[.slice B m d] 22)).alloc (.cells #[.int .i64 0, .int .i64 0, .slice none 0 0] 24) = W := ⟨_, rfl⟩
  have hWs : W.heap.size = w.heap.size + 3 := by rw [← hW]; simp
  rw [hW] at hbW hr0 hr2 hp1
  have HR0 := Lib.hid hr0
  have HR2 := Lib.hid hr2
  have HP1 := Lib.hid hp1
  obtain ⟨a0, b0, c0, _⟩ := hr0.facts
  obtain ⟨a2, b2, c2, _⟩ := hr2.facts
  have HW := Lib.hid hW
  have HWS := Lib.hid hWs
  have HBW := Lib.hid hbW
  have hn : t.length = n := by simpa [ints] using hT.1
  have hn16 := hr.le
  rw [hn] at hn16
  have hlq : Q.length = m := by simpa using hQ.1
  have hck := formsCheck_c W E (hE.below HBW.out) 0 (k : Int) (r : Int) A n c (ints t) (hT.below HBW.out) (by omega)
  rw [checkF_rule 0 hr] at hck
  have HC1 := Lib.hid hck
  have HTT := Lib.hid (fun (wz : World) (hz : Below W.heap.size W wz) => hT.below (HBW.out.trans (hz.mono HBW.out.size)))
  have HQQ := Lib.hid (fun (wz : World) (hz : Below W.heap.size W wz) => hQ.below (HBW.out.trans (hz.mono HBW.out.size)))
  have HEE := Lib.hid (fun (wz : World) (hz : Below W.heap.size W wz) => hE.below (HBW.out.trans (hz.mono HBW.out.size)))
  have HPP := Lib.hid (fun (wz : World) (hz : Below W.heap.size W wz) => ((hz.block (w.heap.size + 1) (by have := HWS.out; omega)).trans HP1.out : wz.heap[w.heap.size + 1]? = some (.cells #[.slice B m d] 22 (0, 0))))
  have HRU := Lib.hid hr
  have hr3 := hr.r3
  have hk4 := hr.k4
  have HLQ := Lib.hid hlq
  have p1 : W.cell? ⟨w.heap.size + 1, 0, none⟩ = some (.slice B m d) := by rw [cell_of_row W _ _ _ _ _ HP1.out]; rfl
  clear hr0 hr2 hW hWs hbW hT hE hck hn hr hp1 hQ hlq
  unfold ruleV at *
  go_enter Tryz.func24, Tryz.ntmps24
  go_wp2_with fail
  rw [HW.out]
  refine (HC1.out).mono ?_
  rintro e w1 ⟨v1, rfl, he1, hb1⟩
  have he1' : v1 = .nilIface := he1
  clear he1
  subst he1'
  clear a0 b0 c0 a2 b2 c2 p1
  obtain ⟨a0, b0, c0, _⟩ := (HR0.out.below hb1 HR0.out.lt).facts
  have p1 : w1.cell? ⟨w.heap.size + 1, 0, none⟩ = some (.slice B m d) := by rw [cell_of_row w1 _ _ _ _ _ (HPP.out w1 hb1)]; rfl
  have HVA := Lib.hid (callsIn_wide.1 (values_in Fence.wide 7 trivial rfl B m d w1))
  have hb1x := hb1.alloc hb1.size (.cells #[.slice B m d] 22)
  have HSO := Lib.hid (sortedVals_c (w1.alloc (.cells #[.slice B m d] 22)) w1.heap.size B m d Q (HQQ.out _ hb1x) hm (by simp) (by rw [cell_of_row _ _ _ _ _ _ (heap_new w1 (.cells #[.slice B m d] 22))]; rfl))
  have HB1X := Lib.hid hb1x
  clear hb1x
  go_wp2_with fail
  refine (HVA.out).mono ?_
  rintro e w' ⟨rfl, rfl⟩
  go_wp2_with fail
  refine (HSO.out).mono ?_
  rintro e w2 ⟨SC, Sc, rfl, hS, hb2'⟩
  have hb2 := HB1X.out.trans (hb2'.mono HB1X.out.size)
  obtain ⟨S, hSS⟩ : ∃ S, (Q.mergeSort fun x y => decide (x ≤ y)) = S := ⟨_, rfl⟩
  have hSl : S.length = m := by rw [← hSS, List.length_mergeSort]; exact HLQ.out
  rw [hSS] at hS hsrt
  have HSS := Lib.hid hSS
  have HSL := Lib.hid hSl
  clear a0 b0 c0 p1 hb2' hSS hSl
  obtain ⟨a0, b0, c0, _⟩ := (HR0.out.below hb2 HR0.out.lt).facts
  have p1 : w2.cell? ⟨w.heap.size + 1, 0, none⟩ = some (.slice B m d) := by rw [cell_of_row w2 _ _ _ _ _ (HPP.out w2 hb2)]; rfl
  have HSR := Lib.hid hsrt
  have hmk : m = k := by rw [← HLQ.out]; exact hQl
  have HSW := Lib.hid (Sl.of_own hS)
  have hmk' : (m : Int) = (k : Int) := by omega
  have hmd := made2_c w2 k r 70 (.pointer (some ⟨w.heap.size + 1, 0, none⟩)) (.pointer (some ⟨w.heap.size, 0, none⟩)) (fun v => p.getD (sy k t (old p v)) 0) HRU.out.k1 HRU.out.k4 HRU.out.r3
    (fun v wz => run_enter Tryz.func70 (by kernel_rfl) (by kernel_rfl) _ _)
    (fun wz hz g v hl hs hV => rename1_c wz g (w.heap.size + 1) w.heap.size k r A B n c m d t v p HRU.out HNP.out hs (HTT.out wz (pure_trans hb2 hz)) (HR0.out.below (pure_trans hb2 hz) HR0.out.lt) (HPP.out wz (pure_trans hb2 hz)) (by rw [HQE.out]; exact HQQ.out wz (pure_trans hb2 hz)) hV)
  have HMD := Lib.hid hmd
  clear hsrt hmk hS hmd hQl
  go_wp2_with fail
  go_loop [28] (fun iv => ∃ i : Nat, i ≤ m ∧ iv = .int .i64 (i : Int)) (fun iv => m - (intOf iv).toNat)
  case atStart => exact ⟨0, Nat.zero_le _, rfl⟩
  case round =>
    obtain ⟨i, hi, rfl⟩ := hrel
    by_cases hlt : i < m
    · obtain ⟨ad, y, rfl, hy, hc⟩ := HSW.out.int_ hlt
      have hi' : (i : Int) < (m : Int) := by omega
      have hyi : y = (i : Int) := by
        rw [HSR.out] at hy
        unfold ints at hy
        rw [List.getElem?_map, List.getElem?_range (by omega)] at hy
        exact (Option.some.inj hy).symm
      subst hyi
      clear hy
      go_wp2_with fail
      exact ⟨⟨i + 1, by omega, by go_num⟩, by simp [intOf]; omega⟩
    · have hi' : ¬ (i : Int) < (m : Int) := by omega
      obtain rfl : i = m := by omega
      go_wp2_with fail
      refine (HMD.out).mono ?_
      rintro e w3 ⟨g, rfl, hT3, hb3'⟩
      obtain ⟨N, hN⟩ : ∃ N, k ^ (2 * r + 1) = N := ⟨_, rfl⟩
      rw [hN] at hT3
      rw [hN]
      rw [show tab k (2 * r + 1) (fun v => p.getD (sy k t (old p v)) 0) = renT k r t p from rfl] at hT3
      have hb3 := pure_trans hb2 hb3'
      have hge := Nat.le_trans HBW.out.size hb2.size
      clear hb3' hN
      have hrx := HR2.out.below hb3 HR2.out.lt
      obtain ⟨hRA, hRS⟩ := res_new (E := E) (K := (k : Int)) (R := (r : Int)) hrx hT3 (HBW.out.trans (hb3.mono HBW.out.size)) (show w.heap.size ≤ w.heap.size + 1 + 1 by omega) hge
      have HRA := Lib.hid hRA
      have HRS := Lib.hid hRS
      obtain ⟨d0, d1, d2, f0, f1, f2⟩ := hrx.facts
      clear hRA hRS hrx hT3
      unfold ruleV
      go_wp2_with fail
      obtain ⟨d0, d1, d2, _⟩ := HRA.out.facts
      exact bodyPost_ret (v := .tuple #[.agg #[.int .i64 (k : Int), .int .i64 (r : Int), .slice (some ⟨g, 0, none⟩) N N], .nilIface]) (by simp [results, Tryz.results24, go_sem, d0, d1, d2]) rfl HRS.out

/-- Rename refuses, whatever the names. -/
theorem rename_any (k r : Nat) (t : List Nat) (hr : IsRule k r t) (Q : List Int) : (∃ p, Q = ints p ∧ IsNames k p) ∨ (Q.length ≠ k ∨ (Q.mergeSort fun x y => decide (x ≤ y)) ≠ ints (List.range k)) := by
  by_cases h : (Q.mergeSort fun x y => decide (x ≤ y)) = ints (List.range k)
  · exact .inl (sorted_names (by rw [← h]; exact (List.mergeSort_perm _ _).symm))
  · exact .inr (.inr h)
end Go.Proofs.YtibplgpolmplpaaGreatDoor

namespace Go.Proofs.YtibplgpolmplpaaGreatDoor
open Go.RowKit RuleP PairP

theorem image_zero {k : Nat} {t a : List Nat} {i : Nat} (hi : i < a.length) : (image k 0 t a)[i]? = some (t.getD (a.getD i 0) 0) := by
  have h := label_at (k := k) (r := 0) (t := t) (a := a) (i := i) (by omega)
  rw [h]
  have e : nd k (2 * 0) a i = 0 := by unfold nd win; simp [wval]
  rw [e, Nat.zero_mul, Nat.zero_add, Nat.mul_zero, Nat.add_zero]
/-- No two symbols have one image. -/
def OneEach (t : List Nat) : Prop := ∀ y, y < t.length → pos t (t.getD y 0) = y
theorem each_none {k : Nat} {t : List Nat} (hl : t.length = k) (h : OneEach t) (a b : List Nat) : ¬ RuleP.Twin k 0 t a b := by
  intro ht
  refine ht.ne ?_
  apply List.ext_getElem?
  intro i
  rcases Nat.lt_or_ge i a.length with hi | hi
  · have h1 := image_zero (k := k) (t := t) hi
    have h2 := image_zero (k := k) (t := t) (a := b) (i := i) (by rw [← ht.len]; exact hi)
    rw [ht.img, h2] at h1
    have h3 := Option.some.inj h1
    have hib : i < b.length := by rw [← ht.len]; exact hi
    have ha := getD_lt ht.sa hi
    have hb := getD_lt ht.sb hib
    have e1 := h _ (by rw [hl]; exact ha)
    have e2 := h _ (by rw [hl]; exact hb)
    rw [h3] at e2
    have e3 : a.getD i 0 = b.getD i 0 := by omega
    rw [List.getD_eq_getElem?_getD, List.getD_eq_getElem?_getD, List.getElem?_eq_getElem hi, List.getElem?_eq_getElem hib] at e3
    rw [List.getElem?_eq_getElem hi, List.getElem?_eq_getElem hib]
    exact congrArg some e3
  · rw [List.getElem?_eq_none hi, List.getElem?_eq_none (by rw [← ht.len]; exact hi)]
theorem each_twin {k x y : Nat} {t : List Nat} (hl : t.length = k) (hy : y < k) (hx : pos t (t.getD y 0) = x) (hxy : x < y) : RuleP.Twin k 0 t [x] [y] := by
  have hm : t.getD y 0 ∈ t := by
    rw [List.getD_eq_getElem?_getD, List.getElem?_eq_getElem (by rw [hl]; exact hy)]
    exact List.getElem_mem _
  have hget : t.getD x 0 = t.getD y 0 := by
    have h1 : pos t (t.getD y 0) < t.length := List.idxOf_lt_length_iff.2 hm
    have h2 : t[pos t (t.getD y 0)]'h1 = t.getD y 0 := List.getElem_idxOf h1
    rw [← hx, List.getD_eq_getElem?_getD (i := pos t (t.getD y 0)), List.getElem?_eq_getElem h1, Option.getD_some, h2]
  refine ⟨rfl, Nat.zero_le _, fun z hz => ?_, fun z hz => ?_, fun e => ?_, rfl, by simp, ?_⟩
  · rw [List.mem_singleton.1 hz]; omega
  · rw [List.mem_singleton.1 hz]; exact hy
  · have := List.head_eq_of_cons_eq e; omega
  · apply List.ext_getElem?
    intro i
    match i with
    | 0 =>
      rw [image_zero (by simp), image_zero (by simp)]
      simp only [List.getD_cons_zero]
      rw [hget]
    | i + 1 =>
      have h1 : (image k 0 t [x]).length = 1 := by simp [image]
      have h2 : (image k 0 t [y]).length = 1 := by simp [image]
      rw [List.getElem?_eq_none (by omega), List.getElem?_eq_none (by omega)]

/-- What twins.single answers. -/
def SinglePost (w : World) (k : Nat) (t : List Nat) (e : Ending) (w' : World) : Prop :=
  ∃ (C1 : Option Addr) (n1 c1 : Nat) (v2 : Value), e = .returned (.tuple #[.slice C1 n1 c1, v2]) ∧ ((n1 = 0 ∧ OneEach t) ∨ (n1 = 1 ∧ ∃ x y, RuleP.Twin k 0 t [x] [y])) ∧ Below w.heap.size w w'
set_option maxRecDepth 100000 in
set_option maxHeartbeats 2000000 in
theorem single_c (w : World) (k n c : Nat) (A : Option Addr) (t : List Nat) (R : Int) (hT : Sl w A n ((ints t).map (Value.int .i64))) (hl : t.length = k) (hk4 : k ≤ 4) :
    Calls Tryz.prog 55 #[ruleV (k : Int) R A n c] w (SinglePost w k t) := by
  have hn : t.length = n := by simpa [ints] using hT.1
  have hb1 := (Below.refl w.heap.size w).alloc (Nat.le_refl _) (.cells #[.int .i64 (k : Int), .int .i64 R, .slice A n c] 24)
  have hr1 := RuleAt.new w (.int .i64 (k : Int)) (.int .i64 R) (.slice A n c)
  obtain ⟨r0, r1, r2, _⟩ := hr1.facts
  obtain ⟨w1, hw1⟩ : ∃ w1, w.alloc (.cells #[.int .i64 (k : Int), .int .i64 R, .slice A n c] 24) = w1 := ⟨_, rfl⟩
  rw [hw1] at hb1 hr1
  have hT1 := hT.below hb1
  have hn4 : n ≤ 4 := by omega
  have HIX := Lib.hid (fun (x : Nat) (hx : x ∈ t) => (index_c w1 A n c t x hx (by omega) hT1).mono (fun _ _ h => (⟨h.1, h.2.symm⟩ : _ ∧ _)))
  have HW1 := Lib.hid hw1
  have HB1 := Lib.hid hb1
  have HR1 := Lib.hid hr1
  have HT1 := Lib.hid hT1
  have HN := Lib.hid (And.intro hn hl)
  clear hw1 hb1 hr1 hT hT1 hn hl
  unfold ruleV
  go_enter Tryz.func55, Tryz.ntmps55
  go_wp2_with fail
  rw [HW1.out]
  clear r0 r1 r2
  go_loopw [10] (fun yv wl => ∃ y : Nat, yv = .int .i64 (y : Int) ∧ y ≤ n ∧ Hid (∀ z, z < y → pos t (t.getD z 0) = z) ∧ w1 = wl) (fun yv _ => n - (intOf yv).toNat)
  case atStart => exact ⟨0, rfl, Nat.zero_le _, Lib.hid (fun z hz => by omega), rfl⟩
  case round =>
    obtain ⟨y, rfl, hy, hP, rfl⟩ := hrel
    obtain ⟨r0, r1, r2, _⟩ := HR1.out.facts
    by_cases hyn : y < n
    · have hyn' : (y : Int) < (n : Int) := by omega
      have hy0 : (0 : Int) ≤ (y : Int) := by omega
      obtain ⟨ad, v, rfl, hv, hcv⟩ := nat_at HT1.out hyn
      have hvt := List.mem_of_getElem? hv
      obtain ⟨x, hx⟩ : ∃ x, pos t v = x := ⟨_, rfl⟩
      have hgd := getN_of hv
      have hxy : x ≤ y := by
        rw [← hx]
        unfold pos
        rcases Nat.lt_or_ge y (t.idxOf v) with h | h
        · exact absurd rfl (pos_ne (p := t) (x := v) (i := y) (y := v) h hv)
        · exact h
      have hix := HIX.out v hvt
      rw [hx] at hix
      have HI := Lib.hid hix
      have HX := Lib.hid (And.intro hx hgd)
      clear hv hvt hx hgd hix
      go_wp2_with fail
      refine (HI.out).mono ?_
      rintro e w2 ⟨rfl, rfl⟩
      by_cases hlt : x < y
      · have hlt' : (x : Int) < (y : Int) := by omega
        have htw := each_twin (k := k) (t := t) (x := x) (y := y) HN.out.2 (by have := HN.out; omega) (by rw [HX.out.2]; exact HX.out.1) hlt
        have HTW := Lib.hid htw
        have HBB := Lib.hid ((HB1.out.alloc HB1.out.size (.cells #[.int .i64 (x : Int)] 3)).alloc (by simp; have := HB1.out.size; omega) (.cells #[.int .i64 (y : Int)] 3))
        clear htw
        go_wp2_with fail
        go_ret2
        exact ⟨_, 1, 1, _, rfl, .inr ⟨rfl, x, y, HTW.out⟩, HBB.out⟩
      · obtain rfl : x = y := by omega
        have hlt' : ¬ (x : Int) < (x : Int) := by omega
        have HPX : Hid (∀ z, z < x + 1 → pos t (t.getD z 0) = z) := Lib.hid (fun z hz => by
          rcases Nat.lt_or_ge z x with h | h
          · exact hP.out z h
          · obtain rfl : z = x := by omega
            rw [HX.out.2]
            exact HX.out.1)
        go_wp2_with fail
        exact ⟨⟨x + 1, by go_num, by omega, HPX, by first | rfl | trivial⟩, by simp [intOf]; omega⟩
    · obtain rfl : y = n := by omega
      have hyn' : ¬ (y : Int) < (y : Int) := by omega
      have HOE : Hid (OneEach t) := Lib.hid (fun z hz => hP.out z (by have := HN.out.1; omega))
      go_wp2_with fail
      exact bodyPost_ret (v := .tuple #[.slice none 0 0, .slice none 0 0]) (by simp [results, Tryz.results55, go_sem]) rfl ⟨none, 0, 0, _, rfl, .inl ⟨rfl, HOE.out⟩, HB1.out⟩
end Go.Proofs.YtibplgpolmplpaaGreatDoor
