/- Symbols by other names, as plain lists: the renamed table, its images, there and back; when a list of numbers is such names. No program. No condition. Symbols by other names: slices.Index, forms.Rename's closure. Condition: the table, the names and the window read from memory. Rules out of rules: forms.Rename of any rule and any names. Condition: the table and the names read from memory; the error variables hold what E says. The document's names: each symbol counted, and the places where they stand; tables told in part. Plain lists, no program. No condition. -/
import Derived.Test.YtpllojpgpejfmaaGreatDoorF1
import Derived.Test.YtpllojpgpejfmaaGreatDoorF5
import Derived.Test.YtpllojpgpejfmaaGreatDoorF6
import Derived.Test.YtpllojpgpejfmaaGreatDoorF7
import Derived.Test.YtpllojpgpejfmaaGreatDoorF8
namespace Go.Proofs.YtpllojpgpejfmaaGreatDoor
namespace RuleP

/-- p names each symbol below k just once. -/
def IsNames (k : Nat) (p : List Nat) : Prop := p.Perm (List.range k)
def pos (p : List Nat) (x : Nat) : Nat := p.idxOf x
theorem IsNames.len {k : Nat} {p : List Nat} (h : IsNames k p) : p.length = k := by rw [h.length_eq, List.length_range]
theorem IsNames.sym {k : Nat} {p : List Nat} (h : IsNames k p) : ∀ x ∈ p, x < k := fun _ hx => List.mem_range.1 (h.mem_iff.1 hx)
theorem pos_at {p : List Nat} {k : Nat} (h : IsNames k p) {x : Nat} (hx : x < k) : pos p x < k ∧ p.getD (pos p x) 0 = x := by
  have hm : x ∈ p := h.mem_iff.2 (List.mem_range.2 hx)
  have hl := h.len
  have h1 : p.idxOf x < p.length := List.idxOf_lt_length_iff.2 hm
  refine ⟨by unfold pos; omega, ?_⟩
  unfold pos
  rw [List.getD_eq_getElem?_getD, List.getElem?_eq_getElem h1]
  simp [List.getElem_idxOf]
theorem at_pos {p : List Nat} {k : Nat} (h : IsNames k p) {i : Nat} (hi : i < k) : p.getD i 0 < k ∧ pos p (p.getD i 0) = i := by
  have hl := h.len
  have hn : p.Nodup := h.nodup_iff.2 List.nodup_range
  have hi' : i < p.length := by omega
  have e : p.getD i 0 = p[i] := by rw [List.getD_eq_getElem?_getD, List.getElem?_eq_getElem hi']; rfl
  rw [e]
  exact ⟨List.mem_range.1 (h.mem_iff.1 (List.getElem_mem hi')), hn.idxOf_getElem _ _⟩
def old (p v : List Nat) : List Nat := v.map (pos p)
theorem old_len (p v : List Nat) : (old p v).length = v.length := by simp [old]
theorem old_sym {k : Nat} {p v : List Nat} (h : IsNames k p) (hs : ∀ x ∈ v, x < k) : ∀ x ∈ old p v, x < k := by
  intro x hx
  obtain ⟨y, hy, rfl⟩ := List.mem_map.1 hx
  exact (pos_at h (hs y hy)).1
/-- The renamed rule. -/
def renT (k r : Nat) (t p : List Nat) : List Nat := tab k (2 * r + 1) fun v => p.getD (sy k t (old p v)) 0
/-- The names back. -/
def inv (k : Nat) (p : List Nat) : List Nat := (List.range k).map (pos p)
theorem inv_len (k : Nat) (p : List Nat) : (inv k p).length = k := by simp [inv]
theorem inv_at {k : Nat} {p : List Nat} {x : Nat} (hx : x < k) : (inv k p).getD x 0 = pos p x := by
  unfold inv
  rw [List.getD_eq_getElem?_getD, List.getElem?_map, List.getElem?_range hx]
  rfl
/-! ### when sorted numbers are names -/
theorem sorted_names {k : Nat} {P : List Int} (h : P.Perm (ints (List.range k))) : ∃ p, P = ints p ∧ IsNames k p := by
  refine ⟨P.map Int.toNat, ?_, ?_⟩
  · unfold ints
    rw [List.map_map]
    refine ((List.map_congr_left fun x hx => ?_).trans (List.map_id _)).symm
    obtain ⟨y, _, rfl⟩ := List.mem_map.1 (h.mem_iff.1 hx)
    rfl
  · have h1 := h.map Int.toNat
    unfold ints at h1
    rw [List.map_map] at h1
    have e : List.map (Int.toNat ∘ fun (x : Nat) => (x : Int)) (List.range k) = List.range k := (List.map_congr_left fun x _ => rfl).trans (List.map_id _)
    rw [e] at h1
    exact h1
theorem names_sort {k : Nat} {p : List Nat} (h : IsNames k p) : (ints p).mergeSort (fun x y => decide (x ≤ y)) = ints (List.range k) := by
  have tr : ∀ a b c : Int, decide (a ≤ b) = true → decide (b ≤ c) = true → decide (a ≤ c) = true := by
    intro a b c h1 h2
    simp only [decide_eq_true_eq] at h1 h2 ⊢
    omega
  have to : ∀ a b : Int, (decide (a ≤ b) || decide (b ≤ a)) = true := by
    intro a b
    simp only [Bool.or_eq_true, decide_eq_true_eq]
    omega
  have h1 : ((ints p).mergeSort (fun x y => decide (x ≤ y))).Perm (ints (List.range k)) := (List.mergeSort_perm _ _).trans (h.map _)
  have h2 : ((ints p).mergeSort (fun x y => decide (x ≤ y))).Pairwise (fun x y => decide (x ≤ y) = true) := List.pairwise_mergeSort tr to _
  have h3 : (ints (List.range k)).Pairwise (fun x y => decide (x ≤ y) = true) := by
    unfold ints
    rw [List.pairwise_map]
    exact List.pairwise_lt_range.imp fun {a b} hab => by simp only [decide_eq_true_eq]; omega
  exact h1.eq_of_pairwise (fun a b _ _ hab hba => by simp only [decide_eq_true_eq] at hab hba; omega) h2 h3
end RuleP
end Go.Proofs.YtpllojpgpejfmaaGreatDoor

namespace Go.Proofs.YtpllojpgpejfmaaGreatDoor
open Go.RowKit RuleP

theorem pos_ne {p : List Nat} {x i y : Nat} (hi : i < pos p x) (hy : p[i]? = some y) : y ≠ x := by
  intro e
  subst e
  have h := List.not_of_lt_findIdx (p := (· == y)) (xs := p) (i := i) hi
  have hl : i < p.length := (List.getElem?_eq_some_iff.1 hy).1
  have : p[i] = y := (List.getElem?_eq_some_iff.1 hy).2
  simp [this] at h

set_option maxRecDepth 100000 in
set_option maxHeartbeats 1000000 in
theorem index_c (w : World) (B : Option Addr) (m d : Nat) (p : List Nat) (x : Nat) (hx : x ∈ p) (hm : m ≤ 1000000) (hP : Sl w B m ((ints p).map (Value.int .i64))) :
    Calls Tryz.prog 56 #[.slice B m d, .int .i64 (x : Int)] w fun e w' => e = .returned (.int .i64 ((pos p x : Nat) : Int)) ∧ w' = w := by
  have hl : p.length = m := by simpa [ints] using hP.1
  have hpx : pos p x < m := by rw [← hl]; exact List.idxOf_lt_length_iff.2 hx
  have hget : p[pos p x]? = some x := by
    have h1 : p.idxOf x < p.length := List.idxOf_lt_length_iff.2 hx
    unfold pos
    rw [List.getElem?_eq_getElem h1]
    simp [List.getElem_idxOf]
  have HN := Lib.hid (fun (i y : Nat) (hi : i < pos p x) (hy : p[i]? = some y) => pos_ne hi hy)
  obtain ⟨q, hq⟩ : ∃ q, pos p x = q := ⟨_, rfl⟩
  rw [hq] at HN hpx hget
  rw [hq]
  have HG := Lib.hid hget
  rw [ints_map] at hP
  clear hl hx hget hq
  go_enter Tryz.func56, Tryz.ntmps56
  go_wp2_with fail
  go_loop [8] (fun iv => ∃ i : Nat, i ≤ q ∧ iv = .int .i64 (i : Int)) (fun iv => m - (intOf iv).toNat)
  case atStart => exact ⟨0, Nat.zero_le _, rfl⟩
  case round =>
    obtain ⟨i, hi, rfl⟩ := hrel
    obtain ⟨ad, y, rfl, hy, hc⟩ := hP.word_ (show i < m by omega)
    have hi' : (i : Int) < (m : Int) := by omega
    by_cases hiq : i = q
    · subst hiq
      have hxy : x = y := by have := HG.out; rw [hy] at this; exact (Option.some.inj this).symm
      subst hxy
      clear hy
      go_wp2_with fail
      go_ret
      exact ⟨rfl, rfl⟩
    · have hne : ¬ (x : Int) = (y : Int) := fun e => HN.out i y (by omega) hy (by omega)
      clear hy
      go_wp2_with fail
      exact ⟨⟨i + 1, by omega, by go_num⟩, by simp [intOf]; omega⟩

theorem make_ints' (w : World) (n : Nat) (h : n ≤ maxLen) : (w.alloc (.cells (madeCells #[.int .i64 0] n) 3)).ownsRow w.heap.size 3 1 (.slice (some ⟨w.heap.size, 0, none⟩) n n) n ((ints (List.replicate n 0)).map (Value.int .i64)) := by
  have := make_row_ints w n h
  have e : (ints (List.replicate n 0)).map (Value.int .i64) = List.replicate n (.int .i64 0) := by simp [ints]
  rw [e]
  exact this
theorem old_set {p v : List Nat} {i x L : Nat} (hl : v.length = L) (hx : v[i]? = some x) (hi : i < L) : ((old p v).take i ++ List.replicate (L - i) 0).set i (pos p x) = (old p v).take (i + 1) ++ List.replicate (L - (i + 1)) 0 := by
  have h1 : ((old p v).take i).length = i := by rw [List.length_take, old_len]; omega
  have h2 : (old p v)[i]? = some (pos p x) := by unfold old; rw [List.getElem?_map, hx]; rfl
  rw [List.set_append, h1, if_neg (by omega), Nat.sub_self]
  rw [show L - i = (L - (i + 1)) + 1 by omega, List.replicate_succ, List.set_cons_zero, List.take_add_one, h2]
  simp

set_option maxRecDepth 100000 in
set_option maxHeartbeats 2000000 in
theorem rename1_c (w : World) (g gp gr k r : Nat) (A B : Option Addr) (n c m d : Nat) (t v p : List Nat) (hr : IsRule k r t) (hp : IsNames k p) (hv : ∀ x ∈ v, x < k) (hT : Sl w A n ((ints t).map (Value.int .i64))) (hR : RuleAt w gr (.int .i64 (k : Int)) (.int .i64 (r : Int)) (.slice A n c))
    (hB : w.heap[gp]? = some (.cells #[.slice B m d] 24 (0, 0))) (hP : Sl w B m ((ints p).map (Value.int .i64)))
    (hV : Sl w (some ⟨g, 0, none⟩) (2 * r + 1) ((ints v).map (Value.int .i64))) :
    Calls Tryz.prog 55 #[.slice (some ⟨g, 0, none⟩) (2 * r + 1) (2 * r + 1), .pointer (some ⟨gp, 0, none⟩), .pointer (some ⟨gr, 0, none⟩)] w fun e w' => e = .returned (.int .i64 ((p.getD (sy k t (old p v)) 0 : Nat) : Int)) ∧ Below w.heap.size w w' := by
  have hvl : v.length = 2 * r + 1 := by simpa [ints] using hV.1
  have hpl : p.length = m := by simpa [ints] using hP.1
  have hmk' : m = k := by rw [← hpl, hp.len]
  have h3 := hr.r3
  have hk4 := hr.k4
  have hsl := sy_lt hr (v := old p v) (by rw [old_len, hvl]) (old_sym hp hv)
  have HSY := Lib.hid (fun (wz : World) (hz : Below w.heap.size w wz) (hC : Sl wz (some ⟨w.heap.size, 0, none⟩) (2 * r + 1) ((ints (old p v)).map (Value.int .i64))) => symbol_c wz k r A (some ⟨w.heap.size, 0, none⟩) n c (2 * r + 1) (2 * r + 1) t (old p v) hr (old_sym hp hv) (by rw [old_len, hvl]) (hT.below hz) hC)
  have HIX := Lib.hid (fun (wz : World) (hz : Below w.heap.size w wz) (x : Nat) (hx : x < k) => index_c wz B m d p x (hp.mem_iff.2 (List.mem_range.2 hx)) (by omega) (hP.below hz))
  have HRA := Lib.hid (fun (wz : World) (hz : Below w.heap.size w wz) => (hR.below hz hR.lt).facts)
  have hgp : gp < w.heap.size := (Array.getElem?_eq_some_iff.1 hB).1
  have HPB := Lib.hid (fun (wz : World) (hz : Below w.heap.size w wz) => (show wz.cell? ⟨gp, 0, none⟩ = some (.slice B m d) by
    rw [cell_of_row wz _ _ _ _ _ ((hz.block gp hgp).trans hB)]; rfl))
  obtain ⟨L, hL⟩ : ∃ L, 2 * r + 1 = L := ⟨_, rfl⟩
  obtain ⟨Y, hY⟩ : ∃ Y, sy k t (old p v) = Y := ⟨_, rfl⟩
  rw [hY] at hsl HSY
  rw [hY]
  have HPY := Lib.hid (fun (wz : World) (hz : Below w.heap.size w wz) => (hP.below hz).int_ (show Y < m by omega))
  rw [hL] at hV hvl HSY
  rw [hL]
  have hL1 : 0 < L := by omega
  have hL7 : L ≤ 7 := by omega
  have hmk := run_make_row' (P := Tryz.prog) 24 3 (.int .i64 0) 8 tInts.und tInts.info rfl .i64 .i64 L (by omega) (by omega) w
  have hb1 := (Below.refl w.heap.size w).alloc (Nat.le_refl _) (.cells (madeCells #[.int .i64 0] L) 3)
  have ho1 := make_ints' w L (by simp only [maxLen]; omega)
  have HV1 := Lib.hid hV
  have HVS := Lib.hid hv
  have HVL := Lib.hid hvl
  have HB1 := Lib.hid hb1
  have HO1 := Lib.hid ho1
  have HMK := Lib.hid hmk'
  unfold ruleV at HSY
  have hYm : Y < m := by omega
  clear hL hvl hT hR hr hV hv hB hP hpl hmk' hp hb1 ho1 hY hsl
  go_enter Tryz.func55, Tryz.ntmps55
  go_wp2_with fail
  go_loopw [13] (fun iv wl => ∃ i : Nat, i ≤ L ∧ iv = .int .i64 (i : Int) ∧ wl.ownsRow w.heap.size 3 1 (.slice (some ⟨w.heap.size, 0, none⟩) L L) L ((ints ((old p v).take i ++ List.replicate (L - i) 0)).map (Value.int .i64)) ∧ Hid (Below w.heap.size w wl)) (fun iv _ => L - (intOf iv).toNat)
  case atStart => exact ⟨0, Nat.zero_le _, rfl, HO1.out, HB1⟩
  case round =>
    obtain ⟨i, hi, rfl, hown, hb⟩ := hrel
    by_cases hlt : i < L
    · have hlt' : (i : Int) < (L : Int) := by omega
      obtain ⟨ad, x, e, hx, hc⟩ := (by have h := HV1.out.below hb.out; rw [ints_map] at h; exact h.word_ hlt : ∃ ad x, (some ⟨g, 0, none⟩ : Option Addr) = some ad ∧ v[i]? = some x ∧ wr.cell? (ad.add i) = some (.int .i64 (x : Int)))
      cases e
      have hxk : x < k := HVS.out x (List.mem_of_getElem? hx)
      have HI := Lib.hid (HIX.out wr hb.out x hxk)
      have hpb := HPB.out wr hb.out
      obtain ⟨q, hq⟩ : ∃ q, pos p x = q := ⟨_, rfl⟩
      have hst := old_set (p := p) HVL.out hx hlt
      rw [hq] at HI hst
      have fa := hown.frozenAt i
      have ca : wr.cell? ⟨w.heap.size, i, none⟩ = some (.int .i64 0) := by
        rw [hown.cellAt i (by omega), List.getElem?_map]
        unfold ints
        rw [List.getElem?_map, List.getElem?_append_right (by rw [List.length_take]; omega), List.length_take, old_len, HVL.out, Nat.min_eq_left (by omega), Nat.sub_self, List.getElem?_replicate, if_pos (by omega)]
        rfl
      have o1 := (hown.stored i (.int .i64 (q : Int))).1
      have e1 : ((ints ((old p v).take i ++ List.replicate (L - i) 0)).map (Value.int .i64)).set i (.int .i64 (q : Int)) = (ints ((old p v).take (i + 1) ++ List.replicate (L - (i + 1)) 0)).map (Value.int .i64) := by
        rw [← hst, ints_map, ints_map, List.map_set]
      rw [e1] at o1
      have HOO := Lib.hid o1
      have HBB := Lib.hid (hb.out.setCell (p := ⟨w.heap.size, i, none⟩) (Nat.le_refl _) (.int .i64 (q : Int)))
      rw [addr_add] at hc
      have hi0 : (0 : Int) ≤ (i : Int) := by omega
      clear hst e1 o1 hq hx hown hb
      go_wp2_with fail
      refine (HI.out).mono ?_
      rintro e w' ⟨rfl, rfl⟩
      go_wp2_with fail
      exact ⟨⟨i + 1, by omega, by go_num, HOO.out, HBB⟩, by simp [intOf]; omega⟩
    · have hlt' : ¬ (i : Int) < (L : Int) := by omega
      obtain rfl : i = L := by omega
      have hle : ((old p v).take i ++ List.replicate (i - i) 0) = old p v := by
        rw [Nat.sub_self, List.replicate_zero, List.append_nil, List.take_of_length_le (by rw [old_len, HVL.out]; exact Nat.le_refl _)]
      rw [hle] at hown
      obtain ⟨r0, r1, r2, _⟩ := HRA.out wr hb.out
      have hpb := HPB.out wr hb.out
      have hs2 := HSY.out wr.drew hb.out.drew ((Sl.of_own hown).below ((Below.refl wr.heap.size wr).drew))
      have HS := Lib.hid hs2
      obtain ⟨ad, y, e, hy, hc⟩ := HPY.out wr hb.out
      subst e
      have hy2 : p.getD Y 0 = y.toNat ∧ 0 ≤ y := by
        rw [List.getD_eq_getElem?_getD]
        unfold ints at hy
        rw [List.getElem?_map] at hy
        cases h : p[Y]? with
        | none => rw [h] at hy; cases hy
        | some z => rw [h] at hy; cases hy; exact ⟨rfl, Int.natCast_nonneg z⟩
      have HY2 := Lib.hid (show y = ((p.getD Y 0 : Nat) : Int) by rw [hy2.1]; have := hy2.2; omega)
      have HBW := Lib.hid hb.out
      have hYm' : (Y : Int) < (m : Int) := by omega
      have hY0 : (0 : Int) ≤ (Y : Int) := by omega
      clear hs2 hle hown hb hy hy2
      go_wp2_with fail
      go_region_held3 (fun w' => w'.cell? ⟨gr, 0, none⟩ = some (.int .i64 (k : Int)) ∧ w'.cell? ⟨gr, 1, none⟩ = some (.int .i64 (r : Int)) ∧ w'.cell? ⟨gr, 2, none⟩ = some (.slice A n c) ∧ w'.cell? ⟨gp, 0, none⟩ = some (.slice (some ad) m d) ∧ w'.cell? (ad.add Y) = some (.int .i64 y))
        (first | go_keep)
        (first
          | (go_at_call 42
             refine (HS.out).mono ?_
             rintro e w2 ⟨rfl, hb2⟩
             have x0 := cell_later hb2 r0
             have x1 := cell_later hb2 r1
             have x2 := cell_later hb2 r2
             have x3 := cell_later hb2 hpb
             have x4 := cell_later hb2 hc))
      have HB9 := Lib.hid (HBW.out.trans (((Below.refl wr.heap.size wr).drew.trans hb2).mono HBW.out.size))
      go_wp2_with fail
      go_ret
      exact ⟨by rw [HY2.out]; rfl, HB9.out⟩
end Go.Proofs.YtpllojpgpejfmaaGreatDoor

namespace Go.Proofs.YtpllojpgpejfmaaGreatDoor
open Go.RowKit RuleP

/-- The first place where a list is not its places' numbers. -/
theorem first_odd (S : List Int) (k : Nat) (hl : S.length = k) : S = ints (List.range k) ∨ ∃ i y, i < k ∧ S[i]? = some y ∧ y ≠ (i : Int) ∧ ∀ j, j < i → S[j]? = some (j : Int) := by
  have key : ∀ n, n ≤ k → (∀ j, j < n → S[j]? = some (j : Int)) ∨ ∃ i y, i < n ∧ S[i]? = some y ∧ y ≠ (i : Int) ∧ ∀ j, j < i → S[j]? = some (j : Int) := by
    intro n
    induction n with
    | zero => intro _; exact .inl fun j h => absurd h (Nat.not_lt_zero j)
    | succ n ih =>
      intro hn
      rcases ih (by omega) with h | ⟨i, y, h1, h2, h3, h4⟩
      · have hlt : n < S.length := by omega
        have hy := List.getElem?_eq_getElem hlt
        by_cases e : S[n] = (n : Int)
        · refine .inl fun j hj => ?_
          by_cases hjn : j = n
          · rw [hjn, hy, e]
          · exact h j (by omega)
        · exact .inr ⟨n, S[n], by omega, hy, e, h⟩
      · exact .inr ⟨i, y, by omega, h2, h3, h4⟩
  rcases key k (Nat.le_refl _) with h | ⟨i, y, h1, h2, h3, h4⟩
  · refine .inl (List.ext_getElem? fun j => ?_)
    by_cases hj : j < k
    · rw [h j hj]
      unfold ints
      rw [List.getElem?_map, List.getElem?_range hj]
      rfl
    · rw [List.getElem?_eq_none (by omega), List.getElem?_eq_none (by rw [ints_len, List.length_range]; omega)]
  · exact .inr ⟨i, y, h1, h2, h3, h4⟩

set_option maxRecDepth 100000 in
set_option maxHeartbeats 1000000 in
theorem rename_bad (w : World) (E : Nat → Addr) (hE : Errs w E) (K R : Int) (A B : Option Addr) (n c m d : Nat) (T : List Int) (hT : Sl w A n (T.map (Value.int .i64))) (hm : n ≤ 9223372036854775807) (tl : Tale) (h : checkF 0 K R T = some tl) :
    Calls Tryz.prog 16 #[ruleV K R A n c, .slice B m d] w (RuleRes w E 0 0 [] (some tl)) := by
  have hbW := (((Below.refl w.heap.size w).alloc (Nat.le_refl _) (.cells #[.int .i64 K, .int .i64 R, .slice A n c] 26)).alloc (by simp) (.cells #[.slice B m d] 24)).alloc (by simp; omega) (.cells #[.int .i64 0, .int .i64 0, .slice none 0 0] 26)
  have hr0 := ((RuleAt.new w (.int .i64 K) (.int .i64 R) (.slice A n c)).alloc (.cells #[.slice B m d] 24)).alloc (.cells #[.int .i64 0, .int .i64 0, .slice none 0 0] 26)
  have hp1 : (((w.alloc (.cells #[.int .i64 K, .int .i64 R, .slice A n c] 26)).alloc (.cells #[.slice B m d] 24)).alloc (.cells #[.int .i64 0, .int .i64 0, .slice none 0 0] 26)).heap[w.heap.size + 1]? = some (.cells #[.slice B m d] 24 (0, 0)) :=
    (Below.heap_alloc _ _ _ (by simp)).trans (by have h := heap_new (w.alloc (.cells #[.int .i64 K, .int .i64 R, .slice A n c] 26)) (.cells #[.slice B m d] 24); rw [World.size_alloc] at h; exact h)
  have hr2 := RuleAt.new ((w.alloc (.cells #[.int .i64 K, .int .i64 R, .slice A n c] 26)).alloc (.cells #[.slice B m d] 24)) (.int .i64 0) (.int .i64 0) (.slice none 0 0)
  simp only [World.size_alloc] at hr2
  obtain ⟨W, hW⟩ : ∃ W, ((w.alloc (.cells #[.int .i64 K, .int .i64 R, .slice A n c] 26)).alloc (.cells #[.slice B m d] 24)).alloc (.cells #[.int .i64 0, .int .i64 0, .slice none 0 0] 26) = W := ⟨_, rfl⟩
  have hWs : W.heap.size = w.heap.size + 3 := by rw [← hW]; simp
  rw [hW] at hbW hr0 hr2 hp1
  have HR0 := Lib.hid hr0
  have HR2 := Lib.hid hr2
  have HP1 := Lib.hid hp1
  obtain ⟨a0, b0, c0, _⟩ := hr0.facts
  obtain ⟨a2, b2, c2, _⟩ := hr2.facts
  have HW := Lib.hid hW
  have HWS := Lib.hid hWs
  have HBW := Lib.hid hbW
  have HC1 := Lib.hid (formsCheck_c W E (hE.below (HBW.out)) 0 K R A n c T (hT.below (HBW.out)) (by omega))
  rw [h] at HC1
  clear hr0 hr2 hW hWs hbW hT hE h hp1
  unfold ruleV at *
  go_enter Tryz.func16, Tryz.ntmps16
  go_wp2_with fail
  rw [HW.out]
  refine (HC1.out).mono ?_
  rintro e w1 ⟨v1, rfl, he1, hb1⟩
  have he1' : ErrIs w1 E tl.1 tl.2 v1 := he1
  obtain ⟨u, p, rfl⟩ := he1'.iface
  clear he1
  have hrx := HR2.out.below hb1 HR2.out.lt
  obtain ⟨hRA, hRS⟩ := res_err hrx he1' (HBW.out.trans (hb1.mono HBW.out.size)) (show w.heap.size ≤ w.heap.size + 1 + 1 by omega)
  have HRA := Lib.hid hRA
  have HRS := Lib.hid hRS
  obtain ⟨d0, d1, d2, f0, f1, f2⟩ := hrx.facts
  clear hRA hRS hrx he1'
  go_wp2_with fail
  obtain ⟨d0, d1, d2, _⟩ := HRA.out.facts
  exact bodyPost_ret (v := .tuple #[.agg #[.int .i64 0, .int .i64 0, .slice none 0 0], .iface u p]) (by simp [results, Tryz.results16, go_sem, d0, d1, d2]) rfl HRS.out
set_option maxRecDepth 100000 in
set_option maxHeartbeats 2000000 in
theorem rename_arg (w : World) (E : Nat → Addr) (hE : Errs w E) (k r : Nat) (A B : Option Addr) (n c m d : Nat) (t : List Nat) (Q : List Int) (hr : IsRule k r t) (hT : Sl w A n ((ints t).map (Value.int .i64))) (hQ : Sl w B m (Q.map (Value.int .i64))) (hm : m * 8 ≤ 140737488351232)
    (h : Q.length ≠ k ∨ (Q.mergeSort fun x y => decide (x ≤ y)) ≠ ints (List.range k)) :
    Calls Tryz.prog 16 #[ruleV k r A n c, .slice B m d] w (RuleRes w E 0 0 [] (some (3, [(sForms, 0)]))) := by
  have hbW := (((Below.refl w.heap.size w).alloc (Nat.le_refl _) (.cells #[.int .i64 (k : Int), .int .i64 (r : Int), .slice A n c] 26)).alloc (by simp) (.cells #[.slice B m d] 24)).alloc (by simp; omega) (.cells #[.int .i64 0, .int .i64 0, .slice none 0 0] 26)
  have hr0 := ((RuleAt.new w (.int .i64 (k : Int)) (.int .i64 (r : Int)) (.slice A n c)).alloc (.cells #[.slice B m d] 24)).alloc (.cells #[.int .i64 0, .int .i64 0, .slice none 0 0] 26)
  have hp1 : (((w.alloc (.cells #[.int .i64 (k : Int), .int .i64 (r : Int), .slice A n c] 26)).alloc (.cells #[.slice B m d] 24)).alloc (.cells #[.int .i64 0, .int .i64 0, .slice none 0 0] 26)).heap[w.heap.size + 1]? = some (.cells #[.slice B m d] 24 (0, 0)) :=
    (Below.heap_alloc _ _ _ (by simp)).trans (by have h := heap_new (w.alloc (.cells #[.int .i64 (k : Int), .int .i64 (r : Int), .slice A n c] 26)) (.cells #[.slice B m d] 24); rw [World.size_alloc] at h; exact h)
  have hr2 := RuleAt.new ((w.alloc (.cells #[.int .i64 (k : Int), .int .i64 (r : Int), .slice A n c] 26)).alloc (.cells #[.slice B m d] 24)) (.int .i64 0) (.int .i64 0) (.slice none 0 0)
  simp only [World.size_alloc] at hr2
  obtain ⟨W, hW⟩ : ∃ W, ((w.alloc (.cells #[.int .i64 (k : Int), .int .i64 (r : Int), .slice A n c] 26)).alloc (.cells #[.slice B m d] 24)).alloc (.cells #[.int .i64 0, .int .i64 0, .slice none 0 0] 26) = W := ⟨_, rfl⟩
  have hWs : W.heap.size = w.heap.size + 3 := by rw [← hW]; simp
  rw [hW] at hbW hr0 hr2 hp1
  have HR0 := Lib.hid hr0
  have HR2 := Lib.hid hr2
  have HP1 := Lib.hid hp1
  obtain ⟨a0, b0, c0, _⟩ := hr0.facts
  obtain ⟨a2, b2, c2, _⟩ := hr2.facts
  have HW := Lib.hid hW
  have HWS := Lib.hid hWs
  have HBW := Lib.hid hbW
  have hn : t.length = n := by simpa [ints] using hT.1
  have hn16 := hr.le
  rw [hn] at hn16
  have hlq : Q.length = m := by simpa using hQ.1
  have hck := formsCheck_c W E (hE.below HBW.out) 0 (k : Int) (r : Int) A n c (ints t) (hT.below HBW.out) (by omega)
  rw [checkF_rule 0 hr] at hck
  have HC1 := Lib.hid hck
  have HTT := Lib.hid (fun (wz : World) (hz : Below W.heap.size W wz) => hT.below (HBW.out.trans (hz.mono HBW.out.size)))
  have HQQ := Lib.hid (fun (wz : World) (hz : Below W.heap.size W wz) => hQ.below (HBW.out.trans (hz.mono HBW.out.size)))
  have HEE := Lib.hid (fun (wz : World) (hz : Below W.heap.size W wz) => hE.below (HBW.out.trans (hz.mono HBW.out.size)))
  have HPP := Lib.hid (fun (wz : World) (hz : Below W.heap.size W wz) => ((hz.block (w.heap.size + 1) (by have := HWS.out; omega)).trans HP1.out : wz.heap[w.heap.size + 1]? = some (.cells #[.slice B m d] 24 (0, 0))))
  have HRU := Lib.hid hr
  have hr3 := hr.r3
  have hk4 := hr.k4
  have HLQ := Lib.hid hlq
  have p1 : W.cell? ⟨w.heap.size + 1, 0, none⟩ = some (.slice B m d) := by rw [cell_of_row W _ _ _ _ _ HP1.out]; rfl
  clear hr0 hr2 hW hWs hbW hT hE hck hn hr hp1 hQ hlq
  unfold ruleV at *
  go_enter Tryz.func16, Tryz.ntmps16
  go_wp2_with fail
  rw [HW.out]
  refine (HC1.out).mono ?_
  rintro e w1 ⟨v1, rfl, he1, hb1⟩
  have he1' : v1 = .nilIface := he1
  clear he1
  subst he1'
  clear a0 b0 c0 a2 b2 c2 p1
  obtain ⟨a0, b0, c0, _⟩ := (HR0.out.below hb1 HR0.out.lt).facts
  have p1 : w1.cell? ⟨w.heap.size + 1, 0, none⟩ = some (.slice B m d) := by rw [cell_of_row w1 _ _ _ _ _ (HPP.out w1 hb1)]; rfl
  have HVA := Lib.hid (callsIn_wide.1 (values_in Fence.wide 7 trivial rfl B m d w1))
  have hb1x := hb1.alloc hb1.size (.cells #[.slice B m d] 24)
  have HSO := Lib.hid (sortedVals_c (w1.alloc (.cells #[.slice B m d] 24)) w1.heap.size B m d Q (HQQ.out _ hb1x) hm (by simp) (by rw [cell_of_row _ _ _ _ _ _ (heap_new w1 (.cells #[.slice B m d] 24))]; rfl))
  have HB1X := Lib.hid hb1x
  clear hb1x
  go_wp2_with fail
  refine (HVA.out).mono ?_
  rintro e w' ⟨rfl, rfl⟩
  go_wp2_with fail
  refine (HSO.out).mono ?_
  rintro e w2 ⟨SC, Sc, rfl, hS, hb2'⟩
  have hb2 := HB1X.out.trans (hb2'.mono HB1X.out.size)
  obtain ⟨S, hSS⟩ : ∃ S, (Q.mergeSort fun x y => decide (x ≤ y)) = S := ⟨_, rfl⟩
  have hSl : S.length = m := by rw [← hSS, List.length_mergeSort]; exact HLQ.out
  rw [hSS] at hS h
  have HSS := Lib.hid hSS
  have HSL := Lib.hid hSl
  clear a0 b0 c0 p1 hb2' hSS hSl
  obtain ⟨a0, b0, c0, _⟩ := (HR0.out.below hb2 HR0.out.lt).facts
  have p1 : w2.cell? ⟨w.heap.size + 1, 0, none⟩ = some (.slice B m d) := by rw [cell_of_row w2 _ _ _ _ _ (HPP.out w2 hb2)]; rfl
  rw [HLQ.out] at h
  by_cases hmk : m = k
  · have h' := h.resolve_left (fun e => e hmk)
    rcases first_odd S k (by rw [HSL.out, hmk]) with hx | ⟨i0, y0, h1, h2, h3, h4⟩
    · exact absurd hx h'
    have H4 := Lib.hid h4
    have H2 := Lib.hid h2
    have H3 := Lib.hid h3
    have HSW := Lib.hid (Sl.of_own hS)
    have hmk' : (m : Int) = (k : Int) := by omega
    clear h h' h2 h3 h4 hS hmk
    go_wp2_with fail
    go_loop [28] (fun iv => ∃ i : Nat, i ≤ i0 ∧ iv = .int .i64 (i : Int)) (fun iv => m - (intOf iv).toNat)
    case atStart => exact ⟨0, Nat.zero_le _, rfl⟩
    case round =>
      obtain ⟨i, hi, rfl⟩ := hrel
      obtain ⟨ad, y, rfl, hy, hc⟩ := HSW.out.int_ (show i < m by omega)
      have hi' : (i : Int) < (m : Int) := by omega
      by_cases hiq : i = i0
      · subst hiq
        have hne : ¬ (i : Int) = y := by
          have h2 := H2.out
          rw [hy] at h2
          have e := Option.some.inj h2
          exact fun e' => H3.out (by rw [← e, ← e'])
        clear hy
        have HWR := Lib.hid (formsWrong_c w2 E (HEE.out w2 hb2) 0 3 (by decide) (by decide))
        go_wp2_with fail
        refine (HWR.out).mono ?_
        rintro e w3 ⟨rfl, he3, hb3'⟩
        have hb3 := pure_trans hb2 hb3'
        unfold errV at *
        clear hb3'
        have hrx := HR2.out.below hb3 HR2.out.lt
        obtain ⟨hRA, hRS⟩ := res_err (tl := (3, [(sForms, 0)])) hrx he3 (HBW.out.trans (hb3.mono HBW.out.size)) (show w.heap.size ≤ w.heap.size + 1 + 1 by omega)
        have HRA := Lib.hid hRA
        have HRS := Lib.hid hRS
        obtain ⟨d0, d1, d2, f0, f1, f2⟩ := hrx.facts
        clear hRA hRS hrx he3
        go_wp2_with fail
        obtain ⟨d0, d1, d2, _⟩ := HRA.out.facts
        exact bodyPost_ret (v := .tuple #[.agg #[.int .i64 0, .int .i64 0, .slice none 0 0], .iface 95 (.pointer (some ⟨w2.heap.size, 0, none⟩))]) (by simp [results, Tryz.results16, go_sem, d0, d1, d2]) rfl HRS.out
      · have hyi : y = (i : Int) := by
          have h4 := H4.out i (by omega)
          rw [hy] at h4
          exact Option.some.inj h4
        subst hyi
        clear hy
        go_wp2_with fail
        exact ⟨⟨i + 1, by omega, by go_num⟩, by simp [intOf]; omega⟩
  · have hmk' : ¬ (m : Int) = (k : Int) := by omega
    clear h hS
    have HWR := Lib.hid (formsWrong_c w2 E (HEE.out w2 hb2) 0 3 (by decide) (by decide))
    go_wp2_with fail
    refine (HWR.out).mono ?_
    rintro e w3 ⟨rfl, he3, hb3'⟩
    have hb3 := pure_trans hb2 hb3'
    unfold errV at *
    clear hb3'
    have hrx := HR2.out.below hb3 HR2.out.lt
    obtain ⟨hRA, hRS⟩ := res_err (tl := (3, [(sForms, 0)])) hrx he3 (HBW.out.trans (hb3.mono HBW.out.size)) (show w.heap.size ≤ w.heap.size + 1 + 1 by omega)
    have HRA := Lib.hid hRA
    have HRS := Lib.hid hRS
    obtain ⟨d0, d1, d2, f0, f1, f2⟩ := hrx.facts
    clear hRA hRS hrx he3
    go_wp2_with fail
    obtain ⟨d0, d1, d2, _⟩ := HRA.out.facts
    exact bodyPost_ret (v := .tuple #[.agg #[.int .i64 0, .int .i64 0, .slice none 0 0], .iface 95 (.pointer (some ⟨w2.heap.size, 0, none⟩))]) (by simp [results, Tryz.results16, go_sem, d0, d1, d2]) rfl HRS.out
set_option maxRecDepth 100000 in
set_option maxHeartbeats 2000000 in
theorem rename_good (w : World) (E : Nat → Addr) (hE : Errs w E) (k r : Nat) (A B : Option Addr) (n c m d : Nat) (t p : List Nat) (hr : IsRule k r t) (hT : Sl w A n ((ints t).map (Value.int .i64))) (hp : IsNames k p) (hQ : Sl w B m ((ints p).map (Value.int .i64))) :
    Calls Tryz.prog 16 #[ruleV k r A n c, .slice B m d] w (RuleRes w E k r (ints (renT k r t p)) none) := by
  obtain ⟨Q, hQe⟩ : ∃ Q, ints p = Q := ⟨_, rfl⟩
  have hsrt := names_sort hp
  have hQl : Q.length = k := by rw [← hQe, ints_len, hp.len]
  rw [hQe] at hQ hsrt
  have hm : m * 8 ≤ 140737488351232 := by have h1 := hQ.1; rw [List.length_map] at h1; have := hr.k4; omega
  have HQE := Lib.hid hQe
  have HNP := Lib.hid hp
  clear hQe hp
  have hbW := (((Below.refl w.heap.size w).alloc (Nat.le_refl _) (.cells #[.int .i64 (k : Int), .int .i64 (r : Int), .slice A n c] 26)).alloc (by simp) (.cells #[.slice B m d] 24)).alloc (by simp; omega) (.cells #[.int .i64 0, .int .i64 0, .slice none 0 0] 26)
  have hr0 := ((RuleAt.new w (.int .i64 (k : Int)) (.int .i64 (r : Int)) (.slice A n c)).alloc (.cells #[.slice B m d] 24)).alloc (.cells #[.int .i64 0, .int .i64 0, .slice none 0 0] 26)
  have hp1 : (((w.alloc (.cells #[.int .i64 (k : Int), .int .i64 (r : Int), .slice A n c] 26)).alloc (.cells #[.slice B m d] 24)).alloc (.cells #[.int .i64 0, .int .i64 0, .slice none 0 0] 26)).heap[w.heap.size + 1]? = some (.cells #[.slice B m d] 24 (0, 0)) :=
    (Below.heap_alloc _ _ _ (by simp)).trans (by have h := heap_new (w.alloc (.cells #[.int .i64 (k : Int), .int .i64 (r : Int), .slice A n c] 26)) (.cells #[.slice B m d] 24); rw [World.size_alloc] at h; exact h)
  have hr2 := RuleAt.new ((w.alloc (.cells #[.int .i64 (k : Int), .int .i64 (r : Int), .slice A n c] 26)).alloc (.cells #[.slice B m d] 24)) (.int .i64 0) (.int .i64 0) (.slice none 0 0)
  simp only [World.size_alloc] at hr2
  obtain ⟨W, hW⟩ : ∃ W, ((w.alloc (.cells #[.int .i64 (k : Int), .int .i64 (r : Int), .slice A n c] 26)).alloc (.cells #[.slice B m d] 24)).alloc (.cells #[.int .i64 0, .int .i64 0, .slice none 0 0] 26) = W := ⟨_, rfl⟩
  have hWs : W.heap.size = w.heap.size + 3 := by rw [← hW]; simp
  rw [hW] at hbW hr0 hr2 hp1
  have HR0 := Lib.hid hr0
  have HR2 := Lib.hid hr2
  have HP1 := Lib.hid hp1
  obtain ⟨a0, b0, c0, _⟩ := hr0.facts
  obtain ⟨a2, b2, c2, _⟩ := hr2.facts
  have HW := Lib.hid hW
  have HWS := Lib.hid hWs
  have HBW := Lib.hid hbW
  have hn : t.length = n := by simpa [ints] using hT.1
  have hn16 := hr.le
  rw [hn] at hn16
  have hlq : Q.length = m := by simpa using hQ.1
  have hck := formsCheck_c W E (hE.below HBW.out) 0 (k : Int) (r : Int) A n c (ints t) (hT.below HBW.out) (by omega)
  rw [checkF_rule 0 hr] at hck
  have HC1 := Lib.hid hck
  have HTT := Lib.hid (fun (wz : World) (hz : Below W.heap.size W wz) => hT.below (HBW.out.trans (hz.mono HBW.out.size)))
  have HQQ := Lib.hid (fun (wz : World) (hz : Below W.heap.size W wz) => hQ.below (HBW.out.trans (hz.mono HBW.out.size)))
  have HEE := Lib.hid (fun (wz : World) (hz : Below W.heap.size W wz) => hE.below (HBW.out.trans (hz.mono HBW.out.size)))
  have HPP := Lib.hid (fun (wz : World) (hz : Below W.heap.size W wz) => ((hz.block (w.heap.size + 1) (by have := HWS.out; omega)).trans HP1.out : wz.heap[w.heap.size + 1]? = some (.cells #[.slice B m d] 24 (0, 0))))
  have HRU := Lib.hid hr
  have hr3 := hr.r3
  have hk4 := hr.k4
  have HLQ := Lib.hid hlq
  have p1 : W.cell? ⟨w.heap.size + 1, 0, none⟩ = some (.slice B m d) := by rw [cell_of_row W _ _ _ _ _ HP1.out]; rfl
  clear hr0 hr2 hW hWs hbW hT hE hck hn hr hp1 hQ hlq
  unfold ruleV at *
  go_enter Tryz.func16, Tryz.ntmps16
  go_wp2_with fail
  rw [HW.out]
  refine (HC1.out).mono ?_
  rintro e w1 ⟨v1, rfl, he1, hb1⟩
  have he1' : v1 = .nilIface := he1
  clear he1
  subst he1'
  clear a0 b0 c0 a2 b2 c2 p1
  obtain ⟨a0, b0, c0, _⟩ := (HR0.out.below hb1 HR0.out.lt).facts
  have p1 : w1.cell? ⟨w.heap.size + 1, 0, none⟩ = some (.slice B m d) := by rw [cell_of_row w1 _ _ _ _ _ (HPP.out w1 hb1)]; rfl
  have HVA := Lib.hid (callsIn_wide.1 (values_in Fence.wide 7 trivial rfl B m d w1))
  have hb1x := hb1.alloc hb1.size (.cells #[.slice B m d] 24)
  have HSO := Lib.hid (sortedVals_c (w1.alloc (.cells #[.slice B m d] 24)) w1.heap.size B m d Q (HQQ.out _ hb1x) hm (by simp) (by rw [cell_of_row _ _ _ _ _ _ (heap_new w1 (.cells #[.slice B m d] 24))]; rfl))
  have HB1X := Lib.hid hb1x
  clear hb1x
  go_wp2_with fail
  refine (HVA.out).mono ?_
  rintro e w' ⟨rfl, rfl⟩
  go_wp2_with fail
  refine (HSO.out).mono ?_
  rintro e w2 ⟨SC, Sc, rfl, hS, hb2'⟩
  have hb2 := HB1X.out.trans (hb2'.mono HB1X.out.size)
  obtain ⟨S, hSS⟩ : ∃ S, (Q.mergeSort fun x y => decide (x ≤ y)) = S := ⟨_, rfl⟩
  have hSl : S.length = m := by rw [← hSS, List.length_mergeSort]; exact HLQ.out
  rw [hSS] at hS hsrt
  have HSS := Lib.hid hSS
  have HSL := Lib.hid hSl
  clear a0 b0 c0 p1 hb2' hSS hSl
  obtain ⟨a0, b0, c0, _⟩ := (HR0.out.below hb2 HR0.out.lt).facts
  have p1 : w2.cell? ⟨w.heap.size + 1, 0, none⟩ = some (.slice B m d) := by rw [cell_of_row w2 _ _ _ _ _ (HPP.out w2 hb2)]; rfl
  have HSR := Lib.hid hsrt
  have hmk : m = k := by rw [← HLQ.out]; exact hQl
  have HSW := Lib.hid (Sl.of_own hS)
  have hmk' : (m : Int) = (k : Int) := by omega
  have hmd := made2_c w2 k r 55 (.pointer (some ⟨w.heap.size + 1, 0, none⟩)) (.pointer (some ⟨w.heap.size, 0, none⟩)) (fun v => p.getD (sy k t (old p v)) 0) HRU.out.k1 HRU.out.k4 HRU.out.r3
    (fun v wz => run_enter Tryz.func55 (by kernel_rfl) (by kernel_rfl) _ _)
    (fun wz hz g v hl hs hV => rename1_c wz g (w.heap.size + 1) w.heap.size k r A B n c m d t v p HRU.out HNP.out hs (HTT.out wz (pure_trans hb2 hz)) (HR0.out.below (pure_trans hb2 hz) HR0.out.lt) (HPP.out wz (pure_trans hb2 hz)) (by rw [HQE.out]; exact HQQ.out wz (pure_trans hb2 hz)) hV)
  have HMD := Lib.hid hmd
  clear hsrt hmk hS hmd hQl
  go_wp2_with fail
  go_loop [28] (fun iv => ∃ i : Nat, i ≤ m ∧ iv = .int .i64 (i : Int)) (fun iv => m - (intOf iv).toNat)
  case atStart => exact ⟨0, Nat.zero_le _, rfl⟩
  case round =>
    obtain ⟨i, hi, rfl⟩ := hrel
    by_cases hlt : i < m
    · obtain ⟨ad, y, rfl, hy, hc⟩ := HSW.out.int_ hlt
      have hi' : (i : Int) < (m : Int) := by omega
      have hyi : y = (i : Int) := by
        rw [HSR.out] at hy
        unfold ints at hy
        rw [List.getElem?_map, List.getElem?_range (by omega)] at hy
        exact (Option.some.inj hy).symm
      subst hyi
      clear hy
      go_wp2_with fail
      exact ⟨⟨i + 1, by omega, by go_num⟩, by simp [intOf]; omega⟩
    · have hi' : ¬ (i : Int) < (m : Int) := by omega
      obtain rfl : i = m := by omega
      go_wp2_with fail
      refine (HMD.out).mono ?_
      rintro e w3 ⟨g, rfl, hT3, hb3'⟩
      obtain ⟨N, hN⟩ : ∃ N, k ^ (2 * r + 1) = N := ⟨_, rfl⟩
      rw [hN] at hT3
      rw [hN]
      rw [show tab k (2 * r + 1) (fun v => p.getD (sy k t (old p v)) 0) = renT k r t p from rfl] at hT3
      have hb3 := pure_trans hb2 hb3'
      have hge := Nat.le_trans HBW.out.size hb2.size
      clear hb3' hN
      have hrx := HR2.out.below hb3 HR2.out.lt
      obtain ⟨hRA, hRS⟩ := res_new (E := E) (K := (k : Int)) (R := (r : Int)) hrx hT3 (HBW.out.trans (hb3.mono HBW.out.size)) (show w.heap.size ≤ w.heap.size + 1 + 1 by omega) hge
      have HRA := Lib.hid hRA
      have HRS := Lib.hid hRS
      obtain ⟨d0, d1, d2, f0, f1, f2⟩ := hrx.facts
      clear hRA hRS hrx hT3
      unfold ruleV
      go_wp2_with fail
      obtain ⟨d0, d1, d2, _⟩ := HRA.out.facts
      exact bodyPost_ret (v := .tuple #[.agg #[.int .i64 (k : Int), .int .i64 (r : Int), .slice (some ⟨g, 0, none⟩) N N], .nilIface]) (by simp [results, Tryz.results16, go_sem, d0, d1, d2]) rfl HRS.out

/-- Rename refuses, whatever the names. -/
theorem rename_any (k r : Nat) (t : List Nat) (hr : IsRule k r t) (Q : List Int) : (∃ p, Q = ints p ∧ IsNames k p) ∨ (Q.length ≠ k ∨ (Q.mergeSort fun x y => decide (x ≤ y)) ≠ ints (List.range k)) := by
  by_cases h : (Q.mergeSort fun x y => decide (x ≤ y)) = ints (List.range k)
  · exact .inl (sorted_names (by rw [← h]; exact (List.mergeSort_perm _ _).symm))
  · exact .inr (.inr h)
end Go.Proofs.YtpllojpgpejfmaaGreatDoor

namespace Go.Proofs.YtpllojpgpejfmaaGreatDoor
namespace RuleP

/-- The first i entries of a table that is told window by window. -/
def tabI (k n : Nat) (f : List Nat → Nat) (i : Nat) : List Nat := (List.range i).map fun j => f (digB k n j)
theorem tabI_succ (k n : Nat) (f : List Nat → Nat) (i : Nat) : tabI k n f (i + 1) = tabI k n f i ++ [f (digB k n i)] := by
  unfold tabI
  rw [List.range_succ, List.map_append]
  rfl
theorem tabI_all (k n : Nat) (f : List Nat → Nat) : tabI k n f (k ^ n) = tab k n f := rfl
/-- How often x stands among the first i numbers. -/
def timesQ (Q : List Int) (x : Nat) (i : Nat) : Nat := (Q.take i).count (x : Int)
/-- Where it stands last. -/
def lastQ (Q : List Int) (x : Nat) : Nat → Nat
  | 0 => 0
  | i + 1 => if Q[i]? = some (x : Int) then i else lastQ Q x i
theorem timesQ_succ {Q : List Int} {x i : Nat} {y : Int} (hy : Q[i]? = some y) : timesQ Q x (i + 1) = timesQ Q x i + if y = (x : Int) then 1 else 0 := by
  unfold timesQ
  rw [List.take_add_one, hy, List.count_append]
  congr 1
  by_cases h : y = (x : Int)
  · rw [if_pos h, h]; simp
  · rw [if_neg h]
    show [y].count (x : Int) = 0
    rw [List.count_eq_zero]
    simp
    exact fun e => h e.symm
theorem lastQ_succ {Q : List Int} {x i : Nat} {y : Int} (hy : Q[i]? = some y) : lastQ Q x (i + 1) = if y = (x : Int) then i else lastQ Q x i := by
  rw [lastQ, hy]
  by_cases h : y = (x : Int)
  · rw [if_pos (by rw [h]), if_pos h]
  · rw [if_neg (fun e => h (Option.some.inj e)), if_neg h]
theorem timesQ_le (Q : List Int) (x i : Nat) : timesQ Q x i ≤ i := by
  unfold timesQ
  exact Nat.le_trans List.count_le_length (by rw [List.length_take]; omega)
theorem timesQ_all {Q : List Int} {k : Nat} (hl : Q.length = k) (x : Nat) : timesQ Q x k = Q.count (x : Int) := by
  unfold timesQ
  rw [List.take_of_length_le (by omega)]
/-- Each symbol just once: these are names. -/
theorem names_once {k : Nat} {Q : List Int} (hl : Q.length = k) (h : ∀ x, x < k → Q.count (x : Int) = 1) : ∃ p, Q = ints p ∧ IsNames k p := by
  have hsub : ∀ (R : List Int) (n : Nat), (∀ x, x < n → R.count (x : Int) = 1) → ∃ S, R.Perm (ints (List.range n) ++ S) := by
    intro R n
    induction n generalizing R with
    | zero => intro _; exact ⟨R, by simp [ints]⟩
    | succ n ih =>
      intro hR
      have hn : (n : Int) ∈ R := List.count_pos_iff.1 (by rw [hR n (Nat.lt_succ_self n)]; decide)
      obtain ⟨S, hS⟩ := ih (R.erase (n : Int)) (fun x hx => by
        have h1 := hR x (by omega)
        rw [List.count_erase_of_ne (by omega)]
        exact h1)
      refine ⟨S, (List.perm_cons_erase hn).trans ?_⟩
      have e : ints (List.range (n + 1)) = ints (List.range n) ++ [(n : Int)] := by
        rw [List.range_succ]
        simp [ints]
      rw [e, List.append_assoc]
      refine ((hS.cons (n : Int)).trans ?_)
      exact List.perm_middle.symm
  obtain ⟨S, hS⟩ := hsub Q k h
  have h1 := hS.length_eq
  rw [List.length_append, ints_len, List.length_range, hl] at h1
  have h2 : S = [] := List.eq_nil_of_length_eq_zero (by omega)
  rw [h2, List.append_nil] at hS
  exact sorted_names hS
theorem once_names {k x : Nat} {p : List Nat} (h : IsNames k p) (hx : x < k) : (ints p).count (x : Int) = 1 := by
  have h1 : (ints p).Perm (ints (List.range k)) := h.map _
  rw [h1.count_eq]
  have h2 : (ints (List.range k)).Nodup := by
    unfold ints
    rw [List.nodup_iff_pairwise_ne, List.pairwise_map]
    exact List.nodup_range.imp fun hne e => hne (by omega)
  rw [h2.count, if_pos]
  exact List.mem_map.2 ⟨x, List.mem_range.2 hx, rfl⟩
theorem last_pos {k x : Nat} {p : List Nat} (h : IsNames k p) (hx : x < k) : lastQ (ints p) x k = pos p x := by
  obtain ⟨h1, h2⟩ := pos_at h hx
  have hl := h.len
  have key : ∀ i, i ≤ k → pos p x < i → lastQ (ints p) x i = pos p x := by
    intro i
    induction i with
    | zero => intro _ h; omega
    | succ i ih =>
      intro hi hp
      have hil : i < p.length := by omega
      have hg : (ints p)[i]? = some ((p.getD i 0 : Nat) : Int) := by
        unfold ints
        rw [List.getElem?_map, List.getD_eq_getElem?_getD, List.getElem?_eq_getElem hil]
        rfl
      rw [lastQ_succ hg]
      by_cases e : p.getD i 0 = x
      · rw [if_pos (by rw [e])]
        have := (at_pos h (show i < k by omega)).2
        rw [e] at this
        exact this.symm
      · rw [if_neg (by omega)]
        refine ih (by omega) ?_
        have : pos p x ≠ i := fun e' => e (by rw [← e']; exact h2)
        omega
  exact key k (Nat.le_refl _) h1
/-- The places as far as they are told: x symbols done, and i numbers for the next. -/
def fromQ (k : Nat) (Q : List Int) (x i : Nat) : List Nat := (List.range k).map fun z => if z < x then lastQ Q z k else if z = x then lastQ Q z i else 0
theorem fromQ_len (k : Nat) (Q : List Int) (x i : Nat) : (fromQ k Q x i).length = k := by simp [fromQ]
theorem fromQ_zero (k : Nat) (Q : List Int) : fromQ k Q 0 0 = List.replicate k 0 := by
  unfold fromQ
  apply List.ext_getElem?
  intro j
  rw [List.getElem?_map, List.getElem?_replicate]
  by_cases h : j < k
  · rw [List.getElem?_range h, if_pos h]
    simp [lastQ]
  · rw [List.getElem?_eq_none (by rw [List.length_range]; omega), if_neg h]; rfl
theorem fromQ_next (k : Nat) (Q : List Int) (x : Nat) : fromQ k Q x k = fromQ k Q (x + 1) 0 := by
  refine List.map_congr_left fun z _ => ?_
  by_cases h1 : z < x
  · rw [if_pos h1, if_pos (by omega)]
  · rw [if_neg h1]
    by_cases h2 : z = x
    · rw [if_pos h2, if_pos (by omega)]
    · rw [if_neg h2, if_neg (by omega)]
      split
      · rw [lastQ]
      · rfl
theorem fromQ_hit {k x i : Nat} {Q : List Int} (hx : x < k) (hy : Q[i]? = some (x : Int)) : (fromQ k Q x i).set x i = fromQ k Q x (i + 1) := by
  apply List.ext_getElem?
  intro j
  rw [List.getElem?_set]
  unfold fromQ
  rw [List.getElem?_map, List.getElem?_map]
  by_cases hj : j < k
  · rw [List.getElem?_range hj]
    simp only [Option.map_some, List.length_map, List.length_range]
    by_cases e : x = j
    · subst e
      rw [if_pos rfl, if_pos hx, if_neg (Nat.lt_irrefl _), if_pos rfl, lastQ_succ hy, if_pos rfl]
    · rw [if_neg e]
      by_cases h1 : j < x
      · rw [if_pos h1, if_pos h1]
      · rw [if_neg h1, if_neg h1, if_neg (fun e' => e e'.symm), if_neg (fun e' => e e'.symm)]
  · rw [List.getElem?_eq_none (by rw [List.length_range]; omega)]
    have : x ≠ j := by omega
    rw [if_neg this]
    rfl
theorem fromQ_miss {k x i : Nat} {y : Int} {Q : List Int} (hy : Q[i]? = some y) (hne : y ≠ (x : Int)) : fromQ k Q x i = fromQ k Q x (i + 1) := by
  refine List.map_congr_left fun z _ => ?_
  by_cases h1 : z < x
  · rw [if_pos h1, if_pos h1]
  · rw [if_neg h1, if_neg h1]
    by_cases h2 : z = x
    · subst h2
      rw [if_pos rfl, if_pos rfl, lastQ_succ hy, if_neg hne]
    · rw [if_neg h2, if_neg h2]
theorem fromQ_names {k : Nat} {p : List Nat} (h : IsNames k p) : fromQ k (ints p) k 0 = inv k p := by
  refine List.map_congr_left fun z hz => ?_
  have hz' := List.mem_range.1 hz
  rw [if_pos hz', last_pos h hz']
/-- The old names put in, symbol by symbol. -/
theorem oldQ_set {k : Nat} {p v : List Nat} {j y : Nat} (h : IsNames k p) (hv : ∀ x ∈ v, x < k) (hy : v[j]? = some y) : ((old p v).take j ++ v.drop j).set j ((inv k p).getD y 0) = (old p v).take (j + 1) ++ v.drop (j + 1) := by
  have hj : j < v.length := (List.getElem?_eq_some_iff.1 hy).1
  have h1 : ((old p v).take j).length = j := by rw [List.length_take, old_len]; omega
  have hyk := hv y (List.mem_of_getElem? hy)
  have h2 : (old p v)[j]? = some (pos p y) := by unfold old; rw [List.getElem?_map, hy]; rfl
  have hd : v.drop j = y :: v.drop (j + 1) := by
    rw [List.drop_eq_getElem_cons hj]
    congr 1
    have := List.getElem?_eq_getElem hj
    rw [hy] at this
    exact (Option.some.inj this).symm
  rw [List.set_append, h1, if_neg (Nat.lt_irrefl _), Nat.sub_self, hd, List.set_cons_zero, List.take_add_one, h2, inv_at hyk]
  simp
end RuleP
end Go.Proofs.YtpllojpgpejfmaaGreatDoor
