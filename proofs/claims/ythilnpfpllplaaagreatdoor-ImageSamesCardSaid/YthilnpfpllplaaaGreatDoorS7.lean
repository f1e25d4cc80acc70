/- What is told of a small rule, how many nodes there are: overlap.wrong, small, nodes, Nodes, Edge. Condition: the table reads from memory; the error variables hold what E says. What is told of a rule and a word: overlap.check. Condition: the lists read from memory; the error variables hold what E says. A part of a slice in memory. Plain lemmas, no program. No condition. Rows of numbers that the call makes. Plain lemmas, no program. No condition. A list of numbers copied: slices.Clone. Condition: the list reads from memory. A list copied: edenraw.Copy. Condition: the list reads from memory. What memory holds of a search among preimages: overlap's dead. Plain lemmas, no program. No condition. append(s, x) of one element in a region that draws its order: what is told of the row, the old one kept. Plain laws, no program. No condition. -/
import Derived.Test.YthilnpfpllplaaaGreatDoorS1
import Derived.Test.YthilnpfpllplaaaGreatDoorS4
import Derived.Test.YthilnpfpllplaaaGreatDoorS6
namespace Go.Proofs.YthilnpfpllplaaaGreatDoor
open Go.RowKit RuleP

def sOver : ByteArray := ⟨#[111, 118, 101, 114, 108, 97, 112]⟩

theorem overWrong_c (w : World) (E : Nat → Addr) (hE : Errs w E) (at' : Int) (n : Nat) (h1 : 1 ≤ n) (h2 : n ≤ 11) :
    Calls Tryz.prog 87 #[.int .i64 at', .int .i64 (n : Int)] w fun e w' => e = .returned (errV w.heap.size) ∧ ErrIs w' E n [(sOver, at')] (errV w.heap.size) ∧ Below w.heap.size w w' := by
  have HE := Lib.hid hE
  clear hE
  go_enter Tryz.func87, Tryz.ntmps87
  go_wp2_with fail
  refine (new_c w E HE.out sOver at' n h1 h2).mono ?_
  rintro e w' ⟨rfl, rfl⟩
  go_wp2_with fail
  go_ret
  exact ⟨rfl, ⟨w.heap.size, _, rfl, heap_new _ _, rfl⟩, (Below.refl _ _).alloc (Nat.le_refl _) _⟩

/-- What overlap tells of a rule that is no small one. -/
def smallO (K R : Int) (T : List Int) : Option Tale := under sOver 0 (small K R T)
theorem smallO_none {K R : Int} {T : List Int} (h : smallO K R T = none) : ∃ (k r : Nat) (t : List Nat), K = (k : Int) ∧ R = (r : Int) ∧ T = ints t ∧ IsRule k r t ∧ t.length ≤ 256 := by
  have hs : small K R T = none := by
    unfold smallO under at h
    split at h
    · assumption
    · cases h
  unfold small at hs
  split at hs
  · cases hs
  · rename_i hc
    obtain ⟨k, r, t, rfl, rfl, rfl, hr⟩ := check_none hc
    refine ⟨k, r, t, rfl, rfl, rfl, hr, ?_⟩
    split at hs
    · cases hs
    · rw [ints_len] at *
      omega
theorem small_rule {k r : Nat} {t : List Nat} (h : IsRule k r t) (hl : t.length ≤ 256) : small k r (ints t) = none := by
  unfold small
  rw [check_rule h]
  simp only
  rw [if_neg (by rw [ints_len]; omega)]
theorem smallO_rule {k r : Nat} {t : List Nat} (h : IsRule k r t) (hl : t.length ≤ 256) : smallO k r (ints t) = none := by
  unfold smallO
  rw [small_rule h hl]
  rfl

set_option maxRecDepth 100000 in
theorem overSmall_c (w : World) (E : Nat → Addr) (hE : Errs w E) (K R : Int) (A : Option Addr) (n c : Nat) (T : List Int) (hT : Sl w A n (T.map (Value.int .i64))) (hm : n ≤ 9223372036854775807) :
    Calls Tryz.prog 110 #[ruleV K R A n c] w fun e w' => ∃ v, e = .returned v ∧ ErrV w' E (smallO K R T) v ∧ Below w.heap.size w w' := by
  have hb0 := (Below.refl w.heap.size w).alloc (Nat.le_refl _) (.cells #[.int .i64 K, .int .i64 R, .slice A n c] 24)
  have hr0 := RuleAt.new w (.int .i64 K) (.int .i64 R) (.slice A n c)
  obtain ⟨r0, r1, r2, _⟩ := hr0.facts
  have HS := Lib.hid (small_c _ E (hE.below hb0) K R A n c T (hT.below hb0) hm)
  have HS' := Lib.hid (small_c w E hE K R A n c T hT hm)
  have HB := Lib.hid hb0
  clear hb0 hr0 hT hE
  unfold ruleV at *
  go_enter Tryz.func110, Tryz.ntmps110
  go_wp2_with fail
  refine (HS.out).mono ?_
  rintro e w1 ⟨v, rfl, he, hb⟩
  have HU := Lib.hid (under_c w1 E sOver 0 _ v he)
  have HB1 := Lib.hid (below_box hb)
  clear he hb
  go_wp2_with fail
  refine (HU.out).mono ?_
  rintro e w2 ⟨v', rfl, he, hb⟩
  have HE := Lib.hid he
  have HB2 := Lib.hid (HB1.out.trans (hb.mono HB1.out.size))
  clear he hb
  go_wp2_with fail
  go_ret
  exact ⟨_, rfl, HE.out, HB2.out⟩

theorem nodes_div {k r : Nat} {t : List Nat} (h : IsRule k r t) : t.length / k = k ^ (2 * r) ∧ t.length = k ^ (2 * r) * k := by
  have h1 := h.k1
  have e : t.length = k ^ (2 * r) * k := by rw [h.len, Nat.pow_succ]
  exact ⟨by rw [e]; exact Nat.mul_div_cancel _ (by omega), e⟩

theorem nodes_c (w : World) {k r n c : Nat} {A : Option Addr} (hk : 1 ≤ k) (hn : n ≤ 16384) :
    Calls Tryz.prog 88 #[ruleV (k : Int) (r : Int) A n c] w fun e w' => e = .returned (.int .i64 ((n / k : Nat) : Int)) ∧ Below w.heap.size w w' := by
  have hk0 : ((k : Int) == 0) = false := by simp; omega
  have hk0' : ¬ ((k : Int) = 0) := by omega
  have hle : n / k ≤ n := Nat.div_le_self _ _
  have hd : wrap64 ((n : Int) / (k : Int)) = ((n / k : Nat) : Int) := by
    rw [show (n : Int) / (k : Int) = ((n / k : Nat) : Int) from rfl]
    generalize n / k = q at hle
    exact IntWalk.wrap64_in _ (by omega)
  unfold ruleV
  go_enter Tryz.func88, Tryz.ntmps88
  go_wp2_with fail
  go_ret
  exact ⟨by rw [← hd]; rfl, (Below.refl _ _).alloc (Nat.le_refl _) _⟩
end Go.Proofs.YthilnpfpllplaaaGreatDoor

namespace Go.Proofs.YthilnpfpllplaaaGreatDoor
open Go.RowKit RuleP

set_option maxHeartbeats 400000 in
theorem overOddF_c (w : World) (x k : Int) (b : Nat) (hb : w.cell? ⟨b, 0, none⟩ = some (.int .i64 k)) :
    Calls Tryz.prog 111 #[.int .i64 x, .pointer (some ⟨b, 0, none⟩)] w fun e w' => e = .returned (.bool (decide (x < 0 ∨ k ≤ x))) ∧ w = w' := by
  by_cases h : x < 0
  · have h1 : decide (x < 0) = true := decide_eq_true h
    have hd : Hid (decide (x < 0 ∨ k ≤ x) = true) := Lib.hid (decide_eq_true (.inl h))
    go_enter Tryz.func111, Tryz.ntmps111
    go_wp2_with fail
    go_ret
    exact ⟨by first | rfl | (rw [hd.out]; rfl), rfl⟩
  · have h1 : decide (x < 0) = false := decide_eq_false h
    have hd : Hid (decide (x < 0 ∨ k ≤ x) = decide (k ≤ x)) := Lib.hid (by simp [h])
    go_enter Tryz.func111, Tryz.ntmps111
    go_wp2_with fail
    go_ret
    exact ⟨by first | rfl | (rw [hd.out]; rfl), rfl⟩

/-- What overlap tells of a rule and a word of at most so many symbols. -/
def checkO (K R : Int) (T W : List Int) (most : Nat) : Option Tale :=
  match smallO K R T with
  | some t => some t
  | none => if most < W.length then some (4, [(sOver, 1)]) else match odd K W with
    | some i => some (2, [(sOver, (i : Int))])
    | none => none
theorem checkO_none {K R : Int} {T W : List Int} {most : Nat} (h : checkO K R T W most = none) :
    ∃ (k r : Nat) (t v : List Nat), K = (k : Int) ∧ R = (r : Int) ∧ T = ints t ∧ W = ints v ∧ IsRule k r t ∧ t.length ≤ 256 ∧ v.length ≤ most ∧ ∀ x ∈ v, x < k := by
  unfold checkO at h
  split at h
  · cases h
  · rename_i hs
    obtain ⟨k, r, t, rfl, rfl, rfl, hr, hl⟩ := smallO_none hs
    split at h
    · cases h
    · rename_i hm
      split at h
      · cases h
      · rename_i ho
        obtain ⟨v, rfl, hv⟩ := odd_nat ho
        exact ⟨k, r, t, v, rfl, rfl, rfl, rfl, hr, hl, by rw [ints_len] at hm; omega, hv⟩
theorem checkO_good {k r : Nat} {t v : List Nat} {most : Nat} (hr : IsRule k r t) (hl : t.length ≤ 256) (hv : ∀ x ∈ v, x < k) (hm : v.length ≤ most) : checkO k r (ints t) (ints v) most = none := by
  unfold checkO
  rw [smallO_rule hr hl]
  simp only
  rw [if_neg (by rw [ints_len]; omega), odd_ints hv]

set_option maxRecDepth 100000 in
set_option maxHeartbeats 2000000 in
theorem overCheck_c (w : World) (E : Nat → Addr) (hE : Errs w E) (K R : Int) (A B : Option Addr) (n c m d most : Nat) (T W : List Int) (hT : Sl w A n (T.map (Value.int .i64))) (hm : n ≤ 9223372036854775807)
    (hW : Sl w B m (W.map (Value.int .i64))) (hm2 : m ≤ 9223372036854775807) (_ : most ≤ 100000) :
    Calls Tryz.prog 86 #[ruleV K R A n c, .slice B m d, .int .i64 (most : Int)] w fun e w' => ∃ v, e = .returned v ∧ ErrV w' E (checkO K R T W most) v ∧ Below w.heap.size w w' := by
  have hl : W.length = m := by simpa using hW.1
  have HL := Lib.hid hl
  have hb0 := (Below.refl w.heap.size w).alloc (Nat.le_refl _) (.cells #[.int .i64 K, .int .i64 R, .slice A n c] 24)
  have hr0 := RuleAt.new w (.int .i64 K) (.int .i64 R) (.slice A n c)
  obtain ⟨r0, r1, r2, _⟩ := hr0.facts
  have HS := Lib.hid (overSmall_c _ E (hE.below hb0) K R A n c T (hT.below hb0) hm)
  have HB := Lib.hid hb0
  have HE := Lib.hid hE
  have HW := Lib.hid hW
  have HR := Lib.hid hr0
  clear hb0 hr0 hT hE hW hl
  unfold ruleV at *
  cases ho : smallO K R T with
  | some t =>
    have hs : Hid (checkO K R T W most = some t) := Lib.hid (by unfold checkO; rw [ho])
    rw [ho] at HS
    clear ho
    go_enter Tryz.func86, Tryz.ntmps86
    go_wp2_with fail
    refine (HS.out).mono ?_
    rintro e w1 ⟨v, rfl, he, hb⟩
    obtain ⟨u, p, rfl⟩ := ErrIs.iface (show ErrIs w1 E t.1 t.2 v from he)
    have hP : ErrV w1 E (some t) (.iface u p) := he
    rw [← hs.out] at hP
    have HP := Lib.hid hP
    have HB1 := Lib.hid (below_box hb)
    clear he hb hP
    go_wp2_with fail
    go_ret
    exact ⟨_, rfl, HP.out, HB1.out⟩
  | none =>
    rw [ho] at HS
    by_cases hmm : most < m
    · have hs : Hid (checkO K R T W most = some (4, [(sOver, 1)])) := Lib.hid (by unfold checkO; rw [ho]; simp only; rw [if_pos (by rw [HL.out]; exact hmm)])
      clear ho
      go_enter Tryz.func86, Tryz.ntmps86
      go_wp2_with fail
      refine (HS.out).mono ?_
      rintro e w1 ⟨v, rfl, rfl, hb⟩
      have HB1 := Lib.hid (below_box hb)
      have HW1 := Lib.hid (overWrong_c w1 E (HE.out.below HB1.out) 1 4 (by decide) (by decide))
      clear hb
      go_wp2_with fail
      refine (HW1.out).mono ?_
      rintro e w2 ⟨rfl, he, hb2⟩
      have hP := ErrV.some he
      rw [← hs.out] at hP
      have HP := Lib.hid hP
      have HB2 := Lib.hid (HB1.out.trans (hb2.mono HB1.out.size))
      clear he hb2 hP
      go_wp2_with fail
      go_ret
      exact ⟨_, rfl, HP.out, HB2.out⟩
    · go_enter Tryz.func86, Tryz.ntmps86
      go_wp2_with fail
      refine (HS.out).mono ?_
      rintro e w1 ⟨v, rfl, rfl, hb⟩
      have hr1 := HR.out.below hb (by simp)
      have HB1 := Lib.hid (below_box hb)
      have hi := indexFunc_c w1 111 ⟨w.heap.size, 0, none⟩ (fun x => decide (x < 0 ∨ K ≤ x)) B m d W (HW.out.below HB1.out) hm2
        (fun x wz => run_enter Tryz.func111 (by kernel_rfl) (by kernel_rfl) _ _) (fun x => overOddF_c _ x K _ hr1.facts.1)
      change Calls _ _ _ _ (fun e w' => e = .returned (.int .i64 (place (odd K W))) ∧ _ = w') at hi
      have HI := Lib.hid hi
      clear hb hi hr1
      go_wp2_with fail
      refine (HI.out).mono ?_
      rintro e w2 ⟨rfl, rfl⟩
      cases hod : odd K W with
      | none =>
        have hs : Hid (checkO K R T W most = none) := Lib.hid (by unfold checkO; rw [ho]; simp only; rw [if_neg (by rw [HL.out]; exact hmm), hod])
        have hpl : place none = -1 := rfl
        rw [hpl]
        clear ho hod hpl
        go_wp2_with fail
        go_ret
        exact ⟨_, rfl, by rw [hs.out]; rfl, HB1.out⟩
      | some i =>
        have hs : Hid (checkO K R T W most = some (2, [(sOver, (i : Int))])) := Lib.hid (by unfold checkO; rw [ho]; simp only; rw [if_neg (by rw [HL.out]; exact hmm), hod])
        have hpl : place (some i) = (i : Int) := rfl
        rw [hpl]
        have HW1 := Lib.hid (overWrong_c w1 E (HE.out.below HB1.out) (i : Int) 2 (by decide) (by decide))
        clear ho hod hpl
        go_wp2_with fail
        refine (HW1.out).mono ?_
        rintro e w2 ⟨rfl, he, hb2⟩
        have hP := ErrV.some he
        rw [← hs.out] at hP
        have HP := Lib.hid hP
        have HB2 := Lib.hid (HB1.out.trans (hb2.mono HB1.out.size))
        clear he hb2 hP
        go_wp2_with fail
        go_ret
        exact ⟨_, rfl, HP.out, HB2.out⟩
end Go.Proofs.YthilnpfpllplaaaGreatDoor

namespace Go.Proofs.YthilnpfpllplaaaGreatDoor
open Go.RowKit

theorem sl_part {w : World} {A : Option Addr} {n : Nat} {xs : List Value} (h : Sl w A n xs) {i m : Nat} (_ : i + m ≤ n) : ∀ ad, A = some ad → ∀ (j : Nat) u, ((xs.drop i).take m)[j]? = some u → w.cell? ((ad.add i).add j) = some u := by
  intro ad e j u hu
  rw [List.getElem?_take] at hu
  split at hu
  · rw [List.getElem?_drop] at hu
    obtain ⟨ad', e', hc⟩ := h.2 _ _ hu
    rw [e] at e'
    cases e'
    rw [add_of_add]
    exact hc
  · cases hu


theorem own_le {w : World} {base e n c : Nat} {A : Option Addr} {xs : List Value} (h : w.ownsRow base e 1 (.slice A n c) n xs) : n ≤ c ∧ c ≤ maxLen := by
  obtain ⟨A', c', e, h1, h2⟩ := own_slice h
  cases e
  exact ⟨h1, h2⟩
end Go.Proofs.YthilnpfpllplaaaGreatDoor

namespace Go.Proofs.YthilnpfpllplaaaGreatDoor
open Go.RowKit RuleP

theorem make_ints (w : World) (n : Nat) (h : n ≤ maxLen) : (w.alloc (.cells (madeCells #[.int .i64 0] n) 3)).ownsRow w.heap.size 3 1 (.slice (some ⟨w.heap.size, 0, none⟩) n n) n ((ints (List.replicate n 0)).map (Value.int .i64)) := by
  have := World.ownsRow_lit (base := w.heap.size) (e := 3) (size := 1) w (madeCells #[.int .i64 0] n) n (Nat.le_refl _) h (by rw [size_madeCells]; simp)
  rw [toList_madeCells_one] at this
  rw [ints_map, List.map_replicate]
  exact this
theorem ints_set (l : List Nat) (j x : Nat) : (ints l).set j (x : Int) = ints (l.set j x) := by simp [ints, List.map_set]
theorem lit_ints (w : World) (xs : List Int) (n : Nat) (h : xs.length = n) (hn : n ≤ maxLen) (e : TypeId) : Sl (w.alloc (.cells (xs.map (Value.int .i64)).toArray e)) (some ⟨w.heap.size, 0, none⟩) n (xs.map (Value.int .i64)) :=
  Sl.of_own (World.ownsRow_lit (base := 0) (e := e) (size := 1) w (xs.map (Value.int .i64)).toArray n (Nat.zero_le _) hn (by simp [h]))
end Go.Proofs.YthilnpfpllplaaaGreatDoor

namespace Go.Proofs.YthilnpfpllplaaaGreatDoor
open Go.RowKit

set_option maxRecDepth 100000 in
/-- slices.Clone of numbers. -/
theorem clone_c (w : World) (A : Option Addr) (m c : Nat) (xs : List Value) (h1 : ∀ u ∈ xs, u.oneCell' = true) (hm : m * 8 ≤ 140737488355328) (h : Sl w A m xs) :
    Calls Tryz.prog 65 #[.slice A m c] w fun e w' => ∃ C cc, e = .returned (.slice C m cc) ∧ w'.ownsRow w.heap.size 3 1 (.slice C m cc) m xs ∧ Below w.heap.size w w' := by
  have hl : xs.length = m := h.1
  have HL := Lib.hid hl
  have H1 := Lib.hid h1
  clear hl h1
  cases A with
  | none =>
    have hle : xs = [] := by
      cases xs with
      | nil => rfl
      | cons y ys => obtain ⟨ad, e', _⟩ := h.2 0 y (by simp); cases e'
    subst hle
    obtain rfl : m = 0 := HL.out.symm
    have he := Lib.run_eql_slice_nil (P := Tryz.prog) w 22 3 none 0 c 0 0 tInts.und
    go_enter Tryz.func65, Tryz.ntmps65
    go_wp2
    go_ret
    exact ⟨none, 0, rfl, World.ownsRow_nil _ _ _ _, Below.refl _ _⟩
  | some ad =>
    have he := Lib.run_eql_slice_nil (P := Tryz.prog) w 22 3 (some ad) m c 0 0 tInts.und
    have hown0 := World.ownsRow_lit (base := w.heap.size) (e := 3) (size := 1) w #[] 0 (Nat.le_refl _) (Nat.zero_le _) rfl
    have hs := h.alloc (.cells #[] 3)
    go_enter Tryz.func65, Tryz.ntmps65
    go_wp2_with (at_builtin; refine wpList_cat rfl _ _ _ rfl tInts hown0 rfl hs rfl H1.out (by simp only [maxLen]; omega) (by omega) (by simp) ?_; intro v' w3 hown3 hg3 hat3 _)
    rw [Nat.zero_add] at hown3
    obtain ⟨C, cc, rfl, _, _⟩ := own_slice hown3
    go_ret
    refine ⟨C, cc, rfl, by simpa using hown3, ((Below.refl _ _).alloc (Nat.le_refl _) _).grown hg3 (by simp) (fun k hk => by simp [Value.ownBlock] at hk; omega)⟩
end Go.Proofs.YthilnpfpllplaaaGreatDoor

namespace Go.Proofs.YthilnpfpllplaaaGreatDoor
open Go.RowKit

end Go.Proofs.YthilnpfpllplaaaGreatDoor

namespace Go.Proofs.YthilnpfpllplaaaGreatDoor
open Go.RowKit RuleP

/-- What stays: the rule, the word, where they lie, where the search lies, the world ahead of it. -/
structure DeadP where
  w0 : World
  k : Nat
  r : Nat
  most : Nat
  t : List Nat
  W : List Nat
  TA : Option Addr
  tc : Nat
  WA : Option Addr
  wc : Nat
  db : Nat
  atv : Value
  G : List Value
def DeadP.N (D : DeadP) : Nat := D.k ^ (2 * D.r)
def DeadP.B (D : DeadP) : Nat := D.w0.heap.size
def DeadP.cells (D : DeadP) (lv : Value) (more : Bool) : Array Value :=
  #[.int .i64 (D.k : Int), .int .i64 (D.r : Int), .slice D.TA D.t.length D.tc, .slice D.WA D.W.length D.wc, D.atv, .int .i64 (D.most : Int), lv, .bool more]
/-- What holds of the rule and the word. -/
structure DeadOk (D : DeadP) : Prop where
  rule : IsRule D.k D.r D.t
  small : D.t.length ≤ 256
  sym : ∀ x ∈ D.W, x < D.k
  len : D.W.length ≤ 256
  most : D.most ≤ 256
  T : Sl D.w0 D.TA D.t.length ((ints D.t).map (Value.int .i64))
  V : Sl D.w0 D.WA D.W.length ((ints D.W).map (Value.int .i64))

/-- Row i of the marks: where a mark stands, nothing goes on. -/
def DeadRow (w : World) (D : DeadP) (i : Nat) : Prop :=
  ∃ (g : Nat) (fl : List Bool), D.G[i]? = some (.slice (some ⟨g, 0, none⟩) D.N D.N) ∧ w.ownsRow D.B 4 1 (.slice (some ⟨g, 0, none⟩) D.N D.N) D.N (fl.map Value.bool) ∧
    ∀ u, fl[u]? = some true → sols D.k D.N D.t u (D.W.drop i) = []
def FarV (l : List Value) : Prop := ∀ (i j : Nat) (v v' : Value) (g : Nat), i ≠ j → l[i]? = some v → l[j]? = some v' → v.ownBlock = some g → v'.ownBlock ≠ some g

/-- The search as memory holds it. -/
structure DeadAt (w : World) (D : DeadP) (lv : Value) (rows : List Value) (L : List (List Nat)) (more : Bool) (X : Nat → Prop) : Prop where
  blk : w.heap[D.db]? = some (.cells (D.cells lv more) 138 (0, 0))
  old : Below D.B D.w0 w
  atb : w.ownsRow D.B 139 1 D.atv D.W.length D.G
  row : ∀ i, i < D.W.length → DeadRow w D i
  inj : FarV D.G
  lst : w.ownsRow D.B 22 1 lv L.length rows
  el : ∀ (j : Nat) l, L[j]? = some l → ∃ v, rows[j]? = some v ∧ w.ownsRow D.B 3 1 v l.length ((ints l).map (Value.int .i64)) ∧ ∀ g, v.ownBlock = some g → ¬ X g
  far : FarV rows
  fb : D.B ≤ D.db

variable {w w' w1 w2 : World} {D : DeadP} {lv lv' : Value} {rows rows' : List Value} {L : List (List Nat)} {more : Bool} {X X' : Nat → Prop}

theorem DeadRow.keeps {Q : Nat → Prop} {i : Nat} (h : DeadRow w D i) (hk : Keeps Q w w') (hq : ∀ b, Q b → ∀ v n xs, w.ownsRow D.B 4 1 v n xs → v.ownBlock ≠ some b) : DeadRow w' D i := by
  obtain ⟨g, fl, h1, h2, h4⟩ := h
  exact ⟨g, fl, h1, own_keeps h2 hk (fun g' hg' hQ => hq g' hQ _ _ _ h2 hg'), h4⟩

theorem DeadAt.lt (h : DeadAt w D lv rows L more X) : D.db < w.heap.size := (Array.getElem?_eq_some_iff.1 h.blk).1
theorem DeadAt.facts (h : DeadAt w D lv rows L more X) :
    w.cell? ⟨D.db, 0, none⟩ = some (.int .i64 (D.k : Int)) ∧ w.cell? ⟨D.db, 1, none⟩ = some (.int .i64 (D.r : Int)) ∧ w.cell? ⟨D.db, 2, none⟩ = some (.slice D.TA D.t.length D.tc) ∧ w.cell? ⟨D.db, 3, none⟩ = some (.slice D.WA D.W.length D.wc) ∧
    w.cell? ⟨D.db, 4, none⟩ = some D.atv ∧ w.cell? ⟨D.db, 5, none⟩ = some (.int .i64 (D.most : Int)) ∧ w.cell? ⟨D.db, 6, none⟩ = some lv ∧ w.cell? ⟨D.db, 7, none⟩ = some (.bool more) ∧ w.frozen? ⟨D.db, 6, none⟩ = false ∧ w.frozen? ⟨D.db, 7, none⟩ = false := by
  have hb := h.blk
  refine ⟨?_, ?_, ?_, ?_, ?_, ?_, ?_, ?_, frozen_of_row _ _ 6 _ _ hb, frozen_of_row _ _ 7 _ _ hb⟩ <;> rw [cell_of_row w D.db _ _ _ _ hb] <;> rfl
theorem DeadAt.tab (h : DeadAt w D lv rows L more X) (hD : DeadOk D) : Sl w D.TA D.t.length ((ints D.t).map (Value.int .i64)) := hD.T.below h.old
theorem DeadAt.word (h : DeadAt w D lv rows L more X) (hD : DeadOk D) : Sl w D.WA D.W.length ((ints D.W).map (Value.int .i64)) := hD.V.below h.old
theorem DeadAt.mono (h : DeadAt w D lv rows L more X) (hx : ∀ b, X' b → X b ∨ w.heap.size ≤ b) : DeadAt w D lv rows L more X' :=
  { h with
    el := fun j l hj => by
      obtain ⟨v, h1, h2, h3⟩ := h.el j l hj
      exact ⟨v, h1, h2, fun g hg hx' => by
        rcases hx g hx' with h' | h'
        · exact h3 g hg h'
        · have := (h2.lt g hg).2; omega⟩ }

/-- What a call of the search may write. -/
def Foot (D : DeadP) (lv : Value) (b : Nat) : Prop := b = D.db ∨ (∃ (i : Nat) (v : Value), D.G[i]? = some v ∧ v.ownBlock = some b) ∨ lv.ownBlock = some b
theorem DeadAt.notFoot (h : DeadAt w D lv rows L more X) {base n g : Nat} {xv : Value} {xs : List Value} (hx : w.ownsRow base 3 1 xv n xs) (hg : xv.ownBlock = some g) : ¬ Foot D lv g := by
  rintro (rfl | ⟨i, v, hi, hv⟩ | hv)
  · exact own_ne_blk hx h.blk (by decide) hg
  · have hlt : i < D.W.length := by have := (List.getElem?_eq_some_iff.1 hi).1; have := h.atb.1; simp at this; omega
    obtain ⟨g', fl, e1, e2, _⟩ := h.row i hlt
    rw [hi] at e1
    cases e1
    exact own_ne_own hx e2 (by decide) hg hv
  · exact own_ne_own hx h.lst (by decide) hg hv
/-- Writes to rows of numbers that are none of the list's. -/
theorem DeadAt.keeps {Q : Nat → Prop} (h : DeadAt w D lv rows L more X) (hk : Keeps Q w w') (hq : ∀ b, Q b → X b ∧ D.B ≤ b ∧ ∃ cs, w.heap[b]? = some (.cells cs 3 (0, 0))) : DeadAt w' D lv rows L more X := by
  have hne : ∀ {e n : Nat} {v : Value} {xs : List Value} (b : Nat), Q b → w.ownsRow D.B e 1 v n xs → e ≠ 3 → v.ownBlock ≠ some b := fun b hb ho he => by
    obtain ⟨_, _, cs, hc⟩ := hq b hb
    exact own_ne_blk ho hc he
  exact {
    blk := (hk.block _ h.lt (fun hb => by
      obtain ⟨_, _, cs, hc⟩ := hq _ hb
      have := h.blk
      rw [hc] at this
      injection this with this
      injection this with _ this
      exact absurd this (by decide))).trans h.blk
    old := h.old.trans (hk.below h.old.size (fun b hb => (hq b hb).2.1))
    atb := own_keeps h.atb hk (fun g hg hb => hne g hb h.atb (by decide) hg)
    row := fun i hi => (h.row i hi).keeps hk (fun b hb v n xs ho hv => hne b hb ho (by decide) hv)
    inj := h.inj
    lst := own_keeps h.lst hk (fun g hg hb => hne g hb h.lst (by decide) hg)
    el := fun j l hj => by
      obtain ⟨v, h1, h2, h3⟩ := h.el j l hj
      exact ⟨v, h1, own_keeps h2 hk (fun g hg hb => h3 g hg (hq g hb).1), h3⟩
    far := h.far
    fb := h.fb }
theorem DeadAt.pure (h : DeadAt w D lv rows L more X) (hb : Below w.heap.size w w') : DeadAt w' D lv rows L more X :=
  h.keeps (Keeps.of_pure hb (fun _ => False)) (fun _ hf => hf.elim)

theorem cells_set6 (D : DeadP) (lv u : Value) (more : Bool) : (D.cells lv more).setIfInBounds 6 u = D.cells u more := rfl
theorem cells_set7 (D : DeadP) (lv : Value) (more b : Bool) : (D.cells lv more).setIfInBounds 7 (.bool b) = D.cells lv b := rfl

/-- Something stored in the search's own block. -/
theorem DeadAt.set (h : DeadAt w D lv rows L more X) {j : Nat} {u lv' : Value} {more' : Bool} {rows' : List Value} {L' : List (List Nat)} (hc : (D.cells lv more).setIfInBounds j u = D.cells lv' more')
    (hl : w.ownsRow D.B 22 1 lv' L'.length rows') (he : ∀ (j : Nat) l, L'[j]? = some l → ∃ v, rows'[j]? = some v ∧ w.ownsRow D.B 3 1 v l.length ((ints l).map (Value.int .i64)) ∧ ∀ g, v.ownBlock = some g → ¬ X g)
    (hf : FarV rows') : DeadAt (w.setCell ⟨D.db, j, none⟩ u) D lv' rows' L' more' X := by
  have hk := Keeps.of_setCell w ⟨D.db, j, none⟩ u
  have hne : ∀ {e n : Nat} {v : Value} {xs : List Value}, w.ownsRow D.B e 1 v n xs → e ≠ 138 → ∀ g, v.ownBlock = some g → ¬ (g = (⟨D.db, j, none⟩ : Addr).block) := fun ho he g hg e => by
    have e' : g = D.db := e
    subst e'
    exact own_ne_blk ho h.blk he hg
  exact {
    blk := by
      have := heap_setCell_same w D.db j _ _ u h.blk
      rw [hc] at this
      exact this
    old := h.old.setCell h.fb _
    atb := own_keeps h.atb hk (hne h.atb (by decide))
    row := fun i hi => (h.row i hi).keeps hk (fun b hb v n xs ho hv => hne ho (by decide) b hv hb)
    inj := h.inj
    lst := own_keeps hl hk (hne hl (by decide))
    el := fun j' l hj => by
      obtain ⟨v, h1, h2, h3⟩ := he j' l hj
      exact ⟨v, h1, own_keeps h2 hk (hne h2 (by decide)), h3⟩
    far := hf
    fb := h.fb }
theorem DeadAt.full (h : DeadAt w D lv rows L more X) : DeadAt (w.setCell ⟨D.db, 7, none⟩ (.bool true)) D lv rows L true X :=
  h.set (cells_set7 D lv more true) h.lst h.el h.far

/-- A new word kept behind the others, the list grown beside it. -/
theorem DeadAt.put (h : DeadAt w D lv rows L more X) {l : List Nat} {v lv' : Value} (hv : w.ownsRow D.B 3 1 v l.length ((ints l).map (Value.int .i64))) (hX : ∀ g, v.ownBlock = some g → ¬ X g) (hnew : ∀ g, v.ownBlock = some g → ∀ u ∈ rows, u.ownBlock ≠ some g)
    (hl : w'.ownsRow D.B 22 1 lv' (L.length + 1) (rows ++ [v])) (hk : Keeps (fun b => lv.ownBlock = some b) w w') :
    DeadAt (w'.setCell ⟨D.db, 6, none⟩ lv') D lv' (rows ++ [v]) (L ++ [l]) more X := by
  have hrl : rows.length = L.length := by simpa using h.lst.1
  have hne : ∀ {e n : Nat} {u : Value} {xs : List Value}, w.ownsRow D.B e 1 u n xs → e ≠ 22 → ∀ g, u.ownBlock = some g → ¬ (lv.ownBlock = some g) := fun ho he g hg e => own_ne_own ho h.lst he hg e
  have hb : w'.heap[D.db]? = some (.cells (D.cells lv more) 138 (0, 0)) := (hk.block _ h.lt (own_ne_blk h.lst h.blk (by decide))).trans h.blk
  have hold : Below D.B D.w0 w' := h.old.trans (hk.below h.old.size (fun b hb' => (h.lst.lt b hb').1))
  have hkS := Keeps.of_setCell w' ⟨D.db, 6, none⟩ lv'
  have hneS : ∀ {e n : Nat} {u : Value} {xs : List Value}, w'.ownsRow D.B e 1 u n xs → e ≠ 138 → ∀ g, u.ownBlock = some g → ¬ (g = (⟨D.db, 6, none⟩ : Addr).block) := fun ho he g hg e => by
    have e' : g = D.db := e
    subst e'
    exact own_ne_blk ho hb he hg
  have hat := own_keeps h.atb hk (hne h.atb (by decide))
  exact {
    blk := by
      have := heap_setCell_same w' D.db 6 _ _ lv' hb
      rw [cells_set6] at this
      exact this
    old := hold.setCell h.fb _
    atb := own_keeps hat hkS (hneS hat (by decide))
    row := fun i hi => ((h.row i hi).keeps hk (fun b hb v n xs ho hv => hne ho (by decide) b hv hb)).keeps hkS (fun b hb v n xs ho hv => hneS ho (by decide) b hv hb)
    inj := h.inj
    lst := by
      rw [List.length_append]
      exact own_keeps hl hkS (hneS hl (by decide))
    el := fun j l' hj => by
      have keepI : ∀ {n : Nat} {u : Value} {xs : List Value}, w.ownsRow D.B 3 1 u n xs → (w'.setCell ⟨D.db, 6, none⟩ lv').ownsRow D.B 3 1 u n xs := fun ho => by
        have h1 := own_keeps ho hk (hne ho (by decide))
        exact own_keeps h1 hkS (hneS h1 (by decide))
      rcases Nat.lt_or_ge j L.length with hlt | hge
      · rw [List.getElem?_append_left hlt] at hj
        obtain ⟨u, h1, h2, h3⟩ := h.el j l' hj
        exact ⟨u, by rw [List.getElem?_append_left (by omega)]; exact h1, keepI h2, h3⟩
      · rw [List.getElem?_append_right hge] at hj
        rcases Nat.eq_zero_or_pos (j - L.length) with h0 | h0
        · rw [h0] at hj
          simp at hj
          subst hj
          exact ⟨v, by rw [List.getElem?_append_right (by omega), hrl, h0]; rfl, keepI hv, hX⟩
        · rw [List.getElem?_eq_none (by simp; omega)] at hj; cases hj
    far := fun i j u u' g hij hu hu' hg hg' => by
      have hin : ∀ (i : Nat) (u : Value), (rows ++ [v])[i]? = some u → (rows[i]? = some u ∧ u ∈ rows) ∨ (i = rows.length ∧ u = v) := fun i u hu => by
        rcases Nat.lt_or_ge i rows.length with hlt | hge
        · rw [List.getElem?_append_left hlt] at hu
          exact .inl ⟨hu, List.mem_of_getElem? hu⟩
        · rw [List.getElem?_append_right hge] at hu
          rcases Nat.eq_zero_or_pos (i - rows.length) with h0 | h0
          · rw [h0] at hu; simp at hu; exact .inr ⟨by omega, hu.symm⟩
          · rw [List.getElem?_eq_none (by simp; omega)] at hu; cases hu
      rcases hin i u hu with ⟨a1, a2⟩ | ⟨a1, a2⟩ <;> rcases hin j u' hu' with ⟨b1, b2⟩ | ⟨b1, b2⟩
      · exact h.far i j u u' g hij a1 b1 hg hg'
      · subst b2; exact hnew g hg' u a2 hg
      · subst a2; exact hnew g hg u' b2 hg'
      · omega
    fb := h.fb }

/-- A mark set where nothing goes on. -/
theorem DeadAt.mark (h : DeadAt w D lv rows L more X) {i u g : Nat} (hi : i < D.W.length) (hu : u < D.N) (hg : D.G[i]? = some (.slice (some ⟨g, 0, none⟩) D.N D.N)) (b : Bool) (hb : b = true → sols D.k D.N D.t u (D.W.drop i) = []) :
    DeadAt (w.setCell ⟨g, u, none⟩ (.bool b)) D lv rows L more X := by
  have hk := Keeps.of_setCell w ⟨g, u, none⟩ (.bool b)
  obtain ⟨g', fl, e1, e2, e4⟩ := h.row i hi
  rw [hg] at e1
  injection e1 with e1
  injection e1 with e1
  injection e1 with e1
  injection e1 with e1
  subst e1
  have hne : ∀ {e n : Nat} {v : Value} {xs : List Value}, w.ownsRow D.B e 1 v n xs → e ≠ 4 → ∀ g', v.ownBlock = some g' → ¬ (g' = (⟨g, u, none⟩ : Addr).block) := fun ho he g' hg' e => by
    have e' : g' = g := e
    subst e'
    exact own_ne_own ho e2 he hg' rfl
  exact {
    blk := (hk.block _ h.lt (fun e => by
      have e' : D.db = g := e
      rw [← e'] at e2
      exact own_ne_blk e2 h.blk (by decide) rfl)).trans h.blk
    old := h.old.setCell (e2.lt g rfl).1 _
    atb := own_keeps h.atb hk (hne h.atb (by decide))
    row := fun j hj => by
      by_cases hij : j = i
      · subst hij
        refine ⟨g, fl.set u b, hg, ?_, fun u' hu' => ?_⟩
        · have := (e2.stored u (.bool b)).1
          rw [← List.map_set] at this
          exact this
        · by_cases huu : u = u'
          · subst huu
            have hlen : u < fl.length := by have := e2.1; simp at this; omega
            rw [List.getElem?_set_self hlen] at hu'
            exact hb (Option.some.inj hu')
          · rw [List.getElem?_set_ne huu] at hu'
            exact e4 u' hu'
      · obtain ⟨g2, fl2, f1, f2, f4⟩ := h.row j hj
        exact ⟨g2, fl2, f1, own_keeps f2 hk (fun g' hg' e => h.inj j i _ _ g' hij f1 hg hg' (by rw [show g' = g from e]; rfl)), f4⟩
    inj := h.inj
    lst := own_keeps h.lst hk (hne h.lst (by decide))
    el := fun j l hj => by
      obtain ⟨v, h1, h2, h3⟩ := h.el j l hj
      exact ⟨v, h1, own_keeps h2 hk (hne h2 (by decide)), h3⟩
    far := h.far
    fb := h.fb }

/-- Behind a push to the list: the search's own block. -/
theorem DeadAt.pushed (h : DeadAt w D lv rows L more X) (hk : Keeps (fun b => lv.ownBlock = some b) w w') :
    w'.cell? ⟨D.db, 6, none⟩ = some lv ∧ w'.frozen? ⟨D.db, 6, none⟩ = false ∧ w.heap.size ≤ w'.heap.size := by
  have hb : w'.heap[D.db]? = some (.cells (D.cells lv more) 138 (0, 0)) := (hk.block _ h.lt (own_ne_blk h.lst h.blk (by decide))).trans h.blk
  exact ⟨by rw [cell_of_row w' D.db _ _ _ _ hb]; rfl, frozen_of_row _ _ 6 _ _ hb, hk.size⟩
end Go.Proofs.YthilnpfpllplaaaGreatDoor

namespace Go.Proofs.YthilnpfpllplaaaGreatDoor
open Go.RowKit

theorem run_push3 {P : Program} (w : World) (t ty : TypeId) {e : TypeId} {z : Value} {bytes : Nat} (hT : ElemT P t e z bytes) {base : Nat} {v : Value} {n : Nat} {xs : List Value} (hown : w.ownsRow base e 1 v n xs)
    (ad : Addr) (c : Nat) (u : Value) (hc : w.cell? ad = some u) (hu : u.oneCell' = true) (h63 : n + 1 ≤ maxLen) (hbytes : (n + 1) * bytes ≤ 140737488355328) (hbase : base ≤ w.heap.size) :
    ∃ g cap w', (Builtin.append_ #[t, t] ty #[v, .slice (some ad) 1 c]).run P w = .ok (.slice (some ⟨g, 0, none⟩) (n + 1) cap) w' ∧ w'.ownsRow base e 1 (.slice (some ⟨g, 0, none⟩) (n + 1) cap) (n + 1) (xs ++ [u]) ∧
      ((v = .slice (some ⟨g, 0, none⟩) n cap ∧ w.grownBy w' (some g)) ∨ (w.heap.size ≤ g ∧ w.grownBy w' none)) ∧ g < w'.heap.size := by
  obtain ⟨i, hi, hz, hz1, hz2⟩ := info_parts hT.info
  have hcell : ∀ j u', [u][j]? = some u' → w.cell? (ad.add j) = some u' := by
    intro j u' hj
    match j, hj with
    | 0, hj => simp at hj; subst hj; simpa [Addr.add] using hc
  have hone : ∀ u' ∈ [u], u'.oneCell' = true := by intro u' hu'; simp at hu'; subst hu'; exact hu
  have h1z : z.cells.size = 1 := by rw [hT.one]; rfl
  rcases hown.2 with ⟨rfl, rfl⟩ | ⟨g, cap, cur, rfl, hbg, hg, hnc, hcm, hsz, htake⟩
  · obtain rfl : xs = [] := List.eq_nil_of_length_eq_zero (by simpa using hown.1)
    obtain ⟨v', w', hrun, r1, r2, _⟩ := run_append_own (P := P) w w.heap.size t ty e i z 1 bytes hT.und hi hz hz1 hz2 h1z (by decide) (.slice none 0 0) 0 [] (World.ownsRow_nil w _ e 1) ad 1 c [u] rfl hcell hone h63 hbytes (Nat.le_refl _)
    obtain ⟨g, cap, rfl, hb, hlt⟩ := r1.form (by omega)
    exact ⟨g, cap, w', hrun, own_base r1 hbase, .inr ⟨hb, r2⟩, hlt⟩
  · by_cases hroom : n + 1 ≤ cap
    · obtain ⟨w', hrun, r1, r2⟩ := run_append_fits (P := P) w base t ty e i 1 hT.und hi hz1 g n cap xs hown ad 1 c [u] rfl hcell hone hroom
      exact ⟨g, cap, w', hrun, r1, .inl ⟨rfl, r2⟩, (r1.lt g rfl).2⟩
    · obtain ⟨v', w', hrun, r1, r2⟩ := run_append_arg_grows (P := P) w t ty e i z 1 bytes hT.und hi hz hz1 hz2 h1z (by decide) ⟨g, 0, none⟩ n cap xs (by simpa using hown.1) (fun j u' hj => hown.cells (g := g) rfl j u' hj) ad 1 c [u] rfl hcell (by omega) h63 hbytes
      obtain ⟨g', cap', rfl, hb, hlt⟩ := r1.form (by omega)
      exact ⟨g', cap', w', hrun, own_base r1 hbase, .inr ⟨hb, r2⟩, hlt⟩

/-- At a step of a region that draws its order. -/
theorem step_push3 {P : Program} {w : World} {ops : Array Oper} {o : Oper} {a : Act} {K : Act → World → Prop} {Q : Exit → Act → World → Prop} {F : Prop} (hw : Region.wanted o (yielded ops a.tmps) = true) (s x : Operand) (t : TypeId)
    (ho : o.op = .call { callee := .builtin .append, args := #[s, x], argTypes := #[t, t] }) {e : TypeId} {z : Value} {bytes : Nat} (hT : ElemT P t e z bytes)
    {base : Nat} {v : Value} {n : Nat} {xs : List Value} (hown : w.ownsRow base e 1 v n xs) (hs : a.eval s = v) (ad : Addr) (c : Nat) (hx : a.eval x = .slice (some ad) 1 c) (u : Value) (hc : w.cell? ad = some u) (hu : u.oneCell' = true)
    (h63 : n + 1 ≤ maxLen) (hbytes : (n + 1) * bytes ≤ 140737488355328) (hbase : base ≤ w.heap.size)
    (h : ∀ g cap w', w'.ownsRow base e 1 (.slice (some ⟨g, 0, none⟩) (n + 1) cap) (n + 1) (xs ++ [u]) → ((v = .slice (some ⟨g, 0, none⟩) n cap ∧ w.grownBy w' (some g)) ∨ (w.heap.size ≤ g ∧ w.grownBy w' none)) → g < w'.heap.size →
      K (a.put o.dst (.slice (some ⟨g, 0, none⟩) (n + 1) cap)) w') :
    if Region.wanted o (yielded ops a.tmps) = true then Oper.wp P o a w K Q else F := by
  rw [if_pos hw]
  obtain ⟨g, cap, w', hr, h2, h3, h4⟩ := run_push3 (P := P) w t o.type hT hown ad c u hc hu h63 hbytes hbase
  unfold Oper.wp execOp
  simp only [ho, resolve, invoke, builtin, Sem.run_bind, Sem.run_pure, Result.andThen_ok, List.map_toArray, List.map_cons, List.map_nil, hs, hx, hr]
  exact h g cap w' h2 h3 h4

/-- What an append behind a box has written. -/
theorem push3_keeps {w w' : World} {o : Obj} {v : Value} {g n cap : Nat} (hor : (v = .slice (some ⟨g, 0, none⟩) n cap ∧ (w.alloc o).grownBy w' (some g)) ∨ ((w.alloc o).heap.size ≤ g ∧ (w.alloc o).grownBy w' none)) :
    Keeps (fun b => v.ownBlock = some b) w w' ∧ (v.ownBlock = some g ∨ w.heap.size ≤ g) := by
  have h0 : Keeps (fun b => v.ownBlock = some b) w (w.alloc o) := Keeps.of_pure ((Below.refl _ _).alloc (Nat.le_refl _) _) _
  rcases hor with ⟨rfl, h⟩ | ⟨h1, h⟩
  · exact ⟨h0.trans ((Keeps.of_grown h).mono (fun b _ e => e)) (fun _ _ h => h), .inl rfl⟩
  · exact ⟨h0.trans (Keeps.of_grown h) (fun b _ e => by cases e), .inr (by simp at h1; omega)⟩
/-- The front of a row. -/
theorem own_front {w : World} {base e g n m cap : Nat} {xs ys : List Value} (h : w.ownsRow base e 1 (.slice (some ⟨g, 0, none⟩) m cap) m (xs ++ ys)) (hn : xs.length = n) : w.ownsRow base e 1 (.slice (some ⟨g, 0, none⟩) n cap) n xs := by
  have hm : (xs ++ ys).length = m := by simpa using h.1
  rcases h.2 with ⟨hv, _⟩ | ⟨g', cap', cur, hv, hb, hg, hnc, hcm, hsz, htake⟩
  · cases hv
  · injection hv with hA _ hcap
    injection hA with hA
    injection hA with hgg
    subst hgg hcap
    refine ⟨by simpa using hn, .inr ⟨g, cap, cur, rfl, hb, hg, by simp at hm; omega, hcm, hsz, ?_⟩⟩
    have : (xs ++ ys).take n = xs := by rw [← hn]; exact List.take_left
    rw [← htake, List.take_take] at this
    rw [Nat.mul_one] at *
    rw [show min n m = n from by simp at hm; omega] at this
    exact this
/-- The row as a block of its type. -/
theorem own_block {w : World} {base e n g : Nat} {v : Value} {xs : List Value} (h : w.ownsRow base e 1 v n xs) (hg : v.ownBlock = some g) : ∃ cs, w.heap[g]? = some (.cells cs e (0, 0)) := by
  rcases h.2 with ⟨rfl, _⟩ | ⟨g', cap, cur, rfl, _, hh, _⟩
  · cases hg
  · have e' : g' = g := by simpa [Value.ownBlock] using hg
    subst e'
    exact ⟨_, hh⟩
end Go.Proofs.YthilnpfpllplaaaGreatDoor
