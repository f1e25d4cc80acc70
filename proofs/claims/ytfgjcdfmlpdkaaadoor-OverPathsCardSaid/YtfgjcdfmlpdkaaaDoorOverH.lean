/- The nodes and labels along a word: overlap.Path. Condition: the lists read from memory; the error variables hold what E says. -/
import Derived.Test.YtfgjcdfmlpdkaaaDoorOverAB
import Derived.Test.YtfgjcdfmlpdkaaaDoorOverLoop
namespace Go.Proofs.YtfgjcdfmlpdkaaaDoor
open Go.RowKit RuleP

namespace RuleP
/-- The nodes along a word: behind its first j symbols, along all of it. -/
def nodesTo (k r : Nat) (v : List Nat) (j : Nat) : List Nat := (List.range (j + 1 - 2 * r)).map fun i => wval k (win v i (2 * r))
def nodesW (k r : Nat) (v : List Nat) : List Nat := nodesTo k r v v.length
theorem nodesTo_len (k r : Nat) (v : List Nat) (j : Nat) : (nodesTo k r v j).length = j + 1 - 2 * r := by simp [nodesTo]
theorem nodesTo_succ {k r : Nat} {v : List Nat} {j : Nat} (h : 2 * r ≤ j + 1) : nodesTo k r v (j + 1) = nodesTo k r v j ++ [wval k (win v (j + 1 - 2 * r) (2 * r))] := by
  unfold nodesTo
  rw [show j + 1 + 1 - 2 * r = (j + 1 - 2 * r) + 1 from by omega, List.range_succ, List.map_append]
  rfl
theorem nodesTo_few {k r : Nat} {v : List Nat} {j : Nat} (h : j + 1 ≤ 2 * r) : nodesTo k r v j = [] := by
  unfold nodesTo
  rw [show j + 1 - 2 * r = 0 from by omega]
  rfl
theorem nodesTo_zero (k : Nat) (v : List Nat) : nodesTo k 0 v 0 = [0] := by simp [nodesTo, win, wval]
theorem roll_node {k m : Nat} {v : List Nat} (h : ∀ x ∈ v, x < k) {i : Nat} (hi : i + m ≤ v.length) : roll k (k ^ m) (v.take (i + m)) = wval k (win v i m) := by
  have e : v.take (i + m) = v.take i ++ win v i m := by
    unfold win
    rw [List.take_add]
  unfold roll
  rw [e]
  have := wval_mod (k := k) (v.take i) (win_sym h i m)
  rwa [win_len hi] at this
theorem win_snoc {k r : Nat} {v : List Nat} {j x : Nat} (hx : v[j]? = some x) (h2 : 2 * r ≤ j) : wval k (win v (j - 2 * r) (2 * r + 1)) = wval k (win v (j - 2 * r) (2 * r)) * k + x := by
  rw [← wval_snoc]
  congr 1
  unfold win
  rw [List.take_add_one, List.getElem?_drop, show j - 2 * r + 2 * r = j from by omega, hx]
  rfl
end RuleP

set_option maxRecDepth 100000 in
theorem path_bad (w : World) (E : Nat → Addr) (hE : Errs w E) (K R : Int) (A B : Option Addr) (n c m d : Nat) (T W : List Int) (hT : Sl w A n (T.map (Value.int .i64))) (hm : n ≤ 9223372036854775807) (hW : Sl w B m (W.map (Value.int .i64))) (hm2 : m ≤ 9223372036854775807)
    (tl : Tale) (h : checkO K R T W 4096 = some tl) :
    Calls Tryd.prog 18 #[ruleV K R A n c, .slice B m d] w fun e w' => ∃ v, e = .returned (.tuple #[.slice none 0 0, .slice none 0 0, v]) ∧ ErrV w' E (some tl) v ∧ Below w.heap.size w w' := by
  have hr0 := RuleAt.new w (.int .i64 K) (.int .i64 R) (.slice A n c)
  have hb0 := (Below.refl w.heap.size w).alloc (Nat.le_refl _) (.cells #[.int .i64 K, .int .i64 R, .slice A n c] 24)
  obtain ⟨r0, r1, r2, _⟩ := hr0.facts
  have hck := overCheck_c _ E (hE.below hb0) K R A B n c m d 4096 T W (hT.below hb0) hm (hW.below hb0) hm2 (by decide)
  rw [h] at hck
  have HCK := Lib.hid hck
  clear hr0 hb0 hT hW hE hck h
  unfold ruleV at *
  go_enter Tryd.func18, Tryd.ntmps18
  go_wp2_with fail
  refine (HCK.out).mono ?_
  rintro e w1 ⟨v, rfl, he, hb⟩
  obtain ⟨u, p, rfl⟩ := ErrIs.iface (show ErrIs w1 E tl.1 tl.2 v from he)
  have HP := Lib.hid he
  have HB1 := Lib.hid (below_box hb)
  clear he hb
  go_wp2_with fail
  go_ret3
  exact ⟨_, rfl, HP.out, HB1.out⟩

/-- Between two rounds along the word: nodes behind a symbols, labels behind b. -/
structure PathMid (w wr : World) (k r n c : Nat) (A : Option Addr) (t v : List Nat) (a b : Nat) (tv lv : Value) : Prop where
  thr : wr.ownsRow w.heap.size 3 1 tv (a + 1 - 2 * r) ((ints (nodesTo k r v a)).map (Value.int .i64))
  lab : wr.ownsRow w.heap.size 3 1 lv (b - 2 * r) (((ints (image k r t v)).take (b - 2 * r)).map (Value.int .i64))
  far : ∀ g, tv.ownBlock = some g → lv.ownBlock ≠ some g
  box : RuleAt wr w.heap.size (.int .i64 (k : Int)) (.int .i64 (r : Int)) (.slice A n c)
  bel : Below w.heap.size w wr

section
variable {w wr wz w3 : World} {k r n c : Nat} {A : Option Addr} {t v : List Nat} {a b : Nat} {tv lv : Value}
theorem PathMid.pure (h : PathMid w wr k r n c A t v a b tv lv) (hb : Below wr.heap.size wr wz) : PathMid w wz k r n c A t v a b tv lv :=
  ⟨own_below h.thr hb, own_below h.lab hb, h.far, h.box.below hb h.box.lt, h.bel.trans (hb.mono h.bel.size)⟩
theorem PathMid.few (h : PathMid w wr k r n c A t v a b tv lv) (h2 : a + 1 < 2 * r) : PathMid w wr k r n c A t v (a + 1) b tv lv :=
  ⟨by rw [nodesTo_few (by omega), show a + 1 + 1 - 2 * r = 0 from by omega]; have := h.thr; rw [nodesTo_few (by omega), show a + 1 - 2 * r = 0 from by omega] at this; exact this, h.lab, h.far, h.box, h.bel⟩
theorem PathMid.less (h : PathMid w wr k r n c A t v a b tv lv) (h2 : b < 2 * r) : PathMid w wr k r n c A t v a (b + 1) tv lv :=
  ⟨h.thr, by rw [show b + 1 - 2 * r = 0 from by omega]; have := h.lab; rw [show b - 2 * r = 0 from by omega] at this; exact this, h.far, h.box, h.bel⟩
theorem PathMid.node {g cap x : Nat} (h : PathMid w wr k r n c A t v a b tv lv) (h2 : 2 * r ≤ a + 1) (hx : wval k (win v (a + 1 - 2 * r) (2 * r)) = x)
    (hown : w3.ownsRow w.heap.size 3 1 (.slice (some ⟨g, 0, none⟩) (a + 1 - 2 * r + 1) cap) (a + 1 - 2 * r + 1) ((ints (nodesTo k r v a)).map (Value.int .i64) ++ [.int .i64 (x : Int)]))
    (hor : (tv.ownBlock = some g ∧ wr.grownBy w3 (some g)) ∨ (wr.heap.size < g ∧ wr.grownBy w3 none)) : PathMid w w3 k r n c A t v (a + 1) b (.slice (some ⟨g, 0, none⟩) (a + 1 - 2 * r + 1) cap) lv := by
  have hk := push_keeps hor
  refine ⟨?_, own_keeps h.lab hk (fun g' hg' e => h.far g' e hg'), fun g' hg' e => ?_, h.box.keeps hk (own_ne_blk h.thr h.box (by decide)), h.bel.trans (hk.below h.bel.size (fun b hb => (h.thr.lt b hb).1))⟩
  · rw [nodesTo_succ h2, hx, ← ints_snoc, show a + 1 + 1 - 2 * r = a + 1 - 2 * r + 1 from by omega]
    exact hown
  · have e' : g = g' := by simpa [Value.ownBlock] using hg'
    subst e'
    rcases hor with ⟨h1, _⟩ | ⟨h1, _⟩
    · exact h.far g h1 e
    · have := (h.lab.lt g e).2; omega
theorem PathMid.label {g cap y : Nat} (h : PathMid w wr k r n c A t v a b tv lv) (h2 : 2 * r ≤ b) (hy : (image k r t v)[b - 2 * r]? = some y)
    (hown : w3.ownsRow w.heap.size 3 1 (.slice (some ⟨g, 0, none⟩) (b - 2 * r + 1) cap) (b - 2 * r + 1) (((ints (image k r t v)).take (b - 2 * r)).map (Value.int .i64) ++ [.int .i64 (y : Int)]))
    (hor : (lv.ownBlock = some g ∧ wr.grownBy w3 (some g)) ∨ (wr.heap.size < g ∧ wr.grownBy w3 none)) : PathMid w w3 k r n c A t v a (b + 1) tv (.slice (some ⟨g, 0, none⟩) (b - 2 * r + 1) cap) := by
  have hk := push_keeps hor
  refine ⟨own_keeps h.thr hk (fun g' hg' e => h.far g' hg' e), ?_, fun g' hg' e => ?_, h.box.keeps hk (own_ne_blk h.lab h.box (by decide)), h.bel.trans (hk.below h.bel.size (fun b hb => (h.lab.lt b hb).1))⟩
  · rw [show b + 1 - 2 * r = b - 2 * r + 1 from by omega, List.take_add_one]
    have e1 : (ints (image k r t v))[b - 2 * r]? = some (y : Int) := by rw [ints, List.getElem?_map, hy]; rfl
    rw [e1, Option.toList_some, List.map_append]
    exact hown
  · have e' : g = g' := by simpa [Value.ownBlock] using e
    subst e'
    rcases hor with ⟨h1, _⟩ | ⟨h1, _⟩
    · exact h.far g hg' h1
    · have := (h.thr.lt g hg').2; omega
end

set_option maxRecDepth 100000 in
set_option maxHeartbeats 4000000 in
theorem path_good (w : World) (E : Nat → Addr) (hE : Errs w E) (k r : Nat) (A B : Option Addr) (n c m d : Nat) (t v : List Nat) (hr : IsRule k r t) (hsm : t.length ≤ 256) (hv : ∀ x ∈ v, x < k) (hT : Sl w A n ((ints t).map (Value.int .i64))) (hW : Sl w B m ((ints v).map (Value.int .i64))) (hm : m ≤ 4096) :
    Calls Tryd.prog 18 #[ruleV k r A n c, .slice B m d] w fun e w' => ∃ (C : Option Addr) (cc : Nat) (D : Option Addr) (dd : Nat), e = .returned (.tuple #[.slice C (m + 1 - 2 * r) cc, .slice D (m - 2 * r) dd, .nilIface]) ∧
      w'.ownsRow w.heap.size 3 1 (.slice C (m + 1 - 2 * r) cc) (m + 1 - 2 * r) ((ints (nodesW k r v)).map (Value.int .i64)) ∧ w'.ownsRow w.heap.size 3 1 (.slice D (m - 2 * r) dd) (m - 2 * r) ((ints (image k r t v)).map (Value.int .i64)) ∧
      (∀ g, (Value.slice C (m + 1 - 2 * r) cc).ownBlock = some g → (Value.slice D (m - 2 * r) dd).ownBlock ≠ some g) ∧ Below w.heap.size w w' := by
  have hlt : t.length = n := by simpa [ints] using hT.1
  have hl : v.length = m := by simpa [ints] using hW.1
  subst hlt hl
  have hr0 := RuleAt.new w (.int .i64 k) (.int .i64 r) (.slice A t.length c)
  have hb0 := (Below.refl w.heap.size w).alloc (Nat.le_refl _) (.cells #[.int .i64 (k : Int), .int .i64 (r : Int), .slice A t.length c] 24)
  obtain ⟨r0, r1, r2, _⟩ := hr0.facts
  have hck := overCheck_c _ E (hE.below hb0) k r A B t.length c v.length d 4096 (ints t) (ints v) (hT.below hb0) (by omega) (hW.below hb0) (by omega) (by decide)
  rw [checkO_good hr hsm hv hm] at hck
  have HCK := Lib.hid hck
  have HR0 := Lib.hid hr0
  have HR := Lib.hid hr
  have HV := Lib.hid hv
  have HT := Lib.hid hT
  have HW := Lib.hid hW
  have hr3 := hr.r3
  have hk1 := hr.k1
  have hk4 := hr.k4
  obtain ⟨hnd, hNk⟩ := nodes_div hr
  have HND := Lib.hid (fun wz => nodes_c wz (k := k) (r := r) (A := A) (n := t.length) (c := c) hk1 (by omega))
  rw [hnd] at HND
  have s1 : IntKind.i64.wrap (2 * (r : Int)) = 2 * (r : Int) := IntWalk.i64_in _ (by omega)
  have HNK0 := Lib.hid hNk
  clear hck hr0 hb0 hT hW hE hr hv hnd hNk
  unfold ruleV at *
  go_enter Tryd.func18, Tryd.ntmps18
  go_wp2_with fail
  refine (HCK.out).mono ?_
  rintro e w1 ⟨v', rfl, rfl, hb⟩
  have hr1 := HR0.out.below hb (by simp)
  obtain ⟨q0, q1, q2, _⟩ := hr1.facts
  have hB1 := below_box hb
  clear hb r0 r1 r2
  have hlr := hr1.lt
  have hM0 : PathMid w w1 k r t.length c A t v 0 0 (.slice none 0 0) (.slice none 0 0) ∨ r = 0 := by
    rcases Nat.eq_zero_or_pos r with h | h
    · exact Or.inr h
    · refine Or.inl ⟨?_, ?_, fun g hg => by simp [Value.ownBlock] at hg, hr1, hB1⟩
      · rw [nodesTo_few (by omega), show 0 + 1 - 2 * r = 0 from by omega]; exact World.ownsRow_nil _ _ _ _
      · rw [show 0 - 2 * r = 0 from by omega]; exact World.ownsRow_nil _ _ _ _
  have HSTART : Hid (∀ (g cap : Nat) (w3 : World), r = 0 → w3.ownsRow w.heap.size 3 1 (.slice (some ⟨g, 0, none⟩) (0 + 1) cap) (0 + 1) ([] ++ [.int .i64 0]) → (((Value.slice none 0 0).ownBlock = some g ∧ w1.grownBy w3 (some g)) ∨ (w1.heap.size < g ∧ w1.grownBy w3 none)) →
      PathMid w w3 k r t.length c A t v 0 0 (.slice (some ⟨g, 0, none⟩) (0 + 1) cap) (.slice none 0 0)) := Lib.hid (fun g cap w3 h hown hor => by
    have hk := push_keeps hor
    have hk' : Keeps (fun _ => False) w1 w3 := hk.mono (fun b _ e => by simp [Value.ownBlock] at e)
    subst h
    exact ⟨by rw [nodesTo_zero]; exact hown, World.ownsRow_nil _ _ _ _, fun g' _ e => by simp [Value.ownBlock] at e, hr1.keeps hk' (fun h => h), hB1.trans (hk'.below hB1.size (fun _ h => h.elim))⟩)
  have HHR := Lib.hid hr1
  have HB1 := Lib.hid hB1
  have HM0 := Lib.hid hM0
  obtain ⟨N, hNN⟩ : ∃ N, k ^ (2 * r) = N := ⟨_, rfl⟩
  have HNN := Lib.hid hNN
  rw [hNN] at HND
  have hNk := HNK0.out
  rw [hNN] at hNk
  have hN0 : 0 < N := by rw [← hNN]; exact Nat.pow_pos hk1
  have HNK := Lib.hid hNk
  have n0 : ¬ N = 0 := by omega
  have n1 : ¬ ((N : Int) = 0) := by omega
  have n2 : ((N : Int) == 0) = false := by simp; omega
  clear hM0 hr1 hB1 hNN hNk
  rcases Nat.eq_zero_or_pos r with hz | hz
  · have hc0 : ((2 * (r : Int)) == 0) = true := by simp; omega
    have HZ := Lib.hid hz
    have hz' : ¬ 0 < r := by omega
    clear hz
    go_wp2_with (at_builtin; refine wpList_push2 rfl _ _ _ rfl tInts (World.ownsRow_nil w1 w.heap.size _ _) rfl _ 0 rfl rfl rfl (by decide) (by decide) HB1.out.size ?_; intro g cap w3 hown3 hor3 hlt3; have hM := HSTART.out g cap w3 HZ.out hown3 hor3; obtain ⟨p0, p1, p2, _⟩ := hM.box.facts)
    have hp0 : Hid (0 + 1 = 0 + 1 - 2 * r) := Lib.hid (by have := HZ.out; omega)
    have hq0 : Hid (0 = 0 - 2 * r) := Lib.hid (by omega)
    have HM := Lib.hid hM
    go_loopw [8, 9, 10, 29] (fun tv lv nv iv wr => ∃ (j : Nat) (C : Option Addr) (p cc : Nat) (D : Option Addr) (q dd : Nat), j ≤ v.length ∧ iv = .int .i64 (j : Int) ∧ nv = .int .i64 ((roll k N (v.take j) : Nat) : Int) ∧ tv = .slice C p cc ∧ lv = .slice D q dd ∧ Hid (p = j + 1 - 2 * r) ∧ Hid (q = j - 2 * r) ∧
        Hid (PathMid w wr k r t.length c A t v j j (.slice C p cc) (.slice D q dd))) (fun _ _ _ iv _ => v.length - (intOf iv).toNat)
    case atStart => exact ⟨0, _, _, _, _, _, _, Nat.zero_le _, rfl, by simp [roll, wval_nil], rfl, rfl, hp0, hq0, HM⟩
    case round =>
      clear HM hp0 hq0 HM0 HSTART HZ hor3 hown3 hM p0 p1 p2 hc0 hz'
      obtain ⟨j, C, p, cc, D, q, dd, hj, rfl, rfl, rfl, rfl, hp, hq, hM⟩ := hrel
      obtain ⟨p0, p1, p2, _⟩ := hM.out.box.facts
      by_cases hlt : j < v.length
      · have hWm := HW.out.below hM.out.bel
        rw [ints_map] at hWm
        obtain ⟨adw, x, hadw, hxj, hcx⟩ := hWm.word_ hlt
        have hxk : x < k := HV.out x (List.mem_of_getElem? hxj)
        have hrho : roll k N (v.take j) < N := Nat.mod_lt _ hN0
        have hrol : roll k N (v.take (j + 1)) = (roll k N (v.take j) * k + x) % N := by
          rw [List.take_add_one, hxj]; exact roll_snoc _ _ _ _
        have hee : roll k N (v.take j) * k + x < t.length := by
          rw [HNK.out]
          have : (roll k N (v.take j) + 1) * k ≤ N * k := Nat.mul_le_mul_right _ hrho
          rw [Nat.add_mul, Nat.one_mul] at this
          omega
        have hQ : IntKind.i64.wrap (((roll k N (v.take j) : Nat) : Int) * (k : Int)) = ((roll k N (v.take j) * k : Nat) : Int) := by
          rw [show ((roll k N (v.take j) : Nat) : Int) * (k : Int) = ((roll k N (v.take j) * k : Nat) : Int) from by simp]
          generalize roll k N (v.take j) * k = z at hee
          exact IntWalk.i64_in _ (by omega)
        have himg : 2 * r ≤ j → (image k r t v)[j - 2 * r]? = some (t.getD (roll k N (v.take j) * k + x) 0) := fun h2 => by
          have h1 := image_at (k := k) (t := t) (w := v) (i := j - 2 * r) (r := r) (by omega)
          rw [win_snoc hxj h2] at h1
          have h3 := roll_node (k := k) (m := 2 * r) HV.out (i := j - 2 * r) (by omega)
          rw [HNN.out, show j - 2 * r + 2 * r = j from by omega] at h3
          rw [h3]
          exact h1
        have hnod : 2 * r ≤ j + 1 → wval k (win v (j + 1 - 2 * r) (2 * r)) = roll k N (v.take (j + 1)) := fun h2 => by
          have h3 := roll_node (k := k) (m := 2 * r) HV.out (i := j + 1 - 2 * r) (by omega)
          rw [HNN.out, show j + 1 - 2 * r + 2 * r = j + 1 from by omega] at h3
          exact h3.symm
        obtain ⟨ρ, hρ⟩ : ∃ ρ, roll k N (v.take j) = ρ := ⟨_, rfl⟩
        obtain ⟨σ, hσ⟩ : ∃ σ, roll k N (v.take (j + 1)) = σ := ⟨_, rfl⟩
        rw [hρ] at hrho hrol hee hQ himg ⊢
        rw [hσ] at hrol hnod
        obtain ⟨Q, hQQ⟩ : ∃ Q, ρ * k = Q := ⟨_, rfl⟩
        rw [hQQ] at hrol hee hQ himg
        obtain ⟨e0, he0⟩ : ∃ e0, Q + x = e0 := ⟨_, rfl⟩
        have hei : IntKind.i64.wrap ((Q : Int) + (x : Int)) = (e0 : Int) := by
          rw [show (Q : Int) + (x : Int) = (e0 : Int) by omega]
          exact IntWalk.i64_in _ (by omega)
        rw [he0] at hrol hee himg
        have n3 : IntKind.i64.wrap ((e0 : Int).tmod (N : Int)) = (σ : Int) := by
          rw [show (e0 : Int).tmod (N : Int) = ((e0 % N : Nat) : Int) from rfl, ← hrol]
          have hml : σ ≤ e0 := by rw [hrol]; exact Nat.mod_le _ _
          exact IntWalk.i64_in _ (by omega)
        have n4 : wrap64 ((e0 : Int) % (N : Int)) = (σ : Int) := by
          rw [show (e0 : Int) % (N : Int) = ((e0 % N : Nat) : Int) from rfl, ← hrol]
          have hml : σ ≤ e0 := by rw [hrol]; exact Nat.mod_le _ _
          exact IntWalk.wrap64_in _ (by omega)
        have n5 : (e0 : Int) % (N : Int) = (σ : Int) := by
          rw [show (e0 : Int) % (N : Int) = ((e0 % N : Nat) : Int) from rfl, ← hrol]
        have HS := Lib.hid hσ
        have HP := Lib.hid himg
        have HNO := Lib.hid hnod
        rw [hadw] at hWm
        clear hrol hQQ he0 hσ hρ himg hnod hxj hWm
        subst hadw
        rcases Nat.lt_or_ge (j + 1) (2 * r) with h2 | h2
        · have c1 : decide (2 * (r : Int) ≤ (j : Int) + 1) = false := decide_eq_false (by omega)
          have c2 : decide (2 * (r : Int) ≤ (j : Int)) = false := decide_eq_false (by omega)
          go_wp2_with fail
          refine (HND.out _).mono ?_
          rintro e w2 ⟨rfl, hb2⟩
          have hM2 := hM.out.pure hb2
          obtain ⟨q0, q1, q2, _⟩ := hM2.box.facts
          have HM2 := Lib.hid ((hM2.few h2).less (by omega))
          clear hb2 hM2
          go_wp2_with fail
          exact ⟨⟨j + 1, C, p, cc, D, q, dd, by omega, by go_num, by rw [HS.out, ← n5], rfl, rfl, Lib.hid (by have := hp.out; omega), Lib.hid (by have := hq.out; omega), HM2⟩, by simp [intOf]; omega⟩
        · have c1 : decide (2 * (r : Int) ≤ (j : Int) + 1) = true := decide_eq_true (by omega)
          have hnx := HNO.out h2
          rcases Nat.lt_or_ge j (2 * r) with h3 | h3
          · have c2 : decide (2 * (r : Int) ≤ (j : Int)) = false := decide_eq_false (by omega)
            go_wp2_with fail
            refine (HND.out _).mono ?_
            rintro e w2 ⟨rfl, hb2⟩
            have hM2 := hM.out.pure hb2
            obtain ⟨q0, q1, q2, _⟩ := hM2.box.facts
            have hth := hM2.thr
            rw [← hp.out] at hth
            have HM2 := Lib.hid hM2
            clear hb2 hM2
            go_wp2_with (at_builtin; refine wpList_push2 rfl _ _ _ rfl tInts hth rfl _ 0 rfl rfl rfl (by simp only [maxLen]; have := hp.out; omega) (by have := hp.out; omega) HM2.out.bel.size ?_; intro g3 cap3 w4 hown4 hor4 hlt4; rw [hp.out] at hown4; have hM4 := (HM2.out.node h2 hnx hown4 hor4).less h3; obtain ⟨t0, t1, t2, _⟩ := hM4.box.facts)
            have HM4 := Lib.hid hM4
            rw [← hp.out] at HM4
            clear hM4 hown4 hor4
            exact ⟨⟨j + 1, _, p + 1, cap3, D, q, dd, by omega, by go_num, by rw [HS.out, ← n5], rfl, rfl, Lib.hid (by have := hp.out; omega), Lib.hid (by have := hq.out; omega), HM4⟩, by simp [intOf]; omega⟩
          · have c2 : decide (2 * (r : Int) ≤ (j : Int)) = true := decide_eq_true (by omega)
            have hy := HP.out h3
            obtain ⟨y, hyy⟩ : ∃ y, t.getD e0 0 = y := ⟨_, rfl⟩
            rw [hyy] at hy
            have HYY := Lib.hid hyy
            have HY := Lib.hid hy
            have HNX := Lib.hid hnx
            go_wp2_with fail
            refine (HND.out _).mono ?_
            rintro e w2 ⟨rfl, hb2⟩
            have hM2 := hM.out.pure hb2
            obtain ⟨q0, q1, q2, _⟩ := hM2.box.facts
            have hth := hM2.thr
            rw [← hp.out] at hth
            have HM2 := Lib.hid hM2
            have HTC := Lib.hid (fun (wz : World) (hz : Below w.heap.size w wz) => (by
              have h0 := HT.out.below hz
              rw [ints_map] at h0
              obtain ⟨ad, y', e1, h1, h2⟩ := h0.word_ hee
              rw [show y' = y from by have := HYY.out; rw [List.getD_eq_getElem?_getD, h1] at this; exact this] at h2
              exact ⟨ad, e1, h2⟩ : ∃ ad, A = some ad ∧ wz.cell? (ad.add e0) = some (.int .i64 (y : Int))))
            obtain ⟨ta, hta, htc⟩ := HTC.out w2 hM2.bel
            subst hta
            clear hb2 hM2 hyy hy hnx
            go_wp2_with (first
              | (at_builtin; refine wpList_push2 rfl _ _ _ rfl tInts hth rfl _ 0 rfl rfl rfl (by simp only [maxLen]; have := hp.out; omega) (by have := hp.out; omega) HM2.out.bel.size ?_; intro g3 cap3 w4 hown4 hor4 hlt4; rw [hp.out] at hown4; have hM4 := HM2.out.node h2 HNX.out hown4 hor4; obtain ⟨t0, t1, t2, _⟩ := hM4.box.facts; obtain ⟨tb, htb, htc4⟩ := HTC.out w4 hM4.bel; obtain rfl := Option.some.inj htb; have hlb := hM4.lab; rw [← hq.out] at hlb)
              | (at_builtin; refine wpList_push2 rfl _ _ _ rfl tInts hlb rfl _ 0 rfl rfl rfl (by simp only [maxLen]; have := hq.out; omega) (by have := hq.out; omega) hM4.bel.size ?_; intro g5 cap5 w5 hown5 hor5 hlt5))
            rw [hq.out] at hown5
            have hM5 := hM4.label h3 HY.out hown5 hor5
            rw [← hp.out, ← hq.out] at hM5
            have HM5 := Lib.hid hM5
            exact ⟨⟨j + 1, _, p + 1, cap3, _, q + 1, cap5, by omega, by go_num, by rw [HS.out, ← n5], rfl, rfl, Lib.hid (by have := hp.out; omega), Lib.hid (by have := hq.out; omega), HM5⟩, by simp [intOf]; omega⟩
      · obtain rfl : j = v.length := by omega
        have hth := hM.out.thr
        have hlb := hM.out.lab
        rw [List.take_of_length_le (by rw [ints_len, image_len]; exact Nat.le_refl _)] at hlb
        have HTH := Lib.hid hth
        have HLB := Lib.hid hlb
        clear hth hlb
        go_wp2_with fail
        go_ret3
        have e1 := hp.out
        have e2 := hq.out
        have hfa := hM.out.far
        subst e1 e2
        exact ⟨C, cc, D, dd, rfl, HTH.out, HLB.out, hfa, hM.out.bel⟩
  · have hc0 : ((2 * (r : Int)) == 0) = false := by simp; omega
    have hz' : ¬ r = 0 := by omega
    have hp0 : Hid (0 = 0 + 1 - 2 * r) := Lib.hid (by omega)
    have hq0 : Hid (0 = 0 - 2 * r) := Lib.hid (by omega)
    have HM : Hid (PathMid w w1 k r t.length c A t v 0 0 (.slice none 0 0) (.slice none 0 0)) := Lib.hid (by rcases HM0.out with h | h; exact h; exact absurd h hz')
    go_wp2_with fail
    go_loopw [8, 9, 10, 29] (fun tv lv nv iv wr => ∃ (j : Nat) (C : Option Addr) (p cc : Nat) (D : Option Addr) (q dd : Nat), j ≤ v.length ∧ iv = .int .i64 (j : Int) ∧ nv = .int .i64 ((roll k N (v.take j) : Nat) : Int) ∧ tv = .slice C p cc ∧ lv = .slice D q dd ∧ Hid (p = j + 1 - 2 * r) ∧ Hid (q = j - 2 * r) ∧
        Hid (PathMid w wr k r t.length c A t v j j (.slice C p cc) (.slice D q dd))) (fun _ _ _ iv _ => v.length - (intOf iv).toNat)
    case atStart => exact ⟨0, _, _, _, _, _, _, Nat.zero_le _, rfl, by simp [roll, wval_nil], rfl, rfl, hp0, hq0, HM⟩
    case round =>
      clear HM hp0 hq0 HM0 HSTART hc0 hz'
      obtain ⟨j, C, p, cc, D, q, dd, hj, rfl, rfl, rfl, rfl, hp, hq, hM⟩ := hrel
      obtain ⟨p0, p1, p2, _⟩ := hM.out.box.facts
      by_cases hlt : j < v.length
      · have hWm := HW.out.below hM.out.bel
        rw [ints_map] at hWm
        obtain ⟨adw, x, hadw, hxj, hcx⟩ := hWm.word_ hlt
        have hxk : x < k := HV.out x (List.mem_of_getElem? hxj)
        have hrho : roll k N (v.take j) < N := Nat.mod_lt _ hN0
        have hrol : roll k N (v.take (j + 1)) = (roll k N (v.take j) * k + x) % N := by
          rw [List.take_add_one, hxj]; exact roll_snoc _ _ _ _
        have hee : roll k N (v.take j) * k + x < t.length := by
          rw [HNK.out]
          have : (roll k N (v.take j) + 1) * k ≤ N * k := Nat.mul_le_mul_right _ hrho
          rw [Nat.add_mul, Nat.one_mul] at this
          omega
        have hQ : IntKind.i64.wrap (((roll k N (v.take j) : Nat) : Int) * (k : Int)) = ((roll k N (v.take j) * k : Nat) : Int) := by
          rw [show ((roll k N (v.take j) : Nat) : Int) * (k : Int) = ((roll k N (v.take j) * k : Nat) : Int) from by simp]
          generalize roll k N (v.take j) * k = z at hee
          exact IntWalk.i64_in _ (by omega)
        have himg : 2 * r ≤ j → (image k r t v)[j - 2 * r]? = some (t.getD (roll k N (v.take j) * k + x) 0) := fun h2 => by
          have h1 := image_at (k := k) (t := t) (w := v) (i := j - 2 * r) (r := r) (by omega)
          rw [win_snoc hxj h2] at h1
          have h3 := roll_node (k := k) (m := 2 * r) HV.out (i := j - 2 * r) (by omega)
          rw [HNN.out, show j - 2 * r + 2 * r = j from by omega] at h3
          rw [h3]
          exact h1
        have hnod : 2 * r ≤ j + 1 → wval k (win v (j + 1 - 2 * r) (2 * r)) = roll k N (v.take (j + 1)) := fun h2 => by
          have h3 := roll_node (k := k) (m := 2 * r) HV.out (i := j + 1 - 2 * r) (by omega)
          rw [HNN.out, show j + 1 - 2 * r + 2 * r = j + 1 from by omega] at h3
          exact h3.symm
        obtain ⟨ρ, hρ⟩ : ∃ ρ, roll k N (v.take j) = ρ := ⟨_, rfl⟩
        obtain ⟨σ, hσ⟩ : ∃ σ, roll k N (v.take (j + 1)) = σ := ⟨_, rfl⟩
        rw [hρ] at hrho hrol hee hQ himg ⊢
        rw [hσ] at hrol hnod
        obtain ⟨Q, hQQ⟩ : ∃ Q, ρ * k = Q := ⟨_, rfl⟩
        rw [hQQ] at hrol hee hQ himg
        obtain ⟨e0, he0⟩ : ∃ e0, Q + x = e0 := ⟨_, rfl⟩
        have hei : IntKind.i64.wrap ((Q : Int) + (x : Int)) = (e0 : Int) := by
          rw [show (Q : Int) + (x : Int) = (e0 : Int) by omega]
          exact IntWalk.i64_in _ (by omega)
        rw [he0] at hrol hee himg
        have n3 : IntKind.i64.wrap ((e0 : Int).tmod (N : Int)) = (σ : Int) := by
          rw [show (e0 : Int).tmod (N : Int) = ((e0 % N : Nat) : Int) from rfl, ← hrol]
          have hml : σ ≤ e0 := by rw [hrol]; exact Nat.mod_le _ _
          exact IntWalk.i64_in _ (by omega)
        have n4 : wrap64 ((e0 : Int) % (N : Int)) = (σ : Int) := by
          rw [show (e0 : Int) % (N : Int) = ((e0 % N : Nat) : Int) from rfl, ← hrol]
          have hml : σ ≤ e0 := by rw [hrol]; exact Nat.mod_le _ _
          exact IntWalk.wrap64_in _ (by omega)
        have n5 : (e0 : Int) % (N : Int) = (σ : Int) := by
          rw [show (e0 : Int) % (N : Int) = ((e0 % N : Nat) : Int) from rfl, ← hrol]
        have HS := Lib.hid hσ
        have HP := Lib.hid himg
        have HNO := Lib.hid hnod
        rw [hadw] at hWm
        clear hrol hQQ he0 hσ hρ himg hnod hxj hWm
        subst hadw
        rcases Nat.lt_or_ge (j + 1) (2 * r) with h2 | h2
        · have c1 : decide (2 * (r : Int) ≤ (j : Int) + 1) = false := decide_eq_false (by omega)
          have c2 : decide (2 * (r : Int) ≤ (j : Int)) = false := decide_eq_false (by omega)
          go_wp2_with fail
          refine (HND.out _).mono ?_
          rintro e w2 ⟨rfl, hb2⟩
          have hM2 := hM.out.pure hb2
          obtain ⟨q0, q1, q2, _⟩ := hM2.box.facts
          have HM2 := Lib.hid ((hM2.few h2).less (by omega))
          clear hb2 hM2
          go_wp2_with fail
          exact ⟨⟨j + 1, C, p, cc, D, q, dd, by omega, by go_num, by rw [HS.out, ← n5], rfl, rfl, Lib.hid (by have := hp.out; omega), Lib.hid (by have := hq.out; omega), HM2⟩, by simp [intOf]; omega⟩
        · have c1 : decide (2 * (r : Int) ≤ (j : Int) + 1) = true := decide_eq_true (by omega)
          have hnx := HNO.out h2
          rcases Nat.lt_or_ge j (2 * r) with h3 | h3
          · have c2 : decide (2 * (r : Int) ≤ (j : Int)) = false := decide_eq_false (by omega)
            go_wp2_with fail
            refine (HND.out _).mono ?_
            rintro e w2 ⟨rfl, hb2⟩
            have hM2 := hM.out.pure hb2
            obtain ⟨q0, q1, q2, _⟩ := hM2.box.facts
            have hth := hM2.thr
            rw [← hp.out] at hth
            have HM2 := Lib.hid hM2
            clear hb2 hM2
            go_wp2_with (at_builtin; refine wpList_push2 rfl _ _ _ rfl tInts hth rfl _ 0 rfl rfl rfl (by simp only [maxLen]; have := hp.out; omega) (by have := hp.out; omega) HM2.out.bel.size ?_; intro g3 cap3 w4 hown4 hor4 hlt4; rw [hp.out] at hown4; have hM4 := (HM2.out.node h2 hnx hown4 hor4).less h3; obtain ⟨t0, t1, t2, _⟩ := hM4.box.facts)
            have HM4 := Lib.hid hM4
            rw [← hp.out] at HM4
            clear hM4 hown4 hor4
            exact ⟨⟨j + 1, _, p + 1, cap3, D, q, dd, by omega, by go_num, by rw [HS.out, ← n5], rfl, rfl, Lib.hid (by have := hp.out; omega), Lib.hid (by have := hq.out; omega), HM4⟩, by simp [intOf]; omega⟩
          · have c2 : decide (2 * (r : Int) ≤ (j : Int)) = true := decide_eq_true (by omega)
            have hy := HP.out h3
            obtain ⟨y, hyy⟩ : ∃ y, t.getD e0 0 = y := ⟨_, rfl⟩
            rw [hyy] at hy
            have HYY := Lib.hid hyy
            have HY := Lib.hid hy
            have HNX := Lib.hid hnx
            go_wp2_with fail
            refine (HND.out _).mono ?_
            rintro e w2 ⟨rfl, hb2⟩
            have hM2 := hM.out.pure hb2
            obtain ⟨q0, q1, q2, _⟩ := hM2.box.facts
            have hth := hM2.thr
            rw [← hp.out] at hth
            have HM2 := Lib.hid hM2
            have HTC := Lib.hid (fun (wz : World) (hz : Below w.heap.size w wz) => (by
              have h0 := HT.out.below hz
              rw [ints_map] at h0
              obtain ⟨ad, y', e1, h1, h2⟩ := h0.word_ hee
              rw [show y' = y from by have := HYY.out; rw [List.getD_eq_getElem?_getD, h1] at this; exact this] at h2
              exact ⟨ad, e1, h2⟩ : ∃ ad, A = some ad ∧ wz.cell? (ad.add e0) = some (.int .i64 (y : Int))))
            obtain ⟨ta, hta, htc⟩ := HTC.out w2 hM2.bel
            subst hta
            clear hb2 hM2 hyy hy hnx
            go_wp2_with (first
              | (at_builtin; refine wpList_push2 rfl _ _ _ rfl tInts hth rfl _ 0 rfl rfl rfl (by simp only [maxLen]; have := hp.out; omega) (by have := hp.out; omega) HM2.out.bel.size ?_; intro g3 cap3 w4 hown4 hor4 hlt4; rw [hp.out] at hown4; have hM4 := HM2.out.node h2 HNX.out hown4 hor4; obtain ⟨t0, t1, t2, _⟩ := hM4.box.facts; obtain ⟨tb, htb, htc4⟩ := HTC.out w4 hM4.bel; obtain rfl := Option.some.inj htb; have hlb := hM4.lab; rw [← hq.out] at hlb)
              | (at_builtin; refine wpList_push2 rfl _ _ _ rfl tInts hlb rfl _ 0 rfl rfl rfl (by simp only [maxLen]; have := hq.out; omega) (by have := hq.out; omega) hM4.bel.size ?_; intro g5 cap5 w5 hown5 hor5 hlt5))
            rw [hq.out] at hown5
            have hM5 := hM4.label h3 HY.out hown5 hor5
            rw [← hp.out, ← hq.out] at hM5
            have HM5 := Lib.hid hM5
            exact ⟨⟨j + 1, _, p + 1, cap3, _, q + 1, cap5, by omega, by go_num, by rw [HS.out, ← n5], rfl, rfl, Lib.hid (by have := hp.out; omega), Lib.hid (by have := hq.out; omega), HM5⟩, by simp [intOf]; omega⟩
      · obtain rfl : j = v.length := by omega
        have hth := hM.out.thr
        have hlb := hM.out.lab
        rw [List.take_of_length_le (by rw [ints_len, image_len]; exact Nat.le_refl _)] at hlb
        have HTH := Lib.hid hth
        have HLB := Lib.hid hlb
        clear hth hlb
        go_wp2_with fail
        go_ret3
        have e1 := hp.out
        have e2 := hq.out
        have hfa := hM.out.far
        subst e1 e2
        exact ⟨C, cc, D, dd, rfl, HTH.out, HLB.out, hfa, hM.out.bel⟩
end Go.Proofs.YtfgjcdfmlpdkaaaDoor
