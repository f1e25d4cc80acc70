/- The image of a word: rule.Step; the symbol of a window: rule.Local. Condition: table and word read from memory; the error variables hold what E says. Lists held against each other: edenraw.Ints returns whether the two lists are one. Condition: both lists read from memory. copy(d, s) into a row of the call's own. Plain laws, no program. No condition. Numbers lent: edenraw.Lent, Kept. Condition: the numbers read from memory. A rule lent: edenraw.LentRule, KeptRule. Condition: the table reads from memory. -/
import Derived.Laws.CopyOwn
import Derived.Deep.RegionHeld3
import Derived.Test.YtpllojpgpejfmaaGreatDoorF2
import Derived.Test.YtpllojpgpejfmaaGreatDoorF3
namespace Go.Proofs.YtpllojpgpejfmaaGreatDoor
open Go.RowKit RuleP

namespace RuleP
def nats (l : List Int) : List Nat := l.map Int.toNat
/-- rule.Step's answer. -/
def step (K R : Int) (T w : List Int) : Except Tale (List Int) :=
  match check K R T with
  | some t => .error t
  | none => if 4096 < w.length then .error (4, [(sRule, 0)]) else
    match odd K w with
    | some i => .error (2, [(sRule, (i : Int))])
    | none => .ok (ints (image K.toNat R.toNat (nats T) (nats w)))
end RuleP

/-- The answer is a new list and no error, or nothing and the error of the tale. -/
def ListErr (w : World) (E : Nat → Addr) (x : Except Tale (List Int)) (e : Ending) (w' : World) : Prop :=
  match x with
  | .ok l => ∃ A c, e = .returned (.tuple #[.slice A l.length c, .nilIface]) ∧ w'.ownsRow w.heap.size 3 1 (.slice A l.length c) l.length (l.map (Value.int .i64)) ∧ Below w.heap.size w w'
  | .error t => ∃ v, e = .returned (.tuple #[.slice none 0 0, v]) ∧ ErrIs w' E t.1 t.2 v ∧ Below w.heap.size w w'

set_option maxRecDepth 100000 in
set_option maxHeartbeats 4000000 in
theorem step_good (w : World) (E : Nat → Addr) (hE : Errs w E) (k r : Nat) (A B : Option Addr) (n c m d : Nat) (t v : List Nat) (hr : IsRule k r t) (hv : ∀ x ∈ v, x < k) (hT : Sl w A n ((ints t).map (Value.int .i64))) (hW : Sl w B m ((ints v).map (Value.int .i64))) (hm : m ≤ 4096) :
    Calls Tryz.prog 89 #[ruleV k r A n c, .slice B m d] w fun e w' => ListErr w E (.ok (ints (image k r t v))) e w' := by
  have hl : v.length = m := by simpa [ints] using hW.1
  have hlt : t.length = n := by simpa [ints] using hT.1
  have hn := hr.le
  have hpos := hr.pos
  have hk1 := hr.k1
  have hk4 := hr.k4
  have hr3 := hr.r3
  rw [hlt] at hn hpos
  have hE1 : Errs (w.alloc (.cells #[.int .i64 (k : Int), .int .i64 (r : Int), .slice A n c] 26)) E := hE.below ((Below.refl _ _).alloc (Nat.le_refl _) _)
  have hT1 := hT.alloc (.cells #[.int .i64 (k : Int), .int .i64 (r : Int), .slice A n c] 26)
  have hW1 := hW.alloc (.cells #[.int .i64 (k : Int), .int .i64 (r : Int), .slice A n c] 26)
  have hck := check_c _ E hE1 k r A n c (ints t) hT1 (by omega)
  rw [check_rule hr] at hck
  have HCK := Lib.hid hck
  have HOD := Lib.hid (fun (wz : World) (hz : Sl wz B m ((ints v).map (Value.int .i64))) => ruleOdd_c wz k B m d (ints v) hz (by omega))
  rw [odd_ints hv] at HOD
  have hpl : place none = -1 := rfl
  rw [hpl] at HOD
  have HL := Lib.hid hl
  have HLT := Lib.hid hlt
  have HR := Lib.hid hr
  have HV := Lib.hid hv
  have HW := Lib.hid hW1
  clear hE hE1 hT1 hck hpl hl hlt hr hv hW1
  rw [ints_map] at hT hW
  unfold ruleV at *
  go_enter Tryz.func89, Tryz.ntmps89
  go_wp2_with fail
  refine (HCK.out).mono ?_
  rintro e w1 ⟨v', rfl, rfl, hb⟩
  obtain ⟨b0, b1, b2⟩ := box_cells hb
  have HW1 := Lib.hid (HW.out.below hb)
  go_wp2_with fail
  refine (HOD.out _ HW1.out).mono ?_
  rintro e w2 ⟨rfl, hb2⟩
  have hbox : w2.heap[w.heap.size]? = some (.cells #[.int .i64 (k : Int), .int .i64 (r : Int), .slice A n c] 26 (0, 0)) := by
    rw [hb2.block _ (Nat.lt_of_lt_of_le (by simp) hb.size), hb.block _ (by simp)]
    exact heap_new _ _
  have hsz : w.heap.size < w2.heap.size := Nat.lt_of_lt_of_le (Nat.lt_of_lt_of_le (by simp) hb.size) hb2.size
  have hB2 := (below_box hb).trans (hb2.mono (below_box hb).size)
  have HBX := Lib.hid hbox
  clear hb hb2 b0 b1 b2 hbox HW1 HW
  go_wp2_with fail
  go_loopw [8, 9, 31] (fun ov nv i wr => ∃ (j p : Nat) (C : Option Addr) (cc : Nat), j ≤ m ∧ p = j - 2 * r ∧ i = .int .i64 (j : Int) ∧ nv = .int .i64 ((roll k n (v.take j) : Nat) : Int) ∧ ov = .slice C p cc ∧ wr.ownsRow w.heap.size 3 1 (.slice C p cc) p (((ints (image k r t v)).take p).map (Value.int .i64)) ∧
      Hid (wr.heap[w.heap.size]? = some (.cells #[.int .i64 (k : Int), .int .i64 (r : Int), .slice A n c] 26 (0, 0))) ∧ w.heap.size < wr.heap.size ∧ Below w.heap.size w wr) (fun _ _ i _ => m - (intOf i).toNat)
  case atStart => exact ⟨0, 0, none, 0, Nat.zero_le _, by omega, rfl, by simp [roll, wval_nil], rfl, ⟨by simp, .inl ⟨rfl, rfl⟩⟩, HBX, hsz, hB2⟩
  case round =>
    clear hsz hB2 HBX
    obtain ⟨j, p, C, cc, hj, hp, rfl, rfl, rfl, hown, hbox, hsz, hb⟩ := hrel
    obtain ⟨b0, b1, b2, _⟩ := blk_cells hbox.out
    by_cases hlt : j < m
    · obtain ⟨adw, x, rfl, hxj, hcx⟩ := (hW.below hb).word_ hlt
      have hxk : x < k := HV.out x (List.mem_of_getElem? hxj)
      have hrho : roll k n (v.take j) < n := Nat.mod_lt _ hpos
      have hrol : roll k n (v.take (j + 1)) = (roll k n (v.take j) * k + x) % n := by
        rw [List.take_add_one, hxj]; exact roll_snoc _ _ _ _
      have hrl2 : roll k n (v.take (j + 1)) < n := Nat.mod_lt _ hpos
      have hQ : ((roll k n (v.take j) : Nat) : Int) * (k : Int) = ((roll k n (v.take j) * k : Nat) : Int) := by simp
      have hQl : roll k n (v.take j) * k ≤ 65536 := Nat.le_trans (Nat.mul_le_mul (Nat.le_of_lt (Nat.lt_of_lt_of_le hrho hn)) hk4) (by decide)
      have hmod : (((roll k n (v.take j) * k : Nat) : Int) + (x : Int)) % (n : Int) = ((roll k n (v.take (j + 1)) : Nat) : Int) := by rw [hrol]; simp
      obtain ⟨Q, hQQ⟩ : ∃ Q, roll k n (v.take j) * k = Q := ⟨_, rfl⟩
      rw [hQQ] at hQ hQl hmod
      obtain ⟨adt, y, rfl, hyt, hcy⟩ := (hT.below hb).word_ hrl2
      by_cases h2 : 2 * r ≤ j
      · obtain rfl : j = p + 2 * r := by omega
        have himg : (ints (image k r t v))[p]? = some ((y : Nat) : Int) := by
          have hw : p + 2 * r < v.length := by rw [HL.out]; exact hlt
          have h1 := image_at (k := k) (t := t) hw
          have h3 := roll_win HV.out hw
          rw [← HR.out.len, HLT.out] at h3
          rw [← h3, List.getD_eq_getElem?_getD, hyt] at h1
          simp [ints, h1]
        have himg2 := Lib.hid himg
        obtain ⟨ρ, hρ⟩ : ∃ ρ, roll k n (v.take (p + 2 * r)) = ρ := ⟨_, rfl⟩
        obtain ⟨σ, hσ⟩ : ∃ σ, roll k n (v.take (p + 2 * r + 1)) = σ := ⟨_, rfl⟩
        rw [hρ] at hQ hrho ⊢
        rw [hσ] at hmod hrl2 hcy
        have HS := Lib.hid hσ
        clear hrol hQQ hxj hyt himg hσ hρ hp
        go_wp2_with (at_builtin; refine wpList_push2 rfl _ _ _ rfl tInts hown rfl _ 0 rfl rfl rfl (by simp only [maxLen]; omega) (by omega) (Nat.le_of_lt hsz) ?_; intro g' cap w3 hown3 hor hlt3)
        rw [show (((ints (image k r t v)).take p).map (Value.int .i64)) ++ [.int .i64 (y : Int)] = ((ints (image k r t v)).take (p + 1)).map (Value.int .i64) from by rw [List.take_add_one, himg2.out]; simp] at hown3
        have hk3 : Keeps (fun b => (Value.slice C p cc).ownBlock = some b) wr w3 := by
          rcases hor with ⟨h1, h2⟩ | ⟨_, h2⟩
          · exact (Keeps.of_grown h2).mono (fun b _ e => by cases e; exact h1)
          · exact keeps_new (Keeps.refl _ _) h2
        have hbox3 : Hid (w3.heap[w.heap.size]? = some (.cells #[.int .i64 (k : Int), .int .i64 (r : Int), .slice (some adt) n c] 26 (0, 0))) := Lib.hid ((hk3.block _ hsz (own_ne_blk hown hbox.out (by decide))).trans hbox.out)
        have hb3 : Below w.heap.size w w3 := hb.trans (hk3.below hb.size (fun b hb' => by
          rcases hown.2 with ⟨hv', _⟩ | ⟨g, cap, cur, hv', hg, _⟩
          · rw [hv'] at hb'; simp [Value.ownBlock] at hb'
          · rw [hv'] at hb'; simp [Value.ownBlock] at hb'; omega))
        have hsz3 := Nat.lt_of_lt_of_le hsz hk3.size
        exact ⟨⟨p + 2 * r + 1, p + 1, _, cap, by omega, by omega, by go_num, by rw [HS.out], rfl, hown3, hbox3, hsz3, hb3⟩, by simp [intOf]; omega⟩
      · obtain ⟨ρ, hρ⟩ : ∃ ρ, roll k n (v.take j) = ρ := ⟨_, rfl⟩
        obtain ⟨σ, hσ⟩ : ∃ σ, roll k n (v.take (j + 1)) = σ := ⟨_, rfl⟩
        rw [hρ] at hQ hrho ⊢
        rw [hσ] at hmod hrl2 hcy
        have HS := Lib.hid hσ
        clear hrol hQQ hxj hyt hσ hρ
        go_wp2_with fail
        exact ⟨⟨j + 1, p, C, cc, by omega, by omega, by go_num, by rw [HS.out]; try rw [hmod], rfl, hown, hbox, hsz, hb⟩, by simp [intOf]; omega⟩
    · obtain rfl : j = m := by omega
      have hpl : (ints (image k r t v)).length = p := by rw [ints_len, image_len, HL.out]; exact hp.symm
      rw [List.take_of_length_le (by omega)] at hown
      rw [← hpl] at hown ⊢
      clear hp
      go_wp2_with fail
      go_ret2
      exact ⟨C, cc, rfl, hown, hb⟩
theorem step_m (w : World) (E : Nat → Addr) (hE : Errs w E) (k r : Nat) (A B : Option Addr) (n c m d M : Nat) (t v : List Nat) (hr : IsRule k r t) (hv : ∀ x ∈ v, x < k) (hT : Sl w A n ((ints t).map (Value.int .i64))) (hW : Sl w B m ((ints v).map (Value.int .i64))) (hm : m ≤ 4096) (hM : v.length - 2 * r = M) :
    Calls Tryz.prog 89 #[ruleV k r A n c, .slice B m d] w fun e w' => ∃ C c', e = .returned (.tuple #[.slice C M c', .nilIface]) ∧ w'.ownsRow w.heap.size 3 1 (.slice C M c') M ((ints (image k r t v)).map (Value.int .i64)) ∧ Below w.heap.size w w' := by
  refine (step_good w E hE k r A B n c m d t v hr hv hT hW hm).mono ?_
  rintro e w' ⟨C, c', rfl, ho, hb⟩
  rw [ints_len, image_len, hM] at ho ⊢
  exact ⟨C, c', rfl, ho, hb⟩

end Go.Proofs.YtpllojpgpejfmaaGreatDoor

namespace Go.Proofs.YtpllojpgpejfmaaGreatDoor
open Go.RowKit

theorem ints_c (w : World) (A1 A2 : Option Addr) (n1 n2 c1 c2 : Nat) (xs ys : List Int) (h1 : Sl w A1 n1 (xs.map (Value.int .i64))) (h2 : Sl w A2 n2 (ys.map (Value.int .i64)))
    (m1 : n1 ≤ 9223372036854775807) (m2 : n2 ≤ 9223372036854775807) :
    Calls Tryz.prog 30 #[.slice A1 n1 c1, .slice A2 n2 c2] w fun e w' => e = .returned (.bool (decide (xs = ys))) ∧ ∃ k, w' = w.drewN k := by
  have l1 : xs.length = n1 := by simpa using h1.1
  have l2 : ys.length = n2 := by simpa using h2.1
  by_cases hn : n1 = n2
  · subst hn
    have hne : ((n1 : Int) != (n1 : Int)) = false := by simp
    have H1 := Lib.hid l1
    have H2 := Lib.hid l2
    clear l1 l2
    go_enter Tryz.func30, Tryz.ntmps30
    go_wp2
    go_loopw [5] (fun i wr => ∃ k q : Nat, k ≤ n1 ∧ i = .int .i64 k ∧ wr = w.drewN q ∧ xs.take k = ys.take k) (fun i _ => n1 - (intOf i).toNat)
    case atStart => exact ⟨0, 0, Nat.zero_le _, rfl, rfl, rfl⟩
    case round =>
      obtain ⟨k, q, hk, rfl, rfl, ht⟩ := hrel
      have HT := Lib.hid ht
      clear ht
      by_cases hlt : k < n1
      · obtain ⟨a1, x1, rfl, hx1, hc1⟩ := h1.int_ hlt
        obtain ⟨a2, x2, rfl, hx2, hc2⟩ := h2.int_ hlt
        have HX1 := Lib.hid hx1
        have HX2 := Lib.hid hx2
        clear hx1 hx2
        by_cases e : x1 = x2
        · have t1 : (x1 != x2) = false := by simp [e]
          have E := Lib.hid e
          clear e
          go_wp2
          go_quiet (fail)
          go_wp2
          go_roundw
          case rel => exact ⟨k + 1, _, by omega, by go_num, rfl, by rw [List.take_add_one, List.take_add_one, HT.out, HX1.out, HX2.out, E.out]⟩
          case measure => simp [intOf]; omega
        · have t1 : (x1 != x2) = true := by simp [e]
          have hne2 : xs ≠ ys := by
            intro he; subst he
            have := HX1.out.symm.trans HX2.out
            simp at this; exact e this
          have E := Lib.hid hne2
          clear e hne2
          go_wp2
          go_quiet (fail)
          go_wp2
          go_ret
          exact ⟨by simp [E.out], _, World.drewN_drewN _ _ _⟩
      · have he : xs = ys := by
          have := HT.out
          rwa [List.take_of_length_le (by have := H1.out; omega), List.take_of_length_le (by have := H2.out; omega)] at this
        have E := Lib.hid he
        clear he
        go_wp2
        go_ret
        exact ⟨by simp [E.out], _, rfl⟩
  · have hne : ((n1 : Int) != (n2 : Int)) = true := by simp; omega
    have hne2 : xs ≠ ys := by rintro rfl; omega
    clear l1 l2 hn
    have E := Lib.hid hne2
    clear hne2
    go_enter Tryz.func30, Tryz.ntmps30
    go_wp2
    go_ret
    exact ⟨by simp [E.out], 0, rfl⟩

theorem ints_b (w : World) (A1 A2 : Option Addr) (n1 n2 c1 c2 : Nat) (xs ys : List Int) (h1 : Sl w A1 n1 (xs.map (Value.int .i64))) (h2 : Sl w A2 n2 (ys.map (Value.int .i64)))
    (m1 : n1 ≤ 9223372036854775807) (m2 : n2 ≤ 9223372036854775807) :
    Calls Tryz.prog 30 #[.slice A1 n1 c1, .slice A2 n2 c2] w fun e w' => e = .returned (.bool (decide (xs = ys))) ∧ Below w.heap.size w w' :=
  (ints_c w A1 A2 n1 n2 c1 c2 xs ys h1 h2 m1 m2).mono fun _ _ ⟨he, k, hk⟩ => ⟨he, by rw [hk]; exact pure_drewN w k⟩

end Go.Proofs.YtpllojpgpejfmaaGreatDoor

namespace Go.Proofs.YtpllojpgpejfmaaGreatDoor
open Go.RowKit

theorem keeps_setRow (w : World) (g : Nat) (cs : Array Value) : Keeps (fun k => k = g) w (w.setRow g cs) :=
  ⟨rfl, rfl, rfl, by simp, fun k _ hn => setRow_other w g k cs hn⟩

theorem wpList_copy_front {P : Program} {w : World} {ops : Array Oper} {rest : List Oper} {o : Oper} {a : Act} {Q : Exit → Act → World → Prop} (hgd : o.guard = none) (d s : Operand) (dT sT : TypeId)
    (ho : o.op = .call { callee := .builtin .copy, args := #[d, s], argTypes := #[dT, sT] }) {e : TypeId} {z : Value} {bytes : Nat} (hT : ElemT P dT e z bytes)
    {base g N C : Nat} {xs : List Value} (hown : w.ownsRow base e 1 (.slice (some ⟨g, 0, none⟩) N C) N xs) (hd : a.eval d = .slice (some ⟨g, 0, none⟩) N C)
    {A : Option Addr} {n c : Nat} {ys : List Value} (hsl : Sl w A n ys) (hs : a.eval s = .slice A n c) (hn : n ≤ N) (h1 : ∀ v ∈ ys, v.oneCell' = true)
    (h : ∀ w', w'.ownsRow base e 1 (.slice (some ⟨g, 0, none⟩) N C) N (ys ++ xs.drop n) → Keeps (fun k => k = g) w w' → wpList P ops Q rest (a.put o.dst (goInt n)) w') :
    wpList P ops Q (o :: rest) a w := by
  have hsz : (P.info? e).map (·.size) = some 1 := by
    obtain ⟨i, hi, _, hz1, _⟩ := info_parts hT.info
    rw [hi]; simp [hz1]
  have hl : ys.length = n := hsl.1
  have hxl : xs.length = N := by simpa using hown.1
  rcases Nat.eq_zero_or_pos n with h0 | h0
  · subst h0
    obtain rfl : ys = [] := List.eq_nil_of_length_eq_zero hl
    refine wpList_copy_nothing hgd d s dT sT ho e hT.und hsz _ _ _ _ _ _ hd hs (by simp) ?_
    exact h w (by simpa using hown) (Keeps.refl _ _)
  · obtain ⟨ad, u, rfl, _, _⟩ := hsl.at_ h0
    rcases hown.2 with ⟨hv, _⟩ | ⟨g', cap, cur, hv, hb, hg, hnc, hcm, hsize, htake⟩
    · cases hv
    · injection hv with hA _ hcap
      injection hA with hA
      injection hA with hgg
      subst hgg hcap
      have hcl : N ≤ cur.size := by simp at hsize; omega
      refine wpList_copy_own hgd d s dT sT ho e hT.und hsz g 0 N C ad n c hd hs cur e hg ys (by rw [hl]; exact (Nat.min_eq_left hn).symm) (fun j v hj => by
        obtain ⟨ad', e', hc⟩ := hsl.2 j v hj
        cases e'; exact hc) (by omega) h1 ?_
      rw [hl]
      refine h _ ⟨by simp; omega, .inr ⟨g, C, _, rfl, hb, setRow_heap w g cur _ e _ hg, hnc, hcm, by simp; omega, ?_⟩⟩ (keeps_setRow _ _ _)
      rw [← htake]
      simp only [List.take_zero, List.nil_append, Nat.zero_add, List.size_toArray]
      rw [List.take_append, hl, List.take_of_length_le (by omega), List.drop_take]
end Go.Proofs.YtpllojpgpejfmaaGreatDoor

namespace Go.Proofs.YtpllojpgpejfmaaGreatDoor
open Go.RowKit

theorem make_row_ints (w : World) (n : Nat) (h : n ≤ maxLen) : (w.alloc (.cells (madeCells #[.int .i64 0] n) 3)).ownsRow w.heap.size 3 1 (.slice (some ⟨w.heap.size, 0, none⟩) n n) n (List.replicate n (.int .i64 0)) := by
  have := World.ownsRow_lit (base := w.heap.size) (e := 3) (size := 1) w (madeCells #[.int .i64 0] n) n (Nat.le_refl _) h (by rw [size_madeCells]; simp)
  rwa [toList_madeCells_one] at this

/-- Behind the copy: the two marks. -/
theorem lent_marks {w w2 : World} {n : Nat} {ys : List Value} (hl : ys.length = n) (h : w2.ownsRow w.heap.size 3 1 (.slice (some ⟨w.heap.size, 0, none⟩) (n + 2) (n + 2)) (n + 2) (ys ++ (List.replicate (n + 2) (Value.int .i64 0)).drop n)) (hk : Keeps (fun k => k = w.heap.size) (w.alloc (.cells (madeCells #[.int .i64 0] (n + 2)) 3)) w2) :
    w2.cell? ⟨w.heap.size, n, none⟩ = some (.int .i64 0) ∧ w2.frozen? ⟨w.heap.size, n, none⟩ = false ∧ (w2.setCell ⟨w.heap.size, n, none⟩ (.int .i64 7001)).cell? ⟨w.heap.size, n + 1, none⟩ = some (.int .i64 0) ∧ (w2.setCell ⟨w.heap.size, n, none⟩ (.int .i64 7001)).frozen? ⟨w.heap.size, n + 1, none⟩ = false ∧
      Hid (((w2.setCell ⟨w.heap.size, n, none⟩ (.int .i64 7001)).setCell ⟨w.heap.size, n + 1, none⟩ (.int .i64 7002)).ownsRow w.heap.size 3 1 (.slice (some ⟨w.heap.size, 0, none⟩) (n + 2) (n + 2)) (n + 2) (ys ++ [.int .i64 7001, .int .i64 7002])) ∧
      Hid (Below w.heap.size w ((w2.setCell ⟨w.heap.size, n, none⟩ (.int .i64 7001)).setCell ⟨w.heap.size, n + 1, none⟩ (.int .i64 7002))) := by
  have e : (List.replicate (n + 2) (Value.int .i64 0)).drop n = [.int .i64 0, .int .i64 0] := by simp
  rw [e] at h
  have s1 := (h.stored n (.int .i64 7001)).1
  have e1 : (ys ++ [Value.int .i64 0, .int .i64 0]).set n (.int .i64 7001) = ys ++ [.int .i64 7001, .int .i64 0] := by
    rw [List.set_append_right _ _ (by omega), hl, Nat.sub_self]; rfl
  rw [e1] at s1
  have s2 := (s1.stored (n + 1) (.int .i64 7002)).1
  have e2 : (ys ++ [Value.int .i64 7001, .int .i64 0]).set (n + 1) (.int .i64 7002) = ys ++ [.int .i64 7001, .int .i64 7002] := by
    rw [List.set_append_right _ _ (by omega), hl, Nat.add_sub_cancel_left]; rfl
  rw [e2] at s2
  have b0 : Below w.heap.size w w2 := ((Below.refl _ _).alloc (Nat.le_refl _) _).trans (hk.below (by simp) (fun k hk => by omega))
  refine ⟨?_, h.frozenAt n, ?_, s1.frozenAt (n + 1), Lib.hid s2, Lib.hid ((b0.setCell (p := ⟨w.heap.size, n, none⟩) (Nat.le_refl _) _).setCell (p := ⟨w.heap.size, n + 1, none⟩) (Nat.le_refl _) _)⟩
  · rw [h.cellAt n (by omega), List.getElem?_append_right (by omega), hl, Nat.sub_self]; rfl
  · rw [s1.cellAt (n + 1) (by omega), List.getElem?_append_right (by omega), hl, Nat.add_sub_cancel_left]; rfl

set_option maxRecDepth 100000 in
set_option maxHeartbeats 1000000 in
theorem lent_c (w : World) (A : Option Addr) (n c : Nat) (ys : List Value) (h : Sl w A n ys) (h1 : ∀ v ∈ ys, v.oneCell' = true) (hm : n * 8 ≤ 140737488351232) :
    Calls Tryz.prog 6 #[.slice A n c] w fun e w' => e = .returned (.slice (some ⟨w.heap.size, 0, none⟩) n (n + 2)) ∧
      w'.ownsRow w.heap.size 3 1 (.slice (some ⟨w.heap.size, 0, none⟩) (n + 2) (n + 2)) (n + 2) (ys ++ [.int .i64 7001, .int .i64 7002]) ∧ Below w.heap.size w w' := by
  have hl : ys.length = n := h.1
  have HL := Lib.hid hl
  clear hl
  have hmk := run_make_row' (P := Tryz.prog) 24 3 (.int .i64 0) 8 tInts.und tInts.info rfl .i64 .i64 (n + 2) (by omega) (by omega)
  have hmk' : ∀ wz : World, (Instr.makeSlice 24 (.int .i64 ((n : Int) + 2)) (.int .i64 ((n : Int) + 2))).run Tryz.prog wz = .ok (.slice (some ⟨wz.heap.size, 0, none⟩) (n + 2) (n + 2)) (wz.alloc (.cells (madeCells #[.int .i64 0] (n + 2)) 3)) := hmk
  clear hmk
  have hown0 := make_row_ints w (n + 2) (by simp only [maxLen]; omega)
  have hs0 := h.alloc (.cells (madeCells #[.int .i64 0] (n + 2)) 3)
  have H1 := Lib.hid h1
  clear h1 h
  go_enter Tryz.func6, Tryz.ntmps6
  go_wp2_with (refine wpList_copy_front rfl _ _ _ _ rfl tInts hown0 rfl hs0 rfl (by omega) H1.out ?_; intro w2 hown2 hk2; obtain ⟨q1, q2, q3, q4, q5, q6⟩ := lent_marks HL.out hown2 hk2; clear hown2 hk2)
  go_ret
  exact ⟨rfl, q5.out, q6.out⟩

/-- Kept: the numbers are as they were, the marks too. -/
theorem kept_c (w : World) (A B : Option Addr) (n c d : Nat) (xs : List Int) (hB : Sl w B n (xs.map (Value.int .i64))) (hA : Sl w A (n + 2) (xs.map (Value.int .i64) ++ [.int .i64 7001, .int .i64 7002])) (hc : n + 2 ≤ c) (hm : c ≤ maxLen) :
    Calls Tryz.prog 9 #[.slice A n c, .slice B n d] w fun e w' => e = .returned (.bool true) ∧ Below w.heap.size w w' := by
  unfold maxLen at hm
  have hl : xs.length = n := by simpa using hB.1
  have hA0 : Sl w A n (xs.map (Value.int .i64)) := ⟨by simpa using hl, fun k v hv => hA.2 k v (by rw [List.getElem?_append_left (List.getElem?_eq_some_iff.1 hv).1]; exact hv)⟩
  obtain ⟨ad, _, rfl, hj1, hj2⟩ := hA.at_ (show n < n + 2 by omega)
  clear hj1 hj2
  have m1 : w.cell? (ad.add n) = some (.int .i64 7001) := by
    obtain ⟨_, e, h⟩ := hA.2 n (.int .i64 7001) (by rw [List.getElem?_append_right (by simp; omega)]; simp [hl])
    cases e; exact h
  have m2 : w.cell? (ad.add (n + 1)) = some (.int .i64 7002) := by
    obtain ⟨_, e, h⟩ := hA.2 (n + 1) (.int .i64 7002) (by rw [List.getElem?_append_right (by simp; omega)]; simp [hl])
    cases e; exact h
  have HI := Lib.hid (ints_b w (some ad) B n n c d xs xs hA0 hB (by omega) (by omega))
  rw [decide_eq_true rfl] at HI
  clear hl hA0 hA hB
  go_enter Tryz.func9, Tryz.ntmps9
  go_wp2_with fail
  refine (HI.out).mono ?_
  rintro e w1 ⟨rfl, hb⟩
  have m1' := cell_later hb m1
  have m2' := cell_later hb m2
  have m3' : w1.cell? ⟨ad.block, ad.off + (n + 1), none⟩ = some (.int .i64 7002) := by simpa [Addr.add] using m2'
  clear m1 m2 m2'
  go_wp2_with fail
  go_ret
  exact ⟨rfl, hb⟩
end Go.Proofs.YtpllojpgpejfmaaGreatDoor

namespace Go.Proofs.YtpllojpgpejfmaaGreatDoor
open Go.RowKit RuleP

set_option maxRecDepth 100000 in
set_option maxHeartbeats 2000000 in
theorem lentRule_c (w : World) (K R : Int) (A : Option Addr) (n c : Nat) (ys : List Value) (h : Sl w A n ys) (h1 : ∀ v ∈ ys, v.oneCell' = true) (hm : n * 8 ≤ 140737488351232) :
    Calls Tryz.prog 5 #[ruleV K R A n c] w fun e w' => ∃ g, e = .returned (ruleV K R (some ⟨g, 0, none⟩) n (n + 2)) ∧ w.heap.size ≤ g ∧
      w'.ownsRow w.heap.size 3 1 (.slice (some ⟨g, 0, none⟩) (n + 2) (n + 2)) (n + 2) (ys ++ [.int .i64 7001, .int .i64 7002]) ∧ Below w.heap.size w w' := by
  have hr0 := (RuleAt.new w (.int .i64 K) (.int .i64 R) (.slice A n c)).alloc (.cells #[.int .i64 0, .int .i64 0, .slice none 0 0] 26)
  have hw0 := RuleAt.new (w.alloc (.cells #[.int .i64 K, .int .i64 R, .slice A n c] 26)) (.int .i64 0) (.int .i64 0) (.slice none 0 0)
  rw [World.size_alloc] at hw0
  have hb0 := ((Below.refl w.heap.size w).alloc (Nat.le_refl _) (.cells #[.int .i64 K, .int .i64 R, .slice A n c] 26)).alloc (by simp) (.cells #[.int .i64 0, .int .i64 0, .slice none 0 0] 26)
  have hT0 := (h.alloc (.cells #[.int .i64 K, .int .i64 R, .slice A n c] 26)).alloc (.cells #[.int .i64 0, .int .i64 0, .slice none 0 0] 26)
  obtain ⟨r0, r1, r2, _⟩ := hr0.facts
  obtain ⟨wx, hwx⟩ : ∃ wx, (w.alloc (.cells #[.int .i64 K, .int .i64 R, .slice A n c] 26)).alloc (.cells #[.int .i64 0, .int .i64 0, .slice none 0 0] 26) = wx := ⟨_, rfl⟩
  have hsx : wx.heap.size = w.heap.size + 2 := by rw [← hwx]; simp
  have HWX := Lib.hid hwx
  rw [hwx] at hr0 hw0 hb0 hT0 r0 r1 r2
  have HL := Lib.hid (lent_c wx.drew A n c ys hT0 h1 hm)
  have HW0 := Lib.hid hw0
  have HB0 := Lib.hid hb0
  clear hw0 hb0 h hT0 hr0 hwx h1
  unfold ruleV
  go_enter Tryz.func5, Tryz.ntmps5
  go_wp2_with fail
  rw [HWX.out]
  go_region_held3 (fun w' => w'.cell? ⟨w.heap.size, 0, none⟩ = some (.int .i64 K) ∧ w'.cell? ⟨w.heap.size, 1, none⟩ = some (.int .i64 R) ∧ w'.cell? ⟨w.heap.size, 2, none⟩ = some (.slice A n c))
    (first | go_keep)
    (first
      | (go_simp
         go_at_call 6
         refine (HL.out).mono ?_
         rintro e w1 ⟨rfl, hown, hbd⟩
         have hb : Below wx.heap.size wx w1 := ((Below.refl wx.heap.size wx).drew).trans hbd
         have z0 := cell_later hb r0
         have z1 := cell_later hb r1
         have z2 := cell_later hb r2
         have hw1 := HW0.out.below hb (by rw [hsx]; exact Nat.lt_succ_self _)
         obtain ⟨d0, d1, d2, f0, f1, f2⟩ := hw1.facts
         dsimp only))
  have hsd : wx.drew.heap.size = w.heap.size + 2 := hsx
  have hown2 := own_base (own_set3 hown hw1 (by decide) (.int .i64 K) (.int .i64 R) (.slice (some ⟨wx.drew.heap.size, 0, none⟩) n (n + 2))) (base' := w.heap.size) (by omega)
  have hb2 := below_set3 (HB0.out.trans (hb.mono HB0.out.size)) (Nat.le_succ _) (.int .i64 K) (.int .i64 R) (.slice (some ⟨wx.drew.heap.size, 0, none⟩) n (n + 2))
  rw [hsd] at hown2 hb2
  have HO := Lib.hid hown2
  have HB := Lib.hid hb2
  clear hown2 hb2 hown hb hbd hw1
  go_wp2_with fail
  exact bodyPost_ret (v := .agg #[.int .i64 K, .int .i64 R, .slice (some ⟨w.heap.size + 2, 0, none⟩) n (n + 2)]) (by simp [results, Tryz.results5, go_sem, d0, d1, d2]) rfl ⟨w.heap.size + 2, rfl, by omega, HO.out, HB.out⟩

set_option maxRecDepth 100000 in
set_option maxHeartbeats 2000000 in
theorem keptRule_c (w : World) (K R : Int) (A B : Option Addr) (n c d : Nat) (xs : List Int) (hB : Sl w B n (xs.map (Value.int .i64))) (hA : Sl w A (n + 2) (xs.map (Value.int .i64) ++ [.int .i64 7001, .int .i64 7002])) (hc : n + 2 ≤ c) (hm : c ≤ maxLen) :
    Calls Tryz.prog 8 #[ruleV K R A n c, ruleV K R B n d] w fun e w' => e = .returned (.bool true) ∧ Below w.heap.size w w' := by
  have hr0 := (RuleAt.new w (.int .i64 K) (.int .i64 R) (.slice A n c)).alloc (.cells #[.int .i64 K, .int .i64 R, .slice B n d] 26)
  have hw0 := RuleAt.new (w.alloc (.cells #[.int .i64 K, .int .i64 R, .slice A n c] 26)) (.int .i64 K) (.int .i64 R) (.slice B n d)
  rw [World.size_alloc] at hw0
  have hb0 := ((Below.refl w.heap.size w).alloc (Nat.le_refl _) (.cells #[.int .i64 K, .int .i64 R, .slice A n c] 26)).alloc (by simp) (.cells #[.int .i64 K, .int .i64 R, .slice B n d] 26)
  have HK := Lib.hid (fun (wz : World) (hz : Below w.heap.size w wz) => kept_c wz A B n c d xs (hB.below hz) (hA.below hz) hc hm)
  have HB0 := Lib.hid hb0
  have hKK : (K == K) = true := by simp
  have hRR : (R == R) = true := by simp
  obtain ⟨r0, r1, r2, _⟩ := hr0.facts
  obtain ⟨s0, s1, s2, _⟩ := hw0.facts
  clear hw0 hb0 hr0 hA hB
  unfold ruleV
  go_enter Tryz.func8, Tryz.ntmps8
  go_wp2_with fail
  refine (HK.out _ HB0.out).mono ?_
  rintro e w1 ⟨rfl, hb1⟩
  have HB := Lib.hid (HB0.out.trans (hb1.mono HB0.out.size))
  clear hb1
  go_wp2_with fail
  go_ret
  exact ⟨rfl, HB.out⟩
end Go.Proofs.YtpllojpgpejfmaaGreatDoor
