/- The image of a word: rule.Step; the symbol of a window: rule.Local. Condition: table and word read from memory; the error variables hold what E says. -/
import Derived.Test.YtfgnghgmffaepaaDoorRuleB
namespace Go.Proofs.YtfgnghgmffaepaaDoor
open Go.RowKit RuleP

namespace RuleP
def nats (l : List Int) : List Nat := l.map Int.toNat
theorem nats_ints (l : List Nat) : nats (ints l) = l := by
  unfold nats ints
  rw [List.map_map]
  conv => rhs; rw [← List.map_id l]
  exact List.map_congr_left fun x _ => by simp
/-- rule.Step's answer. -/
def step (K R : Int) (T w : List Int) : Except Tale (List Int) :=
  match check K R T with
  | some t => .error t
  | none => if 4096 < w.length then .error (4, [(sRule, 0)]) else
    match odd K w with
    | some i => .error (2, [(sRule, (i : Int))])
    | none => .ok (ints (image K.toNat R.toNat (nats T) (nats w)))
/-- rule.Local's answer. -/
def local' (K R : Int) (T w : List Int) : Except Tale Int :=
  match check K R T with
  | some t => .error t
  | none => if (w.length : Int) ≠ 2 * R + 1 then .error (3, [(sRule, 0)]) else
    match odd K w with
    | some i => .error (2, [(sRule, (i : Int))])
    | none => .ok (((nats T).getD (wval K.toNat (nats w)) 0 : Nat) : Int)
theorem step_rule {k r : Nat} {t w : List Nat} (h : IsRule k r t) (hw : ∀ x ∈ w, x < k) (hl : w.length ≤ 4096) : step k r (ints t) (ints w) = .ok (ints (image k r t w)) := by
  unfold step
  rw [check_rule h]
  simp only
  rw [if_neg (by rw [ints_len]; omega), odd_ints hw]
  simp [nats_ints]
end RuleP

/-- The answer is a new list and no error, or nothing and the error of the tale. -/
def ListErr (w : World) (E : Nat → Addr) (x : Except Tale (List Int)) (e : Ending) (w' : World) : Prop :=
  match x with
  | .ok l => ∃ A c, e = .returned (.tuple #[.slice A l.length c, .nilIface]) ∧ w'.ownsRow w.heap.size 3 1 (.slice A l.length c) l.length (l.map (Value.int .i64)) ∧ Below w.heap.size w w'
  | .error t => ∃ v, e = .returned (.tuple #[.slice none 0 0, v]) ∧ ErrIs w' E t.1 t.2 v ∧ Below w.heap.size w w'

set_option maxRecDepth 100000 in
set_option maxHeartbeats 2000000 in
theorem step_bad (w : World) (E : Nat → Addr) (hE : Errs w E) (K R : Int) (A B : Option Addr) (n c m d : Nat) (T W : List Int) (hT : Sl w A n (T.map (Value.int .i64))) (hm : n ≤ 9223372036854775807) (hW : Sl w B m (W.map (Value.int .i64))) (hm2 : m ≤ 9223372036854775807)
    (t : Tale) (hbad : RuleP.step K R T W = .error t) :
    Calls Tryd.prog 28 #[ruleV K R A n c, .slice B m d] w fun e w' => ∃ v, e = .returned (.tuple #[.slice none 0 0, v]) ∧ ErrIs w' E t.1 t.2 v ∧ Below w.heap.size w w' := by
  have hl : W.length = m := by simpa using hW.1
  have HL := Lib.hid hl
  clear hl
  have hE1 : Errs (w.alloc (.cells #[.int .i64 K, .int .i64 R, .slice A n c] 24)) E := hE.below ((Below.refl _ _).alloc (Nat.le_refl _) _)
  have HE := Lib.hid hE1
  have hT1 := hT.alloc (.cells #[.int .i64 K, .int .i64 R, .slice A n c] 24)
  have HW := Lib.hid (hW.alloc (.cells #[.int .i64 K, .int .i64 R, .slice A n c] 24))
  have HCK := Lib.hid (check_c _ E hE1 K R A n c T hT1 hm)
  clear hE hE1 hT hT1 hW
  unfold ruleV at *
  unfold RuleP.step at hbad
  cases ho : check K R T with
  | some t' =>
    rw [ho] at hbad HCK
    simp only [Except.error.injEq] at hbad
    subst hbad
    clear ho
    go_enter Tryd.func28, Tryd.ntmps28
    go_wp2_with fail
    refine (HCK.out).mono ?_
    rintro e w1 ⟨v, rfl, he, hb⟩
    obtain ⟨u, p, rfl⟩ := ErrIs.iface (show ErrIs w1 E t'.1 t'.2 v from he)
    have HP := Lib.hid (show ErrIs w1 E t'.1 t'.2 (.iface u p) from he)
    have HB := Lib.hid (below_box hb)
    clear he hb
    go_wp2_with fail
    go_ret2
    exact ⟨_, rfl, HP.out, HB.out⟩
  | none =>
    rw [ho] at hbad HCK
    simp only at hbad
    clear ho
    by_cases hbig : 4096 < m
    · rw [if_pos (by rw [HL.out]; exact hbig)] at hbad
      simp only [Except.error.injEq] at hbad
      subst hbad
      go_enter Tryd.func28, Tryd.ntmps28
      go_wp2_with fail
      refine (HCK.out).mono ?_
      rintro e w1 ⟨v, rfl, rfl, hb⟩
      have HE1 := Lib.hid (HE.out.below hb)
      have HB1 := Lib.hid (below_box hb)
      clear hb
      go_wp2_with fail
      refine (ruleWrong_c _ E HE1.out 0 4 (by decide) (by decide)).mono ?_
      rintro e w2 ⟨rfl, he, hb2⟩
      have HP := Lib.hid he
      have HB := Lib.hid (HB1.out.trans (hb2.mono HB1.out.size))
      clear he hb2
      go_wp2_with fail
      go_ret2
      exact ⟨_, rfl, HP.out, HB.out⟩
    · rw [if_neg (by rw [HL.out]; exact hbig)] at hbad
      cases hod : odd K W with
      | none => rw [hod] at hbad; simp at hbad
      | some i =>
        rw [hod] at hbad
        simp only [Except.error.injEq] at hbad
        subst hbad
        have HOD := Lib.hid (fun (wz : World) (hz : Sl wz B m (W.map (Value.int .i64))) => ruleOdd_c wz K B m d W hz hm2)
        rw [hod] at HOD
        have hpl : place (some i) = (i : Int) := rfl
        rw [hpl] at HOD
        clear hod hpl
        go_enter Tryd.func28, Tryd.ntmps28
        go_wp2_with fail
        refine (HCK.out).mono ?_
        rintro e w1 ⟨v, rfl, rfl, hb⟩
        obtain ⟨b0, b1, b2⟩ := box_cells hb
        have HE1 := Lib.hid (HE.out.below hb)
        have HW1 := Lib.hid (HW.out.below hb)
        have HB1 := Lib.hid (below_box hb)
        clear hb
        go_wp2_with fail
        refine (HOD.out _ HW1.out).mono ?_
        rintro e w2 ⟨rfl, hb2⟩
        have HE2 := Lib.hid (HE1.out.below hb2)
        have HB2 := Lib.hid (HB1.out.trans (hb2.mono HB1.out.size))
        clear hb2 b0 b1 b2
        go_wp2_with fail
        refine (ruleWrong_c _ E HE2.out (i : Int) 2 (by decide) (by decide)).mono ?_
        rintro e w3 ⟨rfl, he, hb3⟩
        have HP := Lib.hid he
        have HB := Lib.hid (HB2.out.trans (hb3.mono HB2.out.size))
        clear he hb3
        go_wp2_with fail
        go_ret2
        exact ⟨_, rfl, HP.out, HB.out⟩

set_option maxRecDepth 100000 in
set_option maxHeartbeats 4000000 in
theorem step_good (w : World) (E : Nat → Addr) (hE : Errs w E) (k r : Nat) (A B : Option Addr) (n c m d : Nat) (t v : List Nat) (hr : IsRule k r t) (hv : ∀ x ∈ v, x < k) (hT : Sl w A n ((ints t).map (Value.int .i64))) (hW : Sl w B m ((ints v).map (Value.int .i64))) (hm : m ≤ 4096) :
    Calls Tryd.prog 28 #[ruleV k r A n c, .slice B m d] w fun e w' => ListErr w E (.ok (ints (image k r t v))) e w' := by
  have hl : v.length = m := by simpa [ints] using hW.1
  have hlt : t.length = n := by simpa [ints] using hT.1
  have hn := hr.le
  have hpos := hr.pos
  have hk1 := hr.k1
  have hk4 := hr.k4
  have hr3 := hr.r3
  rw [hlt] at hn hpos
  have hE1 : Errs (w.alloc (.cells #[.int .i64 (k : Int), .int .i64 (r : Int), .slice A n c] 24)) E := hE.below ((Below.refl _ _).alloc (Nat.le_refl _) _)
  have hT1 := hT.alloc (.cells #[.int .i64 (k : Int), .int .i64 (r : Int), .slice A n c] 24)
  have hW1 := hW.alloc (.cells #[.int .i64 (k : Int), .int .i64 (r : Int), .slice A n c] 24)
  have hck := check_c _ E hE1 k r A n c (ints t) hT1 (by omega)
  rw [check_rule hr] at hck
  have HCK := Lib.hid hck
  have HOD := Lib.hid (fun (wz : World) (hz : Sl wz B m ((ints v).map (Value.int .i64))) => ruleOdd_c wz k B m d (ints v) hz (by omega))
  rw [odd_ints hv] at HOD
  have hpl : place none = -1 := rfl
  rw [hpl] at HOD
  have HL := Lib.hid hl
  have HLT := Lib.hid hlt
  have HR := Lib.hid hr
  have HV := Lib.hid hv
  have HW := Lib.hid hW1
  clear hE hE1 hT1 hck hpl hl hlt hr hv hW1
  rw [ints_map] at hT hW
  unfold ruleV at *
  go_enter Tryd.func28, Tryd.ntmps28
  go_wp2_with fail
  refine (HCK.out).mono ?_
  rintro e w1 ⟨v', rfl, rfl, hb⟩
  obtain ⟨b0, b1, b2⟩ := box_cells hb
  have HW1 := Lib.hid (HW.out.below hb)
  go_wp2_with fail
  refine (HOD.out _ HW1.out).mono ?_
  rintro e w2 ⟨rfl, hb2⟩
  have hbox : w2.heap[w.heap.size]? = some (.cells #[.int .i64 (k : Int), .int .i64 (r : Int), .slice A n c] 24 (0, 0)) := by
    rw [hb2.block _ (Nat.lt_of_lt_of_le (by simp) hb.size), hb.block _ (by simp)]
    exact heap_new _ _
  have hsz : w.heap.size < w2.heap.size := Nat.lt_of_lt_of_le (Nat.lt_of_lt_of_le (by simp) hb.size) hb2.size
  have hB2 := (below_box hb).trans (hb2.mono (below_box hb).size)
  have HBX := Lib.hid hbox
  clear hb hb2 b0 b1 b2 hbox HW1 HW
  go_wp2_with fail
  go_loopw [8, 9, 31] (fun ov nv i wr => ∃ (j p : Nat) (C : Option Addr) (cc : Nat), j ≤ m ∧ p = j - 2 * r ∧ i = .int .i64 (j : Int) ∧ nv = .int .i64 ((roll k n (v.take j) : Nat) : Int) ∧ ov = .slice C p cc ∧ wr.ownsRow w.heap.size 3 1 (.slice C p cc) p (((ints (image k r t v)).take p).map (Value.int .i64)) ∧
      Hid (wr.heap[w.heap.size]? = some (.cells #[.int .i64 (k : Int), .int .i64 (r : Int), .slice A n c] 24 (0, 0))) ∧ w.heap.size < wr.heap.size ∧ Below w.heap.size w wr) (fun _ _ i _ => m - (intOf i).toNat)
  case atStart => exact ⟨0, 0, none, 0, Nat.zero_le _, by omega, rfl, by simp [roll, wval_nil], rfl, ⟨by simp, .inl ⟨rfl, rfl⟩⟩, HBX, hsz, hB2⟩
  case round =>
    clear hsz hB2 HBX
    obtain ⟨j, p, C, cc, hj, hp, rfl, rfl, rfl, hown, hbox, hsz, hb⟩ := hrel
    obtain ⟨b0, b1, b2, _⟩ := blk_cells hbox.out
    by_cases hlt : j < m
    · obtain ⟨adw, x, rfl, hxj, hcx⟩ := (hW.below hb).word_ hlt
      have hxk : x < k := HV.out x (List.mem_of_getElem? hxj)
      have hrho : roll k n (v.take j) < n := Nat.mod_lt _ hpos
      have hrol : roll k n (v.take (j + 1)) = (roll k n (v.take j) * k + x) % n := by
        rw [List.take_add_one, hxj]; exact roll_snoc _ _ _ _
      have hrl2 : roll k n (v.take (j + 1)) < n := Nat.mod_lt _ hpos
      have hQ : ((roll k n (v.take j) : Nat) : Int) * (k : Int) = ((roll k n (v.take j) * k : Nat) : Int) := by simp
      have hQl : roll k n (v.take j) * k ≤ 65536 := Nat.le_trans (Nat.mul_le_mul (Nat.le_of_lt (Nat.lt_of_lt_of_le hrho hn)) hk4) (by decide)
      have hmod : (((roll k n (v.take j) * k : Nat) : Int) + (x : Int)) % (n : Int) = ((roll k n (v.take (j + 1)) : Nat) : Int) := by rw [hrol]; simp
      obtain ⟨Q, hQQ⟩ : ∃ Q, roll k n (v.take j) * k = Q := ⟨_, rfl⟩
      rw [hQQ] at hQ hQl hmod
      obtain ⟨adt, y, rfl, hyt, hcy⟩ := (hT.below hb).word_ hrl2
      by_cases h2 : 2 * r ≤ j
      · obtain rfl : j = p + 2 * r := by omega
        have himg : (ints (image k r t v))[p]? = some ((y : Nat) : Int) := by
          have hw : p + 2 * r < v.length := by rw [HL.out]; exact hlt
          have h1 := image_at (k := k) (t := t) hw
          have h3 := roll_win HV.out hw
          rw [← HR.out.len, HLT.out] at h3
          rw [← h3, List.getD_eq_getElem?_getD, hyt] at h1
          simp [ints, h1]
        have himg2 := Lib.hid himg
        obtain ⟨ρ, hρ⟩ : ∃ ρ, roll k n (v.take (p + 2 * r)) = ρ := ⟨_, rfl⟩
        obtain ⟨σ, hσ⟩ : ∃ σ, roll k n (v.take (p + 2 * r + 1)) = σ := ⟨_, rfl⟩
        rw [hρ] at hQ hrho ⊢
        rw [hσ] at hmod hrl2 hcy
        have HS := Lib.hid hσ
        clear hrol hQQ hxj hyt himg hσ hρ hp
        go_wp2_with (at_builtin; refine wpList_push2 rfl _ _ _ rfl tInts hown rfl _ 0 rfl rfl rfl (by simp only [maxLen]; omega) (by omega) (Nat.le_of_lt hsz) ?_; intro g' cap w3 hown3 hor hlt3)
        rw [show (((ints (image k r t v)).take p).map (Value.int .i64)) ++ [.int .i64 (y : Int)] = ((ints (image k r t v)).take (p + 1)).map (Value.int .i64) from by rw [List.take_add_one, himg2.out]; simp] at hown3
        have hk3 : Keeps (fun b => (Value.slice C p cc).ownBlock = some b) wr w3 := by
          rcases hor with ⟨h1, h2⟩ | ⟨_, h2⟩
          · exact (Keeps.of_grown h2).mono (fun b _ e => by cases e; exact h1)
          · exact keeps_new (Keeps.refl _ _) h2
        have hbox3 : Hid (w3.heap[w.heap.size]? = some (.cells #[.int .i64 (k : Int), .int .i64 (r : Int), .slice (some adt) n c] 24 (0, 0))) := Lib.hid ((hk3.block _ hsz (own_ne_blk hown hbox.out (by decide))).trans hbox.out)
        have hb3 : Below w.heap.size w w3 := hb.trans (hk3.below hb.size (fun b hb' => by
          rcases hown.2 with ⟨hv', _⟩ | ⟨g, cap, cur, hv', hg, _⟩
          · rw [hv'] at hb'; simp [Value.ownBlock] at hb'
          · rw [hv'] at hb'; simp [Value.ownBlock] at hb'; omega))
        have hsz3 := Nat.lt_of_lt_of_le hsz hk3.size
        exact ⟨⟨p + 2 * r + 1, p + 1, _, cap, by omega, by omega, by go_num, by rw [HS.out], rfl, hown3, hbox3, hsz3, hb3⟩, by simp [intOf]; omega⟩
      · obtain ⟨ρ, hρ⟩ : ∃ ρ, roll k n (v.take j) = ρ := ⟨_, rfl⟩
        obtain ⟨σ, hσ⟩ : ∃ σ, roll k n (v.take (j + 1)) = σ := ⟨_, rfl⟩
        rw [hρ] at hQ hrho ⊢
        rw [hσ] at hmod hrl2 hcy
        have HS := Lib.hid hσ
        clear hrol hQQ hxj hyt hσ hρ
        go_wp2_with fail
        exact ⟨⟨j + 1, p, C, cc, by omega, by omega, by go_num, by rw [HS.out]; try rw [hmod], rfl, hown, hbox, hsz, hb⟩, by simp [intOf]; omega⟩
    · obtain rfl : j = m := by omega
      have hpl : (ints (image k r t v)).length = p := by rw [ints_len, image_len, HL.out]; exact hp.symm
      rw [List.take_of_length_le (by omega)] at hown
      rw [← hpl] at hown ⊢
      clear hp
      go_wp2_with fail
      go_ret2
      exact ⟨C, cc, rfl, hown, hb⟩
theorem step_m (w : World) (E : Nat → Addr) (hE : Errs w E) (k r : Nat) (A B : Option Addr) (n c m d M : Nat) (t v : List Nat) (hr : IsRule k r t) (hv : ∀ x ∈ v, x < k) (hT : Sl w A n ((ints t).map (Value.int .i64))) (hW : Sl w B m ((ints v).map (Value.int .i64))) (hm : m ≤ 4096) (hM : v.length - 2 * r = M) :
    Calls Tryd.prog 28 #[ruleV k r A n c, .slice B m d] w fun e w' => ∃ C c', e = .returned (.tuple #[.slice C M c', .nilIface]) ∧ w'.ownsRow w.heap.size 3 1 (.slice C M c') M ((ints (image k r t v)).map (Value.int .i64)) ∧ Below w.heap.size w w' := by
  refine (step_good w E hE k r A B n c m d t v hr hv hT hW hm).mono ?_
  rintro e w' ⟨C, c', rfl, ho, hb⟩
  rw [ints_len, image_len, hM] at ho ⊢
  exact ⟨C, c', rfl, ho, hb⟩

end Go.Proofs.YtfgnghgmffaepaaDoor
