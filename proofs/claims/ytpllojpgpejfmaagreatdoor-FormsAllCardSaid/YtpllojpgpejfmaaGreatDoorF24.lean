/- The decimal text: what nat.Text returns. Condition: the limbs read from memory. A rule's text: rule.Text. Condition: the table reads from memory; the error variables hold what E says. The head of a rule's text: rule.head. No condition. The rule that a text writes: rule.Parse where it succeeds. Condition: the error variables hold what E says. Rules held against each other: edenraw.Rules. Condition: the tables read from memory. The laws' helper awake of chapter 04: it returns true. Condition: the error variables hold what E says. The laws' helper awake of chapter 05: it returns true. Condition: the error variables hold what E says. -/
import Derived.Deep.RegionHeld3
import Derived.Deep.RegionLaw
import Derived.Deep.QuietTactic
import Derived.BigQuiet
import Derived.Test.YtpllojpgpejfmaaGreatDoorF3
import Derived.Test.YtpllojpgpejfmaaGreatDoorF5
import Derived.Test.YtpllojpgpejfmaaGreatDoorF14
import Derived.Test.YtpllojpgpejfmaaGreatDoorF15
import Derived.Test.YtpllojpgpejfmaaGreatDoorF23
namespace Go.Proofs.YtpllojpgpejfmaaGreatDoor
open Go.RowKit NatP

def slLen (v : Value) : Nat := match v with | .slice _ n _ => n | _ => 0
@[simp] theorem slLen_slice (A : Option Addr) (n c : Nat) : slLen (.slice A n c) = n := rfl
def chars (D : List Nat) : List Value := (D.map dch).map bv
theorem chars_snoc {D : List Nat} {d : Nat} (h : d < 10) : chars D ++ [Value.int .u8 ((48 + d : Nat) : Int)] = chars (D ++ [d]) := by
  simp [chars, bv, dch_toNat h]
theorem pow_le_pow2 {k n V : Nat} (h : 10 ^ k ≤ V) (hv : V < W32 ^ n) : k < 32 * n + 1 := by
  rcases Nat.lt_or_ge k (32 * n + 1) with h1 | h1
  · exact h1
  · have h2 : 2 ^ (32 * n) ≤ 10 ^ k := Nat.le_trans (Nat.pow_le_pow_right (by decide) (by omega)) (Nat.pow_le_pow_left (by decide) k)
    rw [Nat.pow_mul] at h2
    have h3 : (2 ^ 32 : Nat) = W32 := rfl
    rw [h3] at h2
    omega

/-- Digits done, and what is left of the number. -/
structure TextTo (V n : Nat) (D : List Nat) (v : Nat) : Prop where
  ok : OkB 10 D
  eq : valB 10 D + 10 ^ D.length * v = V
theorem TextTo.len {V n v : Nat} {D : List Nat} (h : TextTo V n D v) (hV : V < W32 ^ n) (hv : 0 < v) : D.length < 32 * n + 1 := by
  refine pow_le_pow2 (V := V) ?_ hV
  have : 10 ^ D.length * 1 ≤ 10 ^ D.length * v := Nat.mul_le_mul (Nat.le_refl _) hv
  have := h.eq
  omega
/-- And digits of one rest done. -/
structure TextIn (V : Nat) (D : List Nat) (v r : Nat) : Prop where
  ok : OkB 10 D
  eq : valB 10 D + 10 ^ D.length * r + v = V
theorem TextIn.step {V v r : Nat} {D : List Nat} (h : TextIn V D v r) : TextIn V (D ++ [r % 10]) v (r / 10) := by
  refine ⟨ok_append h.ok (fun x hx => by simp at hx; subst hx; exact Nat.mod_lt _ (by decide)), ?_⟩
  rw [val_snoc, List.length_append, List.length_singleton, Nat.pow_succ]
  have e1 := h.eq
  have e2 := Nat.mod_add_div r 10
  generalize r % 10 = a at *
  generalize r / 10 = b at *
  have e3 : 10 ^ D.length * (a + 10 * b) = 10 ^ D.length * r := by rw [e2]
  rw [Nat.mul_add, ← Nat.mul_assoc] at e3
  omega
theorem TextTo.go {V n v : Nat} {D : List Nat} (h : TextTo V n D v) : TextIn V D (10 ^ D.length * (1000000000 * (v / 1000000000))) (v % 1000000000) := by
  refine ⟨h.ok, ?_⟩
  have e1 := h.eq
  have e2 := Nat.mod_add_div v 1000000000
  rw [Nat.add_assoc, ← Nat.mul_add, e2]
  exact e1
theorem TextIn.stop {V n v k : Nat} {D : List Nat} (h : TextIn V D (10 ^ k * (1000000000 * v)) 0) (hk : D.length = k + 9) : TextTo V n D v := by
  refine ⟨h.ok, ?_⟩
  have e := h.eq
  rw [Nat.mul_zero, Nat.add_zero] at e
  rw [hk, Nat.pow_add, Nat.mul_assoc]
  exact e

/-- The bytes from m on, the last first. -/
def TextOut (m : Nat) (cs L : List Value) : Prop := L = (cs.drop m).reverse
theorem TextOut.step {k : Nat} {cs L : List Value} {u : Value} (h : TextOut (k + 1) cs L) (hu : cs[k]? = some u) : TextOut k cs (L ++ [u]) := by
  obtain ⟨hk, e⟩ := List.getElem?_eq_some_iff.1 hu
  unfold TextOut at *
  rw [List.drop_eq_getElem_cons hk, e, List.reverse_cons, ← h]
theorem TextOut.start (D : List Nat) : TextOut D.length (chars D) [] := by
  unfold TextOut
  rw [List.drop_of_length_le (by simp [chars])]; rfl
theorem TextOut.stop {D : List Nat} {L : List Value} (h : TextOut 0 (chars D) L) : L = ((D.map dch).reverse).map bv := by
  unfold TextOut at h
  rw [h, List.drop_zero, chars, List.map_reverse]
set_option maxRecDepth 100000 in
set_option maxHeartbeats 2000000 in
theorem text_c (w : World) (A : Option Addr) (n c : Nat) (xs : List Nat) (h : Sl w A n (xs.map wv)) (o : OkB W32 xs) (hc : n ≤ c) (hm : c ≤ maxLen) (m1 : n ≤ 1000000000) :
    Calls Tryz.prog 44 #[.slice A n c] w fun e w' => e = .returned (.string ⟨(textB (val xs)).toArray⟩) ∧ Below w.heap.size w w' := by
  have hl : xs.length = n := by simpa using h.1
  have hn1 := norm_c w A n c xs h o hc hm
  have s1 := sl_norm h o
  have hV := val_lt_pow o hl
  have hln := limbs_len o
  rw [hl] at hln
  generalize val xs = V at *
  clear h
  have hst : TextTo V n [] V := ⟨fun x hx => by simp at hx, by simp [valB]⟩
  have HN1 := Lib.hid hn1
  have HV := Lib.hid hV
  clear hn1 hV
  obtain ⟨i0, hi, hz0, hz1, hz2⟩ := info_parts tBytes.info
  go_enter Tryz.func44, Tryz.ntmps44
  go_wp2_with fail
  refine (HN1.out).mono ?_
  rintro e w1 ⟨rfl, rfl⟩
  go_wp2_with fail
  go_loopw [0, 3] (fun a s wr => ∃ (v m cc : Nat) (B : Option Addr) (D : List Nat), a = .slice B m cc ∧ m = (limbs v).length ∧ m ≤ n ∧ D.length ≤ 32 * n + 9 ∧ Sl wr B m ((limbs v).map wv) ∧ TextTo V n D v ∧ wr.ownsRow w.heap.size 5 1 s D.length (chars D) ∧ (∀ ad, B = some ad → s.ownBlock ≠ some ad.block) ∧ Below w.heap.size w wr) (fun _ s _ => 40000000000 - slLen s)
  case atStart => exact ⟨V, _, c, A, [], rfl, rfl, hln, Nat.zero_le _, s1, hst, ⟨rfl, .inl ⟨rfl, rfl⟩⟩, fun ad _ => by simp [Value.ownBlock], Below.refl _ _⟩
  case round =>
    clear s1 hst hln
    obtain ⟨v, m, cc, B, D, rfl, hmv, hmn, hDl, hsl, hT, hown, hne, hb⟩ := hrel
    rcases Nat.eq_zero_or_pos m with h0 | h0
    · subst h0
      have hv := limbs_zero hmv.symm
      subst hv
      have e := hT.eq
      rw [Nat.mul_zero, Nat.add_zero] at e
      have hok := hT.ok
      obtain ⟨SA, sc, rfl, hs1, hs2⟩ := own_slice hown
      obtain ⟨wo, rfl⟩ : ∃ wo : World, wo = wr := ⟨_, rfl⟩
      have hsD := Sl.of_own hown
      have HE := Lib.hid e
      have HOK := Lib.hid hok
      have hnum := TextOut.start D
      clear e hT hmv hsl hne hok hown
      go_wp2_with (at_make; refine wpList_make_own _ rfl _ _ _ rfl wo.heap.size 5 i0 (.int .u8 0) 1 tBytes.und hi hz0 hz1 _ _ (D.length : Int) D.length rfl rfl (by simp) (by rw [hz2]; omega) (by simp only [maxLen]; omega) (Nat.le_refl _) ?_; intro w1 hown1 hg1)
      have hbo : Below wo.heap.size wo w1 := (Below.refl _ _).grown hg1 (Nat.le_refl _) (by simp)
      go_loopw [5, 6] (fun s i wr => ∃ (m : Nat) (z : Int) (L : List Value), m ≤ D.length ∧ i = .int .i64 z ∧ z = (m : Int) - 1 ∧ TextOut m (chars D) L ∧ wr.ownsRow wo.heap.size 5 1 s (D.length - m) L ∧ Below wo.heap.size wo wr) (fun _ i _ => (intOf i + 1).toNat)
      case atStart => exact ⟨D.length, _, [], Nat.le_refl _, rfl, rfl, hnum, by simpa using hown1, hbo⟩
      case round =>
        clear hnum hown1 hg1 hbo
        obtain ⟨m, z, L, hm, rfl, hz, hL, hown, hbo⟩ := hrel
        cases m with
        | zero =>
          obtain rfl : z = -1 := by omega
          clear hz
          have hge : decide ((0 : Int) ≤ -1) = false := by decide
          have hLe := hL.stop
          rw [Nat.sub_zero, hLe] at hown
          obtain ⟨OA, oc, rfl, ho1, ho2⟩ := own_slice hown
          have hconv := run_own_string (P := Tryz.prog) wr 77 9 5 tBytes.und Tryz.underlying5 Tryz.underlying9 hown
          have htr := text_trim HOK.out
          rw [HE.out] at htr
          have hc := trim0_c (D.map dch).reverse
          rw [htr] at hc
          clear htr hL hLe
          by_cases hV0 : V = 0
          · rw [if_pos hV0] at hc
            have HC := Lib.hid hc
            clear hc
            go_wp2_with fail
            refine (HC.out _).mono ?_
            rintro e w2 ⟨rfl, rfl⟩
            go_wp2_with fail
            go_ret
            exact ⟨by unfold textB; rw [if_pos hV0]; rfl, hb.trans (hbo.mono hb.size)⟩
          · rw [if_neg hV0] at hc
            have HC := Lib.hid hc
            have hne := textB_ne V
            obtain ⟨b, l, hbl⟩ : ∃ b l, textB V = b :: l := by
              cases h : textB V with
              | nil => exact absurd h hne
              | cons b l => exact ⟨b, l, rfl⟩
            have hne2 : (textB V).isEmpty = false := by rw [hbl]; rfl
            clear hc hne hbl
            go_wp2_with fail
            refine (HC.out _).mono ?_
            rintro e w2 ⟨rfl, rfl⟩
            go_wp2_with fail
            go_ret
            exact ⟨rfl, hb.trans (hbo.mono hb.size)⟩
        | succ k =>
          obtain rfl : z = (k : Int) := by omega
          clear hz
          obtain ⟨ad, u, rfl, hxk, hcx⟩ := (hsD.below hbo).at_ (show k < D.length by omega)
          have hL2 := hL.step hxk
          have hu : ∃ d, u = .int .u8 d := by
            unfold chars at hxk
            rw [List.getElem?_map] at hxk
            cases hq : (D.map dch)[k]? with
            | none => rw [hq] at hxk; cases hxk
            | some b => rw [hq] at hxk; exact ⟨_, (Option.some.inj hxk).symm⟩
          obtain ⟨d, rfl⟩ := hu
          have HL2 := Lib.hid hL2
          have hlen : D.length - (k + 1) + 1 = D.length - k := by omega
          have HLEN := Lib.hid hlen
          clear hL hL2 hxk hlen
          go_wp2_with (at_builtin; refine wpList_push rfl _ _ _ rfl tBytes hown rfl _ 0 rfl rfl rfl (by simp only [maxLen]; omega) (by omega) hbo.size ?_; intro g cap w2 hown3 hg3 hat3 hlt3)
          have hb3 := hbo.grown hg3 hbo.size (fun q hq => (hown.lt q hq).1)
          rw [HLEN.out] at hown3 ⊢
          exact ⟨⟨k, _, _, by omega, rfl, by omega, HL2.out, hown3, hb3⟩, by simp [intOf]⟩
    · obtain ⟨SA, sc, rfl, hs1, hs2⟩ := own_slice hown
      have hv : 0 < v := by
        rcases Nat.eq_zero_or_pos v with hv | hv
        · subst hv; simp [limbs, digs_zero] at hmv; omega
        · exact hv
      have hD := hT.len HV.out hv
      have hgo := hT.go
      have hover := over_c wr B m cc 1000000000 (limbs v) hsl (ok_limbs v) (by decide) (by decide) (by omega)
      rw [val_limbs] at hover
      have hle := limbs_div_le v 1000000000
      have hr9 : v % 1000000000 < 1000000000 := Nat.mod_lt _ (by decide)
      rw [← hmv] at hle
      have HO := Lib.hid hover
      have HG := Lib.hid hgo
      clear hover hgo hT hv hmv
      go_wp2_with fail
      refine (HO.out).mono ?_
      rintro e w2 ⟨B2, c2, rfl, ho2, hb2⟩
      have hown2 := own_below hown hb2
      have ho3 := own_base ho2 hb.size
      have hbw := hb.trans (hb2.mono hb.size)
      clear HO hown hb2 ho2 hb
      generalize v / 1000000000 = v2 at HG hle ho3 ⊢
      generalize v % 1000000000 = r at HG hr9 ⊢
      go_wp2_with fail
      go_loopw [3, 4, 19] (fun s x i wr => ∃ (j r : Nat) (E : List Nat), j ≤ 9 ∧ i = .int .i64 j ∧ x = .int .u32 (r : Int) ∧ r < 10 ^ (9 - j) ∧ E.length = D.length + j ∧ TextIn V E (10 ^ D.length * (1000000000 * v2)) r ∧ wr.ownsRow w.heap.size 5 1 s E.length (chars E) ∧ wr.ownsRow w.heap.size 103 1 (.slice B2 (limbs v2).length c2) (limbs v2).length ((limbs v2).map wv) ∧ Below w.heap.size w wr) (fun _ _ i _ => 9 - (intOf i).toNat)
      case atStart => exact ⟨0, r, D, by omega, rfl, rfl, by simpa using hr9, rfl, HG.out, hown2, ho3, hbw⟩
      case round =>
        clear HG hown2 ho3 hbw hr9 hsl hne
        obtain ⟨j, r, E, hj, rfl, rfl, hr, hE, hI, hown, hoB, hb⟩ := hrel
        have HI := Lib.hid hI
        have HR := Lib.hid hr
        clear hI hr
        by_cases hj9 : j < 9
        · go_wp2_with (at_builtin; refine wpList_push rfl _ _ _ rfl tBytes hown rfl _ 0 rfl rfl rfl (by simp only [maxLen]; omega) (by omega) hb.size ?_; intro g cap w2 hown3 hg3 hat3 hlt3)
          have hb3 := hb.grown hg3 hb.size (fun q hq => (hown.lt q hq).1)
          have hoB2 := own_keeps hoB (Keeps.of_grown hg3) (fun g' hg' hO => own_ne_own hoB hown (by decide) hg' hO)
          have hstep := HI.out.step
          have hr2 : r / 10 < 10 ^ (9 - (j + 1)) := Nat.div_lt_of_lt_mul (by
            have := HR.out
            rw [show 9 - j = (9 - (j + 1)) + 1 from by omega, Nat.pow_succ, Nat.mul_comm] at this
            exact this)
          have hrow : chars E ++ [Value.int .u8 ((48 + r % 10 : Nat) : Int)] = chars (E ++ [r % 10]) := chars_snoc (Nat.mod_lt _ (by decide))
          have hcast : (48 + (r : Int) % 10) = ((48 + r % 10 : Nat) : Int) := rfl
          rw [hcast, hrow] at hown3
          have hr3 : (r : Int) / 10 % 4294967296 = ((r / 10 : Nat) : Int) := by
            have h4 := HR.out
            have h5 : 10 ^ (9 - j) ≤ 10 ^ 9 := Nat.pow_le_pow_right (by decide) (by omega)
            have h6 : r < 1000000000 := Nat.lt_of_lt_of_le h4 h5
            omega
          rw [hr3]
          refine ⟨⟨j + 1, r / 10, E ++ [r % 10], by omega, by go_num, rfl, hr2, by simp; omega, hstep, ?_, hoB2, hb3⟩, by simp [intOf]; omega⟩
          rw [List.length_append, List.length_singleton]
          rw [hE] at hown3 ⊢
          exact hown3
        · obtain rfl : j = 9 := by omega
          have hr := HR.out
          have hr0 : r = 0 := by simpa using hr
          subst hr0
          have hstop : TextTo V n E v2 := HI.out.stop hE
          have HS := Lib.hid hstop
          obtain ⟨EA, ec, rfl, _, _⟩ := own_slice hown
          clear HI HR hr hstop
          go_wp2_with fail
          exact ⟨⟨v2, _, c2, B2, E, rfl, rfl, by omega, by omega, Sl.of_own hoB, HS.out, hown, fun ad had hO => own_ne_own hoB hown (by decide) (g := ad.block) (by rw [had]; rfl) hO, hb⟩, by simp [slLen_slice]; omega⟩
end Go.Proofs.YtpllojpgpejfmaaGreatDoor

namespace Go.Proofs.YtpllojpgpejfmaaGreatDoor
open Go.RowKit RuleP NatP

namespace RuleP
/-- The bytes ahead of the number. -/
def headT (k r : Nat) : List UInt8 := [UInt8.ofNat (48 + k), 46, UInt8.ofNat (48 + r), 46]
/-- A small rule's text. -/
def textR (k r : Nat) (t : List Nat) : List UInt8 := headT k r ++ textB (valB k t)
end RuleP

theorem u8_in (x : Int) (h1 : 0 ≤ x) (h2 : x < 256) : IntKind.u8.wrap x = x := by
  simp [IntKind.wrap, IntKind.bits, IntKind.signed]
  omega
theorem bv_dig {k : Nat} (h : k ≤ 9) : bv (UInt8.ofNat (48 + k)) = .int .u8 (48 + (k : Int)) := by
  unfold bv
  have : (UInt8.ofNat (48 + k)).toNat = 48 + k := by simp [UInt8.toNat_ofNat]; omega
  rw [this]
  simp
theorem head_own (w : World) (k r : Nat) (hk : k ≤ 4) (hr : r ≤ 3) : (w.alloc (.cells #[.int .u8 (48 + (k : Int)), .int .u8 46, .int .u8 (48 + (r : Int)), .int .u8 46] 5)).ownsRow 0 5 1 (.slice (some ⟨w.heap.size, 0, none⟩) 4 4) 4 ((headT k r).map bv) := by
  have h := World.ownsRow_lit (base := 0) (e := 5) (size := 1) w #[.int .u8 (48 + (k : Int)), .int .u8 46, .int .u8 (48 + (r : Int)), .int .u8 46] 4 (Nat.zero_le _) (by decide) rfl
  have e : (headT k r).map bv = #[Value.int .u8 (48 + (k : Int)), .int .u8 46, .int .u8 (48 + (r : Int)), .int .u8 46].toList := by
    simp only [headT, List.map_cons, List.map_nil, bv_dig (show k ≤ 9 by omega), bv_dig (show r ≤ 9 by omega)]
    rfl
  rw [e]
  exact h
theorem bytes_cat (a b : List UInt8) : (⟨a.toArray⟩ : ByteArray) ++ ⟨b.toArray⟩ = ⟨(a ++ b).toArray⟩ := by
  apply ByteArray.ext
  simp [ByteArray.data_append]
theorem text_len {k r : Nat} {t : List Nat} (h : IsRule k r t) (hs : t.length ≤ 256) : (textB (valB k t)).length ≤ 256 := by
  obtain ⟨_, e2⟩ := digN_val h.k1 h.sym
  refine textB_len (Nat.lt_of_lt_of_le e2 (Nat.le_trans (Nat.pow_le_pow_left (show k ≤ 10 by have := h.k4; omega) _) (Nat.pow_le_pow_right (by decide) hs))) (by decide)
theorem limbs_small {k r : Nat} {t : List Nat} (h : IsRule k r t) (hs : t.length ≤ 256) : (limbs (valB k t)).length ≤ 256 ∧ OkB W32 (limbs (valB k t)) ∧ val (limbs (valB k t)) = valB k t := by
  obtain ⟨_, e2⟩ := digN_val h.k1 h.sym
  have h1 : valB k t < W32 ^ 256 := by
    refine Nat.lt_of_lt_of_le e2 (Nat.le_trans (Nat.pow_le_pow_left (show k ≤ W32 by have := h.k4; unfold W32; omega) _) (Nat.pow_le_pow_right (by decide) hs))
  have := limbs_len_of_lt _ _ h1
  exact ⟨by omega, ok_limbs _, val_limbs _⟩

set_option maxRecDepth 100000 in
set_option maxHeartbeats 1000000 in
theorem ruleText_good (w : World) (E : Nat → Addr) (hE : Errs w E) (k r : Nat) (A : Option Addr) (n c : Nat) (t : List Nat) (hr : IsRule k r t) (hs : t.length ≤ 256) (hT : Sl w A n ((ints t).map (Value.int .i64))) :
    Calls Tryz.prog 12 #[ruleV k r A n c] w fun e w' => e = .returned (.tuple #[.string ⟨(textR k r t).toArray⟩, .nilIface]) ∧ Below w.heap.size w w' := by
  have hk1 := hr.k1
  have hk4 := hr.k4
  have hr3 := hr.r3
  have hb0 := (Below.refl w.heap.size w).alloc (Nat.le_refl _) (.cells #[.int .i64 (k : Int), .int .i64 (r : Int), .slice A n c] 26)
  have hr0 := RuleAt.new w (.int .i64 (k : Int)) (.int .i64 (r : Int)) (.slice A n c)
  have HC := Lib.hid (code_good _ E (hE.below hb0) k r A n c t hr hs (hT.below hb0))
  obtain ⟨hv1, hv2, hv3⟩ := limbs_small hr hs
  have htl := text_len hr hs
  have s5 : ¬ (9223372036854775807 < (headT k r).length + (textB (valB k t)).length) := by
    rw [show (headT k r).length = 4 from rfl]
    omega
  have HR0 := Lib.hid hr0
  have HV2 := Lib.hid hv2
  have HV3 := Lib.hid hv3
  obtain ⟨r0, r1, r2, _⟩ := hr0.facts
  have hcat : (⟨(headT k r).toArray⟩ : ByteArray) ++ ⟨(textB (valB k t)).toArray⟩ = ⟨(textR k r t).toArray⟩ := bytes_cat _ _
  clear hr0 hE hT hb0 hr hv2 hv3
  unfold ruleV at *
  go_enter Tryz.func12, Tryz.ntmps12
  go_wp2_with fail
  refine (HC.out).mono ?_
  rintro e w1 ⟨C, cc, rfl, ho, hb⟩
  obtain ⟨_, _, e1, e2, e3⟩ := own_slice ho
  cases e1
  have HTX := Lib.hid (fun (wz : World) (hz : Below w1.heap.size w1 wz) => (by
    have h1 := text_c wz C (limbs (valB k t)).length cc (limbs (valB k t)) ((Sl.of_own ho).below hz) HV2.out e2 e3 (by omega)
    rw [HV3.out] at h1
    exact h1 : Calls Tryz.prog 44 #[.slice C (limbs (valB k t)).length cc] wz fun e w' => e = .returned (.string ⟨(textB (valB k t)).toArray⟩) ∧ Below wz.heap.size wz w'))
  obtain ⟨q0, q1, q2, _⟩ := (HR0.out.below hb (by simp)).facts
  have HB1 := Lib.hid (below_box hb)
  have s1 : IntKind.i64.wrap (48 + (k : Int)) = 48 + (k : Int) := IntWalk.i64_in _ (by omega)
  have s2 : IntKind.i64.wrap (48 + (r : Int)) = 48 + (r : Int) := IntWalk.i64_in _ (by omega)
  have s3 : IntKind.u8.wrap (48 + (k : Int)) = 48 + (k : Int) := u8_in _ (by omega) (by omega)
  have s4 : IntKind.u8.wrap (48 + (r : Int)) = 48 + (r : Int) := u8_in _ (by omega) (by omega)
  have HNW := Lib.hid (fun (wz : World) => head_own wz k r hk4 hr3)
  have HCV := Lib.hid (fun (wz : World) (g : Nat) (ho : wz.ownsRow 0 5 1 (.slice (some ⟨g, 0, none⟩) 4 4) 4 ((headT k r).map bv)) => run_own_string (P := Tryz.prog) wz 77 9 5 tBytes.und Tryz.underlying5 Tryz.underlying9 ho)
  have cA := HCV.out ((w1.alloc (.cells #[.int .u8 (48 + (k : Int)), .int .u8 46, .int .u8 (48 + (r : Int)), .int .u8 46] 5)).drew) w1.heap.size (HNW.out w1)
  have HWB2 := Lib.hid (fun (w2 : World) (hb2 : Below (w1.alloc (.cells #[.int .u8 (48 + (k : Int)), .int .u8 46, .int .u8 (48 + (r : Int)), .int .u8 46] 5)).heap.size ((w1.alloc (.cells #[.int .u8 (48 + (k : Int)), .int .u8 46, .int .u8 (48 + (r : Int)), .int .u8 46] 5)).drew) w2) =>
    (⟨HCV.out w2 w1.heap.size (own_below (w := (w1.alloc (.cells #[.int .u8 (48 + (k : Int)), .int .u8 46, .int .u8 (48 + (r : Int)), .int .u8 46] 5)).drew) (HNW.out w1) hb2), (((Below.refl w1.heap.size w1).alloc (Nat.le_refl _) _).drew).trans (hb2.mono (by simp))⟩ : _ ∧ Below w1.heap.size w1 w2))
  clear ho hb r0 r1 r2
  go_wp2_with fail
  go_region_law (first
      | (go_simp
         go_at_call 44
         first
           | ((with_reducible refine (HTX.out _ (Below.refl _ _).drew).mono ?_)
              rintro e2 w2 ⟨rfl, hb2⟩
              have hb3 := (Below.refl w1.heap.size w1).drew.trans hb2
              have cB := HCV.out _ _ (HNW.out w2)
              have y0 := cell_later hb3 q0
              have y1 := cell_later hb3 q1
              have yl := hb3.size
              dsimp only)
           | ((with_reducible refine (HTX.out _ (((Below.refl _ _).alloc (Nat.le_refl _) _).drew)).mono ?_)
              rintro e2 w2 ⟨rfl, hb2⟩
              obtain ⟨cB, hb3⟩ := HWB2.out w2 hb2
              have y0 := cell_later hb3 q0
              have y1 := cell_later hb3 q1
              have yl := hb3.size
              dsimp only))
      | fail)
  all_goals
    have HB3 := Lib.hid hb3
    clear y0 y1 yl hb2 hb3 cB cA q0 q1 q2
    go_wp2_with fail
    go_ret2
    first
      | (with_reducible exact ⟨rfl, HB1.out.trans (HB3.out.mono HB1.out.size)⟩)
      | (with_reducible exact ⟨rfl, HB1.out.trans ((HB3.out.alloc HB3.out.size _).mono HB1.out.size)⟩)
      | (with_reducible exact ⟨rfl, HB1.out.trans ((HB3.out.alloc HB3.out.size _).drew.mono HB1.out.size)⟩)
end Go.Proofs.YtpllojpgpejfmaaGreatDoor

namespace Go.Proofs.YtpllojpgpejfmaaGreatDoor
open Go.RowKit RuleP NatP

namespace RuleP
def okAt (l : List UInt8) (i lo hi : Nat) : Bool := match l[i]? with
  | some b => decide (lo ≤ b.toNat ∧ b.toNat ≤ hi)
  | none => false
/-- The first place of the head that is wrong; 4: none. -/
def headN (l : List UInt8) : Nat :=
  if okAt l 0 49 52 = false then 0 else if okAt l 1 46 46 = false then 1 else if okAt l 2 48 51 = false then 2 else if okAt l 3 46 46 = false then 3 else 4
end RuleP

set_option maxRecDepth 100000 in
set_option maxHeartbeats 1000000 in
theorem headF_c (w : World) (b : Addr) (S : ByteArray) (l : List UInt8) (hS : S = ⟨l.toArray⟩) (hb : w.cell? b = some (.string S)) (i lo hi : Nat) :
    Calls Tryz.prog 69 #[.int .i64 (i : Int), .int .u8 (lo : Int), .int .u8 (hi : Int), .pointer (some b)] w fun e w' => e = .returned (.bool (okAt l i lo hi)) ∧ w = w' := by
  have hs : S.size = l.length := by subst hS; exact Lib.size_mk l
  have hat : ∀ (k : Nat) (hk : k < S.size), l[k]? = some (S[k]'hk) := by subst hS; exact fun k hk => (Lib.getElem_mk l k hk).symm ▸ rfl
  by_cases hlt : i < S.size
  · have hli := hat i hlt
    have hok : Hid (okAt l i lo hi = decide (lo ≤ (S[i]'hlt).toNat ∧ (S[i]'hlt).toNat ≤ hi)) := Lib.hid (by unfold okAt; rw [hli])
    clear hat hli hs hS
    by_cases h1 : lo ≤ (S[i]'hlt).toNat
    · have d1 : decide (lo ≤ (S[i]'hlt).toNat) = true := decide_eq_true h1
      have hv : Hid (okAt l i lo hi = decide ((S[i]'hlt).toNat ≤ hi)) := Lib.hid (by rw [hok.out]; simp [h1])
      clear hok h1
      go_enter Tryz.func69, Tryz.ntmps69
      go_wp2_with fail
      go_ret
      exact ⟨by rw [hv.out]; rfl, rfl⟩
    · have d1 : decide (lo ≤ (S[i]'hlt).toNat) = false := decide_eq_false h1
      have hv : Hid (okAt l i lo hi = false) := Lib.hid (by rw [hok.out]; simp; omega)
      clear hok h1
      go_enter Tryz.func69, Tryz.ntmps69
      go_wp2_with fail
      go_ret
      exact ⟨by rw [hv.out]; rfl, rfl⟩
  · have hv : Hid (okAt l i lo hi = false) := Lib.hid (by unfold okAt; rw [List.getElem?_eq_none (by omega)])
    have d1 : decide (i < S.size) = false := decide_eq_false hlt
    clear hat hs hS
    go_enter Tryz.func69, Tryz.ntmps69
    go_wp2_with fail
    go_ret
    exact ⟨by rw [hv.out]; rfl, rfl⟩

set_option maxRecDepth 100000 in
set_option maxHeartbeats 4000000 in
theorem head_c (w : World) (S : ByteArray) (l : List UInt8) (hS : S = ⟨l.toArray⟩) :
    Calls Tryz.prog 32 #[.string S] w fun e w' => e = .returned (.int .i64 ((headN l : Nat) : Int)) ∧ Below w.heap.size w w' := by
  have hb : Below w.heap.size w (w.alloc (.cells #[.string S] 9)) := (Below.refl _ _).alloc (Nat.le_refl _) _
  have hf := fun (i lo hi : Nat) => headF_c (w.alloc (.cells #[.string S] 9)) ⟨w.heap.size, 0, none⟩ S l hS (by simp) i lo hi
  have h0 := hf 0 49 52
  have h1 := hf 1 46 46
  have h2 := hf 2 48 51
  have h3 := hf 3 46 46
  clear hf
  have hd : headN l = if okAt l 0 49 52 = false then 0 else if okAt l 1 46 46 = false then 1 else if okAt l 2 48 51 = false then 2 else if okAt l 3 46 46 = false then 3 else 4 := rfl
  generalize okAt l 0 49 52 = o0 at *
  generalize okAt l 1 46 46 = o1 at *
  generalize okAt l 2 48 51 = o2 at *
  generalize okAt l 3 46 46 = o3 at *
  have HD := Lib.hid hd
  have H0 := Lib.hid h0
  have H1 := Lib.hid h1
  have H2 := Lib.hid h2
  have H3 := Lib.hid h3
  have HB := Lib.hid hb
  clear hd h0 h1 h2 h3 hS hb
  go_enter Tryz.func32, Tryz.ntmps32
  go_wp2_with fail
  go_loop [6] (fun i => ∃ j : Nat, j ≤ 4 ∧ i = .int .i64 (j : Int) ∧ Hid ((0 < j → o0 = true) ∧ (1 < j → o1 = true) ∧ (2 < j → o2 = true) ∧ (3 < j → o3 = true))) (fun i => 4 - (intOf i).toNat)
  case atStart => exact ⟨0, by omega, rfl, Lib.hid ⟨by omega, by omega, by omega, by omega⟩⟩
  case round =>
    obtain ⟨j, hj, rfl, hs⟩ := hrel
    have hc : j = 0 ∨ j = 1 ∨ j = 2 ∨ j = 3 ∨ j = 4 := by omega
    rcases hc with rfl | rfl | rfl | rfl | rfl
    · cases o0 with
      | true =>
        have hs2 : Hid ((0 < 1 → true = true) ∧ (1 < 1 → o1 = true) ∧ (2 < 1 → o2 = true) ∧ (3 < 1 → o3 = true)) := Lib.hid ⟨by first | exact fun _ => rfl | exact fun _ => hs.out.1 (by omega), by first | exact fun _ => rfl | exact fun h => hs.out.2.1 (by omega) | omega, by first | exact fun _ => rfl | exact fun h => hs.out.2.2.1 (by omega) | omega, by first | exact fun _ => rfl | omega⟩
        go_wp2_with fail
        refine (H0.out).mono ?_
        rintro e w' ⟨rfl, rfl⟩
        go_wp2_with fail
        exact ⟨⟨1, by omega, rfl, hs2⟩, by simp [intOf]⟩
      | false =>
        have hh : Hid (headN l = 0) := Lib.hid (by
          obtain ⟨a, b, c, d⟩ := hs.out
          rw [HD.out]; rfl)
        go_wp2_with fail
        refine (H0.out).mono ?_
        rintro e w' ⟨rfl, rfl⟩
        go_wp2_with fail
        go_ret
        exact ⟨by rw [hh.out]; rfl, HB.out⟩
    · cases o1 with
      | true =>
        have hs2 : Hid ((0 < 2 → o0 = true) ∧ (1 < 2 → true = true) ∧ (2 < 2 → o2 = true) ∧ (3 < 2 → o3 = true)) := Lib.hid ⟨by first | exact fun _ => rfl | exact fun _ => hs.out.1 (by omega), by first | exact fun _ => rfl | exact fun h => hs.out.2.1 (by omega) | omega, by first | exact fun _ => rfl | exact fun h => hs.out.2.2.1 (by omega) | omega, by first | exact fun _ => rfl | omega⟩
        go_wp2_with fail
        refine (H1.out).mono ?_
        rintro e w' ⟨rfl, rfl⟩
        go_wp2_with fail
        exact ⟨⟨2, by omega, rfl, hs2⟩, by simp [intOf]⟩
      | false =>
        have hh : Hid (headN l = 1) := Lib.hid (by
          obtain ⟨a, b, c, d⟩ := hs.out
          rw [HD.out, a (by omega)]; rfl)
        go_wp2_with fail
        refine (H1.out).mono ?_
        rintro e w' ⟨rfl, rfl⟩
        go_wp2_with fail
        go_ret
        exact ⟨by rw [hh.out]; rfl, HB.out⟩
    · cases o2 with
      | true =>
        have hs2 : Hid ((0 < 3 → o0 = true) ∧ (1 < 3 → o1 = true) ∧ (2 < 3 → true = true) ∧ (3 < 3 → o3 = true)) := Lib.hid ⟨by first | exact fun _ => rfl | exact fun _ => hs.out.1 (by omega), by first | exact fun _ => rfl | exact fun h => hs.out.2.1 (by omega) | omega, by first | exact fun _ => rfl | exact fun h => hs.out.2.2.1 (by omega) | omega, by first | exact fun _ => rfl | omega⟩
        go_wp2_with fail
        refine (H2.out).mono ?_
        rintro e w' ⟨rfl, rfl⟩
        go_wp2_with fail
        exact ⟨⟨3, by omega, rfl, hs2⟩, by simp [intOf]⟩
      | false =>
        have hh : Hid (headN l = 2) := Lib.hid (by
          obtain ⟨a, b, c, d⟩ := hs.out
          rw [HD.out, a (by omega), b (by omega)]; rfl)
        go_wp2_with fail
        refine (H2.out).mono ?_
        rintro e w' ⟨rfl, rfl⟩
        go_wp2_with fail
        go_ret
        exact ⟨by rw [hh.out]; rfl, HB.out⟩
    · cases o3 with
      | true =>
        have hs2 : Hid ((0 < 4 → o0 = true) ∧ (1 < 4 → o1 = true) ∧ (2 < 4 → o2 = true) ∧ (3 < 4 → true = true)) := Lib.hid ⟨by first | exact fun _ => rfl | exact fun _ => hs.out.1 (by omega), by first | exact fun _ => rfl | exact fun h => hs.out.2.1 (by omega) | omega, by first | exact fun _ => rfl | exact fun h => hs.out.2.2.1 (by omega) | omega, by first | exact fun _ => rfl | omega⟩
        go_wp2_with fail
        refine (H3.out).mono ?_
        rintro e w' ⟨rfl, rfl⟩
        go_wp2_with fail
        exact ⟨⟨4, by omega, rfl, hs2⟩, by simp [intOf]⟩
      | false =>
        have hh : Hid (headN l = 3) := Lib.hid (by
          obtain ⟨a, b, c, d⟩ := hs.out
          rw [HD.out, a (by omega), b (by omega), c (by omega)]; rfl)
        go_wp2_with fail
        refine (H3.out).mono ?_
        rintro e w' ⟨rfl, rfl⟩
        go_wp2_with fail
        go_ret
        exact ⟨by rw [hh.out]; rfl, HB.out⟩
    · have hh : Hid (headN l = 4) := Lib.hid (by
        obtain ⟨a, b, c, d⟩ := hs.out
        rw [HD.out, a (by omega), b (by omega), c (by omega), d (by omega)]; rfl)
      go_wp2_with fail
      go_ret
      exact ⟨by rw [hh.out]; rfl, HB.out⟩
end Go.Proofs.YtpllojpgpejfmaaGreatDoor

namespace Go.Proofs.YtpllojpgpejfmaaGreatDoor
open Go.RowKit RuleP NatP

theorem extract_drop (l : List UInt8) (k : Nat) : (⟨l.toArray⟩ : ByteArray).extract k l.length = ⟨(l.drop k).toArray⟩ := by
  apply ByteArray.ext
  rw [ByteArray.data_extract]
  simp only [List.extract_toArray, List.extract_eq_take_drop]
  rw [List.take_of_length_le (by simp)]
theorem okAt_lt {l : List UInt8} {i lo hi : Nat} (h : okAt l i lo hi = true) : i < l.length := by
  unfold okAt at h
  cases hx : l[i]? with
  | none => rw [hx] at h; cases h
  | some b => exact (List.getElem?_eq_some_iff.1 hx).1
theorem head_len {l : List UInt8} (h : headN l = 4) : 4 ≤ l.length := by
  unfold headN at h
  by_cases h0 : okAt l 0 49 52 = false
  · rw [if_pos h0] at h; omega
  rw [if_neg h0] at h
  by_cases h1 : okAt l 1 46 46 = false
  · rw [if_pos h1] at h; omega
  rw [if_neg h1] at h
  by_cases h2 : okAt l 2 48 51 = false
  · rw [if_pos h2] at h; omega
  rw [if_neg h2] at h
  by_cases h3 : okAt l 3 46 46 = false
  · rw [if_pos h3] at h; omega
  have := okAt_lt (by simpa using h3 : okAt l 3 46 46 = true)
  omega

theorem parse_small {l : List UInt8} {v : Nat} (h : parseN l = .ok v) : (limbs v).length ≤ 1200 := by
  have h1 := text_parse h
  have h2 : l.length ≤ 1200 := by
    unfold parseN at h
    split at h
    · cases h
    · omega
  have hb : ∀ b ∈ l, digitB b = true := by rw [← h1]; exact textB_digits v
  have h3 : v = numB l := by rw [← h1, numB_textB]
  rw [h3]
  exact Nat.le_trans (limbs_len_dec (numB_lt hb)) h2

set_option maxRecDepth 100000 in
set_option maxHeartbeats 4000000 in
theorem parse_ok (w : World) (E : Nat → Addr) (hE : Errs w E) (l : List UInt8) (k r v : Nat) (hl : l.length ≤ 8192) (hh : headN l = 4) (h0 : ∃ b, l[0]? = some b ∧ b.toNat = 48 + k) (h2 : ∃ b, l[2]? = some b ∧ b.toNat = 48 + r)
    (k1 : 1 ≤ k) (k4 : k ≤ 4) (r3 : r ≤ 3) (hs : k ^ (2 * r + 1) ≤ 256) (hp : parseN (l.drop 4) = .ok v) (hv : v / k ^ k ^ (2 * r + 1) = 0) :
    Calls Tryz.prog 10 #[.string ⟨l.toArray⟩] w fun e w' => RuleErr w E k r (.ok (digN k (k ^ (2 * r + 1)) v)) e w' := by
  obtain ⟨x0, hx0, e0⟩ := h0
  obtain ⟨x2, hx2, e2⟩ := h2
  have hsz : (⟨l.toArray⟩ : ByteArray).size = l.length := Lib.size_mk l
  have hat : ∀ (k : Nat) (hk : k < (⟨l.toArray⟩ : ByteArray).size), l[k]? = some ((⟨l.toArray⟩ : ByteArray)[k]'hk) := fun k hk => (Lib.getElem_mk l k hk).symm ▸ rfl
  have hex := extract_drop l 4
  have hl4 := head_len hh
  have hl2 : 2 < l.length := (List.getElem?_eq_some_iff.1 hx2).1
  have hhd := fun (wz : World) => head_c wz _ l rfl
  generalize hS : (⟨l.toArray⟩ : ByteArray) = S at *
  have hi0 : 0 < S.size := by omega
  have hi2 : 2 < S.size := by omega
  have a0 := hat 0 hi0
  have a2 := hat 2 hi2
  rw [hx0] at a0
  rw [hx2] at a2
  have b0 : ((S[0]'hi0).toNat : Int) = 48 + (k : Int) := by rw [← Option.some.inj a0, e0]; simp
  have b2 : ((S[2]'hi2).toNat : Int) = 48 + (r : Int) := by rw [← Option.some.inj a2, e2]; simp
  rw [hh] at hhd
  have q1 : (48 : Int) + (k : Int) - 48 = (k : Int) := by omega
  have q2 : (48 : Int) + (r : Int) - 48 = (r : Int) := by omega
  obtain ⟨L, hL⟩ : ∃ L, k ^ (2 * r + 1) = L := ⟨_, rfl⟩
  have hsize := fun (wz : World) => size_ok wz k r k1 k4 r3
  rw [hL] at hsize hs hv ⊢
  have HSZ := Lib.hid hsize
  have HL := Lib.hid hL
  have dL : decide ((256 : Int) < (L : Int)) = false := decide_eq_false (by omega)
  clear hL hsize
  have HHD := Lib.hid hhd
  have HEX := Lib.hid hex
  have HE := Lib.hid hE
  have HP := Lib.hid hp
  have HV := Lib.hid hv
  clear hhd hex hE hp hv hS hat a0 a2 e0 e2 hx0 hx2 hh
  go_enter Tryz.func10, Tryz.ntmps10
  go_wp2_with fail
  refine (HHD.out _).mono ?_
  rintro e w1 ⟨rfl, hb1⟩
  have hr1 := (RuleAt.new w (.int .i64 0) (.int .i64 0) (.slice none 0 0)).below hb1 (by simp)
  go_wp2_with fail
  go_quiet (fail)
  go_wp2_with fail
  refine (HSZ.out _).mono ?_
  rintro e w' ⟨rfl, rfl⟩
  go_wp2_with fail
  rw [HEX.out]
  have hb1' := below_drewN (below_box hb1) nq
  have hr1' : RuleAt (w1.drewN nq) w.heap.size (.int .i64 0) (.int .i64 0) (.slice none 0 0) := hr1
  have hpc := parse_c (w1.drewN nq) E (HE.out.below hb1') (l.drop 4)
  unfold ParsePost at hpc
  rw [HP.out] at hpc
  have HPC := Lib.hid hpc
  clear hpc hb1 hr1
  refine (HPC.out).mono ?_
  rintro e w2 ⟨A2, c2, rfl, ho2, hb2⟩
  have hr2 := hr1'.below hb2 hr1'.lt
  have hbw := hb1'.trans (hb2.mono hb1'.size)
  have hlen : (limbs v).length ≤ 1000000000 := by
    have := (parse_small HP.out)
    omega
  have hfr := ruleFrom_c w2 E (HE.out.below hbw) k r (num_own ho2) hlen
  have hfn : fromN k r v = .ok (digN k L v) := by
    unfold fromN
    simp only [Int.toNat_natCast]
    rw [if_neg (by omega), HL.out, if_neg (by omega), if_neg (by rw [HV.out]; omega)]
  rw [hfn] at hfr
  have HFR := Lib.hid hfr
  clear hfr hfn hb1' hr1' ho2
  go_wp2_with fail
  refine (HFR.out).mono ?_
  rintro e w3 ⟨A3, c3, rfl, ho3, hb3⟩
  have hr3 := (hr2.below hb3 hr2.lt).alloc (.cells #[.int .i64 (k : Int), .int .i64 (r : Int), .slice A3 (digN k L v).length c3] 26)
  obtain ⟨c0, c1, c2', f0, f1, f2⟩ := hr3.facts
  have ho4 := own_base (own_set3 (ho3.alloc (.cells #[.int .i64 (k : Int), .int .i64 (r : Int), .slice A3 (digN k L v).length c3] 26)) hr3 (by decide) (.int .i64 (k : Int)) (.int .i64 (r : Int)) (.slice A3 (digN k L v).length c3)) (Nat.le_trans hbw.size (Nat.le_refl _))
  have hB4 := below_set3 ((hbw.trans (hb3.mono hbw.size)).alloc (Nat.le_trans hbw.size hb3.size) (.cells #[.int .i64 (k : Int), .int .i64 (r : Int), .slice A3 (digN k L v).length c3] 26)) (Nat.le_refl _) (.int .i64 (k : Int)) (.int .i64 (r : Int)) (.slice A3 (digN k L v).length c3)
  have HO := Lib.hid ho4
  have HB := Lib.hid hB4
  have hsz3 := hr3.lt
  clear ho3 ho4 hB4 hb3 hb2 hr2 hr3 hbw
  unfold ruleV
  go_wp2_with fail
  exact bodyPost_ret (v := .tuple #[.agg #[.int .i64 (k : Int), .int .i64 (r : Int), .slice A3 (digN k L v).length c3], .nilIface]) (by simp [results, Tryz.results10, go_sem, c0, c1, c2']) rfl ⟨A3, c3, rfl, HO.out, HB.out⟩
end Go.Proofs.YtpllojpgpejfmaaGreatDoor

namespace Go.Proofs.YtpllojpgpejfmaaGreatDoor
open Go.RowKit RuleP

end Go.Proofs.YtpllojpgpejfmaaGreatDoor

namespace Go.Proofs.YtpllojpgpejfmaaGreatDoor
open Go.RowKit RuleP NatP

def l110 : List UInt8 := [50, 46, 49, 46, 49, 49, 48]
theorem parse110 : parseN (l110.drop 4) = .ok 110 := by
  show parseN [49, 49, 48] = .ok 110
  rw [parse_good (by decide) (by decide) (by decide), if_neg (by decide)]
  rfl
theorem dig110 : digN 2 8 110 = [0, 1, 1, 1, 0, 1, 1, 0] := by decide
theorem rule110 : IsRule 2 1 [0, 1, 1, 1, 0, 1, 1, 0] := ⟨by decide, by decide, by decide, by decide, by decide⟩
end Go.Proofs.YtpllojpgpejfmaaGreatDoor

namespace Go.Proofs.YtpllojpgpejfmaaGreatDoor
open Go.RowKit RuleP NatP

theorem rule124 : IsRule 2 1 [0, 0, 1, 1, 1, 1, 1, 0] := ⟨by decide, by decide, by decide, by decide, by decide⟩
theorem mir110 : mir 2 1 [0, 1, 1, 1, 0, 1, 1, 0] = [0, 0, 1, 1, 1, 1, 1, 0] := by decide
theorem text124 : textR 2 1 [0, 0, 1, 1, 1, 1, 1, 0] = [50, 46, 49, 46, 49, 50, 52] := by
  unfold textR headT
  rw [show valB 2 [0, 0, 1, 1, 1, 1, 1, 0] = 124 by decide]
  decide

set_option maxRecDepth 100000 in
set_option maxHeartbeats 2000000 in
theorem awake5_c (w : World) (E : Nat → Addr) (hE : Errs w E) :
    Calls Tryz.prog 4 #[] w fun e w' => e = .returned (.bool true) ∧ Below w.heap.size w w' := by
  have HE := Lib.hid (fun (wz : World) (hz : Below w.heap.size w wz) => hE.below hz)
  have hp := parse_ok w E hE l110 2 1 110 (by decide) (by decide) ⟨50, rfl, rfl⟩ ⟨49, rfl, rfl⟩ (by decide) (by decide) (by decide) (by decide) parse110 (by decide)
  rw [show (2 : Nat) ^ (2 * 1 + 1) = 8 from rfl, dig110] at hp
  have HP := Lib.hid hp
  clear hE hp
  go_enter Tryz.func4, Tryz.ntmps4
  go_wp2_with fail
  refine (HP.out).mono ?_
  rintro e w1 ⟨A, c, rfl, ho1, hb1⟩
  have hb2 := hb1.alloc hb1.size (.cells #[.int .i64 2, .int .i64 1, .slice A 8 c] 26)
  have ho2 := ho1.alloc (.cells #[.int .i64 2, .int .i64 1, .slice A 8 c] 26)
  obtain ⟨w2, hw2⟩ : ∃ w2, w1.alloc (.cells #[.int .i64 2, .int .i64 1, .slice A 8 c] 26) = w2 := ⟨_, rfl⟩
  rw [hw2] at hb2 ho2
  have hmi := mirror_good w2 E (HE.out _ hb2) 2 1 A 8 c [0, 1, 1, 1, 0, 1, 1, 0] rule110 (Sl.of_own ho2)
  rw [mir110] at hmi
  unfold ruleV at hmi
  have HMI := Lib.hid hmi
  have HW2 := Lib.hid hw2
  have HB2 := Lib.hid hb2
  clear hmi hw2 hb2 ho1 ho2 hb1
  unfold ruleV
  go_wp2_with fail
  rw [HW2.out]
  refine (HMI.out).mono ?_
  rintro e w3 ⟨C, N, cc, v3, rfl, ho3, he3, hb3'⟩
  have he3' : v3 = .nilIface := he3
  have hN : N = 8 := (Sl.of_own ho3).1.symm
  clear he3
  subst he3' hN
  have hb3 := HB2.out.trans (hb3'.mono HB2.out.size)
  have hb4 := hb3.alloc hb3.size (.cells #[.int .i64 2, .int .i64 1, .slice C 8 cc] 26)
  have ho4 := ho3.alloc (.cells #[.int .i64 2, .int .i64 1, .slice C 8 cc] 26)
  obtain ⟨w4, hw4⟩ : ∃ w4, w3.alloc (.cells #[.int .i64 2, .int .i64 1, .slice C 8 cc] 26) = w4 := ⟨_, rfl⟩
  rw [hw4] at hb4 ho4
  have htx := ruleText_good w4 E (HE.out _ hb4) 2 1 C 8 cc [0, 0, 1, 1, 1, 1, 1, 0] rule124 (by decide) (Sl.of_own ho4)
  rw [text124] at htx
  unfold ruleV at htx
  have HTX := Lib.hid htx
  have HW4 := Lib.hid hw4
  have HB4 := Lib.hid hb4
  clear htx hw4 hb4 ho3 ho4 hb3 hb3'
  unfold ruleV
  go_wp2_with fail
  rw [HW4.out]
  refine (HTX.out).mono ?_
  rintro e w5 ⟨rfl, hb5'⟩
  have hb5 := HB4.out.trans (hb5'.mono HB4.out.size)
  have hsh := shift_big w5 E (HE.out _ hb5) 2 4 (by decide) (by decide)
  rw [show ((4 : Nat) : Int) = 4 from rfl] at hsh
  have HSH := Lib.hid hsh
  have HB5 := Lib.hid hb5
  clear hsh hb5 hb5'
  go_wp2_with fail
  refine (HSH.out).mono ?_
  rintro e w6 ⟨C6, N6, cc6, v6, rfl, ho6, he6, hb6'⟩
  have he6' : ErrIs w6 E 3 [(sForms, 0)] v6 := he6
  obtain ⟨u, p, rfl⟩ := he6'.iface
  have HB6 := Lib.hid ((HB5.out.trans (hb6'.mono HB5.out.size)).alloc (Nat.le_trans HB5.out.size hb6'.size) (.cells #[.int .i64 0, .int .i64 0, .slice C6 N6 cc6] 26))
  clear he6 he6' ho6 hb6'
  unfold ruleV
  go_wp2_with fail
  go_ret
  exact ⟨rfl, HB6.out⟩

open RuleP
/-- Rules held against each other, any. -/
theorem rules_b (w : World) (K R K2 R2 : Int) (A B : Option Addr) (n m c d : Nat) (T T2 : List Int) (h1 : Sl w A n (T.map (Value.int .i64))) (h2 : Sl w B m (T2.map (Value.int .i64))) (hm : n ≤ 9223372036854775807) (hm2 : m ≤ 9223372036854775807) :
    Calls Tryz.prog 29 #[ruleV K R A n c, ruleV K2 R2 B m d] w fun e w' => e = .returned (.bool (decide (K = K2 ∧ R = R2 ∧ T = T2))) ∧ Below w.heap.size w w' := by
  have hb : Below w.heap.size w ((w.alloc (.cells #[.int .i64 K, .int .i64 R, .slice A n c] 26)).alloc (.cells #[.int .i64 K2, .int .i64 R2, .slice B m d] 26)) := ((Below.refl _ _).alloc (Nat.le_refl _) _).alloc (by simp) _
  have hi := ints_b ((w.alloc (.cells #[.int .i64 K, .int .i64 R, .slice A n c] 26)).alloc (.cells #[.int .i64 K2, .int .i64 R2, .slice B m d] 26)) A B n m c d T T2 (h1.below hb) (h2.below hb) hm hm2
  have HI := Lib.hid hi
  have HB := Lib.hid hb
  obtain ⟨X, hX⟩ : ∃ X, decide (K = K2 ∧ R = R2 ∧ T = T2) = X := ⟨_, rfl⟩
  rw [hX]
  have HX := Lib.hid hX
  clear hi hb hX h1 h2
  unfold ruleV
  by_cases hk : K = K2
  · have k1 : (K == K2) = true := by simp [hk]
    by_cases hr : R = R2
    · have k2 : (R == R2) = true := by simp [hr]
      have HD := Lib.hid (show X = decide (T = T2) by rw [← HX.out, decide_eq_decide]; exact ⟨fun h => h.2.2, fun h => ⟨hk, hr, h⟩⟩)
      clear hk hr
      go_enter Tryz.func29, Tryz.ntmps29
      go_wp2_with fail
      refine (HI.out).mono ?_
      rintro e w1 ⟨rfl, hb1⟩
      have HB1 := Lib.hid (HB.out.trans (hb1.mono HB.out.size))
      clear hb1
      go_wp2_with fail
      go_ret
      exact ⟨by rw [HD.out]; rfl, HB1.out⟩
    · have k2 : (R == R2) = false := by simp [hr]
      have HD := Lib.hid (show X = false by rw [← HX.out]; exact decide_eq_false (fun h => hr h.2.1))
      clear hk hr
      go_enter Tryz.func29, Tryz.ntmps29
      go_wp2_with fail
      go_ret
      exact ⟨by rw [HD.out]; rfl, HB.out⟩
  · have k1 : (K == K2) = false := by simp [hk]
    have HD := Lib.hid (show X = false by rw [← HX.out]; exact decide_eq_false (fun h => hk h.1))
    clear hk
    go_enter Tryz.func29, Tryz.ntmps29
    go_wp2_with fail
    go_ret
    exact ⟨by rw [HD.out]; rfl, HB.out⟩
end Go.Proofs.YtpllojpgpejfmaaGreatDoor
