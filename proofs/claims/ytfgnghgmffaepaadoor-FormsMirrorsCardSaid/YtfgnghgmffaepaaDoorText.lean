/- The decimal text: what nat.Text returns. Condition: the limbs read from memory. -/
import Derived.Test.YtfgnghgmffaepaaDoorNum
import Derived.Test.YtfgnghgmffaepaaDoorDecP
import Derived.Test.YtfgnghgmffaepaaDoorTrimB
namespace Go.Proofs.YtfgnghgmffaepaaDoor
open Go.RowKit NatP

def slLen (v : Value) : Nat := match v with | .slice _ n _ => n | _ => 0
@[simp] theorem slLen_slice (A : Option Addr) (n c : Nat) : slLen (.slice A n c) = n := rfl
def chars (D : List Nat) : List Value := (D.map dch).map bv
theorem chars_snoc {D : List Nat} {d : Nat} (h : d < 10) : chars D ++ [Value.int .u8 ((48 + d : Nat) : Int)] = chars (D ++ [d]) := by
  simp [chars, bv, dch_toNat h]
theorem pow_le_pow2 {k n V : Nat} (h : 10 ^ k ≤ V) (hv : V < W32 ^ n) : k < 32 * n + 1 := by
  rcases Nat.lt_or_ge k (32 * n + 1) with h1 | h1
  · exact h1
  · have h2 : 2 ^ (32 * n) ≤ 10 ^ k := Nat.le_trans (Nat.pow_le_pow_right (by decide) (by omega)) (Nat.pow_le_pow_left (by decide) k)
    rw [Nat.pow_mul] at h2
    have h3 : (2 ^ 32 : Nat) = W32 := rfl
    rw [h3] at h2
    omega

/-- Digits done, and what is left of the number. -/
structure TextTo (V n : Nat) (D : List Nat) (v : Nat) : Prop where
  ok : OkB 10 D
  eq : valB 10 D + 10 ^ D.length * v = V
theorem TextTo.len {V n v : Nat} {D : List Nat} (h : TextTo V n D v) (hV : V < W32 ^ n) (hv : 0 < v) : D.length < 32 * n + 1 := by
  refine pow_le_pow2 (V := V) ?_ hV
  have : 10 ^ D.length * 1 ≤ 10 ^ D.length * v := Nat.mul_le_mul (Nat.le_refl _) hv
  have := h.eq
  omega
/-- And digits of one rest done. -/
structure TextIn (V : Nat) (D : List Nat) (v r : Nat) : Prop where
  ok : OkB 10 D
  eq : valB 10 D + 10 ^ D.length * r + v = V
theorem TextIn.step {V v r : Nat} {D : List Nat} (h : TextIn V D v r) : TextIn V (D ++ [r % 10]) v (r / 10) := by
  refine ⟨ok_append h.ok (fun x hx => by simp at hx; subst hx; exact Nat.mod_lt _ (by decide)), ?_⟩
  rw [val_snoc, List.length_append, List.length_singleton, Nat.pow_succ]
  have e1 := h.eq
  have e2 := Nat.mod_add_div r 10
  generalize r % 10 = a at *
  generalize r / 10 = b at *
  have e3 : 10 ^ D.length * (a + 10 * b) = 10 ^ D.length * r := by rw [e2]
  rw [Nat.mul_add, ← Nat.mul_assoc] at e3
  omega
theorem TextTo.go {V n v : Nat} {D : List Nat} (h : TextTo V n D v) : TextIn V D (10 ^ D.length * (1000000000 * (v / 1000000000))) (v % 1000000000) := by
  refine ⟨h.ok, ?_⟩
  have e1 := h.eq
  have e2 := Nat.mod_add_div v 1000000000
  rw [Nat.add_assoc, ← Nat.mul_add, e2]
  exact e1
theorem TextIn.stop {V n v k : Nat} {D : List Nat} (h : TextIn V D (10 ^ k * (1000000000 * v)) 0) (hk : D.length = k + 9) : TextTo V n D v := by
  refine ⟨h.ok, ?_⟩
  have e := h.eq
  rw [Nat.mul_zero, Nat.add_zero] at e
  rw [hk, Nat.pow_add, Nat.mul_assoc]
  exact e

/-- The bytes from m on, the last first. -/
def TextOut (m : Nat) (cs L : List Value) : Prop := L = (cs.drop m).reverse
theorem TextOut.step {k : Nat} {cs L : List Value} {u : Value} (h : TextOut (k + 1) cs L) (hu : cs[k]? = some u) : TextOut k cs (L ++ [u]) := by
  obtain ⟨hk, e⟩ := List.getElem?_eq_some_iff.1 hu
  unfold TextOut at *
  rw [List.drop_eq_getElem_cons hk, e, List.reverse_cons, ← h]
theorem TextOut.start (D : List Nat) : TextOut D.length (chars D) [] := by
  unfold TextOut
  rw [List.drop_of_length_le (by simp [chars])]; rfl
theorem TextOut.stop {D : List Nat} {L : List Value} (h : TextOut 0 (chars D) L) : L = ((D.map dch).reverse).map bv := by
  unfold TextOut at h
  rw [h, List.drop_zero, chars, List.map_reverse]
set_option maxRecDepth 100000 in
set_option maxHeartbeats 2000000 in
theorem text_c (w : World) (A : Option Addr) (n c : Nat) (xs : List Nat) (h : Sl w A n (xs.map wv)) (o : OkB W32 xs) (hc : n ≤ c) (hm : c ≤ maxLen) (m1 : n ≤ 1000000000) :
    Calls Tryd.prog 51 #[.slice A n c] w fun e w' => e = .returned (.string ⟨(textB (val xs)).toArray⟩) ∧ Below w.heap.size w w' := by
  have hl : xs.length = n := by simpa using h.1
  have hn1 := norm_c w A n c xs h o hc hm
  have s1 := sl_norm h o
  have hV := val_lt_pow o hl
  have hln := limbs_len o
  rw [hl] at hln
  generalize val xs = V at *
  clear h
  have hst : TextTo V n [] V := ⟨fun x hx => by simp at hx, by simp [valB]⟩
  have HN1 := Lib.hid hn1
  have HV := Lib.hid hV
  clear hn1 hV
  obtain ⟨i0, hi, hz0, hz1, hz2⟩ := info_parts tBytes.info
  go_enter Tryd.func51, Tryd.ntmps51
  go_wp2_with fail
  refine (HN1.out).mono ?_
  rintro e w1 ⟨rfl, rfl⟩
  go_wp2_with fail
  go_loopw [0, 3] (fun a s wr => ∃ (v m cc : Nat) (B : Option Addr) (D : List Nat), a = .slice B m cc ∧ m = (limbs v).length ∧ m ≤ n ∧ D.length ≤ 32 * n + 9 ∧ Sl wr B m ((limbs v).map wv) ∧ TextTo V n D v ∧ wr.ownsRow w.heap.size 5 1 s D.length (chars D) ∧ (∀ ad, B = some ad → s.ownBlock ≠ some ad.block) ∧ Below w.heap.size w wr) (fun _ s _ => 40000000000 - slLen s)
  case atStart => exact ⟨V, _, c, A, [], rfl, rfl, hln, Nat.zero_le _, s1, hst, ⟨rfl, .inl ⟨rfl, rfl⟩⟩, fun ad _ => by simp [Value.ownBlock], Below.refl _ _⟩
  case round =>
    clear s1 hst hln
    obtain ⟨v, m, cc, B, D, rfl, hmv, hmn, hDl, hsl, hT, hown, hne, hb⟩ := hrel
    rcases Nat.eq_zero_or_pos m with h0 | h0
    · subst h0
      have hv := limbs_zero hmv.symm
      subst hv
      have e := hT.eq
      rw [Nat.mul_zero, Nat.add_zero] at e
      have hok := hT.ok
      obtain ⟨SA, sc, rfl, hs1, hs2⟩ := own_slice hown
      obtain ⟨wo, rfl⟩ : ∃ wo : World, wo = wr := ⟨_, rfl⟩
      have hsD := Sl.of_own hown
      have HE := Lib.hid e
      have HOK := Lib.hid hok
      have hnum := TextOut.start D
      clear e hT hmv hsl hne hok hown
      go_wp2_with (at_make; refine wpList_make_own _ rfl _ _ _ rfl wo.heap.size 5 i0 (.int .u8 0) 1 tBytes.und hi hz0 hz1 _ _ (D.length : Int) D.length rfl rfl (by simp) (by rw [hz2]; omega) (by simp only [maxLen]; omega) (Nat.le_refl _) ?_; intro w1 hown1 hg1)
      have hbo : Below wo.heap.size wo w1 := (Below.refl _ _).grown hg1 (Nat.le_refl _) (by simp)
      go_loopw [5, 6] (fun s i wr => ∃ (m : Nat) (z : Int) (L : List Value), m ≤ D.length ∧ i = .int .i64 z ∧ z = (m : Int) - 1 ∧ TextOut m (chars D) L ∧ wr.ownsRow wo.heap.size 5 1 s (D.length - m) L ∧ Below wo.heap.size wo wr) (fun _ i _ => (intOf i + 1).toNat)
      case atStart => exact ⟨D.length, _, [], Nat.le_refl _, rfl, rfl, hnum, by simpa using hown1, hbo⟩
      case round =>
        clear hnum hown1 hg1 hbo
        obtain ⟨m, z, L, hm, rfl, hz, hL, hown, hbo⟩ := hrel
        cases m with
        | zero =>
          obtain rfl : z = -1 := by omega
          clear hz
          have hge : decide ((0 : Int) ≤ -1) = false := by decide
          have hLe := hL.stop
          rw [Nat.sub_zero, hLe] at hown
          obtain ⟨OA, oc, rfl, ho1, ho2⟩ := own_slice hown
          have hconv := run_own_string (P := Tryd.prog) wr 87 9 5 tBytes.und Tryd.underlying5 Tryd.underlying9 hown
          have htr := text_trim HOK.out
          rw [HE.out] at htr
          have hc := trim0_c (D.map dch).reverse
          rw [htr] at hc
          clear htr hL hLe
          by_cases hV0 : V = 0
          · rw [if_pos hV0] at hc
            have HC := Lib.hid hc
            clear hc
            go_wp2_with fail
            refine (HC.out _).mono ?_
            rintro e w2 ⟨rfl, rfl⟩
            go_wp2_with fail
            go_ret
            exact ⟨by unfold textB; rw [if_pos hV0]; rfl, hb.trans (hbo.mono hb.size)⟩
          · rw [if_neg hV0] at hc
            have HC := Lib.hid hc
            have hne := textB_ne V
            obtain ⟨b, l, hbl⟩ : ∃ b l, textB V = b :: l := by
              cases h : textB V with
              | nil => exact absurd h hne
              | cons b l => exact ⟨b, l, rfl⟩
            have hne2 : (textB V).isEmpty = false := by rw [hbl]; rfl
            clear hc hne hbl
            go_wp2_with fail
            refine (HC.out _).mono ?_
            rintro e w2 ⟨rfl, rfl⟩
            go_wp2_with fail
            go_ret
            exact ⟨rfl, hb.trans (hbo.mono hb.size)⟩
        | succ k =>
          obtain rfl : z = (k : Int) := by omega
          clear hz
          obtain ⟨ad, u, rfl, hxk, hcx⟩ := (hsD.below hbo).at_ (show k < D.length by omega)
          have hL2 := hL.step hxk
          have hu : ∃ d, u = .int .u8 d := by
            unfold chars at hxk
            rw [List.getElem?_map] at hxk
            cases hq : (D.map dch)[k]? with
            | none => rw [hq] at hxk; cases hxk
            | some b => rw [hq] at hxk; exact ⟨_, (Option.some.inj hxk).symm⟩
          obtain ⟨d, rfl⟩ := hu
          have HL2 := Lib.hid hL2
          have hlen : D.length - (k + 1) + 1 = D.length - k := by omega
          have HLEN := Lib.hid hlen
          clear hL hL2 hxk hlen
          go_wp2_with (at_builtin; refine wpList_push rfl _ _ _ rfl tBytes hown rfl _ 0 rfl rfl rfl (by simp only [maxLen]; omega) (by omega) hbo.size ?_; intro g cap w2 hown3 hg3 hat3 hlt3)
          have hb3 := hbo.grown hg3 hbo.size (fun q hq => (hown.lt q hq).1)
          rw [HLEN.out] at hown3 ⊢
          exact ⟨⟨k, _, _, by omega, rfl, by omega, HL2.out, hown3, hb3⟩, by simp [intOf]⟩
    · obtain ⟨SA, sc, rfl, hs1, hs2⟩ := own_slice hown
      have hv : 0 < v := by
        rcases Nat.eq_zero_or_pos v with hv | hv
        · subst hv; simp [limbs, digs_zero] at hmv; omega
        · exact hv
      have hD := hT.len HV.out hv
      have hgo := hT.go
      have hover := over_c wr B m cc 1000000000 (limbs v) hsl (ok_limbs v) (by decide) (by decide) (by omega)
      rw [val_limbs] at hover
      have hle := limbs_div_le v 1000000000
      have hr9 : v % 1000000000 < 1000000000 := Nat.mod_lt _ (by decide)
      rw [← hmv] at hle
      have HO := Lib.hid hover
      have HG := Lib.hid hgo
      clear hover hgo hT hv hmv
      go_wp2_with fail
      refine (HO.out).mono ?_
      rintro e w2 ⟨B2, c2, rfl, ho2, hb2⟩
      have hown2 := own_below hown hb2
      have ho3 := own_base ho2 hb.size
      have hbw := hb.trans (hb2.mono hb.size)
      clear HO hown hb2 ho2 hb
      generalize v / 1000000000 = v2 at HG hle ho3 ⊢
      generalize v % 1000000000 = r at HG hr9 ⊢
      go_wp2_with fail
      go_loopw [3, 4, 19] (fun s x i wr => ∃ (j r : Nat) (E : List Nat), j ≤ 9 ∧ i = .int .i64 j ∧ x = .int .u32 (r : Int) ∧ r < 10 ^ (9 - j) ∧ E.length = D.length + j ∧ TextIn V E (10 ^ D.length * (1000000000 * v2)) r ∧ wr.ownsRow w.heap.size 5 1 s E.length (chars E) ∧ wr.ownsRow w.heap.size 109 1 (.slice B2 (limbs v2).length c2) (limbs v2).length ((limbs v2).map wv) ∧ Below w.heap.size w wr) (fun _ _ i _ => 9 - (intOf i).toNat)
      case atStart => exact ⟨0, r, D, by omega, rfl, rfl, by simpa using hr9, rfl, HG.out, hown2, ho3, hbw⟩
      case round =>
        clear HG hown2 ho3 hbw hr9 hsl hne
        obtain ⟨j, r, E, hj, rfl, rfl, hr, hE, hI, hown, hoB, hb⟩ := hrel
        have HI := Lib.hid hI
        have HR := Lib.hid hr
        clear hI hr
        by_cases hj9 : j < 9
        · go_wp2_with (at_builtin; refine wpList_push rfl _ _ _ rfl tBytes hown rfl _ 0 rfl rfl rfl (by simp only [maxLen]; omega) (by omega) hb.size ?_; intro g cap w2 hown3 hg3 hat3 hlt3)
          have hb3 := hb.grown hg3 hb.size (fun q hq => (hown.lt q hq).1)
          have hoB2 := own_keeps hoB (Keeps.of_grown hg3) (fun g' hg' hO => own_ne_own hoB hown (by decide) hg' hO)
          have hstep := HI.out.step
          have hr2 : r / 10 < 10 ^ (9 - (j + 1)) := Nat.div_lt_of_lt_mul (by
            have := HR.out
            rw [show 9 - j = (9 - (j + 1)) + 1 from by omega, Nat.pow_succ, Nat.mul_comm] at this
            exact this)
          have hrow : chars E ++ [Value.int .u8 ((48 + r % 10 : Nat) : Int)] = chars (E ++ [r % 10]) := chars_snoc (Nat.mod_lt _ (by decide))
          have hcast : (48 + (r : Int) % 10) = ((48 + r % 10 : Nat) : Int) := rfl
          rw [hcast, hrow] at hown3
          have hr3 : (r : Int) / 10 % 4294967296 = ((r / 10 : Nat) : Int) := by
            have h4 := HR.out
            have h5 : 10 ^ (9 - j) ≤ 10 ^ 9 := Nat.pow_le_pow_right (by decide) (by omega)
            have h6 : r < 1000000000 := Nat.lt_of_lt_of_le h4 h5
            omega
          rw [hr3]
          refine ⟨⟨j + 1, r / 10, E ++ [r % 10], by omega, by go_num, rfl, hr2, by simp; omega, hstep, ?_, hoB2, hb3⟩, by simp [intOf]; omega⟩
          rw [List.length_append, List.length_singleton]
          rw [hE] at hown3 ⊢
          exact hown3
        · obtain rfl : j = 9 := by omega
          have hr := HR.out
          have hr0 : r = 0 := by simpa using hr
          subst hr0
          have hstop : TextTo V n E v2 := HI.out.stop hE
          have HS := Lib.hid hstop
          obtain ⟨EA, ec, rfl, _, _⟩ := own_slice hown
          clear HI HR hr hstop
          go_wp2_with fail
          exact ⟨⟨v2, _, c2, B2, E, rfl, rfl, by omega, by omega, Sl.of_own hoB, HS.out, hown, fun ad had hO => own_ne_own hoB hown (by decide) (g := ad.block) (by rw [had]; rfl) hO, hb⟩, by simp [slLen_slice]; omega⟩
end Go.Proofs.YtfgnghgmffaepaaDoor
