/- What the helpers of the laws on numbers return: awake, normal. Condition: the package's error variables hold what E says. -/
import Derived.Test.YtgknhmghljedlaaDoorNum
import Derived.Test.YtgknhmghljedlaaDoorText
namespace Go.Proofs.YtgknhmghljedlaaDoor
open Go.RowKit NatP

def l32 : List UInt8 := [52, 50, 57, 52, 57, 54, 55, 50, 57, 54]
theorem parse32 : parseN l32 = .ok 4294967296 := by
  rw [parse_good (by decide) (by decide) (by decide), if_neg (by decide)]
  rfl
theorem text32 : textB 4294967296 = l32 := text_parse parse32
theorem limbs32 : limbs 4294967296 = [0, 1] := limbs_of (by intro x hx; simp at hx; rcases hx with rfl | rfl <;> decide) (by intro x hx; simp at hx; omega) (by simp [val, valB])
theorem limbs15 : limbs 15 = [15] := limbs_of (ok_one (by decide)) (by intro x hx; simp at hx; omega) (by simp [val, valB])
theorem ok01 : OkB W32 [0, 1] := by intro x hx; simp at hx; rcases hx with rfl | rfl <;> decide
theorem val01 : val [0, 1] = 4294967296 := by simp [val, valB]

set_option maxRecDepth 100000 in
theorem normal_c (w : World) (A : Option Addr) (c v : Nat) (h : Sl w A (limbs v).length ((limbs v).map wv)) (hm : (limbs v).length ≤ maxLen) :
    Calls Tryd.prog 14 #[.slice A (limbs v).length c] w fun e w' => e = .returned (.bool true) ∧ w = w' := by
  have hn := norm_digs w32 v
  unfold maxLen at hm
  change Norm (limbs v) at hn
  obtain ⟨n, hl⟩ : ∃ n, (limbs v).length = n := ⟨_, rfl⟩
  rw [hl] at h hm ⊢
  cases n with
  | zero =>
    clear hn
    go_enter Tryd.func14, Tryd.ntmps14
    go_wp2_with fail
    go_ret
    exact ⟨rfl, rfl⟩
  | succ k =>
    obtain ⟨ad, x, rfl, hxk, hcx⟩ := h.word_ (Nat.lt_succ_self k)
    have hx0 : x ≠ 0 := hn x (by rw [List.getLast?_eq_getElem?, hl]; exact hxk)
    have hne : ((x : Int) != 0) = true := by simp; exact hx0
    have hne2 : ((x : Int) == 0) = false := by simp; exact hx0
    clear hxk hn hx0
    go_enter Tryd.func14, Tryd.ntmps14
    go_wp2_with fail
    go_ret
    exact ⟨rfl, rfl⟩

set_option maxRecDepth 100000 in
set_option maxHeartbeats 1000000 in
theorem awake2_c (w : World) (E : Nat → Addr) (hE : Errs w E) :
    Calls Tryd.prog 10 #[] w fun e w' => e = .returned (.bool true) ∧ Below w.heap.size w w' := by
  have hp := parse_c w E hE l32
  unfold ParsePost at hp
  rw [parse32] at hp
  have HP := Lib.hid hp
  clear hp
  go_enter Tryd.func10, Tryd.ntmps10
  go_wp2_with fail
  refine (HP.out).mono ?_
  rintro e w1 ⟨A, c, rfl, ho, hb1⟩
  rw [limbs32] at ho
  rw [limbs32]
  go_wp2_with fail
  have s1 := (Sl.of_own ho).alloc (.cells #[.int .u32 0, .int .u32 1] 37)
  refine (nats_b _ A _ 2 2 c 2 [0, 1] [0, 1] s1 (lit_words w1 [0, 1] 2 rfl (by decide) 37) (by decide)).mono ?_
  rintro e w2 ⟨rfl, hb2⟩
  have z2 := hb2.size
  simp only [World.size_alloc] at z2
  have b2 : Below w.heap.size w w2 := hb1.trans (((Below.refl _ _).alloc hb1.size _).trans (hb2.mono (by simp; exact Nat.le_succ_of_le hb1.size)))
  have ht := text_c (w2.alloc (.cells #[.int .u32 0, .int .u32 1] 37)) (some ⟨w2.heap.size, 0, none⟩) 2 2 [0, 1] (lit_words w2 [0, 1] 2 rfl (by decide) 37) ok01 (by decide) (by decide) (by decide)
  rw [val01, text32] at ht
  have HT := Lib.hid ht
  clear ht s1 ho hb2
  go_wp2_with fail
  refine (HT.out).mono ?_
  rintro e w3 ⟨rfl, hb3⟩
  have z3 := hb3.size
  simp only [World.size_alloc] at z3
  have b3 : Below w.heap.size w w3 := b2.trans (((Below.refl _ _).alloc b2.size _).trans (hb3.mono (by simp; exact Nat.le_succ_of_le b2.size)))
  clear hb3
  have hl : ((⟨l32.toArray⟩ : ByteArray).toList == (⟨#[52, 50, 57, 52, 57, 54, 55, 50, 57, 54]⟩ : ByteArray).toList) = true := by simp [ByteArray.toList_eq, l32]
  go_wp2_with fail
  have hm := mul_c ((w3.alloc (.cells #[.int .u32 3] 37)).alloc (.cells #[.int .u32 5] 37)) (some ⟨w3.heap.size, 0, none⟩) (some ⟨w3.heap.size + 1, 0, none⟩) 1 1 1 1 [3] [5] ((lit_word w3 3 _).alloc _) (by have := lit_word (w3.alloc (.cells #[.int .u32 3] 37)) 5 37; rw [World.size_alloc] at this; exact this) (ok_one (by decide)) (ok_one (by decide)) (by decide) (by decide)
  rw [val_one, val_one] at hm
  refine hm.mono ?_
  rintro e w4 ⟨A4, c4, rfl, ho4, hb4⟩
  rw [limbs15] at ho4 ⊢
  have z4 := hb4.size
  simp only [World.size_alloc] at z4
  have b4 : Below w.heap.size w w4 := b3.trans ((((Below.refl _ _).alloc b3.size _).alloc (by simp; exact Nat.le_succ_of_le b3.size) _).trans (hb4.mono (by simp; have := b3.size; omega)))
  have s4 := (Sl.of_own ho4).alloc (.cells #[.int .u32 15] 37)
  clear ho4 hb4 hm
  go_wp2_with fail
  refine (nats_b _ A4 _ 1 1 c4 1 [15] [15] s4 (lit_word w4 15 37) (by decide)).mono ?_
  rintro e w5 ⟨rfl, hb5⟩
  go_wp2_with fail
  go_ret
  exact ⟨rfl, b4.trans (((Below.refl _ _).alloc b4.size _).trans (hb5.mono (by simp; exact Nat.le_succ_of_le b4.size)))⟩

theorem text_short {xs : List Nat} {n : Nat} (h : OkB W32 xs) (hl : xs.length = n) (hn : n ≤ 120) : (textB (val xs)).length ≤ 1200 := by
  have h1 := val_lt_pow h hl
  have h2 : W32 ^ n ≤ W32 ^ (3 * 40) := Nat.pow_le_pow_right (by decide) hn
  rw [Nat.pow_mul] at h2
  have h4 : (W32 ^ 3) ^ 40 ≤ (10 ^ 30) ^ 40 := Nat.pow_le_pow_left (by decide) 40
  have h5 := Nat.lt_of_lt_of_le h1 (Nat.le_trans h2 h4)
  have h6 : ∀ a b c v : Nat, v < (10 ^ a) ^ b → a * b = c → 0 < c → (textB v).length ≤ c := by
    intro a b c v h h' h0
    subst h'
    rw [← Nat.pow_mul] at h
    exact textB_len h h0
  exact h6 30 40 1200 _ h5 rfl (by decide)

set_option maxRecDepth 100000 in
set_option maxHeartbeats 2000000 in
theorem natTexts_c (w : World) (E : Nat → Addr) (hE : Errs w E) (A : Option Addr) (n c : Nat) (xs : List Nat) (h : Sl w A n (xs.map wv)) (o : OkB W32 xs) (hc : n ≤ c) (hm : c ≤ maxLen) (l : List UInt8) :
    Calls Tryd.prog 3 #[.slice A n c, .string ⟨l.toArray⟩] w fun e w' => e = .returned (.bool true) ∧ Below w.heap.size w w' := by
  have hl : xs.length = n := by simpa using h.1
  by_cases h120 : n ≤ 120
  · have hts := parse_text (text_short o hl h120)
    have hd : decide ((120 : Int) < (n : Int)) = false := decide_eq_false (by omega)
    have hcmp : cmpN (val xs) (val xs) = 0 := cmpN_eq _
    have hll := limbs_len o
    have hne := textB_ne (val xs)
    have hemp : (⟨(textB (val xs)).toArray⟩ : ByteArray).toList.isEmpty = false := by
      rw [ByteArray.toList_eq]
      cases hb : textB (val xs) with
      | nil => exact absurd hb hne
      | cons b l => rfl
    have hemp2 : (textB (val xs)).isEmpty = false := by
      cases hb : textB (val xs) with
      | nil => exact absurd hb hne
      | cons b l => rfl
    have HTS := Lib.hid hts
    have HCMP := Lib.hid hcmp
    have HE := Lib.hid hE
    clear hts hcmp hE hne
    go_enter Tryd.func3, Tryd.ntmps3
    go_wp2_with fail
    refine (awake2_c w E HE.out).mono ?_
    rintro e w1 ⟨rfl, hb1⟩
    go_wp2_with fail
    refine (text_c w1 A n c xs (h.below hb1) o hc hm (by omega)).mono ?_
    rintro e w2 ⟨rfl, hb2⟩
    have b2 := hb1.trans (hb2.mono hb1.size)
    go_wp2_with fail
    refine (parse_c w2 E (HE.out.below b2) (textB (val xs))).mono ?_
    intro e w3 hp
    unfold ParsePost at hp
    rw [HTS.out] at hp
    obtain ⟨B, cc, rfl, ho3, hb3⟩ := hp
    have b3 := b2.trans (hb3.mono b2.size)
    obtain ⟨_, _, hv, hc1, hc2⟩ := own_slice ho3
    injection hv with hA _ hcc
    subst hA hcc
    have hcm := cmp_c w3 A B n (limbs (val xs)).length c cc xs (limbs (val xs)) (h.below b3) (Sl.of_own ho3) o (ok_limbs _) hc hm hc1 hc2
    rw [val_limbs, HCMP.out] at hcm
    have HCM := Lib.hid hcm
    clear hcm
    go_wp2_with fail
    refine (HCM.out).mono ?_
    rintro e w4 ⟨rfl, hb4⟩
    have b4 := b3.trans (hb4.mono b3.size)
    go_wp2_with fail
    refine (normal_c w4 B cc (val xs) ((Sl.of_own ho3).below hb4) (by omega)).mono ?_
    rintro e w5 ⟨rfl, rfl⟩
    go_wp2_with fail
    refine (parse_c w4 E (HE.out.below b4) l).mono ?_
    intro e w6 hp
    unfold ParsePost at hp
    cases hpl : parseN l with
    | error x =>
      obtain ⟨i, k⟩ := x
      rw [hpl] at hp
      obtain ⟨b, rfl, _, _, _, hb6⟩ := hp
      clear hpl
      unfold errV
      go_wp2_with fail
      go_ret
      exact ⟨rfl, b4.trans (hb6.mono b4.size)⟩
    | ok u =>
      rw [hpl] at hp
      obtain ⟨C, c6, rfl, ho6, hb6⟩ := hp
      have b6 := b4.trans (hb6.mono b4.size)
      have htl := text_parse hpl
      obtain ⟨_, _, hv, hc3, hc4⟩ := own_slice ho6
      injection hv with hA _ hcc
      subst hA hcc
      have hlen : (limbs u).length ≤ 1200 := by
        unfold parseN at hpl
        split at hpl
        · cases hpl
        split at hpl
        · cases hpl
        split at hpl
        · cases hpl
        rename_i hf
        split at hpl
        · cases hpl
        injection hpl with hpl
        rw [← hpl]
        have h1 := numB_lt (l := l) (fun b hb => by simpa using (List.findIdx?_eq_none_iff.1 hf) b hb)
        have h2 := limbs_len_dec h1
        omega
      have ht := text_c w6 C (limbs u).length c6 (limbs u) (Sl.of_own ho6) (ok_limbs u) hc3 hc4 (by omega)
      rw [val_limbs, htl] at ht
      have HT := Lib.hid ht
      clear ht htl hpl
      go_wp2_with fail
      refine (HT.out).mono ?_
      rintro e w7 ⟨rfl, hb7⟩
      go_wp2_with fail
      go_ret
      exact ⟨rfl, b6.trans (hb7.mono b6.size)⟩
  · have hd : decide ((120 : Int) < (n : Int)) = true := decide_eq_true (by omega)
    have HE := Lib.hid hE
    clear hE
    go_enter Tryd.func3, Tryd.ntmps3
    go_wp2_with fail
    refine (awake2_c w E HE.out).mono ?_
    rintro e w1 ⟨rfl, hb1⟩
    go_wp2_with fail
    go_ret
    exact ⟨rfl, hb1⟩

end Go.Proofs.YtgknhmghljedlaaDoor
