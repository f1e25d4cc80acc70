/- What the helpers of the laws on numbers return: awake, normal. Condition: the package's error variables hold what E says. -/
import Derived.Test.YtkghilmdoabodaaDoorNum
import Derived.Test.YtkghilmdoabodaaDoorText
namespace Go.Proofs.YtkghilmdoabodaaDoor
open Go.RowKit NatP

def l32 : List UInt8 := [52, 50, 57, 52, 57, 54, 55, 50, 57, 54]
theorem parse32 : parseN l32 = .ok 4294967296 := by
  rw [parse_good (by decide) (by decide) (by decide), if_neg (by decide)]
  rfl
theorem text32 : textB 4294967296 = l32 := text_parse parse32
theorem limbs32 : limbs 4294967296 = [0, 1] := limbs_of (by intro x hx; simp at hx; rcases hx with rfl | rfl <;> decide) (by intro x hx; simp at hx; omega) (by simp [val, valB])
theorem limbs15 : limbs 15 = [15] := limbs_of (ok_one (by decide)) (by intro x hx; simp at hx; omega) (by simp [val, valB])
theorem ok01 : OkB W32 [0, 1] := by intro x hx; simp at hx; rcases hx with rfl | rfl <;> decide
theorem val01 : val [0, 1] = 4294967296 := by simp [val, valB]

set_option maxRecDepth 100000 in
set_option maxHeartbeats 1000000 in
theorem awake2_c (w : World) (E : Nat → Addr) (hE : Errs w E) :
    Calls Tryd.prog 5 #[] w fun e w' => e = .returned (.bool true) ∧ Below w.heap.size w w' := by
  have hp := parse_c w E hE l32
  unfold ParsePost at hp
  rw [parse32] at hp
  have HP := Lib.hid hp
  clear hp
  go_enter Tryd.func5, Tryd.ntmps5
  go_wp2_with fail
  refine (HP.out).mono ?_
  rintro e w1 ⟨A, c, rfl, ho, hb1⟩
  rw [limbs32] at ho
  rw [limbs32]
  go_wp2_with fail
  have s1 := (Sl.of_own ho).alloc (.cells #[.int .u32 0, .int .u32 1] 27)
  refine (nats_b _ A _ 2 2 c 2 [0, 1] [0, 1] s1 (lit_words w1 [0, 1] 2 rfl (by decide) 27) (by decide)).mono ?_
  rintro e w2 ⟨rfl, hb2⟩
  have z2 := hb2.size
  simp only [World.size_alloc] at z2
  have b2 : Below w.heap.size w w2 := hb1.trans (((Below.refl _ _).alloc hb1.size _).trans (hb2.mono (by simp; exact Nat.le_succ_of_le hb1.size)))
  have ht := text_c (w2.alloc (.cells #[.int .u32 0, .int .u32 1] 27)) (some ⟨w2.heap.size, 0, none⟩) 2 2 [0, 1] (lit_words w2 [0, 1] 2 rfl (by decide) 27) ok01 (by decide) (by decide) (by decide)
  rw [val01, text32] at ht
  have HT := Lib.hid ht
  clear ht s1 ho hb2
  go_wp2_with fail
  refine (HT.out).mono ?_
  rintro e w3 ⟨rfl, hb3⟩
  have z3 := hb3.size
  simp only [World.size_alloc] at z3
  have b3 : Below w.heap.size w w3 := b2.trans (((Below.refl _ _).alloc b2.size _).trans (hb3.mono (by simp; exact Nat.le_succ_of_le b2.size)))
  clear hb3
  have hl : ((⟨l32.toArray⟩ : ByteArray).toList == (⟨#[52, 50, 57, 52, 57, 54, 55, 50, 57, 54]⟩ : ByteArray).toList) = true := by simp [ByteArray.toList_eq, l32]
  go_wp2_with fail
  have hm := mul_c ((w3.alloc (.cells #[.int .u32 3] 27)).alloc (.cells #[.int .u32 5] 27)) (some ⟨w3.heap.size, 0, none⟩) (some ⟨w3.heap.size + 1, 0, none⟩) 1 1 1 1 [3] [5] ((lit_word w3 3 _).alloc _) (by have := lit_word (w3.alloc (.cells #[.int .u32 3] 27)) 5 27; rw [World.size_alloc] at this; exact this) (ok_one (by decide)) (ok_one (by decide)) (by decide) (by decide)
  rw [val_one, val_one] at hm
  refine hm.mono ?_
  rintro e w4 ⟨A4, c4, rfl, ho4, hb4⟩
  rw [limbs15] at ho4 ⊢
  have z4 := hb4.size
  simp only [World.size_alloc] at z4
  have b4 : Below w.heap.size w w4 := b3.trans ((((Below.refl _ _).alloc b3.size _).alloc (by simp; exact Nat.le_succ_of_le b3.size) _).trans (hb4.mono (by simp; have := b3.size; omega)))
  have s4 := (Sl.of_own ho4).alloc (.cells #[.int .u32 15] 27)
  clear ho4 hb4 hm
  go_wp2_with fail
  refine (nats_b _ A4 _ 1 1 c4 1 [15] [15] s4 (lit_word w4 15 27) (by decide)).mono ?_
  rintro e w5 ⟨rfl, hb5⟩
  go_wp2_with fail
  go_ret
  exact ⟨rfl, b4.trans (((Below.refl _ _).alloc b4.size _).trans (hb5.mono (by simp; exact Nat.le_succ_of_le b4.size)))⟩

theorem text_short {xs : List Nat} {n : Nat} (h : OkB W32 xs) (hl : xs.length = n) (hn : n ≤ 120) : (textB (val xs)).length ≤ 1200 := by
  have h1 := val_lt_pow h hl
  have h2 : W32 ^ n ≤ W32 ^ (3 * 40) := Nat.pow_le_pow_right (by decide) hn
  rw [Nat.pow_mul] at h2
  have h4 : (W32 ^ 3) ^ 40 ≤ (10 ^ 30) ^ 40 := Nat.pow_le_pow_left (by decide) 40
  have h5 := Nat.lt_of_lt_of_le h1 (Nat.le_trans h2 h4)
  have h6 : ∀ a b c v : Nat, v < (10 ^ a) ^ b → a * b = c → 0 < c → (textB v).length ≤ c := by
    intro a b c v h h' h0
    subst h'
    rw [← Nat.pow_mul] at h
    exact textB_len h h0
  exact h6 30 40 1200 _ h5 rfl (by decide)

end Go.Proofs.YtkghilmdoabodaaDoor
