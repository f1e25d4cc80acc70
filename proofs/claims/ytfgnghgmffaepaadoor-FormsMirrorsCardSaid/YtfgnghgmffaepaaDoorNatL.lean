/- Binary digits: what bits.Len32, nat.Bits, nat.Low return. Condition: the limbs read from memory. -/
import Derived.Test.YtfgnghgmffaepaaDoorNum
import Derived.Laws.BitsAllLaws
import Derived.Lib.Strings
import Derived.Lib.Slices
import Derived.Lib.Small
import Derived.Lib.Walk
import Derived.Lib.BitFns
namespace Go.Proofs.YtfgnghgmffaepaaDoor
open Go.RowKit NatP

/-- How many binary digits a number has. -/
def blen (v : Nat) : Nat := (digs 2 v).length
theorem blen_zero : blen 0 = 0 := rfl
theorem blen_pos {v : Nat} (h : 0 < v) : blen v = blen (v / 2) + 1 := by unfold blen; rw [digs_pos (by decide) h]; rfl
theorem blen_shift (k : Nat) : ∀ v, 0 < v / 2 ^ k → blen v = k + blen (v / 2 ^ k) := by
  induction k with
  | zero => intro v _; simp
  | succ k ih =>
    intro v h
    have e : v / 2 ^ (k + 1) = v / 2 / 2 ^ k := by rw [Nat.div_div_eq_div_mul, Nat.pow_succ, Nat.mul_comm]
    rw [e] at h ⊢
    have hv : 0 < v := by
      rcases Nat.eq_zero_or_pos v with h0 | h0
      · subst h0; simp at h
      · exact h0
    rw [blen_pos hv, ih _ h]
    omega
theorem blen_one : blen 1 = 1 := by decide
theorem blen_pow (m : Nat) : blen (2 ^ m) = m + 1 := by
  have h : 2 ^ m / 2 ^ m = 1 := Nat.div_self (Nat.two_pow_pos m)
  rw [blen_shift m _ (by rw [h]; decide), h, blen_one]
theorem blen_top {s v x : Nat} {pre : List Nat} (hs : 0 < s) (h : digs (2 ^ s) v = pre ++ [x]) : blen v = s * pre.length + blen x := by
  have hb : 2 ≤ 2 ^ s := by
    have := Nat.pow_le_pow_right (show 0 < 2 by decide) hs
    simpa using this
  have h1 := val_digs hb v
  have h2 := ok_digs hb v
  have h3 := norm_digs hb v
  rw [h] at h1 h2 h3
  have hx : x ≠ 0 := h3 x (by simp)
  have hlt := val_lt hb (l := pre) (fun y hy => h2 y (by simp [hy]))
  rw [val_snoc, ← Nat.pow_mul] at h1
  rw [← Nat.pow_mul] at hlt
  have e : v / 2 ^ (s * pre.length) = x := by
    rw [← h1, Nat.add_mul_div_left _ _ (Nat.two_pow_pos _), Nat.div_eq_of_lt hlt, Nat.zero_add]
  rw [blen_shift (s * pre.length) v (by rw [e]; omega), e]
theorem blen_small {x k : Nat} (h : x < 2 ^ k) : blen x ≤ k := by
  induction k generalizing x with
  | zero => have : x = 0 := by simpa using h
            subst this; simp [blen_zero]
  | succ k ih =>
    rcases Nat.eq_zero_or_pos x with h0 | h0
    · subst h0; simp [blen_zero]
    · rw [blen_pos h0]
      have : x / 2 < 2 ^ k := Nat.div_lt_of_lt_mul (by rw [Nat.mul_comm, ← Nat.pow_succ]; exact h)
      have := ih this
      omega

theorem bitLen_blen (x : Nat) (h : x < 2 ^ 64) : Lib.bitLen x = blen x := by
  induction x using Nat.strongRecOn with
  | _ x ih =>
    rcases Nat.eq_zero_or_pos x with h0 | h0
    · subst h0; rfl
    · rw [Lib.bitLen_half x (by omega) h, blen_pos h0, ih (x / 2) (by omega) (by omega)]; omega

theorem len8tab_at (j : Nat) (h : j < Lib.len8tab.size) : (Lib.len8tab[j]).toNat = Lib.bitLen j := by
  have h2 : j < 256 := by rw [← Lib.len8tab_size]; exact h
  have e := Lib.len8_eq ⟨j, h2⟩
  unfold Lib.len8 at e
  simp only [Int.toNat_natCast] at e
  rw [getElem?_pos Lib.len8tab j h, Option.getD_some] at e
  omega
theorem len8_fin (a : Nat) (j : Int) (h : j.toNat < Lib.len8tab.size) (ha : a ≤ 24) (x : Nat) (hx : Lib.bitLen x = a + Lib.bitLen j.toNat) : wrap64 ((a : Int) + wrap64 ((Lib.len8tab[j.toNat]).toNat : Int)) = (Lib.bitLen x : Int) := by
  rw [len8tab_at _ h, hx]
  have h2 : j.toNat < 256 := by rw [← Lib.len8tab_size]; exact h
  have h3 := Lib.bitLen_le8 ⟨j.toNat, h2⟩
  simp only at h3
  unfold wrap64
  omega

set_option maxHeartbeats 4000000 in
set_option maxRecDepth 100000 in
theorem len32_i (x : Int) (w : World) (h0 : 0 ≤ x) (h1 : x ≤ 4294967295) :
    Calls Tryd.prog 87 #[.int .u32 x] w fun e w' => e = .returned (.int .i64 (Lib.bitLen x.toNat)) ∧ w = w' := by
  have q0 : Lib.len8tab.size = 256 := Lib.len8tab_size
  have p1 : ∀ (h : (x / 65536 / 256).toNat < Lib.len8tab.size), 65536 ≤ x → 256 ≤ x / 65536 → wrap64 (24 + wrap64 ((Lib.len8tab[(x / 65536 / 256).toNat]).toNat : Int)) = (Lib.bitLen x.toNat : Int) := fun h h2 h3 =>
    len8_fin 24 _ h (by decide) _ (by rw [Lib.bitLen_shift24 x.toNat (by omega) (by omega)]; congr 2; omega)
  have p2 : ∀ (h : (x / 65536).toNat < Lib.len8tab.size), 65536 ≤ x → wrap64 (16 + wrap64 ((Lib.len8tab[(x / 65536).toNat]).toNat : Int)) = (Lib.bitLen x.toNat : Int) := fun h h2 =>
    len8_fin 16 _ h (by decide) _ (by rw [Lib.bitLen_shift16 x.toNat (by omega) (by omega)]; congr 2; omega)
  have p3 : ∀ (h : (x / 256).toNat < Lib.len8tab.size), 256 ≤ x → wrap64 (8 + wrap64 ((Lib.len8tab[(x / 256).toNat]).toNat : Int)) = (Lib.bitLen x.toNat : Int) := fun h h2 =>
    len8_fin 8 _ h (by decide) _ (by rw [Lib.bitLen_shift8 x.toNat (by omega) (by omega)]; congr 2; omega)
  have p4 : ∀ (h : x.toNat < Lib.len8tab.size), wrap64 (wrap64 ((Lib.len8tab[x.toNat]).toNat : Int)) = (Lib.bitLen x.toNat : Int) := fun h => by
    have := len8_fin 0 x h (by decide) x.toNat (by omega)
    simpa using this
  have P1 := Lib.hid p1
  have P2 := Lib.hid p2
  have P3 := Lib.hid p3
  have P4 := Lib.hid p4
  clear p1 p2 p3 p4
  go_enter Tryd.func87, Tryd.ntmps87
  go_wp2
  all_goals (go_ret; refine ⟨?_, rfl⟩)
  · rw [← P1.out _ (by assumption) (by assumption)]; rfl
  · rw [← P2.out _ (by assumption)]; rfl
  · rw [← P3.out _ (by assumption)]; rfl
  · rw [← P4.out _]; rfl
theorem len32_c (w : World) (x : Nat) (hx : x < W32) :
    Calls Tryd.prog 87 #[.int .u32 (x : Int)] w fun e w' => e = .returned (.int .i64 (blen x : Nat)) ∧ w = w' := by
  have h := len32_i (x : Int) w (by omega) (by unfold W32 at hx; omega)
  rw [Int.toNat_natCast, bitLen_blen x (by unfold W32 at hx; omega)] at h
  exact h

theorem limbs_top {v : Nat} (h : 0 < v) : ∃ pre x, limbs v = pre ++ [x] ∧ x < W32 ∧ blen v = 32 * pre.length + blen x := by
  have hne : limbs v ≠ [] := fun e => by have := digs_eq_nil w32 e; omega
  refine ⟨(limbs v).dropLast, (limbs v).getLast hne, (List.dropLast_concat_getLast hne).symm, ok_limbs v _ (List.getLast_mem hne), ?_⟩
  exact blen_top (s := 32) (by decide) (List.dropLast_concat_getLast hne).symm

set_option maxRecDepth 100000 in
theorem bits_c (w : World) (A : Option Addr) (n c : Nat) (xs : List Nat) (h : Sl w A n (xs.map wv)) (o : OkB W32 xs) (hc : n ≤ c) (hm : c ≤ maxLen) (m1 : n ≤ 1000000000) :
    Calls Tryd.prog 71 #[.slice A n c] w fun e w' => e = .returned (.int .i64 (blen (val xs) : Nat)) ∧ w = w' := by
  have hn := norm_c w A n c xs h o hc hm
  have s1 := sl_norm h o
  have hle := limbs_len o
  have hl : xs.length = n := by simpa using h.1
  rw [hl] at hle
  rcases Nat.eq_zero_or_pos (val xs) with h0 | h0
  · rw [h0] at hn ⊢
    have HN := Lib.hid hn
    clear hn s1 hle hl h0
    go_enter Tryd.func71, Tryd.ntmps71
    go_wp2_with fail
    refine (HN.out).mono ?_
    rintro e w' ⟨rfl, rfl⟩
    have hz : (limbs 0).length = 0 := rfl
    rw [hz]
    go_wp2_with fail
    go_ret
    exact ⟨rfl, rfl⟩
  · obtain ⟨pre, x, e1, hx, e2⟩ := limbs_top h0
    rw [e1] at hn s1 hle
    rw [List.length_append, List.length_singleton] at hn s1 hle
    obtain ⟨P, hP⟩ : ∃ P, pre.length = P := ⟨_, rfl⟩
    rw [hP] at hn s1 hle e2
    obtain ⟨ad, y, rfl, hy, hcy⟩ := s1.word_ (show P < P + 1 by omega)
    rw [List.getElem?_append_right (by omega), hP, Nat.sub_self] at hy
    obtain rfl : x = y := by simpa using hy
    have hbl : blen x ≤ 32 := blen_small (by unfold W32 at hx; omega)
    have hl32 := len32_c w x hx
    have HN := Lib.hid hn
    have HL := Lib.hid hl32
    have HE := Lib.hid e2
    clear hn hl32 e2 e1 hP hl hy
    go_enter Tryd.func71, Tryd.ntmps71
    go_wp2_with fail
    refine (HN.out).mono ?_
    rintro e w' ⟨rfl, rfl⟩
    go_wp2_with fail
    refine (HL.out).mono ?_
    rintro e w' ⟨rfl, rfl⟩
    go_wp2_with fail
    go_ret
    exact ⟨by rw [HE.out]; simp, rfl⟩
theorem bits_n {w : World} {A : Option Addr} {n c v : Nat} (h : Num w A n c v) (m1 : n ≤ 1000000000) {r : Nat} (hr : blen v = r) :
    Calls Tryd.prog 71 #[.slice A n c] w fun e w' => e = .returned (.int .i64 (r : Int)) ∧ w = w' := by
  obtain ⟨xs, a1, b1, s1, o1, rfl⟩ := h
  subst hr
  exact bits_c w A n c xs s1 o1 a1 b1 m1
end Go.Proofs.YtfgnghgmffaepaaDoor
