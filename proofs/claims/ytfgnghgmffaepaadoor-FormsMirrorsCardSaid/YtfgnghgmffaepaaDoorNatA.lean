/- Numbers in memory: what nat.norm, nat.From, nat.Add return. Condition: the limbs read from memory. -/
import Derived.Test.YtfgnghgmffaepaaDoorErr
import Derived.Test.YtfgnghgmffaepaaDoorNatP
import Derived.IntWalk
namespace Go.Proofs.YtfgnghgmffaepaaDoor
open Go.RowKit NatP

def wv (x : Nat) : Value := .int .u32 (x : Int)
abbrev W32 : Nat := 4294967296
def limbs (v : Nat) : List Nat := digs W32 v
def val (l : List Nat) : Nat := valB W32 l
theorem w32 : 2 ≤ W32 := by decide
theorem val_limbs (v : Nat) : val (limbs v) = v := val_digs w32 v
theorem ok_limbs (v : Nat) : OkB W32 (limbs v) := ok_digs w32 v
theorem limbs_len {xs : List Nat} (h : OkB W32 xs) : (limbs (val xs)).length ≤ xs.length := length_digs_le w32 h
theorem limbs_take {xs : List Nat} (h : OkB W32 xs) {m : Nat} (hm : m ≤ xs.length) (hz : ∀ j x, m ≤ j → xs[j]? = some x → x = 0) (hl : ∀ x, 0 < m → xs[m - 1]? = some x → x ≠ 0) : xs.take m = limbs (val xs) ∧ m = (limbs (val xs)).length := by
  have e := cut_eq w32 h hm hz hl
  refine ⟨e, ?_⟩
  unfold limbs val
  rw [← e, List.length_take, Nat.min_eq_left hm]

theorem own_take {w : World} {base e n c m : Nat} {A : Option Addr} {xs : List Value} (h : w.ownsRow base e 1 (.slice A n c) n xs) (hm : m ≤ n) : w.ownsRow base e 1 (.slice A m c) m (xs.take m) := by
  have hl : xs.length = n := by simpa using h.1
  refine ⟨by simp; omega, ?_⟩
  rcases h.2 with ⟨hv, hn⟩ | ⟨g, cap, cur, hv, hb, hg, hnc, hcm, hsz, htake⟩
  · injection hv with h1 h2 h3
    subst h1 h3 hn
    exact .inl ⟨by rw [show m = 0 from by omega], by omega⟩
  · injection hv with h1 h2 h3
    subst h1 h3
    refine .inr ⟨g, c, cur, rfl, hb, hg, by omega, hcm, hsz, ?_⟩
    rw [← htake, List.take_take]
    congr 1
    omega
theorem sl_take {w : World} {A : Option Addr} {n m : Nat} {xs : List Value} (h : Sl w A n xs) (hm : m ≤ n) : Sl w A m (xs.take m) := by
  refine ⟨by simp; have := h.1; omega, fun k v hv => ?_⟩
  rw [List.getElem?_take] at hv
  split at hv
  · exact h.2 k v hv
  · cases hv

set_option maxHeartbeats 400000 in
theorem norm_c (w : World) (A : Option Addr) (n c : Nat) (xs : List Nat) (h : Sl w A n (xs.map wv)) (ho : OkB W32 xs) (hc : n ≤ c) (hm : c ≤ maxLen) :
    Calls Tryd.prog 75 #[.slice A n c] w fun e w' => e = .returned (.slice A (limbs (val xs)).length c) ∧ w = w' := by
  unfold maxLen at hm
  have hl : xs.length = n := by simpa using h.1
  have HL := Lib.hid hl
  clear hl
  go_enter Tryd.func75, Tryd.ntmps75
  go_wp2_with fail
  go_loop [0] (fun a => ∃ m : Nat, m ≤ n ∧ a = .slice A m c ∧ ∀ (j x : Nat), m ≤ j → xs[j]? = some x → x = 0) (fun a => match a with | .slice _ k _ => k | _ => 0)
  case atStart => exact ⟨n, Nat.le_refl _, rfl, fun j x hj hx => by rw [List.getElem?_eq_none (by rw [HL.out]; exact hj)] at hx; cases hx⟩
  case round =>
    obtain ⟨m, hmn, rfl, hz⟩ := hrel
    have HZ := Lib.hid hz
    clear hz
    cases m with
    | zero =>
      have e := limbs_take ho (Nat.zero_le _) HZ.out (fun x h0 => absurd h0 (by omega))
      have E := Lib.hid e.2
      clear e
      go_wp2_with fail
      go_ret
      exact ⟨by rw [← E.out]; rfl, rfl⟩
    | succ k =>
      obtain ⟨ad, x, rfl, hxk, hcx⟩ := h.word_ (show k < n by omega)
      have HX := Lib.hid hxk
      clear hxk
      by_cases hx0 : x = 0
      · subst hx0
        have t : (((0 : Nat) : Int) == 0) = true := rfl
        go_wp2_with fail
        refine ⟨⟨k, by omega, rfl, fun j x hj hx => ?_⟩, Nat.lt_succ_self k⟩
        rcases Nat.lt_or_ge k j with hjk | hjk
        · exact HZ.out j x hjk hx
        · obtain rfl : j = k := by omega
          rw [HX.out] at hx
          exact (Option.some.inj hx).symm
      · have t : ((x : Int) == 0) = false := by simp; exact hx0
        have e := limbs_take ho (m := k + 1) (by rw [HL.out]; omega) HZ.out (fun y _ hy => by
          rw [Nat.add_sub_cancel, HX.out] at hy
          rw [← Option.some.inj hy]
          exact hx0)
        have E := Lib.hid e.2
        clear e hx0
        go_wp2_with fail
        go_ret
        exact ⟨by rw [← E.out]; rfl, rfl⟩

end Go.Proofs.YtfgnghgmffaepaaDoor
