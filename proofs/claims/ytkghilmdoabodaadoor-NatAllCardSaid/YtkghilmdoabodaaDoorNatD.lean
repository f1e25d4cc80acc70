/- Numbers compared: what nat.Cmp and edenraw.Nats return; nat.Fits, nat.From. Condition: the limbs read from memory. -/
import Derived.Test.YtkghilmdoabodaaDoorNatB
import Derived.BigQuiet
namespace Go.Proofs.YtkghilmdoabodaaDoor
open Go.RowKit NatP

theorem sl_norm {w : World} {A : Option Addr} {n : Nat} {xs : List Nat} (h : Sl w A n (xs.map wv)) (ho : OkB W32 xs) : Sl w A (limbs (val xs)).length ((limbs (val xs)).map wv) := by
  have hl : xs.length = n := by simpa using h.1
  obtain ⟨m, hm, hz, hl'⟩ : ∃ m, m ≤ xs.length ∧ (∀ j x, m ≤ j → xs[j]? = some x → x = 0) ∧ (∀ x, 0 < m → xs[m - 1]? = some x → x ≠ 0) := cut_ex xs
  obtain ⟨e1, e2⟩ := limbs_take ho hm hz hl'
  have e3 : (xs.map wv).take (limbs (val xs)).length = (limbs (val xs)).map wv := by rw [← List.map_take, ← e2, e1]
  have ht := sl_take h (m := (limbs (val xs)).length) (by have := limbs_len ho; omega)
  rw [e3] at ht
  exact ht
theorem limbs_len_of_lt : ∀ (k v : Nat), v < W32 ^ k → (limbs v).length ≤ k := by
  intro k
  induction k with
  | zero => intro v h; have : v = 0 := by simpa using h
            subst this; simp [limbs, digs_zero]
  | succ k ih =>
    intro v h
    rcases Nat.eq_zero_or_pos v with rfl | hv
    · simp [limbs, digs_zero]
    · unfold limbs at *
      rw [digs_pos w32 hv, List.length_cons]
      have : v / W32 < W32 ^ k := Nat.div_lt_of_lt_mul (by rw [Nat.mul_comm, ← Nat.pow_succ]; exact h)
      have := ih _ this
      omega
theorem lt_of_len {v u : Nat} (h : (limbs v).length < (limbs u).length) : v < u := by
  rcases Nat.lt_or_ge v u with h1 | h1
  · exact h1
  · have h2 : v < W32 ^ (limbs v).length := by
      have := val_lt w32 (ok_limbs v)
      rwa [show valB W32 (limbs v) = v from val_limbs v] at this
    have := limbs_len_of_lt (limbs v).length u (by omega)
    omega
theorem lt_at {xs ys : List Nat} (ox : OkB W32 xs) (k : Nat) {x y : Nat} (hx : xs[k]? = some x) (hy : ys[k]? = some y) (hd : xs.drop (k + 1) = ys.drop (k + 1)) (h : x < y) : val xs < val ys := by
  have hkx : k < xs.length := (List.getElem?_eq_some_iff.1 hx).1
  have hky : k < ys.length := (List.getElem?_eq_some_iff.1 hy).1
  have part : ∀ (l : List Nat) (z : Nat), l[k]? = some z → val l = val (l.take k) + W32 ^ k * (z + W32 * val (l.drop (k + 1))) := by
    intro l z hz
    have hk : k < l.length := (List.getElem?_eq_some_iff.1 hz).1
    have e : l = l.take k ++ z :: l.drop (k + 1) := by
      have := List.drop_eq_getElem_cons hk
      have hz' : l[k] = z := (List.getElem?_eq_some_iff.1 hz).2
      rw [hz'] at this
      rw [← this, List.take_append_drop]
    have e2 := congrArg (valB W32) e
    rw [val_append, List.length_take, Nat.min_eq_left (Nat.le_of_lt hk)] at e2
    exact e2
  have e1 := part xs x hx
  have e2 := part ys y hy
  have e3 : val (xs.take k) < W32 ^ k := by
    have := val_lt w32 (ok_take ox k)
    rwa [List.length_take, Nat.min_eq_left (Nat.le_of_lt hkx)] at this
  rw [hd] at e1
  have e4 : W32 ^ k * (x + W32 * val (ys.drop (k + 1)) + 1) ≤ W32 ^ k * (y + W32 * val (ys.drop (k + 1))) := Nat.mul_le_mul (Nat.le_refl _) (by omega)
  rw [Nat.mul_add _ _ 1, Nat.mul_one] at e4
  omega

/-- How two numbers compare. -/
def cmpN (v u : Nat) : Int := if v < u then -1 else if u < v then 1 else 0
theorem cmpN_lt {v u : Nat} (h : v < u) : cmpN v u = -1 := if_pos h
theorem cmpN_gt {v u : Nat} (h : u < v) : cmpN v u = 1 := by unfold cmpN; rw [if_neg (by omega), if_pos h]
theorem cmpN_eq (v : Nat) : cmpN v v = 0 := by unfold cmpN; simp

theorem drop_eq_cons {l m : List Nat} {k x : Nat} (hl : l[k]? = some x) (hm : m[k]? = some x) (h : l.drop (k + 1) = m.drop (k + 1)) : l.drop k = m.drop k := by
  obtain ⟨h1, e1⟩ := List.getElem?_eq_some_iff.1 hl
  obtain ⟨h2, e2⟩ := List.getElem?_eq_some_iff.1 hm
  rw [List.drop_eq_getElem_cons h1, List.drop_eq_getElem_cons h2, e1, e2, h]

set_option maxRecDepth 100000 in
set_option maxHeartbeats 1000000 in
theorem cmp_c (w : World) (A1 A2 : Option Addr) (n1 n2 c1 c2 : Nat) (xs ys : List Nat) (h1 : Sl w A1 n1 (xs.map wv)) (h2 : Sl w A2 n2 (ys.map wv)) (o1 : OkB W32 xs) (o2 : OkB W32 ys) (a1 : n1 ≤ c1) (b1 : c1 ≤ maxLen) (a2 : n2 ≤ c2) (b2 : c2 ≤ maxLen) :
    Calls Tryd.prog 14 #[.slice A1 n1 c1, .slice A2 n2 c2] w fun e w' => e = .returned (.int .i64 (cmpN (val xs) (val ys))) ∧ Below w.heap.size w w' := by
  have s1 := sl_norm h1 o1
  have s2 := sl_norm h2 o2
  have hn1 := norm_c w A1 n1 c1 xs h1 o1 a1 b1
  have hn2 := norm_c w A2 n2 c2 ys h2 o2 a2 b2
  have e1 := val_limbs (val xs)
  have e2 := val_limbs (val ys)
  have q1 := ok_limbs (val xs)
  have q2 := ok_limbs (val ys)
  have hlt := @lt_of_len (val xs) (val ys)
  have hgt := @lt_of_len (val ys) (val xs)
  have k1 : (limbs (val xs)).length ≤ maxLen := by have := limbs_len o1; have : xs.length = n1 := by simpa using h1.1
                                                   omega
  unfold maxLen at k1
  clear h1 h2
  generalize limbs (val xs) = us at *
  generalize limbs (val ys) = vs at *
  obtain ⟨N1, hN1⟩ : ∃ N1, us.length = N1 := ⟨_, rfl⟩
  obtain ⟨N2, hN2⟩ : ∃ N2, vs.length = N2 := ⟨_, rfl⟩
  rw [hN1] at s1 hn1 hlt hgt k1
  rw [hN2] at s2 hn2 hlt hgt
  have HN1 := Lib.hid hn1
  have HN2 := Lib.hid hn2
  have HL1 := Lib.hid hN1
  have HL2 := Lib.hid hN2
  have E1 := Lib.hid e1
  have E2 := Lib.hid e2
  clear hn1 hn2 hN1 hN2 e1 e2
  rcases Nat.lt_trichotomy N1 N2 with hc | hc | hc
  · have hv := cmpN_lt (hlt hc)
    have HV := Lib.hid hv
    have hne : ((N1 : Int) != (N2 : Int)) = true := by simp; omega
    have hdec : decide (N1 < N2) = true := decide_eq_true hc
    clear hv hlt hgt
    go_enter Tryd.func14, Tryd.ntmps14
    go_wp2_with fail
    refine (HN1.out).mono ?_
    rintro e w1 ⟨rfl, rfl⟩
    go_wp2_with fail
    refine (HN2.out).mono ?_
    rintro e w1 ⟨rfl, rfl⟩
    go_wp2_with fail
    go_ret
    exact ⟨by rw [HV.out]; rfl, Below.refl _ _⟩
  · subst hc
    have hne : ((N1 : Int) != (N1 : Int)) = false := by simp
    clear hlt hgt
    go_enter Tryd.func14, Tryd.ntmps14
    go_wp2_with fail
    refine (HN1.out).mono ?_
    rintro e w1 ⟨rfl, rfl⟩
    go_wp2_with fail
    refine (HN2.out).mono ?_
    rintro e w1 ⟨rfl, rfl⟩
    go_wp2_with fail
    go_loopw [5] (fun i wr => ∃ (m : Nat) (z : Int), m ≤ N1 ∧ i = .int .i64 z ∧ z = (m : Int) - 1 ∧ Hid (us.drop m = vs.drop m) ∧ Below w.heap.size w wr) (fun i _ => (intOf i + 1).toNat)
    case atStart => exact ⟨N1, _, Nat.le_refl _, rfl, rfl, Lib.hid (by rw [List.drop_of_length_le (by rw [HL1.out]; exact Nat.le_refl _), List.drop_of_length_le (by rw [HL2.out]; exact Nat.le_refl _)]), Below.refl _ _⟩
    case round =>
      obtain ⟨m, z, hm, rfl, hz, hd, hb⟩ := hrel
      cases m with
      | zero =>
        obtain rfl : z = -1 := by omega
        clear hz
        have hge : decide ((0 : Int) ≤ -1) = false := by decide
        have he : us = vs := by have := hd.out; simpa using this
        go_wp2_with fail
        go_ret
        refine ⟨?_, hb⟩
        rw [← E1.out, ← E2.out, he, cmpN_eq]; rfl
      | succ k =>
        obtain rfl : z = (k : Int) := by omega
        clear hz
        obtain ⟨ad, x, rfl, hxk, hcx⟩ := (s1.below hb).word_ (show k < N1 by omega)
        obtain ⟨ad2, y, rfl, hyk, hcy⟩ := (s2.below hb).word_ (show k < N1 by omega)
        rcases Nat.lt_trichotomy x y with hxy | hxy | hxy
        · have hlt := lt_at q1 k hxk hyk hd.out hxy
          rw [E1.out, E2.out] at hlt
          have HV := Lib.hid (cmpN_lt hlt)
          have hdec : decide ((x : Int) < (y : Int)) = true := decide_eq_true (by omega)
          clear hlt hxk hyk
          go_wp2_with (go_quiet (fail))
          all_goals go_ret
          all_goals exact ⟨by rw [HV.out]; rfl, by first | exact below_drewN hb _ | exact below_drewN (below_drewN hb _) _⟩
        · subst hxy
          have hd2 := Lib.hid (drop_eq_cons hxk hyk hd.out)
          have hdec : decide ((x : Int) < (x : Int)) = false := decide_eq_false (by omega)
          clear hxk hyk hd
          go_wp2_with (go_quiet (fail))
          all_goals exact ⟨⟨k, _, by omega, rfl, by omega, hd2, by first | exact below_drewN hb _ | exact below_drewN (below_drewN hb _) _⟩, by simp [intOf]⟩
        · have hgt := lt_at q2 k hyk hxk hd.out.symm hxy
          rw [E1.out, E2.out] at hgt
          have HV := Lib.hid (cmpN_gt hgt)
          have hdec : decide ((x : Int) < (y : Int)) = false := decide_eq_false (by omega)
          have hdec2 : decide ((y : Int) < (x : Int)) = true := decide_eq_true (by omega)
          clear hgt hxk hyk
          go_wp2_with (go_quiet (fail))
          all_goals go_ret
          all_goals exact ⟨by rw [HV.out]; rfl, by first | exact below_drewN hb _ | exact below_drewN (below_drewN hb _) _⟩
  · have hv := cmpN_gt (hgt hc)
    have HV := Lib.hid hv
    have hne : ((N1 : Int) != (N2 : Int)) = true := by simp; omega
    have hdec : decide (N1 < N2) = false := decide_eq_false (by omega)
    clear hv hlt hgt
    go_enter Tryd.func14, Tryd.ntmps14
    go_wp2_with fail
    refine (HN1.out).mono ?_
    rintro e w1 ⟨rfl, rfl⟩
    go_wp2_with fail
    refine (HN2.out).mono ?_
    rintro e w1 ⟨rfl, rfl⟩
    go_wp2_with fail
    go_ret
    exact ⟨by rw [HV.out]; rfl, Below.refl _ _⟩

end Go.Proofs.YtkghilmdoabodaaDoor
