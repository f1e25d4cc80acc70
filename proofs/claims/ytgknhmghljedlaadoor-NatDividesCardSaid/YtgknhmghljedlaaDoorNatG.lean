/- Numbers by their value: what the package's functions return, over slices that read as a number; the laws' helper long, nat.Sum. Condition: as said. -/
import Derived.Test.YtgknhmghljedlaaDoorNatLaw
namespace Go.Proofs.YtgknhmghljedlaaDoor
open Go.RowKit NatP

/-- The slice reads as limbs of value v. -/
def Num (w : World) (A : Option Addr) (n c v : Nat) : Prop := ∃ xs, n ≤ c ∧ c ≤ maxLen ∧ Sl w A n (xs.map wv) ∧ OkB W32 xs ∧ val xs = v
theorem Num.below {w w' : World} {A : Option Addr} {n c v : Nat} (h : Num w A n c v) (hb : Below w.heap.size w w') : Num w' A n c v := by
  obtain ⟨xs, h1, h2, h3, h4, h5⟩ := h
  exact ⟨xs, h1, h2, h3.below hb, h4, h5⟩
theorem Num.alloc {w : World} {A : Option Addr} {n c v : Nat} (h : Num w A n c v) (o : Obj) : Num (w.alloc o) A n c v := by
  obtain ⟨xs, h1, h2, h3, h4, h5⟩ := h
  exact ⟨xs, h1, h2, h3.alloc o, h4, h5⟩
theorem Num.nil (w : World) : Num w none 0 0 0 := ⟨[], Nat.le_refl _, Nat.zero_le _, Sl.nil _ _, fun x hx => by simp at hx, rfl⟩
theorem Num.lt {w : World} {A : Option Addr} {n c v : Nat} (h : Num w A n c v) : v < W32 ^ n := by
  obtain ⟨xs, h1, h2, h3, h4, h5⟩ := h
  rw [← h5]
  exact val_lt_pow h4 (by simpa using h3.1)
theorem Num.len {w : World} {A : Option Addr} {n c v : Nat} (h : Num w A n c v) : (limbs v).length ≤ n := limbs_len_of_lt _ _ h.lt
theorem limbs_add (v u k : Nat) (h1 : (limbs v).length ≤ k) (h2 : (limbs u).length ≤ k) : (limbs (v + u)).length ≤ k + 1 := by
  have a1 := val_lt w32 (ok_limbs v)
  have a2 := val_lt w32 (ok_limbs u)
  rw [show valB W32 (limbs v) = v from val_limbs v] at a1
  rw [show valB W32 (limbs u) = u from val_limbs u] at a2
  have b1 := Nat.pow_le_pow_right (show 0 < W32 by decide) h1
  have b2 := Nat.pow_le_pow_right (show 0 < W32 by decide) h2
  refine limbs_len_of_lt _ _ ?_
  rw [Nat.pow_succ]
  unfold W32 at *
  omega
theorem limbs_mul (v u k m : Nat) (h1 : (limbs v).length ≤ k) (h2 : (limbs u).length ≤ m) : (limbs (v * u)).length ≤ k + m := by
  have a1 := val_lt w32 (ok_limbs v)
  have a2 := val_lt w32 (ok_limbs u)
  rw [show valB W32 (limbs v) = v from val_limbs v] at a1
  rw [show valB W32 (limbs u) = u from val_limbs u] at a2
  have b1 := Nat.pow_le_pow_right (show 0 < W32 by decide) h1
  have b2 := Nat.pow_le_pow_right (show 0 < W32 by decide) h2
  refine limbs_len_of_lt _ _ ?_
  rw [Nat.pow_add]
  exact Nat.mul_lt_mul'' (Nat.lt_of_lt_of_le a1 b1) (Nat.lt_of_lt_of_le a2 b2)

/-- The answer is a new number, and memory is as it was. -/
def New (w : World) (v : Nat) (e : Ending) (w' : World) : Prop :=
  ∃ A c, e = .returned (.slice A (limbs v).length c) ∧ Num w' A (limbs v).length c v ∧ w'.ownsRow w.heap.size 37 1 (.slice A (limbs v).length c) (limbs v).length ((limbs v).map wv) ∧ Below w.heap.size w w'
theorem num_own {w : World} {base c v : Nat} {A : Option Addr} (h : w.ownsRow base 37 1 (.slice A (limbs v).length c) (limbs v).length ((limbs v).map wv)) : Num w A (limbs v).length c v := by
  obtain ⟨_, _, hv, h1, h2⟩ := own_slice h
  injection hv with hA _ hc
  subst hA hc
  exact ⟨limbs v, h1, h2, Sl.of_own h, ok_limbs v, val_limbs v⟩
theorem New.of {w : World} {v : Nat} {e : Ending} {w' : World} (h : NatIs w v e w') : New w v e w' := by
  obtain ⟨A, c, rfl, ho, hb⟩ := h
  exact ⟨A, c, rfl, num_own ho, ho, hb⟩

theorem add_n {w : World} {A B : Option Addr} {n c m d v u : Nat} (h1 : Num w A n c v) (h2 : Num w B m d u) (m1 : n ≤ 1000000000) (m2 : m ≤ 1000000000) {r : Nat} (hr : v + u = r) :
    Calls Tryd.prog 16 #[.slice A n c, .slice B m d] w fun e w' => New w r e w' := by
  obtain ⟨xs, _, _, s1, o1, rfl⟩ := h1
  obtain ⟨ys, _, _, s2, o2, rfl⟩ := h2
  subst hr
  exact (add_c w A B n m c d xs ys s1 s2 o1 o2 m1 m2).mono fun e w' h => New.of h
theorem mul_n {w : World} {A B : Option Addr} {n c m d v u : Nat} (h1 : Num w A n c v) (h2 : Num w B m d u) (m1 : n ≤ 1000000000) (m2 : m ≤ 1000000000) {r : Nat} (hr : v * u = r) :
    Calls Tryd.prog 17 #[.slice A n c, .slice B m d] w fun e w' => New w r e w' := by
  obtain ⟨xs, _, _, s1, o1, rfl⟩ := h1
  obtain ⟨ys, _, _, s2, o2, rfl⟩ := h2
  subst hr
  exact (mul_c w A B n m c d xs ys s1 s2 o1 o2 m1 m2).mono fun e w' h => New.of h
theorem cmp_n {w : World} {A B : Option Addr} {n c m d v u : Nat} (h1 : Num w A n c v) (h2 : Num w B m d u) {r : Int} (hr : cmpN v u = r) :
    Calls Tryd.prog 13 #[.slice A n c, .slice B m d] w fun e w' => e = .returned (.int .i64 r) ∧ Below w.heap.size w w' := by
  obtain ⟨xs, a1, b1, s1, o1, rfl⟩ := h1
  obtain ⟨ys, a2, b2, s2, o2, rfl⟩ := h2
  subst hr
  exact cmp_c w A B n m c d xs ys s1 s2 o1 o2 a1 b1 a2 b2
/-- Two answers of one value are limb for limb the same. -/
theorem nats_n {w : World} {A B : Option Addr} {c d v b1 b2 : Nat} {w1 : World} (h1 : w.ownsRow b1 37 1 (.slice A (limbs v).length c) (limbs v).length ((limbs v).map wv)) (h2 : w1.ownsRow b2 37 1 (.slice B (limbs v).length d) (limbs v).length ((limbs v).map wv)) (hb : Below w.heap.size w w1) :
    Calls Tryd.prog 18 #[.slice A (limbs v).length c, .slice B (limbs v).length d] w1 fun e w' => e = .returned (.bool true) ∧ Below w1.heap.size w1 w' := by
  obtain ⟨_, _, hv, a1, a2⟩ := own_slice h1
  injection hv with hA _ hc
  subst hA hc
  exact (nats_b w1 A B _ _ c d (limbs v) (limbs v) ((Sl.of_own h1).below hb) (Sl.of_own h2) (Nat.le_trans a1 a2)).mono fun e w' ⟨h, hb⟩ => ⟨by rw [h]; simp, hb⟩
theorem normal_n {w : World} {A : Option Addr} {c v : Nat} (h : Num w A (limbs v).length c v) (ho : ∃ w0 b, Below w0.heap.size w0 w ∧ w0.ownsRow b 37 1 (.slice A (limbs v).length c) (limbs v).length ((limbs v).map wv)) :
    Calls Tryd.prog 14 #[.slice A (limbs v).length c] w fun e w' => e = .returned (.bool true) ∧ w = w' := by
  obtain ⟨_, h1, h2, _⟩ := h
  obtain ⟨w0, b, hb, ho⟩ := ho
  exact normal_c w A c v ((Sl.of_own ho).below hb) (Nat.le_trans h1 h2)

/-- A list of slices, as values. -/
def slv (x : Option Addr × Nat × Nat) : Value := .slice x.1 x.2.1 x.2.2
set_option maxRecDepth 100000 in
theorem long_c (w : World) (L : Option Addr) (n c : Nat) (R : List (Option Addr × Nat × Nat)) (h : Sl w L n (R.map slv)) (hn : n ≤ 1000) (hm : ∀ x ∈ R, x.2.1 ≤ maxLen) :
    Calls Tryd.prog 15 #[.slice L n c] w fun e w' => e = .returned (.bool (R.any fun x => decide (400 < x.2.1))) ∧ w = w' := by
  have hl : R.length = n := by simpa using h.1
  have HL := Lib.hid hl
  have HM := Lib.hid hm
  clear hl hm
  go_enter Tryd.func15, Tryd.ntmps15
  go_wp2_with fail
  go_loop [3] (fun i => ∃ k : Nat, k ≤ n ∧ i = .int .i64 (k : Int) ∧ Hid (∀ x ∈ R.take k, ¬ 400 < x.2.1)) (fun i => n - (intOf i).toNat)
  case atStart => exact ⟨0, Nat.zero_le _, rfl, Lib.hid (fun x hx => by simp at hx)⟩
  case round =>
    obtain ⟨k, hk, rfl, hs⟩ := hrel
    by_cases hlt : k < n
    · obtain ⟨ad, u, rfl, hxk, hcx⟩ := h.at_ hlt
      rw [List.getElem?_map] at hxk
      cases hR : R[k]? with
      | none => rw [hR] at hxk; cases hxk
      | some x =>
        obtain ⟨A, m, cc⟩ := x
        rw [hR] at hxk
        obtain rfl := Option.some.inj hxk
        simp only [slv] at hcx
        have hm := HM.out _ (List.mem_of_getElem? hR)
        by_cases h4 : 400 < m
        · have hd : decide ((400 : Int) < (m : Int)) = true := decide_eq_true (by omega)
          have ha : Hid ((R.any fun x => decide (400 < x.2.1)) = true) := Lib.hid (List.any_eq_true.2 ⟨_, List.mem_of_getElem? hR, decide_eq_true h4⟩)
          clear hR hxk
          go_wp2_with fail
          go_ret
          exact ⟨by rw [ha.out]; rfl, rfl⟩
        · have hd : decide ((400 : Int) < (m : Int)) = false := decide_eq_false (by omega)
          have hs2 : Hid (∀ x ∈ R.take (k + 1), ¬ 400 < x.2.1) := Lib.hid (by
            intro x hx
            rw [List.take_add_one, hR] at hx
            rcases List.mem_append.1 hx with h | h
            · exact hs.out x h
            · simp at h; subst h; exact h4)
          clear hR hxk hs h4
          go_wp2_with fail
          exact ⟨⟨k + 1, by omega, by go_num, hs2⟩, by simp [intOf]; omega⟩
    · have ha : Hid ((R.any fun x => decide (400 < x.2.1)) = false) := Lib.hid (by
        rw [List.any_eq_false]
        intro x hx
        have := hs.out x (by rw [List.take_of_length_le (by rw [HL.out]; omega)]; exact hx)
        simpa using this)
      clear hs
      go_wp2_with fail
      go_ret
      exact ⟨by rw [ha.out]; rfl, rfl⟩

end Go.Proofs.YtgknhmghljedlaaDoor
