/- Numbers by their value: what the package's functions return, over slices that read as a number. Condition: as said. -/
import Derived.Test.YtfgnghgmffaepaaDoorParse
namespace Go.Proofs.YtfgnghgmffaepaaDoor
open Go.RowKit NatP

theorem val_lt_pow {n : Nat} {xs : List Nat} (h : OkB W32 xs) (hl : xs.length = n) : val xs < W32 ^ n := by
  have := val_lt w32 h
  rwa [hl] at this
theorem limbs_zero {v : Nat} (h : (limbs v).length = 0) : v = 0 := by
  have : limbs v = [] := List.length_eq_zero_iff.1 h
  exact digs_eq_nil w32 this
theorem limbs_div_le (v d : Nat) : (limbs (v / d)).length ≤ (limbs v).length := by
  have h1 := val_lt w32 (ok_limbs v)
  have h2 : valB W32 (limbs v) = v := val_limbs v
  rw [h2] at h1
  exact limbs_len_of_lt _ _ (Nat.lt_of_le_of_lt (Nat.div_le_self _ _) h1)
theorem limbs_of {l : List Nat} (ho : OkB W32 l) (hn : Norm l) {v : Nat} (h : val l = v) : limbs v = l := by
  rw [← h]; exact digs_val w32 ho hn
theorem lit_words (w : World) (xs : List Nat) (n : Nat) (h : xs.length = n) (hn : n ≤ maxLen) (e : TypeId) : Sl (w.alloc (.cells (xs.map wv).toArray e)) (some ⟨w.heap.size, 0, none⟩) n (xs.map wv) :=
  Sl.of_own (World.ownsRow_lit (base := 0) (e := e) (size := 1) w (xs.map wv).toArray n (Nat.zero_le _) hn (by simp [h]))
/-- The slice reads as limbs of value v. -/
def Num (w : World) (A : Option Addr) (n c v : Nat) : Prop := ∃ xs, n ≤ c ∧ c ≤ maxLen ∧ Sl w A n (xs.map wv) ∧ OkB W32 xs ∧ val xs = v
theorem Num.below {w w' : World} {A : Option Addr} {n c v : Nat} (h : Num w A n c v) (hb : Below w.heap.size w w') : Num w' A n c v := by
  obtain ⟨xs, h1, h2, h3, h4, h5⟩ := h
  exact ⟨xs, h1, h2, h3.below hb, h4, h5⟩
theorem Num.alloc {w : World} {A : Option Addr} {n c v : Nat} (h : Num w A n c v) (o : Obj) : Num (w.alloc o) A n c v := by
  obtain ⟨xs, h1, h2, h3, h4, h5⟩ := h
  exact ⟨xs, h1, h2, h3.alloc o, h4, h5⟩
theorem Num.nil (w : World) : Num w none 0 0 0 := ⟨[], Nat.le_refl _, Nat.zero_le _, Sl.nil _ _, fun x hx => by simp at hx, rfl⟩
theorem Num.lt {w : World} {A : Option Addr} {n c v : Nat} (h : Num w A n c v) : v < W32 ^ n := by
  obtain ⟨xs, h1, h2, h3, h4, h5⟩ := h
  rw [← h5]
  exact val_lt_pow h4 (by simpa using h3.1)
theorem Num.len {w : World} {A : Option Addr} {n c v : Nat} (h : Num w A n c v) : (limbs v).length ≤ n := limbs_len_of_lt _ _ h.lt
theorem limbs_add (v u k : Nat) (h1 : (limbs v).length ≤ k) (h2 : (limbs u).length ≤ k) : (limbs (v + u)).length ≤ k + 1 := by
  have a1 := val_lt w32 (ok_limbs v)
  have a2 := val_lt w32 (ok_limbs u)
  rw [show valB W32 (limbs v) = v from val_limbs v] at a1
  rw [show valB W32 (limbs u) = u from val_limbs u] at a2
  have b1 := Nat.pow_le_pow_right (show 0 < W32 by decide) h1
  have b2 := Nat.pow_le_pow_right (show 0 < W32 by decide) h2
  refine limbs_len_of_lt _ _ ?_
  rw [Nat.pow_succ]
  unfold W32 at *
  omega
theorem limbs_mul (v u k m : Nat) (h1 : (limbs v).length ≤ k) (h2 : (limbs u).length ≤ m) : (limbs (v * u)).length ≤ k + m := by
  have a1 := val_lt w32 (ok_limbs v)
  have a2 := val_lt w32 (ok_limbs u)
  rw [show valB W32 (limbs v) = v from val_limbs v] at a1
  rw [show valB W32 (limbs u) = u from val_limbs u] at a2
  have b1 := Nat.pow_le_pow_right (show 0 < W32 by decide) h1
  have b2 := Nat.pow_le_pow_right (show 0 < W32 by decide) h2
  refine limbs_len_of_lt _ _ ?_
  rw [Nat.pow_add]
  exact Nat.mul_lt_mul'' (Nat.lt_of_lt_of_le a1 b1) (Nat.lt_of_lt_of_le a2 b2)
/-- The answer is a new number, and memory is as it was. -/
def New (w : World) (v : Nat) (e : Ending) (w' : World) : Prop :=
  ∃ A c, e = .returned (.slice A (limbs v).length c) ∧ Num w' A (limbs v).length c v ∧ w'.ownsRow w.heap.size 109 1 (.slice A (limbs v).length c) (limbs v).length ((limbs v).map wv) ∧ Below w.heap.size w w'
theorem num_own {w : World} {base c v : Nat} {A : Option Addr} (h : w.ownsRow base 109 1 (.slice A (limbs v).length c) (limbs v).length ((limbs v).map wv)) : Num w A (limbs v).length c v := by
  obtain ⟨_, _, hv, h1, h2⟩ := own_slice h
  injection hv with hA _ hc
  subst hA hc
  exact ⟨limbs v, h1, h2, Sl.of_own h, ok_limbs v, val_limbs v⟩
theorem New.of {w : World} {v : Nat} {e : Ending} {w' : World} (h : NatIs w v e w') : New w v e w' := by
  obtain ⟨A, c, rfl, ho, hb⟩ := h
  exact ⟨A, c, rfl, num_own ho, ho, hb⟩
theorem add_n {w : World} {A B : Option Addr} {n c m d v u : Nat} (h1 : Num w A n c v) (h2 : Num w B m d u) (m1 : n ≤ 1000000000) (m2 : m ≤ 1000000000) {r : Nat} (hr : v + u = r) :
    Calls Tryd.prog 68 #[.slice A n c, .slice B m d] w fun e w' => New w r e w' := by
  obtain ⟨xs, _, _, s1, o1, rfl⟩ := h1
  obtain ⟨ys, _, _, s2, o2, rfl⟩ := h2
  subst hr
  exact (add_c w A B n m c d xs ys s1 s2 o1 o2 m1 m2).mono fun e w' h => New.of h
theorem mul_n {w : World} {A B : Option Addr} {n c m d v u : Nat} (h1 : Num w A n c v) (h2 : Num w B m d u) (m1 : n ≤ 1000000000) (m2 : m ≤ 1000000000) {r : Nat} (hr : v * u = r) :
    Calls Tryd.prog 69 #[.slice A n c, .slice B m d] w fun e w' => New w r e w' := by
  obtain ⟨xs, _, _, s1, o1, rfl⟩ := h1
  obtain ⟨ys, _, _, s2, o2, rfl⟩ := h2
  subst hr
  exact (mul_c w A B n m c d xs ys s1 s2 o1 o2 m1 m2).mono fun e w' h => New.of h
/-- A list of slices, as values. -/
def slv (x : Option Addr × Nat × Nat) : Value := .slice x.1 x.2.1 x.2.2
theorem lit_slices (w : World) (R : List (Option Addr × Nat × Nat)) (n : Nat) (h : R.length = n) (hn : n ≤ maxLen) (e : TypeId) : Sl (w.alloc (.cells (R.map slv).toArray e)) (some ⟨w.heap.size, 0, none⟩) n (R.map slv) :=
  Sl.of_own (World.ownsRow_lit (base := 0) (e := e) (size := 1) w (R.map slv).toArray n (Nat.zero_le _) hn (by simp [h]))
theorem below_call1 {w w1 w2 : World} {o : Obj} (b1 : Below w.heap.size w w1) (h : Below (w1.alloc o).heap.size (w1.alloc o) w2) : Below w.heap.size w w2 :=
  b1.trans (((Below.refl _ _).alloc b1.size _).trans (h.mono (by simp; exact Nat.le_succ_of_le b1.size)))
theorem num_lit (w : World) {x : Nat} (h : x < W32) (e : TypeId) : Num (w.alloc (.cells #[.int .u32 (x : Int)] e)) (some ⟨w.heap.size, 0, none⟩) 1 1 x :=
  ⟨[x], Nat.le_refl _, by decide, lit_word w x e, ok_one h, val_one x⟩
theorem cmpN_neg (v u : Nat) : -cmpN u v = cmpN v u := by unfold cmpN; split <;> split <;> omega
theorem len_zero (v : Nat) : (limbs v).length = 0 ↔ v = 0 := ⟨limbs_zero, fun h => by subst h; rfl⟩
end Go.Proofs.YtfgnghgmffaepaaDoor
