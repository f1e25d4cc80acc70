/- The call of NatRing: it returns true. Condition: its three numbers read from memory; the error variables hold what E says. -/
import Derived.Test.YtkghilmdoabodaaDoorNatG
namespace Go.Proofs.YtkghilmdoabodaaDoor
open Go.RowKit NatP

/-- The sum of the values of a list. -/
def sumV (R : List ((Option Addr × Nat × Nat) × Nat)) : Nat := (R.map (·.2)).foldr (· + ·) 0
theorem sumV_snoc (R : List ((Option Addr × Nat × Nat) × Nat)) (x : (Option Addr × Nat × Nat) × Nat) : sumV (R ++ [x]) = sumV R + x.2 := by
  unfold sumV
  induction R with
  | nil => simp
  | cons y R ih => simp only [List.cons_append, List.map_cons, List.foldr_cons]; rw [ih]; omega

set_option maxRecDepth 100000 in
set_option maxHeartbeats 1000000 in
theorem sum_c (w : World) (L : Option Addr) (n c : Nat) (R : List ((Option Addr × Nat × Nat) × Nat)) (h : Sl w L n (R.map fun x => slv x.1)) (hn : n ≤ 1000) (hR : ∀ x ∈ R, Num w x.1.1 x.1.2.1 x.1.2.2 x.2 ∧ x.1.2.1 ≤ 1000000) :
    Calls Tryd.prog 43 #[.slice L n c] w fun e w' => New w (sumV R) e w' := by
  have hl : R.length = n := by simpa using h.1
  have HL := Lib.hid hl
  have HR := Lib.hid hR
  clear hl hR
  go_enter Tryd.func43, Tryd.ntmps43
  go_wp2_with fail
  go_loopw [3, 8] (fun s i wr => ∃ (k cc : Nat) (B : Option Addr), k ≤ n ∧ i = .int .i64 (k : Int) ∧ s = .slice B (limbs (sumV (R.take k))).length cc ∧ (limbs (sumV (R.take k))).length ≤ 1000000 + k ∧ wr.ownsRow w.heap.size 27 1 (.slice B (limbs (sumV (R.take k))).length cc) (limbs (sumV (R.take k))).length ((limbs (sumV (R.take k))).map wv) ∧ Below w.heap.size w wr) (fun _ i _ => n - (intOf i).toNat)
  case atStart => exact ⟨0, 0, none, Nat.zero_le _, rfl, rfl, Nat.zero_le _, ⟨rfl, .inl ⟨rfl, rfl⟩⟩, Below.refl _ _⟩
  case round =>
    obtain ⟨k, cc, B, hk, rfl, rfl, hlen, hown, hb⟩ := hrel
    by_cases hlt : k < n
    · obtain ⟨ad, u, rfl, hxk, hcx⟩ := (h.below hb).at_ hlt
      rw [List.getElem?_map] at hxk
      cases hRk : R[k]? with
      | none => rw [hRk] at hxk; cases hxk
      | some x =>
        obtain ⟨⟨A, m, d⟩, v⟩ := x
        rw [hRk] at hxk
        obtain rfl := Option.some.inj hxk
        simp only [slv] at hcx
        obtain ⟨hx, hm⟩ := HR.out _ (List.mem_of_getElem? hRk)
        simp only at hx hm
        have hs : sumV (R.take (k + 1)) = sumV (R.take k) + v := by rw [List.take_add_one, hRk]; exact sumV_snoc _ _
        have hadd := add_n (num_own hown) (hx.below hb) (by omega) (by omega) (r := sumV (R.take (k + 1))) hs.symm
        have hl2 : (limbs (sumV (R.take (k + 1)))).length ≤ 1000000 + (k + 1) := by
          rw [hs]
          exact limbs_add _ _ (1000000 + k) hlen (by have := hx.len; omega)
        have HADD := Lib.hid hadd
        have HL2 := Lib.hid hl2
        clear hs hadd hRk hxk hl2
        go_wp2_with fail
        refine (HADD.out).mono ?_
        rintro e w2 ⟨A2, c2, rfl, _, ho2, hb2⟩
        have hb3 := hb.trans (hb2.mono hb.size)
        have ho3 := own_base ho2 hb.size
        go_wp2_with fail
        exact ⟨⟨k + 1, c2, A2, by omega, by go_num, rfl, HL2.out, ho3, hb3⟩, by simp [intOf]; omega⟩
    · obtain rfl : k = n := by omega
      rw [List.take_of_length_le (by rw [HL.out]; exact Nat.le_refl _)] at hown hlen ⊢
      go_wp2_with fail
      go_ret
      exact ⟨B, cc, rfl, num_own hown, hown, hb⟩


theorem long_b (w : World) (R : List (Option Addr × Nat × Nat)) (n : Nat) (hl : R.length = n) (hn : n ≤ 1000) (hm : ∀ x ∈ R, x.2.1 ≤ maxLen) (e : TypeId) {r : Bool} (hr : (R.any fun x => decide (400 < x.2.1)) = r) :
    Calls Tryd.prog 6 #[.slice (some ⟨w.heap.size, 0, none⟩) n n] (w.alloc (.cells (R.map slv).toArray e)) fun e' w' => e' = .returned (.bool r) ∧ Below (w.alloc (.cells (R.map slv).toArray e)).heap.size (w.alloc (.cells (R.map slv).toArray e)) w' := by
  subst hr
  exact (long_c _ _ n n R (lit_slices w R n hl (by unfold maxLen; omega) e) (by omega) hm).mono fun e' w' ⟨h1, h2⟩ => ⟨h1, by rw [← h2]; exact Below.refl _ _⟩

end Go.Proofs.YtkghilmdoabodaaDoor
