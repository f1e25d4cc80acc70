/- The plain law of WholeOnto. Plain laws, no program. -/
import Derived.Test.YtibplgpolmplpaaGreatDoorW22
import Derived.Test.YtibplgpolmplpaaGreatDoorW23
namespace Go.Proofs.YtibplgpolmplpaaGreatDoor
open RuleP SubP

theorem cmpL_anti : ∀ (a b : List Nat), cmpL b a = - cmpL a b
  | [], [] => rfl
  | [], _ :: _ => rfl
  | _ :: _, [] => rfl
  | x :: a, y :: b => by
    rw [cmpL, cmpL]
    rcases Nat.lt_trichotomy x y with h | h | h
    · rw [if_neg (by omega), if_pos h, if_pos h]; rfl
    · subst h
      rw [if_neg (by omega), if_neg (by omega), if_neg (by omega), if_neg (by omega)]
      exact cmpL_anti a b
    · rw [if_pos h, if_neg (by omega), if_pos h]
theorem cmpL_self : ∀ (a : List Nat), cmpL a a = 0
  | [] => rfl
  | x :: a => by rw [cmpL, if_neg (by omega), if_neg (by omega)]; exact cmpL_self a
theorem wval_inj {k : Nat} (hk : 0 < k) {a b : List Nat} (hl : a.length = b.length) (ha : ∀ x ∈ a, x < k) (hb : ∀ x ∈ b, x < k) (h : wval k a = wval k b) : a = b := by
  rw [← digB_wval hk a.length a rfl ha, ← digB_wval hk a.length b hl.symm hb, h]
theorem cmpW_slt {k : Nat} (hk : 0 < k) {y x : List Nat} (hy : ∀ s ∈ y, s < k) (hx : ∀ s ∈ x, s < k) (h : cmpW y x < 0) : Slt k y x := by
  unfold cmpW at h
  split at h
  · rename_i h1; exact .inl h1
  · split at h
    · omega
    · rename_i h1 h2
      have hl : y.length = x.length := by omega
      refine .inr ⟨hl, ?_⟩
      rcases Nat.lt_trichotomy (wval k y) (wval k x) with h3 | h3 | h3
      · exact h3
      · rw [wval_inj hk hl hy hx h3, cmpL_self] at h
        omega
      · have := cmpL_lt hl.symm hx hy h3
        rw [cmpL_anti] at this
        omega
theorem walk_over {k N : Nat} {t : List Nat} (hN : 0 < N) (h : fin k N t true = .over) : fin k N t false = .over := by
  cases hf : fin k N t false with
  | over => rfl
  | go S row => exact (fin_not_over hf h).elim
  | orphan x =>
    obtain ⟨i, c, S, row, P, Q, _, _, _, h1⟩ := round_orphan hN hf
    have := (sym_orphan h1).2.1
    cases this
theorem drop_slt {k : Nat} {x : List Nat} (h : x ≠ []) : Slt k (x.take (x.length - 1)) x := .inl (by
  have : 0 < x.length := List.length_pos_iff.2 h
  rw [List.length_take]
  omega)
end Go.Proofs.YtibplgpolmplpaaGreatDoor
