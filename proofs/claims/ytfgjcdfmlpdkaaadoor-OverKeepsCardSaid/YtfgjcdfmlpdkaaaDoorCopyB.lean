/- copy(d, s) into a row of the call's own. Plain laws, no program. No condition. -/
import Derived.Test.YtfgjcdfmlpdkaaaDoorBase
import Derived.Laws.CopyOwn
namespace Go.Proofs.YtfgjcdfmlpdkaaaDoor
open Go.RowKit

theorem keeps_setRow (w : World) (g : Nat) (cs : Array Value) : Keeps (fun k => k = g) w (w.setRow g cs) :=
  ⟨rfl, rfl, rfl, by simp, fun k _ hn => setRow_other w g k cs hn⟩

theorem wpList_copy_front {P : Program} {w : World} {ops : Array Oper} {rest : List Oper} {o : Oper} {a : Act} {Q : Exit → Act → World → Prop} (hgd : o.guard = none) (d s : Operand) (dT sT : TypeId)
    (ho : o.op = .call { callee := .builtin .copy, args := #[d, s], argTypes := #[dT, sT] }) {e : TypeId} {z : Value} {bytes : Nat} (hT : ElemT P dT e z bytes)
    {base g N C : Nat} {xs : List Value} (hown : w.ownsRow base e 1 (.slice (some ⟨g, 0, none⟩) N C) N xs) (hd : a.eval d = .slice (some ⟨g, 0, none⟩) N C)
    {A : Option Addr} {n c : Nat} {ys : List Value} (hsl : Sl w A n ys) (hs : a.eval s = .slice A n c) (hn : n ≤ N) (h1 : ∀ v ∈ ys, v.oneCell' = true)
    (h : ∀ w', w'.ownsRow base e 1 (.slice (some ⟨g, 0, none⟩) N C) N (ys ++ xs.drop n) → Keeps (fun k => k = g) w w' → wpList P ops Q rest (a.put o.dst (goInt n)) w') :
    wpList P ops Q (o :: rest) a w := by
  have hsz : (P.info? e).map (·.size) = some 1 := by
    obtain ⟨i, hi, _, hz1, _⟩ := info_parts hT.info
    rw [hi]; simp [hz1]
  have hl : ys.length = n := hsl.1
  have hxl : xs.length = N := by simpa using hown.1
  rcases Nat.eq_zero_or_pos n with h0 | h0
  · subst h0
    obtain rfl : ys = [] := List.eq_nil_of_length_eq_zero hl
    refine wpList_copy_nothing hgd d s dT sT ho e hT.und hsz _ _ _ _ _ _ hd hs (by simp) ?_
    exact h w (by simpa using hown) (Keeps.refl _ _)
  · obtain ⟨ad, u, rfl, _, _⟩ := hsl.at_ h0
    rcases hown.2 with ⟨hv, _⟩ | ⟨g', cap, cur, hv, hb, hg, hnc, hcm, hsize, htake⟩
    · cases hv
    · injection hv with hA _ hcap
      injection hA with hA
      injection hA with hgg
      subst hgg hcap
      have hcl : N ≤ cur.size := by simp at hsize; omega
      refine wpList_copy_own hgd d s dT sT ho e hT.und hsz g 0 N C ad n c hd hs cur e hg ys (by rw [hl]; exact (Nat.min_eq_left hn).symm) (fun j v hj => by
        obtain ⟨ad', e', hc⟩ := hsl.2 j v hj
        cases e'; exact hc) (by omega) h1 ?_
      rw [hl]
      refine h _ ⟨by simp; omega, .inr ⟨g, C, _, rfl, hb, setRow_heap w g cur _ e _ hg, hnc, hcm, by simp; omega, ?_⟩⟩ (keeps_setRow _ _ _)
      rw [← htake]
      simp only [List.take_zero, List.nil_append, Nat.zero_add, List.size_toArray, Nat.mul_one]
      rw [List.take_append, hl, List.take_of_length_le (by omega), List.drop_take]
end Go.Proofs.YtfgjcdfmlpdkaaaDoor
