/- A number's digits: edenref04.Digits. No condition. -/
import Derived.Test.YtfgjcdfmlpdkaaaDoorRuleS
import Derived.Test.YtfgjcdfmlpdkaaaDoorCopyM
namespace Go.Proofs.YtfgjcdfmlpdkaaaDoor
open Go.RowKit RuleP

namespace RuleP
theorem digB_cons (k j x : Nat) : digB k (j + 1) x = (x / k ^ j % k) :: digB k j x := by
  induction j generalizing x with
  | zero => simp [digB]
  | succ j ih =>
    rw [show digB k (j + 1 + 1) x = digB k (j + 1) (x / k) ++ [x % k] from rfl, ih, show digB k (j + 1) x = digB k j (x / k) ++ [x % k] from rfl, Nat.div_div_eq_div_mul, Nat.pow_succ, Nat.mul_comm k]
    rfl
/-- Where m digits are still to be written. -/
def digR (k n x m : Nat) : List Nat := List.replicate m 0 ++ digB k (n - m) x
theorem digR_len {k n x m : Nat} (h : m ≤ n) : (digR k n x m).length = n := by simp [digR, digB_len]; omega
theorem digR_set {k n x m : Nat} (h : m + 1 ≤ n) : (digR k n x (m + 1)).set m (x / k ^ (n - (m + 1)) % k) = digR k n x m := by
  unfold digR
  rw [List.set_append_left _ _ (by simp), show n - m = n - (m + 1) + 1 from by omega, digB_cons, List.replicate_succ', List.set_append_right _ _ (by simp)]
  simp
end RuleP

set_option maxRecDepth 100000 in
set_option maxHeartbeats 1000000 in
theorem digits_c (w : World) (k n x : Nat) (hk : 1 ≤ k) (hk4 : k ≤ 1000) (hn : n ≤ 1000000) (hx : x ≤ 1000000000) :
    Calls Tryd.prog 23 #[.int .i64 (k : Int), .int .i64 (n : Int), .int .i64 (x : Int)] w fun e w' => e = .returned (.slice (some ⟨w.heap.size, 0, none⟩) n n) ∧ w'.ownsRow w.heap.size 3 1 (.slice (some ⟨w.heap.size, 0, none⟩) n n) n ((ints (digB k n x)).map (Value.int .i64)) ∧ Below w.heap.size w w' := by
  have hmk := run_make_row' (P := Tryd.prog) 22 3 (.int .i64 0) 8 tInts.und tInts.info rfl .i64 .i64 n (by omega) (by omega)
  have hown0 := make_ints w n (by simp only [maxLen]; omega)
  have hb0 := (Below.refl w.heap.size w).alloc (Nat.le_refl _) (.cells (madeCells #[.int .i64 0] n) 3)
  have hkz : ((k : Int) == 0) = false := by rw [beq_eq_false_iff_ne]; omega
  go_enter Tryd.func23, Tryd.ntmps23
  go_wp2_with fail
  clear hmk
  go_loopw [2, 8] (fun xv p wr => ∃ (m : Nat) (z : Int), m ≤ n ∧ p = .int .i64 z ∧ z = (m : Int) - 1 ∧ xv = .int .i64 ((x / k ^ (n - m) : Nat) : Int) ∧ wr.ownsRow w.heap.size 3 1 (.slice (some ⟨w.heap.size, 0, none⟩) n n) n ((ints (digR k n x m)).map (Value.int .i64)) ∧ Below w.heap.size w wr) (fun _ p _ => (intOf p + 1).toNat)
  case atStart => exact ⟨n, _, Nat.le_refl _, rfl, rfl, by simp, by simpa [digR, digB] using hown0, hb0⟩
  case round =>
    clear hown0 hb0
    obtain ⟨m, z, hm, rfl, hz, rfl, hown, hb⟩ := hrel
    have hq : x / k ^ (n - m) ≤ 1000000000 := Nat.le_trans (Nat.div_le_self _ _) hx
    cases m with
    | zero =>
      obtain rfl : z = -1 := by omega
      clear hz
      have hge : decide ((0 : Int) ≤ -1) = false := by decide
      rw [show digR k n x 0 = digB k n x from by simp [digR]] at hown
      go_wp2_with fail
      go_ret
      exact ⟨rfl, hown, hb⟩
    | succ m =>
      obtain rfl : z = (m : Int) := by omega
      clear hz
      have hlen := digR_len (k := k) (x := x) hm
      obtain ⟨y, hy⟩ : ∃ y, (digR k n x (m + 1))[m]? = some y := ⟨_, List.getElem?_eq_getElem (by omega)⟩
      have hcell : wr.cell? ⟨w.heap.size, m, none⟩ = some (.int .i64 (y : Int)) := by rw [hown.cellAt m (by omega), ints_map, List.getElem?_map, hy]; rfl
      have hfr := hown.frozenAt m
      have hst := (hown.stored m (.int .i64 ((x / k ^ (n - (m + 1)) % k : Nat) : Int))).1
      rw [← List.map_set, ints_set, digR_set hm] at hst
      have hdd : x / k ^ (n - (m + 1)) / k = x / k ^ (n - m) := by rw [Nat.div_div_eq_div_mul, ← Nat.pow_succ, show (n - (m + 1)).succ = n - m from by omega]
      have hbn := hb.setCell (p := ⟨w.heap.size, m, none⟩) (Nat.le_refl _) (.int .i64 ((x / k ^ (n - (m + 1)) % k : Nat) : Int))
      obtain ⟨q, hqq⟩ : ∃ q, x / k ^ (n - (m + 1)) = q := ⟨_, rfl⟩
      rw [hqq] at hq hst hbn hdd ⊢
      have hwr : Hid (Value.int .i64 (wrap64 ((q : Int) / (k : Int))) = Value.int .i64 ((x / k ^ (n - m) : Nat) : Int)) := Lib.hid (by
        rw [← hdd, ← Int.natCast_ediv]
        have h2 : q / k ≤ 1000000000 := Nat.le_trans (Nat.div_le_self q k) hq
        generalize q / k = u at h2
        congr 1
        unfold wrap64
        omega)
      have HWR := hwr
      clear hqq hdd hown hb hy hlen hwr
      go_wp2_with fail
      exact ⟨⟨m, _, by omega, rfl, by omega, HWR.out, hst, hbn⟩, by simp [intOf]⟩
end Go.Proofs.YtfgjcdfmlpdkaaaDoor
