/- The text of a set: bag.key returns the bytes of its words. Condition: at most 1048576 words. -/
import Derived.Test.YtlajiblhnkognaaDoorBag
import Derived.Test.YtlajiblhnkognaaDoorTrimB
namespace Go.Proofs.YtlajiblhnkognaaDoor
open Go.RowKit BagP

theorem shr_step (u j : Nat) : Value.int .u64 ((u : Int) / 256 ^ j / 256) = Value.int .u64 ((u / 256 ^ (j + 1) : Nat) : Int) := by
  rw [Nat.pow_succ, ← Nat.div_div_eq_div_mul]
  simp
theorem byte_step {A : List UInt8} (u j : Nat) (hj : j < 8) : (A ++ (keyW u).take j).map bv ++ [Value.int .u8 ((u : Int) / 256 ^ j % 256)] = (A ++ (keyW u).take (j + 1)).map bv := by
  have : (keyW u)[j]? = some (keyByte u j) := by rw [keyW, List.getElem?_map, List.getElem?_range hj]; rfl
  rw [List.take_add_one, this]
  simp [bv, toNat_keyByte]
theorem key_step {l : List Nat} {k u : Nat} (h : l[k]? = some u) : keyB (l.take (k + 1)) = keyB (l.take k) ++ (keyW u).take 8 := by
  rw [List.take_add_one, h]
  have h8 : (keyW u).take 8 = keyW u := List.take_of_length_le (by rw [length_keyW]; exact Nat.le_refl _)
  rw [h8]
  simp [keyB]

set_option maxRecDepth 100000 in
set_option maxHeartbeats 400000 in
theorem key_c (w : World) (A : Option Addr) (m c : Nat) (l : List Nat) (hm : m ≤ 1048576) (h : Sl w A m (l.map uv)) (ho : Ok64 l) :
    Calls Tryd.prog 85 #[.slice A m c] w fun e w' => e = .returned (.string ⟨(keyB l).toArray⟩) ∧ Below w.heap.size w w' := by
  have hl : l.length = m := by simpa using h.1
  have HL := Lib.hid hl
  clear hl
  obtain ⟨i0, hi, hz0, hz1, hz2⟩ := info_parts tBytes.info
  go_enter Tryd.func85, Tryd.ntmps85
  go_wp2_with (at_make; refine wpList_make_own _ rfl _ _ _ rfl w.heap.size 5 i0 (.int .u8 0) 1 tBytes.und hi hz0 hz1 _ _ (8 * (m : Int)) (8 * m) rfl rfl (by simp) (by rw [hz2]; omega) (by simp only [maxLen]; omega) (Nat.le_refl _) ?_; intro w1 hown1 hg1)
  go_loopw [3, 12] (fun s i wr => ∃ k : Nat, k ≤ m ∧ i = .int .i64 k ∧ wr.ownsRow w.heap.size 5 1 s (8 * k) ((keyB (l.take k)).map bv) ∧ Below w.heap.size w wr) (fun _ i _ => m - (intOf i).toNat)
  case atStart => exact ⟨0, Nat.zero_le _, rfl, hown1, (Below.refl _ _).grown hg1 (Nat.le_refl _) (by simp)⟩
  case round =>
    obtain ⟨k, hk, rfl, hown, hb⟩ := hrel
    clear hown1 hg1 
    by_cases hlt : k < m
    · obtain ⟨ad, u, rfl, hxk, hcx⟩ := (h.below hb).word_ hlt
      have hu := ho u (List.mem_of_getElem? hxk)
      have HX := Lib.hid hxk
      have HU := Lib.hid hu
      clear hxk hu
      obtain ⟨wo, rfl⟩ : ∃ wo : World, wo = wr := ⟨_, rfl⟩
      go_wp2
      go_loopw [3, 5, 16] (fun s x i wr => ∃ j : Nat, j ≤ 8 ∧ i = .int .i64 j ∧ x = .int .u64 ((u / 256 ^ j : Nat) : Int) ∧ wr.ownsRow w.heap.size 5 1 s (8 * k + j) ((keyB (l.take k) ++ (keyW u).take j).map bv) ∧ Below w.heap.size w wr) (fun _ _ i _ => 8 - (intOf i).toNat)
      case atStart => exact ⟨0, by omega, rfl, by simp, by simpa using hown, hb⟩
      case round =>
        obtain ⟨j, hj, rfl, rfl, hown2, hb2⟩ := hrel
        clear hown hb hcx
        by_cases hj8 : j < 8
        · go_wp2_with (at_builtin; refine wpList_push rfl _ _ _ rfl tBytes hown2 rfl _ 0 rfl rfl rfl (by simp only [maxLen]; omega) (by omega) hb2.size ?_; intro g cap w2 hown3 hg3 hat3 hlt3)
          have hb3 := hb2.grown hg3 hb2.size (fun q hq => (hown2.lt q hq).1)
          refine ⟨⟨j + 1, by omega, by go_num, shr_step u j, ?_, hb3⟩, by simp [intOf]; omega⟩
          rw [byte_step u j hj8] at hown3
          exact hown3
        · have E := Lib.hid (show j = 8 by omega)
          go_wp2
          refine ⟨⟨k + 1, by omega, by go_num, ?_, hb2⟩, by simp [intOf]; omega⟩
          have e2 := key_step (l := l) HX.out
          rw [E.out] at hown2
          rw [e2]
          exact hown2
    · have E := Lib.hid (show k = m by omega)
      rw [show keyB (l.take k) = keyB l from by rw [E.out, List.take_of_length_le (by rw [HL.out]; exact Nat.le_refl _)]] at hown
      obtain ⟨A', c', rfl, _, _⟩ := own_slice hown
      have hconv := run_own_string (P := Tryd.prog) wr 158 9 5 tBytes.und Tryd.underlying5 Tryd.underlying9 hown
      go_wp2
      go_ret
      exact ⟨rfl, hb⟩

end Go.Proofs.YtlajiblhnkognaaDoor
