/- The rule of factors: additive.sum. Condition: the list reads from memory. The rule of good factors: additive.Make. Condition: the list reads from memory. How many rings have a ring as their image, how many stay: count.Rings, count.Fixed. Condition: the lists read from memory; the error variables hold what E says. -/
import Derived.Test.YtibplgpolmplpaaGreatDoorX10
import Derived.Test.YtibplgpolmplpaaGreatDoorX15
import Derived.Test.YtibplgpolmplpaaGreatDoorX24
import Derived.Test.YtibplgpolmplpaaGreatDoorX25
namespace Go.Proofs.YtibplgpolmplpaaGreatDoor
open Go.RowKit RuleP

theorem sumStep_snoc (k x y : Nat) (tb : List Nat) : sumStep k x (tb ++ [y]) = sumStep k x tb ++ (List.range k).map fun s => (y + x * s) % k := by
  unfold sumStep
  rw [List.flatMap_append]
  simp

theorem sumStep_lt {k x : Nat} (hk : 1 ≤ k) (tb : List Nat) : ∀ y ∈ sumStep k x tb, y < k := fun y hy => by
  unfold sumStep at hy
  obtain ⟨a, _, h⟩ := List.mem_flatMap.1 hy
  obtain ⟨s, _, rfl⟩ := List.mem_map.1 h
  exact Nat.mod_lt _ hk
theorem sumTab_lt {k : Nat} (hk : 1 ≤ k) (f : List Nat) : ∀ y ∈ sumTab k f, y < k := by
  unfold sumTab
  have key : ∀ (f : List Nat) (tb : List Nat), (∀ y ∈ tb, y < k) → ∀ y ∈ f.foldl (fun tb x => sumStep k x tb) tb, y < k := by
    intro f
    induction f with
    | nil => intro tb h; exact h
    | cons x f ih => intro tb _; exact ih _ (sumStep_lt hk tb)
  exact key f [0] (fun y hy => by rw [List.mem_singleton.1 hy]; omega)
/-- What additive.sum answers. -/
def SumPost (w : World) (k : Nat) (g : List Nat) (e : Ending) (w' : World) : Prop :=
  ∃ (A : Option Addr) (N c : Nat), e = .returned (.agg #[.int .i64 (k : Int), .int .i64 ((g.length / 2 : Nat) : Int), .slice A N c]) ∧ N = (sumTab k g).length ∧ Sl w' A N ((ints (sumTab k g)).map (Value.int .i64)) ∧ (∀ ad, A = some ad → w.heap.size < ad.block) ∧ Below w.heap.size w w'

set_option maxRecDepth 100000 in
set_option maxHeartbeats 2000000 in
theorem sum_c (w : World) (k : Nat) (hk1 : 1 ≤ k) (hk4 : k ≤ 4) (B : Option Addr) (m d : Nat) (g : List Nat) (hG : Sl w B m ((ints g).map (Value.int .i64))) (hm7 : m ≤ 7) (hg : ∀ x ∈ g, x < k) :
    Calls Tryz.prog 49 #[.int .i64 (k : Int), .slice B m d] w (SumPost w k g) := by
  have hml : g.length = m := by simpa [ints] using hG.1
  have hb1 := (Below.refl w.heap.size w).alloc (Nat.le_refl _) (.cells #[.int .i64 0, .int .i64 0, .slice none 0 0] 24)
  have hr0 := RuleAt.new w (.int .i64 0) (.int .i64 0) (.slice none 0 0)
  obtain ⟨w1, hw1⟩ : ∃ w1, w.alloc (.cells #[.int .i64 0, .int .i64 0, .slice none 0 0] 24) = w1 := ⟨_, rfl⟩
  rw [hw1] at hb1 hr0
  have hzw : w1.heap.size = w.heap.size + 1 := by rw [← hw1]; simp
  have hl := lit_ints w1 [0] 1 rfl (by decide) 3
  have b2 := (Below.refl w1.heap.size w1).alloc (Nat.le_refl _) (.cells #[.int .i64 0] 3)
  obtain ⟨w2, hw2⟩ : ∃ w2, w1.alloc (.cells #[.int .i64 0] 3) = w2 := ⟨_, rfl⟩
  change Sl (w1.alloc (.cells #[.int .i64 0] 3)) _ _ _ at hl
  rw [hw2, hzw] at hl
  rw [hw2] at b2
  have HW1 := Lib.hid hw1
  have HW2 := Lib.hid hw2
  have HR := Lib.hid (hr0.below b2 hr0.lt)
  have HB := Lib.hid (hb1.trans (b2.mono hb1.size))
  have HTB : Hid (Sl w2 (some ⟨w.heap.size + 1, 0, none⟩) 1 ((ints (sumTab k (g.take 0))).map (Value.int .i64))) := Lib.hid hl
  have HG := Lib.hid (fun (wz : World) (hz : Below w.heap.size w wz) => hG.below hz)
  have HML := Lib.hid hml
  have HGK := Lib.hid hg
  obtain ⟨i0, hi, hz0, hz1, hz2⟩ := info_parts tInts.info
  clear hw1 hw2 hzw hb1 b2 hr0 hl hG hml hg
  go_enter Tryz.func49, Tryz.ntmps49
  go_wp2_with fail
  rw [HW1.out]
  go_wp2_with fail
  rw [HW2.out]
  go_loopw [5, 15] (fun tv jv wl => ∃ (j N : Nat) (A : Option Addr) (c : Nat), tv = .slice A N c ∧ jv = .int .i64 (j : Int) ∧ j ≤ m ∧ Hid (N = k ^ j) ∧ Hid (Sl wl A N ((ints (sumTab k (g.take j))).map (Value.int .i64))) ∧ Hid (RuleAt wl w.heap.size (.int .i64 0) (.int .i64 0) (.slice none 0 0)) ∧ Hid (∀ ad, A = some ad → w.heap.size < ad.block) ∧ Hid (Below w.heap.size w wl)) (fun _ jv _ => m - (intOf jv).toNat)
  case atStart => exact ⟨0, 1, _, _, rfl, rfl, Nat.zero_le _, Lib.hid rfl, HTB, HR, Lib.hid (fun ad e => by cases e; exact Nat.lt_succ_self _), HB⟩
  case round =>
    clear HTB HR HB
    obtain ⟨j, N, A, c, rfl, rfl, hj, HN, HTB, HR, HAB, HB⟩ := hrel
    obtain ⟨r0, r1, r2, r3, r4, r5⟩ := HR.out.facts
    by_cases hjm : j < m
    · have hjm' : (j : Int) < (m : Int) := by omega
      have hj0 : (0 : Int) ≤ (j : Int) := by omega
      obtain ⟨ad, x, rfl, hx, hcx⟩ := nat_at (HG.out wr HB.out) hjm
      have hxk := HGK.out x (List.mem_of_getElem? hx)
      have hN4 : N ≤ 4096 := by
        rw [HN.out]
        have h1 : k ^ j ≤ 4 ^ j := Nat.pow_le_pow_left hk4 j
        have h2 : 4 ^ j ≤ 4 ^ 6 := Nat.pow_le_pow_right (by decide) (by omega)
        exact Nat.le_trans h1 (Nat.le_trans h2 (by decide))
      obtain ⟨q, hq⟩ : ∃ q, N * k = q := ⟨_, rfl⟩
      have hq2 : q ≤ 16384 := by rw [← hq]; exact Nat.le_trans (Nat.mul_le_mul hN4 hk4) (by decide)
      have e1 : IntKind.i64.wrap ((N : Int) * (k : Int)) = (q : Int) := by
        rw [← Int.natCast_mul, hq]
        exact IntWalk.i64_in _ (by omega)
      have hst : sumTab k (g.take (j + 1)) = sumStep k x (sumTab k (g.take j)) := by
        rw [List.take_add_one, hx]
        exact sumTab_snoc k (g.take j) x
      have HST := Lib.hid hst
      have HQ := Lib.hid hq
      obtain ⟨wo, rfl⟩ : ∃ wo : World, wo = wr := ⟨_, rfl⟩
      clear hx hq hst
      go_wp2_with (at_make; go_loud (refine wpList_make_own _ rfl _ _ _ rfl wo.heap.size 3 i0 (.int .i64 0) 1 tInts.und hi hz0 hz1 _ _ (q : Int) q rfl rfl rfl (by rw [hz2]; omega) (by simp only [maxLen]; omega) (Nat.le_refl _) ?_); intro w3 hown3 hg3)
      have HO3 : Hid (w3.ownsRow wo.heap.size 3 1 (.slice (some ⟨wo.heap.size, 0, none⟩) 0 q) (0 * k) ((ints (sumStep k x ((sumTab k (g.take j)).take 0))).map (Value.int .i64))) := Lib.hid (by rw [Nat.zero_mul]; exact hown3)
      have HB3 := Lib.hid ((Below.refl wo.heap.size wo).grown hg3 (Nat.le_refl _) (by simp))
      have HTL : Hid ((sumTab k (g.take j)).length = N) := Lib.hid (by simpa [ints] using HTB.out.1)
      clear hown3 hg3 hcx
      go_wp2_with fail
      go_loopw [8, 26] (fun nv iv wl => ∃ (i p : Nat) (C : Option Addr) (cc : Nat), nv = .slice C p cc ∧ iv = .int .i64 (i : Int) ∧ i ≤ N ∧ Hid (p = i * k) ∧ Hid (wl.ownsRow wo.heap.size 3 1 (.slice C p cc) p ((ints (sumStep k x ((sumTab k (g.take j)).take i))).map (Value.int .i64))) ∧ Hid (Below wo.heap.size wo wl)) (fun _ iv _ => N - (intOf iv).toNat)
      case atStart => exact ⟨0, 0, _, _, rfl, rfl, Nat.zero_le _, Lib.hid (Nat.zero_mul k).symm, Lib.hid (by have := HO3.out; rwa [Nat.zero_mul] at this), HB3⟩
      case round =>
        clear HO3 HB3
        obtain ⟨i, p, C, cc, rfl, rfl, hiN, HP, HO, HBI⟩ := hrel
        by_cases hiN' : i < N
        · have hiI : (i : Int) < (N : Int) := by omega
          have hi0 : (0 : Int) ≤ (i : Int) := by omega
          obtain ⟨at', y, rfl, hy, hcy⟩ := nat_at (HTB.out.below HBI.out) hiN'
          have hyk : y < k := sumTab_lt hk1 _ y (List.mem_of_getElem? hy)
          have htk : (sumTab k (g.take j)).take (i + 1) = (sumTab k (g.take j)).take i ++ [y] := by rw [List.take_add_one, hy]; rfl
          have HY := Lib.hid htk
          have hpq : p ≤ 16384 - k := by
            have h1 := HP.out
            have h2 : (i + 1) * k ≤ N * k := Nat.mul_le_mul_right _ hiN'
            rw [Nat.add_mul, Nat.one_mul, HQ.out, ← h1] at h2
            omega
          clear hy htk
          go_wp2_with fail
          go_loopw [8, 31] (fun nv sv wl => ∃ (s p' : Nat) (C : Option Addr) (cc : Nat), nv = .slice C p' cc ∧ sv = .int .i64 (s : Int) ∧ s ≤ k ∧ Hid (p' = p + s) ∧ Hid (wl.ownsRow wo.heap.size 3 1 (.slice C p' cc) p' ((ints (sumStep k x ((sumTab k (g.take j)).take i) ++ (List.range s).map fun s => (y + x * s) % k)).map (Value.int .i64))) ∧ Hid (Below wo.heap.size wo wl)) (fun _ sv _ => k - (intOf sv).toNat)
          case atStart => exact ⟨0, p, _, _, rfl, rfl, Nat.zero_le _, Lib.hid rfl, Lib.hid (by simpa using HO.out), HBI⟩
          case round =>
            clear HO HBI hcy
            obtain ⟨s, p', C', cc', rfl, rfl, hsk, HP', HO, HBI⟩ := hrel
            by_cases hsk' : s < k
            · have hsI : (s : Int) < (k : Int) := by omega
              obtain ⟨z, hz⟩ : ∃ z, x * s = z := ⟨_, rfl⟩
              have hz16 : z ≤ 16 := by rw [← hz]; exact Nat.le_trans (Nat.mul_le_mul (show x ≤ 4 by omega) (show s ≤ 4 by omega)) (by decide)
              obtain ⟨v, hv⟩ : ∃ v, y + z = v := ⟨_, rfl⟩
              obtain ⟨u, hu⟩ : ∃ u, v % k = u := ⟨_, rfl⟩
              have d1 : IntKind.i64.wrap ((x : Int) * (s : Int)) = (z : Int) := by rw [← Int.natCast_mul, hz]; exact IntWalk.i64_in _ (by omega)
              have d2 : IntKind.i64.wrap ((y : Int) + (z : Int)) = (v : Int) := by rw [← Int.natCast_add, hv]; exact IntWalk.i64_in _ (by omega)
              have d3 : (v : Int) % (k : Int) = (u : Int) := by rw [← Int.natCast_emod, hu]
              have d4 : (v : Int).tmod (k : Int) = (u : Int) := by rw [Int.tmod_eq_emod_of_nonneg (by omega), d3]
              have d5 : ¬ (k : Int) = 0 := by omega
              have d6 : ¬ k = 0 := by omega
              have d7 : IntKind.i64.wrap (u : Int) = (u : Int) := by
                have : u < k := by rw [← hu]; exact Nat.mod_lt _ hk1
                exact IntWalk.i64_in _ (by omega)
              have HU : Hid ((y + x * s) % k = u) := Lib.hid (by rw [hz, hv, hu])
              have hO := HO.out
              have hbz := HBI.out.size
              have hp1 : p' ≤ 16384 := by have := HP'.out; omega
              clear hz hv hu
              go_wp2_with (at_builtin; refine wpList_push2 rfl _ _ _ rfl tInts hO rfl (.int .i64 (u : Int)) 0 rfl rfl rfl (by simp only [maxLen]; omega) (by omega) hbz ?_; intro g5 cap5 w5 hown5 hor5 hlt5)
              have HO5 : Hid (w5.ownsRow wo.heap.size 3 1 (.slice (some ⟨g5, 0, none⟩) (p' + 1) cap5) (p' + 1) ((ints (sumStep k x ((sumTab k (g.take j)).take i) ++ (List.range (s + 1)).map fun s => (y + x * s) % k)).map (Value.int .i64))) := Lib.hid (by
                rw [List.range_succ, List.map_append, ← List.append_assoc, List.map_singleton, HU.out, ints_push]
                exact hown5)
              have HB5 := Lib.hid (push_below HBI.out hO hor5 hbz)
              clear hown5 hor5
              go_wp2_with fail
              exact ⟨⟨s + 1, p' + 1, _, cap5, rfl, by go_num, by omega, Lib.hid (by rw [HP'.out]; omega), HO5, HB5⟩, by simp [intOf]; omega⟩
            · obtain rfl : k = s := by omega
              have HP5 : Hid (p' = (i + 1) * k) := Lib.hid (by rw [HP'.out, HP.out, Nat.add_mul, Nat.one_mul])
              have HO5 : Hid (wr.ownsRow wo.heap.size 3 1 (.slice C' p' cc') p' ((ints (sumStep k x ((sumTab k (g.take j)).take (i + 1)))).map (Value.int .i64))) := Lib.hid (by
                rw [HY.out, sumStep_snoc]
                exact HO.out)
              go_wp2_with fail
              exact ⟨⟨i + 1, p', C', cc', rfl, by go_num, by omega, HP5, HO5, HBI⟩, by simp [intOf]; omega⟩
        · obtain rfl : N = i := by omega
          have HN5 : Hid (p = k ^ (j + 1)) := Lib.hid (by rw [HP.out, Nat.pow_succ, ← HN.out])
          have HT5 : Hid (Sl wr C p ((ints (sumTab k (g.take (j + 1)))).map (Value.int .i64))) := Lib.hid (by
            have h := Sl.of_own HO.out
            rw [List.take_of_length_le (Nat.le_of_eq HTL.out)] at h
            rw [HST.out]
            exact h)
          have HR5 := Lib.hid (HR.out.below HBI.out HR.out.lt)
          have HA5 : Hid (∀ ad, C = some ad → w.heap.size < ad.block) := Lib.hid (fun ad e => by
            subst e
            exact Nat.lt_of_lt_of_le HR.out.lt (HO.out.lt ad.block (by simp [Value.ownBlock])).1)
          have HB5 := Lib.hid (HB.out.trans (HBI.out.mono HB.out.size))
          go_wp2_with fail
          exact ⟨⟨j + 1, p, C, cc, rfl, by go_num, by omega, HN5, HT5, HR5, HA5, HB5⟩, by simp [intOf]; omega⟩
    · obtain rfl : j = m := by omega
      have hF := HR.out.set3 (.int .i64 (k : Int)) (.int .i64 ((j : Int) / 2)) (.slice A N c)
      obtain ⟨f0, f1, f2, _⟩ := hF.facts
      have htk : g.take j = g := List.take_of_length_le (Nat.le_of_eq HML.out)
      have hT := HTB.out
      rw [htk] at hT
      have hT2 : Sl (((wr.setCell ⟨w.heap.size, 0, none⟩ (.int .i64 (k : Int))).setCell ⟨w.heap.size, 1, none⟩ (.int .i64 ((j : Int) / 2))).setCell ⟨w.heap.size, 2, none⟩ (.slice A N c)) A N ((ints (sumTab k g)).map (Value.int .i64)) := by
        exact hT.keeps (keeps_set3 wr w.heap.size _ _ _) (fun ad e h => by have h1 := HAB.out ad e; omega)
      have HT := Lib.hid hT2
      have HB5 := Lib.hid (below_set3 HB.out (Nat.le_refl w.heap.size) (.int .i64 (k : Int)) (.int .i64 ((j : Int) / 2)) (.slice A N c))
      have hNL : N = (sumTab k g).length := by rw [(sumTab_at hk1 j g HML.out).1]; exact HN.out
      have HNL := Lib.hid hNL
      clear hF htk hT hT2 hNL
      go_wp2_with fail
      exact bodyPost_ret (v := .agg #[.int .i64 (k : Int), .int .i64 ((j : Int) / 2), .slice A N c]) (by simp [results, Tryz.results49, go_sem, f0, f1, f2]) rfl ⟨A, N, c, by rw [HML.out]; rfl, HNL.out, HT.out, HAB.out, HB5.out⟩
end Go.Proofs.YtibplgpolmplpaaGreatDoor

namespace Go.Proofs.YtibplgpolmplpaaGreatDoor
open Go.RowKit RuleP

/-- What additive.Make answers to good factors. -/
def MakePost (w : World) (k r : Nat) (g : List Nat) (e : Ending) (w' : World) : Prop :=
  ∃ (A : Option Addr) (N c : Nat), e = .returned (.tuple #[ruleV (k : Int) (r : Int) A N c, .nilIface]) ∧ N = (sumTab k g).length ∧ Sl w' A N ((ints (sumTab k g)).map (Value.int .i64)) ∧ Below w.heap.size w w'

set_option maxRecDepth 100000 in
set_option maxHeartbeats 2000000 in
theorem make_c (w : World) (k r : Nat) (hk1 : 1 ≤ k) (hk4 : k ≤ 4) (hr3 : r ≤ 3) (B : Option Addr) (m d : Nat) (g : List Nat) (hG : Sl w B m ((ints g).map (Value.int .i64))) (hm : m = 2 * r + 1) (hg : ∀ x ∈ g, x < k) :
    Calls Tryz.prog 17 #[.int .i64 (k : Int), .int .i64 (r : Int), .slice B m d] w (MakePost w k r g) := by
  have hml : g.length = m := by simpa [ints] using hG.1
  have hb1 := (Below.refl w.heap.size w).alloc (Nat.le_refl _) (.cells #[.int .i64 0, .int .i64 0, .slice none 0 0] 24)
  have hr0 := RuleAt.new w (.int .i64 0) (.int .i64 0) (.slice none 0 0)
  obtain ⟨w1, hw1⟩ : ∃ w1, w.alloc (.cells #[.int .i64 0, .int .i64 0, .slice none 0 0] 24) = w1 := ⟨_, rfl⟩
  rw [hw1] at hb1 hr0
  have hz1 : w1.heap.size = w.heap.size + 1 := by rw [← hw1]; simp
  have HSZ := Lib.hid (size_ok w1 k r hk1 hk4 hr3)
  have HNU := Lib.hid (addNumbers_c w1 k B m d g (hG.below hb1) (by omega) hg 0)
  have HSU := Lib.hid (fun (wz : World) (hz : Below w.heap.size w wz) => sum_c wz k hk1 hk4 B m d g (hG.below hz) (by omega) hg)
  have HW1 := Lib.hid hw1
  have HB1 := Lib.hid hb1
  have HR1 := Lib.hid hr0
  have HML := Lib.hid (And.intro hml hm)
  have e1 : IntKind.i64.wrap (2 * (r : Int)) = 2 * (r : Int) := IntWalk.i64_in _ (by omega)
  have e2 : IntKind.i64.wrap (2 * (r : Int) + 1) = (m : Int) := by rw [show 2 * (r : Int) + 1 = (m : Int) from by omega]; exact IntWalk.i64_in _ (by omega)
  clear hw1 hb1 hr0 hG hg hml hm hz1
  go_enter Tryz.func17, Tryz.ntmps17
  go_wp2_with fail
  rw [HW1.out]
  refine (HSZ.out).mono ?_
  rintro e w2 ⟨rfl, rfl⟩
  go_wp2_with fail
  refine (HNU.out).mono ?_
  rintro e w3 ⟨rfl, hb3⟩
  have hb03 := HB1.out.trans (hb3.mono HB1.out.size)
  have HS3 := Lib.hid (HSU.out w3 hb03)
  have HB3 := Lib.hid hb03
  have HR3 := Lib.hid (HR1.out.below hb3 HR1.out.lt)
  clear hb3 hb03 HNU
  go_wp2_with fail
  refine (HS3.out).mono ?_
  rintro e w4 ⟨A, N, c, rfl, hN, hT, hA, hb4⟩
  rw [HML.out.1, show m / 2 = r from by have := HML.out.2; omega]
  have hr4 := HR3.out.below hb4 HR3.out.lt
  obtain ⟨r0, r1, r2, r3, r4, r5⟩ := hr4.facts
  have hF := hr4.set3 (.int .i64 (k : Int)) (.int .i64 (r : Int)) (.slice A N c)
  obtain ⟨f0, f1, f2, _⟩ := hF.facts
  have hb04 := HB3.out.trans (hb4.mono HB3.out.size)
  have hlt := HR3.out.lt
  have HT := Lib.hid (hT.keeps (keeps_set3 w4 w.heap.size (.int .i64 (k : Int)) (.int .i64 (r : Int)) (.slice A N c)) (fun ad e h => by have h1 := hA ad e; omega))
  have HB := Lib.hid (below_set3 hb04 (Nat.le_refl w.heap.size) (.int .i64 (k : Int)) (.int .i64 (r : Int)) (.slice A N c))
  have HN := Lib.hid hN
  clear hF hb04 hr4 hT hA hN hb4 hlt HS3
  go_wp2_with fail
  exact bodyPost_ret (v := .tuple #[ruleV (k : Int) (r : Int) A N c, .nilIface]) (by simp [results, Tryz.results17, go_sem, f0, f1, f2, ruleV]) rfl ⟨A, N, c, rfl, HN.out, HT.out, HB.out⟩
end Go.Proofs.YtibplgpolmplpaaGreatDoor

namespace Go.Proofs.YtibplgpolmplpaaGreatDoor
open Go.RowKit RuleP NatP

def ringsV (K R : Int) (T X : List Int) : Nat × Option Tale :=
  match smallC K R T with
  | some t => (0, some t)
  | none => if X.length = 0 then (0, some (3, [(sCount, 1)])) else match symT K X 64 with
    | some t => (0, some t)
    | none => ((ringL K.toNat R.toNat X.length (fitP (natL T) (natL X))).length, none)
theorem ringsV_good {k r : Nat} {t x : List Nat} (hr : IsRule k r t) (h : t.length ≤ 256) (hx : ∀ s ∈ x, s < k) (h0 : 0 < x.length) (hl : x.length ≤ 64) : ringsV k r (ints t) (ints x) = ((ringL k r x.length (fitP t x)).length, none) := by
  unfold ringsV
  rw [smallC_rule hr h]
  simp only
  rw [if_neg (by rw [ints_len]; omega), symT_good hx hl]
  simp only [natL_ints, Int.toNat_natCast, ints_len]
def fixedV (K R : Int) (T : List Int) (N : Int) : Nat × Option Tale :=
  match smallC K R T with
  | some t => (0, some t)
  | none => if N < 1 then (0, some (3, [(sCount, 1)])) else if 64 < N then (0, some (4, [(sCount, 1)])) else ((ringL K.toNat R.toNat N.toNat (fixP K.toNat R.toNat (natL T))).length, none)
theorem fixedV_good {k r : Nat} {t : List Nat} {n : Nat} (hr : IsRule k r t) (h : t.length ≤ 256) (h0 : 0 < n) (hl : n ≤ 64) : fixedV k r (ints t) (n : Int) = ((ringL k r n (fixP k r t)).length, none) := by
  unfold fixedV
  rw [smallC_rule hr h]
  simp only
  rw [if_neg (by omega), if_neg (by omega)]
  simp only [natL_ints, Int.toNat_natCast]

set_option maxRecDepth 100000 in
set_option maxHeartbeats 4000000 in
theorem cRings_c (w : World) (E : Nat → Addr) (hE : Errs w E) (K R : Int) (A : Option Addr) (n c : Nat) (T : List Int) (hT : Sl w A n (T.map (Value.int .i64))) (hm : n ≤ 9223372036854775807) (B : Option Addr) (m d : Nat) (X : List Int) (hX : Sl w B m (X.map (Value.int .i64))) (hm2 : m ≤ 9223372036854775807) :
    Calls Tryz.prog 18 #[ruleV K R A n c, .slice B m d] w (CNum w E (ringsV K R T X).1 (ringsV K R T X).2) := by
  have hxm : X.length = m := by simpa using hX.1
  have hb0 := ((Below.refl w.heap.size w).alloc (Nat.le_refl _) (.cells #[.int .i64 K, .int .i64 R, .slice A n c] 24)).alloc (by simp) (.cells #[.slice B m d] 22)
  have hr0 := (RuleAt.new w (.int .i64 K) (.int .i64 R) (.slice A n c)).alloc (.cells #[.slice B m d] 22)
  have hc0 := box_cell w (.cells #[.int .i64 K, .int .i64 R, .slice A n c] 24) (.slice B m d) 22
  obtain ⟨w1, hw1⟩ : ∃ w1, (w.alloc (.cells #[.int .i64 K, .int .i64 R, .slice A n c] 24)).alloc (.cells #[.slice B m d] 22) = w1 := ⟨_, rfl⟩
  obtain ⟨r0, r1, r2, _⟩ := hr0.facts
  have hc00 := hc0
  rw [hw1] at hb0 hr0 hc0
  have HS := Lib.hid (cntSmall_c w1 E (hE.below hb0) K R A n c T (hT.below hb0) hm)
  have HW1 := Lib.hid hw1
  have HB0 := Lib.hid hb0
  have HR0 := Lib.hid hr0
  have HC0 := Lib.hid hc0
  have HE := Lib.hid (fun (wz : World) (hz : Below w.heap.size w wz) => hE.below hz)
  have HT := Lib.hid (fun (wz : World) (hz : Below w.heap.size w wz) => hT.below hz)
  have HX := Lib.hid (fun (wz : World) (hz : Below w.heap.size w wz) => hX.below hz)
  have HXM := Lib.hid hxm
  obtain ⟨p, hp⟩ : ∃ p, ringsV K R T X = p := ⟨_, rfl⟩
  rw [hp]
  have HP := Lib.hid hp
  clear hw1 hb0 hr0 hE hT hX hp hc0 hxm
  unfold ringsV at HP
  unfold ruleV at HS ⊢
  cases hs : smallC K R T with
  | some tl =>
    rw [hs] at HP HS
    obtain rfl := HP.out
    clear hs HP
    go_enter Tryz.func18, Tryz.ntmps18
    go_wp2_with fail
    rw [HW1.out]
    refine (HS.out).mono ?_
    rintro e w2 ⟨v, rfl, he, hb⟩
    obtain ⟨u, p, rfl⟩ := ErrIs.iface (show ErrIs w2 E tl.1 tl.2 v from he)
    have HV := Lib.hid he
    have HB := Lib.hid (HB0.out.trans (hb.mono HB0.out.size))
    clear he hb
    go_wp2_with fail
    go_ret2
    exact CNum.bad HV.out HB.out
  | none =>
    rw [hs] at HP HS
    obtain ⟨k, r, t, rfl, rfl, rfl, hr, hl⟩ := smallC_none hs
    clear hs
    simp only at HP
    by_cases hm0 : m = 0
    · subst hm0
      have hpp := HP.out
      rw [if_pos HXM.out] at hpp
      obtain rfl := hpp
      clear HP
      go_enter Tryz.func18, Tryz.ntmps18
      go_wp2_with fail
      rw [HW1.out]
      refine (HS.out).mono ?_
      rintro e w2 ⟨v, rfl, rfl, hb⟩
      have hb2 := HB0.out.trans (hb.mono HB0.out.size)
      have hc2 := cell_later hb HC0.out
      have HWR := Lib.hid (cntWrong_c w2 E (HE.out w2 hb2) 1 3 (by decide) (by decide))
      have HB2 := Lib.hid hb2
      clear hb hb2 HS
      go_wp2_with fail
      refine (HWR.out).mono ?_
      rintro e w3 ⟨rfl, he, hb⟩
      have HV := Lib.hid (ErrV.some he)
      have HB := Lib.hid (HB2.out.trans (hb.mono HB2.out.size))
      clear he hb
      go_wp2_with fail
      go_ret2
      exact CNum.bad HV.out HB.out
    · have hm0' : ¬ (m : Int) = 0 := by omega
      have hpp := HP.out
      rw [if_neg (by rw [HXM.out]; exact hm0)] at hpp
      have HP := Lib.hid hpp
      clear hpp
      go_enter Tryz.func18, Tryz.ntmps18
      go_wp2_with fail
      rw [HW1.out]
      refine (HS.out).mono ?_
      rintro e w2 ⟨v, rfl, rfl, hb⟩
      have hb2 := HB0.out.trans (hb.mono HB0.out.size)
      have hr2 := HR0.out.below hb HR0.out.lt
      have hc2 := cell_later hb HC0.out
      have HSY := Lib.hid (cntSymbols_c w2 E (HE.out w2 hb2) (k : Int) B m d 64 X (HX.out w2 hb2) hm2 (by decide))
      obtain ⟨r0, r1, r2, _⟩ := hr2.facts
      have HR2 := Lib.hid hr2
      have HC2 := Lib.hid hc2
      have HB2 := Lib.hid hb2
      clear hb hb2 hr2 HS
      go_wp2_with fail
      refine (HSY.out).mono ?_
      rintro e w3 ⟨v, rfl, he, hb⟩
      have hb3 := HB2.out.trans (hb.mono HB2.out.size)
      have hr3 := HR2.out.below hb HR2.out.lt
      have hc3 := cell_later hb HC2.out
      obtain ⟨r0, r1, r2, _⟩ := hr3.facts
      cases hs : symT (k : Int) X 64 with
      | some tl =>
        have hpp := HP.out
        rw [hs] at hpp he
        obtain rfl := hpp
        obtain ⟨u, p, rfl⟩ := ErrIs.iface (show ErrIs w3 E tl.1 tl.2 v from he)
        have HV := Lib.hid he
        have HB := Lib.hid hb3
        clear he hb hb3 hs HP hr3 HSY
        go_wp2_with fail
        go_ret2
        exact CNum.bad HV.out HB.out
      | none =>
        have hpp := HP.out
        rw [hs] at hpp he
        obtain rfl : v = .nilIface := he
        obtain ⟨x, rfl, hxl, hxs⟩ := symT_none hs
        have hxm : x.length = m := by have := HXM.out; rwa [ints_len] at this
        simp only [natL_ints, Int.toNat_natCast, ints_len, hxm] at hpp
        obtain rfl := hpp
        obtain ⟨hdv, hln⟩ := nodes_div hr
        have htn : t.length = n := by have := (HT.out w3 hb3).1; simpa [ints] using this
        rw [htn] at hdv hln
        have hk1 := hr.k1
        have hN0 : 0 < k ^ (2 * r) := Nat.pow_pos hk1
        have hN4 : k ^ (2 * r) ≤ 256 := by
          have := Nat.le_mul_of_pos_right (k ^ (2 * r)) hk1
          omega
        have hcr := crings_c w3 k (r : Int) n c (k ^ (2 * r)) m A 52 (.pointer (some ⟨w.heap.size, 0, none⟩)) (.pointer (some ⟨w.heap.size + 1, 0, none⟩)) (fitP t x) hk1 hr.k4 hN0 hN4 hln hdv (by omega)
          (fun v1 v2 wz => run_enter Tryz.func52 (by kernel_rfl) (by kernel_rfl) _ _)
          (fun wz hz p q hp hq => fitsR_c wz w.heap.size (w.heap.size + 1) k r n c m d A B t x (hr3.below hz hr3.lt) (cell_later hz hc3) (HT.out wz (hb3.trans (hz.mono hb3.size))) (HX.out wz (hb3.trans (hz.mono hb3.size))) p q hp hq)
        rw [rings_ringL hk1 (fitP t x) (by omega)] at hcr
        unfold ruleV at hcr
        have HC := Lib.hid hcr
        have HB := Lib.hid hb3
        clear hb hb3 hs HP hr3 HSY hcr hxl hxs hxm hr hl hdv hln htn hk1 hN0 hN4
        go_wp2_with fail
        refine (HC.out).mono ?_
        rintro e w4 ⟨A4, c4, rfl, _, ho4, hb4⟩
        go_wp2_with fail
        go_ret2
        exact ⟨A4, c4, _, rfl, own_base ho4 HB.out.size, rfl, HB.out.trans (hb4.mono HB.out.size)⟩

set_option maxRecDepth 100000 in
set_option maxHeartbeats 1000000 in
theorem fitsF_c (w : World) (rb wb k r n c : Nat) (A : Option Addr) (t : List Nat) (hr : RuleAt w rb (.int .i64 (k : Int)) (.int .i64 (r : Int)) (.slice A n c)) (hw : w.cell? ⟨wb, 0, none⟩ = some (.int .i64 ((k ^ r : Nat) : Int))) (hT : Sl w A n ((ints t).map (Value.int .i64)))
    (hk : 1 ≤ k) (hn : n ≤ 16384) (p q : Nat) (hq : q < n) :
    Calls Tryz.prog 60 #[.int .i64 (p : Int), .int .i64 (q : Int), .pointer (some ⟨rb, 0, none⟩), .pointer (some ⟨wb, 0, none⟩)] w fun e w' => e = .returned (.bool (fixP k r t p q)) ∧ Below w.heap.size w w' := by
  obtain ⟨r0, r1, r2, _⟩ := hr.facts
  obtain ⟨aA, y, rfl, hy, hcy⟩ := hT.int_ hq
  have hq' : (q : Int) < (n : Int) := by omega
  have hq0 : (0 : Int) ≤ (q : Int) := by omega
  obtain ⟨y', hy', rfl⟩ : ∃ y' : Nat, t[q]? = some y' ∧ (y' : Int) = y := by
    rw [ints, List.getElem?_map] at hy
    cases h : t[q]? with
    | none => rw [h] at hy; cases hy
    | some v => rw [h] at hy; exact ⟨v, rfl, Option.some.inj hy⟩
  obtain ⟨z, hz⟩ : ∃ z, q / k ^ r % k = z := ⟨_, rfl⟩
  obtain ⟨z1, hz1⟩ : ∃ z1, q / k ^ r = z1 := ⟨_, rfl⟩
  have hz1n : z1 ≤ 16384 := by rw [← hz1]; exact Nat.le_trans (Nat.div_le_self _ _) (by omega)
  have hkr : 0 < k ^ r := Nat.pow_pos hk
  obtain ⟨kr, hkr'⟩ : ∃ kr, k ^ r = kr := ⟨_, rfl⟩
  have HK : Hid (fixP k r t p q = decide ((y' : Int) = (z : Int))) := Lib.hid (by
    unfold fixP
    rw [List.getD_eq_getElem?_getD, hy', hz]
    simp
    omega)
  rw [hkr'] at hw hkr hz1 hz
  rw [hz1] at hz
  have e1 : (q : Int).tdiv (kr : Int) = (z1 : Int) := by rw [← hz1]; rfl
  have e2 : (z1 : Int).tmod (k : Int) = (z : Int) := by rw [← hz]; rfl
  have hs : IntKind.i64.wrap (z1 : Int) = (z1 : Int) := IntWalk.i64_in _ (by omega)
  have h0 : ¬ ((k : Int) = 0) := by omega
  have h0n : ¬ k = 0 := by omega
  have h1 : ¬ ((kr : Int) = 0) := by omega
  have h1n : ¬ kr = 0 := by omega
  rw [HK.out]
  clear hr hT hy hy' hz hz1 hkr hkr' hk hn hz1n
  go_enter Tryz.func60, Tryz.ntmps60
  go_wp2_with (go_quiet (fail))
  go_ret
  exact ⟨rfl, below_drewN (Below.refl _ _) _⟩

set_option maxRecDepth 100000 in
set_option maxHeartbeats 4000000 in
theorem cFixed_c (w : World) (E : Nat → Addr) (hE : Errs w E) (K R : Int) (A : Option Addr) (n c : Nat) (T : List Int) (hT : Sl w A n (T.map (Value.int .i64))) (hm : n ≤ 9223372036854775807) (M : Int) :
    Calls Tryz.prog 21 #[ruleV K R A n c, .int .i64 M] w (CNum w E (fixedV K R T M).1 (fixedV K R T M).2) := by
  have hb0 := (Below.refl w.heap.size w).alloc (Nat.le_refl _) (.cells #[.int .i64 K, .int .i64 R, .slice A n c] 24)
  have hr0 := RuleAt.new w (.int .i64 K) (.int .i64 R) (.slice A n c)
  obtain ⟨w1, hw1⟩ : ∃ w1, w.alloc (.cells #[.int .i64 K, .int .i64 R, .slice A n c] 24) = w1 := ⟨_, rfl⟩
  obtain ⟨r0, r1, r2, _⟩ := hr0.facts
  rw [hw1] at hb0 hr0
  have HS := Lib.hid (cntSmall_c w1 E (hE.below hb0) K R A n c T (hT.below hb0) hm)
  have HW1 := Lib.hid hw1
  have HB0 := Lib.hid hb0
  have HR0 := Lib.hid hr0
  have HE := Lib.hid (fun (wz : World) (hz : Below w.heap.size w wz) => hE.below hz)
  have HT := Lib.hid (fun (wz : World) (hz : Below w.heap.size w wz) => hT.below hz)
  obtain ⟨p, hp⟩ : ∃ p, fixedV K R T M = p := ⟨_, rfl⟩
  rw [hp]
  have HP := Lib.hid hp
  clear hw1 hb0 hr0 hE hT hp
  unfold fixedV at HP
  unfold ruleV at HS ⊢
  cases hs : smallC K R T with
  | some tl =>
    rw [hs] at HP HS
    obtain rfl := HP.out
    clear hs HP
    go_enter Tryz.func21, Tryz.ntmps21
    go_wp2_with fail
    rw [HW1.out]
    refine (HS.out).mono ?_
    rintro e w2 ⟨v, rfl, he, hb⟩
    obtain ⟨u, p, rfl⟩ := ErrIs.iface (show ErrIs w2 E tl.1 tl.2 v from he)
    have HV := Lib.hid he
    have HB := Lib.hid (HB0.out.trans (hb.mono HB0.out.size))
    clear he hb
    go_wp2_with fail
    go_ret2
    exact CNum.bad HV.out HB.out
  | none =>
    rw [hs] at HP HS
    obtain ⟨k, r, t, rfl, rfl, rfl, hr, hl⟩ := smallC_none hs
    clear hs
    simp only at HP
    by_cases hM : M < 1 ∨ 64 < M
    · obtain ⟨en, hen, hen1, hen2, htl⟩ : ∃ en : Nat, (if M < 1 then (3 : Int) else 4) = (en : Int) ∧ 1 ≤ en ∧ en ≤ 11 ∧ p = (0, some (en, [(sCount, 1)])) := by
        have hpp := HP.out
        by_cases h1 : M < 1
        · rw [if_pos h1] at hpp ⊢
          exact ⟨3, rfl, by decide, by decide, hpp.symm⟩
        · rw [if_neg h1, if_pos (hM.resolve_left h1)] at hpp
          rw [if_neg h1]
          exact ⟨4, rfl, by decide, by decide, hpp.symm⟩
      subst htl
      clear HP
      have HHH : ∀ (q : Nat) (hq : (if M < 1 then (3 : Int) else 4) = (q : Int)), True := fun _ _ => trivial
      rcases hM with h1 | h1
      · rw [if_pos h1] at hen
        obtain rfl : en = 3 := by omega
        clear hen HHH
        go_enter Tryz.func21, Tryz.ntmps21
        go_wp2_with fail
        rw [HW1.out]
        refine (HS.out).mono ?_
        rintro e w2 ⟨v, rfl, rfl, hb⟩
        have hb2 := HB0.out.trans (hb.mono HB0.out.size)
        have HWR := Lib.hid (cntWrong_c w2 E (HE.out w2 hb2) 1 3 (by decide) (by decide))
        have HB2 := Lib.hid hb2
        clear hb hb2 HS
        go_wp2_with fail
        refine (HWR.out).mono ?_
        rintro e w3 ⟨rfl, he, hb⟩
        have HV := Lib.hid (ErrV.some he)
        have HB := Lib.hid (HB2.out.trans (hb.mono HB2.out.size))
        clear he hb
        go_wp2_with fail
        go_ret2
        exact CNum.bad HV.out HB.out
      · have h1' : ¬ M < 1 := by omega
        rw [if_neg h1'] at hen
        obtain rfl : en = 4 := by omega
        have h1g : M > 64 := h1
        clear hen HHH
        go_enter Tryz.func21, Tryz.ntmps21
        go_wp2_with fail
        rw [HW1.out]
        refine (HS.out).mono ?_
        rintro e w2 ⟨v, rfl, rfl, hb⟩
        have hb2 := HB0.out.trans (hb.mono HB0.out.size)
        have HWR := Lib.hid (cntWrong_c w2 E (HE.out w2 hb2) 1 4 (by decide) (by decide))
        have HB2 := Lib.hid hb2
        clear hb hb2 HS
        go_wp2_with fail
        refine (HWR.out).mono ?_
        rintro e w3 ⟨rfl, he, hb⟩
        have HV := Lib.hid (ErrV.some he)
        have HB := Lib.hid (HB2.out.trans (hb.mono HB2.out.size))
        clear he hb
        go_wp2_with fail
        go_ret2
        exact CNum.bad HV.out HB.out
    · have h1 : ¬ M < 1 := fun h => hM (.inl h)
      have h2 : ¬ 64 < M := fun h => hM (.inr h)
      have hpp := HP.out
      rw [if_neg h1, if_neg h2] at hpp
      obtain ⟨m, rfl⟩ : ∃ m : Nat, M = (m : Int) := ⟨M.toNat, by omega⟩
      simp only [natL_ints, Int.toNat_natCast] at hpp
      obtain rfl := hpp
      have h2g : ¬ (m : Int) > 64 := h2
      have hm1 : 0 < m := by omega
      have hm64 : m ≤ 64 := by omega
      have hr3 := hr.r3
      have hk1 := hr.k1
      have hk4 := hr.k4
      have HRU := Lib.hid hr
      have HL := Lib.hid hl
      clear HP hM hr hl
      go_enter Tryz.func21, Tryz.ntmps21
      go_wp2_with fail
      rw [HW1.out]
      refine (HS.out).mono ?_
      rintro e w2 ⟨v, rfl, rfl, hb⟩
      have hb2 := HB0.out.trans (hb.mono HB0.out.size)
      have hr2 := HR0.out.below hb HR0.out.lt
      have hbw := (Below.refl w2.heap.size w2).alloc (Nat.le_refl _) (.cells #[.int .i64 1] 3)
      have hcw := World.ownsRow_lit (base := w2.heap.size) (e := 3) (size := 1) w2 #[.int .i64 1] 1 (Nat.le_refl _) (by decide) (by simp)
      have hr2a := hr2.alloc (.cells #[.int .i64 1] 3)
      obtain ⟨r0, r1, r2, _⟩ := hr2a.facts
      obtain ⟨w3, hw3⟩ : ∃ w3, w2.alloc (.cells #[.int .i64 1] 3) = w3 := ⟨_, rfl⟩
      rw [hw3] at hbw hcw hr2a
      have hcw1 : w3.ownsRow w2.heap.size 3 1 (.slice (some ⟨w2.heap.size, 0, none⟩) 1 1) 1 [.int .i64 ((k ^ 0 : Nat) : Int)] := hcw
      have hrlt := hr2.lt
      have HW3 := Lib.hid hw3
      have HR3 := Lib.hid hr2a
      have HBW := Lib.hid hbw
      have HB2 := Lib.hid hb2
      have HC3 := Lib.hid hcw1
      clear hb hb2 hr2 hbw hcw hr2a hw3 hcw1 HS
      go_wp2_with fail
      rw [HW3.out]
      clear r0 r1 r2
      go_loopw [23] (fun iv wl => ∃ i : Nat, iv = .int .i64 (i : Int) ∧ i ≤ r ∧ Hid (wl.ownsRow w2.heap.size 3 1 (.slice (some ⟨w2.heap.size, 0, none⟩) 1 1) 1 [.int .i64 ((k ^ i : Nat) : Int)]) ∧ Hid (RuleAt wl w.heap.size (.int .i64 (k : Int)) (.int .i64 (r : Int)) (.slice A n c)) ∧ Hid (Below w2.heap.size w2 wl)) (fun iv _ => r - (intOf iv).toNat)
      case atStart => exact ⟨0, rfl, Nat.zero_le _, HC3, HR3, HBW⟩
      case round =>
        obtain ⟨i, rfl, hi, hC, hR, hB⟩ := hrel
        obtain ⟨v0, rfl⟩ : ∃ v0, v0 = wr := ⟨_, rfl⟩
        have q0 : v0.cell? ⟨w2.heap.size, 0, none⟩ = some (.int .i64 ((k ^ i : Nat) : Int)) := by rw [hC.out.cellAt 0 (by omega)]; rfl
        have q1 := hC.out.frozenAt 0
        obtain ⟨r0, r1, r2, _⟩ := hR.out.facts
        by_cases hir : i < r
        · have hir' : (i : Int) < (r : Int) := by omega
          have hi0 : (0 : Int) ≤ (i : Int) := by omega
          have hpw : k ^ (i + 1) ≤ 64 := Nat.le_trans (Nat.pow_le_pow_left hk4 _) (Nat.le_trans (Nat.pow_le_pow_right (by decide) (show i + 1 ≤ 3 by omega)) (by decide))
          obtain ⟨a, ha⟩ : ∃ a, k ^ i = a := ⟨_, rfl⟩
          obtain ⟨b, hb'⟩ : ∃ b, k ^ (i + 1) = b := ⟨_, rfl⟩
          have hab : (a : Int) * (k : Int) = (b : Int) := by rw [← ha, ← hb', Nat.pow_succ]; rfl
          rw [ha] at q0
          rw [hb'] at hpw
          have HBN := Lib.hid hb'
          have hwb : IntKind.i64.wrap (b : Int) = (b : Int) := IntWalk.i64_in _ (by omega)
          have hwc : wrap64 (b : Int) = (b : Int) := IntWalk.wrap64_in _ (by omega)
          have HNX : Hid ((v0.setCell ⟨w2.heap.size, 0, none⟩ (.int .i64 (b : Int))).ownsRow w2.heap.size 3 1 (.slice (some ⟨w2.heap.size, 0, none⟩) 1 1) 1 [.int .i64 (b : Int)]) := Lib.hid (hC.out.stored 0 (.int .i64 (b : Int))).1
          have HRX := Lib.hid (hR.out.keeps (Keeps.of_setCell v0 ⟨w2.heap.size, 0, none⟩ (.int .i64 (b : Int))) (by simp; omega))
          have HBX := Lib.hid (hB.out.setCell (p := ⟨w2.heap.size, 0, none⟩) (Nat.le_refl _) (.int .i64 (b : Int)))
          clear ha hb'
          go_wp2_with fail
          exact ⟨⟨i + 1, by go_num, by omega, by rw [HBN.out]; exact HNX, HRX, HBX⟩, by simp [intOf]; omega⟩
        · obtain rfl : i = r := by omega
          have hir' : ¬ (i : Int) < (i : Int) := by omega
          have hb3 := HB2.out.trans (hB.out.mono HB2.out.size)
          obtain ⟨hdv, hln⟩ := nodes_div HRU.out
          have htn : t.length = n := by have := (HT.out v0 hb3).1; simpa [ints] using this
          have hl := HL.out
          rw [htn] at hdv hln hl
          have hN0 : 0 < k ^ (2 * i) := Nat.pow_pos hk1
          have hN4 : k ^ (2 * i) ≤ 256 := by
            have := Nat.le_mul_of_pos_right (k ^ (2 * i)) hk1
            omega
          have hcr := crings_c v0 k (i : Int) n c (k ^ (2 * i)) m A 60 (.pointer (some ⟨w.heap.size, 0, none⟩)) (.pointer (some ⟨w2.heap.size, 0, none⟩)) (fixP k i t) hk1 hk4 hN0 hN4 hln hdv hm64
            (fun v1 v2 wz => run_enter Tryz.func60 (by kernel_rfl) (by kernel_rfl) _ _)
            (fun wz hz p q hp hq => fitsF_c wz w.heap.size w2.heap.size k i n c A t (hR.out.below hz hR.out.lt) (cell_later hz q0) (HT.out wz (hb3.trans (hz.mono hb3.size))) hk1 (by omega) p q hq)
          rw [rings_ringL hk1 (fixP k i t) hm1] at hcr
          unfold ruleV at hcr
          have HC := Lib.hid hcr
          have HB := Lib.hid hb3
          clear hb3 hcr hdv hln htn hN0 hN4 hl
          go_wp2_with fail
          refine (HC.out).mono ?_
          rintro e w4 ⟨A4, c4, rfl, _, ho4, hb4⟩
          go_wp2_with fail
          go_ret2
          exact ⟨A4, c4, _, rfl, own_base ho4 HB.out.size, rfl, HB.out.trans (hb4.mono HB.out.size)⟩
end Go.Proofs.YtibplgpolmplpaaGreatDoor
