/- Whether all words of a length have equally many preimages: count.Fair. Condition: the table reads from memory; the error variables hold what E says. One language of a rule and its narrow form, as the walks over the subsets see it: the narrow rule's walk is never too big where the wide one's is not. Plain lists, no program. No condition. The plain law of WholeFair and WholeOnto: what the search finds, and preimages. Plain laws, no program. What the cards of this seat share: the witness's world, and what the arguments' readings give. No condition. A rule handed as an argument, opened: its three cells. The reach of lists that came in: their capacity, in bytes. No condition. Cards of rows that list errors.errorType (a type's handle): the witness's world, and what the condition gives a walk. No condition. Lists that share no memory: edenraw.Apart returns true. Condition: each list is a slice in a row of its own, no two in one row. Lists that share no memory: the call of edenraw.Apart. Condition: each list is a slice in a row of its own, no two in one row. Lists in rows of their own, one behind the other: what edenraw.Apart asks. No condition. Lists of lists in memory of their own, side by side: what Apart asks of them. Plain lemmas. No condition. The walk with and without a stop; how long words and rows get. Plain lists, no program. No condition. -/
import Derived.Test.YtibplgpolmplpaaGreatDoorCards
import Derived.Test.YtibplgpolmplpaaGreatDoorTie
import Derived.ProofKit
import Derived.OpenShut
import Derived.LaidMore
import Derived.SevenTiedAt
import Derived.Lib.SmallJoins
import Derived.SizedLaws
import Derived.LaidHandle
import Derived.LaidSub
import Derived.Lay
import Derived.Test.YtibplgpolmplpaaGreatDoorW1
import Derived.Test.YtibplgpolmplpaaGreatDoorW2
import Derived.Test.YtibplgpolmplpaaGreatDoorW3
import Derived.Test.YtibplgpolmplpaaGreatDoorW7
import Derived.Test.YtibplgpolmplpaaGreatDoorW8
import Derived.Test.YtibplgpolmplpaaGreatDoorW17
import Derived.Test.YtibplgpolmplpaaGreatDoorW19
import Derived.Test.YtibplgpolmplpaaGreatDoorW22
namespace Go.Proofs.YtibplgpolmplpaaGreatDoor
open Go.RowKit RuleP NatP

set_option maxRecDepth 100000 in
set_option maxHeartbeats 1000000 in
theorem cFair_bad (w : World) (E : Nat → Addr) (hE : Errs w E) (K R : Int) (A : Option Addr) (n c : Nat) (T : List Int) (hT : Sl w A n (T.map (Value.int .i64))) (hm : n ≤ 9223372036854775807) (M : Int) (tl : Tale) (hs : smallC K R T = some tl) :
    Calls Tryz.prog 20 #[ruleV K R A n c, .int .i64 M] w fun e w' => ∃ v, e = .returned (.tuple #[.bool false, .slice none 0 0, v]) ∧ ErrV w' E (some tl) v ∧ Below w.heap.size w w' := by
  have hb0 := (Below.refl w.heap.size w).alloc (Nat.le_refl _) (.cells #[.int .i64 K, .int .i64 R, .slice A n c] 24)
  have hr0 := RuleAt.new w (.int .i64 K) (.int .i64 R) (.slice A n c)
  obtain ⟨w1, hw1⟩ : ∃ w1, w.alloc (.cells #[.int .i64 K, .int .i64 R, .slice A n c] 24) = w1 := ⟨_, rfl⟩
  obtain ⟨r0, r1, r2, _⟩ := hr0.facts
  rw [hw1] at hb0
  have hsm := cntSmall_c w1 E (hE.below hb0) K R A n c T (hT.below hb0) hm
  rw [hs] at hsm
  have HS := Lib.hid hsm
  have HW1 := Lib.hid hw1
  have HB0 := Lib.hid hb0
  clear hw1 hb0 hr0 hE hT hs hsm
  unfold ruleV at HS ⊢
  go_enter Tryz.func20, Tryz.ntmps20
  go_wp2_with fail
  rw [HW1.out]
  refine (HS.out).mono ?_
  rintro e w2 ⟨v, rfl, he, hb⟩
  obtain ⟨u, p, rfl⟩ := ErrIs.iface (show ErrIs w2 E tl.1 tl.2 v from he)
  have HV := Lib.hid he
  have HB := Lib.hid (HB0.out.trans (hb.mono HB0.out.size))
  clear he hb
  go_wp2_with fail
  exact bodyPost_ret (v := .tuple #[.bool false, .slice none 0 0, .iface u p]) (by simp [results, Tryz.results20, go_sem]) rfl ⟨_, rfl, HV.out, HB.out⟩

/-- All words of n symbols have N preimages. -/
def AllFair (k r : Nat) (t : List Nat) (n : Nat) : Prop := ∀ y : List Nat, y.length = n → (∀ s ∈ y, s < k) → (preL k r t y).length = k ^ (2 * r)
def FairPost (w : World) (k r : Nat) (t : List Nat) (n : Nat) (e : Ending) (w' : World) : Prop :=
  (e = .returned (.tuple #[.bool true, .slice none 0 0, .nilIface]) ∧ (k = 1 ∨ AllFair k r t n) ∧ Below w.heap.size w w') ∨
  ∃ (C : Option Addr) (cc : Nat) (x : List Nat), e = .returned (.tuple #[.bool false, .slice C n cc, .nilIface]) ∧ w'.ownsRow w.heap.size 3 1 (.slice C n cc) n ((ints x).map (Value.int .i64)) ∧ x.length = n ∧ (∀ s ∈ x, s < k) ∧ (preL k r t x).length ≠ k ^ (2 * r) ∧ Below w.heap.size w w'
theorem fair_all {k r n : Nat} {t : List Nat} (hk : 0 < k) (h : ∀ i, i < k ^ n → (preL k r t (digB k n i)).length = k ^ (2 * r)) : AllFair k r t n := by
  intro y hl hs
  have e := digB_wval hk n y hl hs
  rw [← e]
  exact h _ (by have := wval_lt hs; rwa [hl] at this)
theorem cmpN_zero {v u : Nat} : cmpN v u = 0 ↔ v = u := by
  unfold cmpN
  split
  · simp; omega
  · split
    · simp; omega
    · simp; omega

set_option maxRecDepth 100000 in
set_option maxHeartbeats 4000000 in
theorem cFair_c (w : World) (E : Nat → Addr) (hE : Errs w E) (k r : Nat) (A : Option Addr) (n c : Nat) (t : List Nat) (hT : Sl w A n ((ints t).map (Value.int .i64))) (hr : IsRule k r t) (h256 : t.length ≤ 256) (m : Nat) (hm : m ≤ 6) :
    Calls Tryz.prog 20 #[ruleV (k : Int) (r : Int) A n c, .int .i64 (m : Int)] w (FairPost w k r t m) := by
  have hb0 := (Below.refl w.heap.size w).alloc (Nat.le_refl _) (.cells #[.int .i64 (k : Int), .int .i64 (r : Int), .slice A n c] 24)
  have hr0 := RuleAt.new w (.int .i64 (k : Int)) (.int .i64 (r : Int)) (.slice A n c)
  have htn : t.length = n := by simpa [ints] using hT.1
  obtain ⟨w1, hw1⟩ : ∃ w1, w.alloc (.cells #[.int .i64 (k : Int), .int .i64 (r : Int), .slice A n c] 24) = w1 := ⟨_, rfl⟩
  obtain ⟨r0, r1, r2, _⟩ := hr0.facts
  rw [hw1] at hb0 hr0
  have hsm := cntSmall_c w1 E (hE.below hb0) (k : Int) (r : Int) A n c (ints t) (hT.below hb0) (by omega)
  rw [smallC_rule hr h256] at hsm
  have HS := Lib.hid hsm
  have HW1 := Lib.hid hw1
  have HB0 := Lib.hid hb0
  have HR0 := Lib.hid hr0
  have HT := Lib.hid (fun (wz : World) (hz : Below w.heap.size w wz) => hT.below hz)
  obtain ⟨hdv, hln⟩ := nodes_div hr
  rw [htn] at hdv hln h256
  have hk1 := hr.k1
  have hk4 := hr.k4
  have hN4 : k ^ (2 * r) ≤ 256 := by
    have := Nat.le_mul_of_pos_right (k ^ (2 * r)) hk1
    omega
  obtain ⟨N, hN⟩ : ∃ N, k ^ (2 * r) = N := ⟨_, rfl⟩
  rw [hN] at hdv hN4
  have HNE := Lib.hid hN
  have HNF := Lib.hid (node_facts hdv hN4)
  have HRU := Lib.hid hr
  have HTN := Lib.hid htn
  clear hw1 hb0 hr0 hE hT hsm hdv hln hN hr htn
  unfold ruleV at HS ⊢
  have hm0 : ¬ (m : Int) < 0 := by omega
  by_cases hk : k = 1
  · have HKE := Lib.hid hk
    clear hk
    go_enter Tryz.func20, Tryz.ntmps20
    go_wp2_with fail
    rw [HW1.out]
    refine (HS.out).mono ?_
    rintro e w2 ⟨v, rfl, rfl, hb⟩
    have hr2 := HR0.out.below hb HR0.out.lt
    obtain ⟨r0, r1, r2, _⟩ := hr2.facts
    have HB := Lib.hid (HB0.out.trans (hb.mono HB0.out.size))
    have hke : (k : Int) = 1 := by have := HKE.out; omega
    clear hb hr2
    go_wp2_with fail
    exact bodyPost_ret (v := .tuple #[.bool true, .slice none 0 0, .nilIface]) (by simp [results, Tryz.results20, go_sem]) rfl (.inl ⟨rfl, .inl HKE.out, HB.out⟩)
  · have hk' : ¬ (k : Int) = 1 := by omega
    go_enter Tryz.func20, Tryz.ntmps20
    go_wp2_with fail
    rw [HW1.out]
    refine (HS.out).mono ?_
    rintro e w2 ⟨v, rfl, rfl, hb⟩
    have hr2 := HR0.out.below hb HR0.out.lt
    obtain ⟨r0, r1, r2, _⟩ := hr2.facts
    have HB2 := Lib.hid (HB0.out.trans (hb.mono HB0.out.size))
    have HR2 := Lib.hid hr2
    clear hb hr2 HS
    go_wp2_with fail
    clear r0 r1 r2
    go_loopw [8, 23] (fun av iv wl => ∃ i a : Nat, iv = .int .i64 (i : Int) ∧ i ≤ m ∧ av = .int .i64 (a : Int) ∧ Hid (k ^ i = a) ∧ w2 = wl) (fun _ iv _ => m - (intOf iv).toNat)
    case atStart => exact ⟨0, 1, rfl, Nat.zero_le _, rfl, Lib.hid (Nat.pow_zero k), rfl⟩
    case round =>
      obtain ⟨i, a, rfl, hi, rfl, HA, rfl⟩ := hrel
      obtain ⟨r0, r1, r2, _⟩ := HR2.out.facts
      by_cases him : i < m
      · have him' : (i : Int) < (m : Int) := by omega
        have hpw : k ^ (i + 1) ≤ 4096 := Nat.le_trans (Nat.pow_le_pow_left hk4 _) (Nat.le_trans (Nat.pow_le_pow_right (by decide) (show i + 1 ≤ 6 by omega)) (by decide))
        have ha := HA.out
        obtain ⟨b, hb'⟩ : ∃ b, k ^ (i + 1) = b := ⟨_, rfl⟩
        have hab : (a : Int) * (k : Int) = (b : Int) := by rw [← ha, ← hb', Nat.pow_succ]; rfl
        rw [hb'] at hpw
        have HBN := Lib.hid hb'
        have hgt : ¬ (b : Int) > 4096 := by omega
        have hwb : IntKind.i64.wrap (b : Int) = (b : Int) := IntWalk.i64_in _ (by omega)
        have hwc : wrap64 (b : Int) = (b : Int) := IntWalk.wrap64_in _ (by omega)
        clear ha hb'
        go_wp2_with fail
        exact ⟨⟨i + 1, b, by go_num, by omega, rfl, HBN, by first | rfl | trivial⟩, by simp [intOf]; omega⟩
      · obtain rfl : i = m := by omega
        have him' : ¬ (i : Int) < (i : Int) := by omega
        obtain ⟨e1, e2, e3, e4⟩ := HNF.out
        have hk0 : ¬ ((k : Int) = 0) := by omega
        have hk0n : ¬ k = 0 := by omega
        have hcv : IntKind.u64.wrap (N : Int) = (N : Int) := IntWalk.u64_in _ ⟨by omega, by omega⟩
        have HFR := Lib.hid (fromL_n w2 N (by omega))
        go_wp2_with fail
        refine (HFR.out).mono ?_
        rintro e w3 ⟨AS, cS, rfl, _, hoS, hb3⟩
        have hb03 := HB2.out.trans (hb3.mono HB2.out.size)
        have hmk := run_make_row' (P := Tryz.prog) 22 3 (.int .i64 0) 8 tInts.und tInts.info rfl .i64 .i64 i (by omega) (by omega)
        have hmd := make_ints w3 i (by simp only [maxLen]; omega)
        have hb34 := (Below.refl w3.heap.size w3).alloc (Nat.le_refl _) (.cells (madeCells #[.int .i64 0] i) 3)
        obtain ⟨w4, hw4⟩ : ∃ w4, w3.alloc (.cells (madeCells #[.int .i64 0] i) 3) = w4 := ⟨_, rfl⟩
        rw [hw4] at hmd hb34
        have HS4 := Lib.hid (own_base (own_below hoS hb34) HB2.out.size)
        have HW4 := Lib.hid hw4
        have hpos : 0 < k ^ i := Nat.pow_pos hk1
        have h0Q : wordQ k i 0 = List.replicate i 0 := by unfold wordQ; rw [if_pos hpos, digB_zeros]
        have HM4 : Hid (w4.ownsRow w.heap.size 3 1 (.slice (some ⟨w3.heap.size, 0, none⟩) (wordQ k i 0).length i) (wordQ k i 0).length ((ints (wordQ k i 0)).map (Value.int .i64))) := Lib.hid (by
          rw [h0Q, List.length_replicate]
          have := own_base hmd hb03.size
          simpa [ints] using this)
        have hl0 : (wordQ k i 0).length = i := by rw [h0Q, List.length_replicate]
        have hb04 := hb03.trans (hb34.mono hb03.size)
        have HB4 := Lib.hid hb04
        have HR4 := Lib.hid (HR2.out.below (hb3.trans (hb34.mono hb3.size)) HR2.out.lt)
        have hpp : k ^ i ≤ 4096 := Nat.le_trans (Nat.pow_le_pow_left hk4 _) (Nat.le_trans (Nat.pow_le_pow_right (by decide) hm) (by decide))
        clear r0 r1 r2 hoS hb3 hb03 hmd hb34 hw4 h0Q hb04 e1 e2 e3 e4 HFR
        obtain ⟨all, rfl⟩ : ∃ all, all = a := ⟨_, rfl⟩
        rw [HA.out] at hpos hpp
        have HALL : Hid (k ^ i = all) := HA
        go_wp2_with fail
        rw [HW4.out]
        clear hmk
        go_loopw [10, 44] (fun xv jv wl => ∃ (j : Nat) (C : Option Addr) (cc : Nat), jv = .int .i64 (j : Int) ∧ j ≤ all ∧ xv = .slice C (wordQ k i j).length cc ∧ Hid (∀ u, u < j → (preL k r t (digB k i u)).length = N) ∧
          Hid (wl.ownsRow w.heap.size 3 1 (.slice C (wordQ k i j).length cc) (wordQ k i j).length ((ints (wordQ k i j)).map (Value.int .i64))) ∧ Hid (Below w4.heap.size w4 wl)) (fun _ jv _ => all - (intOf jv).toNat)
        case atStart => exact ⟨0, _, i, rfl, Nat.zero_le _, by rw [hl0], Lib.hid (fun u hu => by omega), HM4, Lib.hid (Below.refl _ _)⟩
        case round =>
          obtain ⟨j, C, cc, rfl, hj, rfl, hF, hO, hB⟩ := hrel
          obtain ⟨v0, rfl⟩ : ∃ v0, v0 = wr := ⟨_, rfl⟩
          clear HM4 hl0
          have hb0 := HB4.out.trans (hB.out.mono HB4.out.size)
          by_cases hja : j < all
          · have hja' : (j : Int) < (all : Int) := by omega
            have hj0 : (0 : Int) ≤ (j : Int) := by omega
            obtain ⟨q1, q2, q3⟩ := wordQ_in (k := k) (q := i) (i := j) hk1 (by rw [HALL.out]; exact hja)
            have hO' := hO.out
            rw [q1] at hO' ⊢
            obtain ⟨x, hx⟩ : ∃ x, wordQ k i j = x := ⟨_, rfl⟩
            have hnx := (wordQ_next (k := k) (q := i) (i := j) hk1 (by rw [HALL.out]; exact hja)).1
            rw [hx] at hO' q1 q2 q3 hnx
            have hcw := cwords_c v0 k r n c i cc A C t x (HT.out v0 hb0) HRU.out (by rw [HTN.out]; exact h256) (Sl.of_own hO') (by omega)
            unfold ruleV at hcw
            have HCW := Lib.hid hcw
            have hr0 := HR4.out.below hB.out HR4.out.lt
            obtain ⟨r0, r1, r2, _⟩ := hr0.facts
            have HX := Lib.hid (And.intro q1 (And.intro q2 (And.intro q3 hnx)))
            have HO := Lib.hid hO'
            have HB0 := Lib.hid hb0
            have HR := Lib.hid hr0
            clear hcw hr0 hO' hO q1 q2 q3 hnx hx hb0
            go_wp2_with fail
            refine (HCW.out).mono ?_
            rintro e v1 ⟨A1, c1, rfl, hn1, ho1, hb1⟩
            obtain ⟨pp, hpp'⟩ : ∃ pp, (preL k r t x).length = pp := ⟨_, rfl⟩
            rw [hpp'] at hn1 ho1 ⊢
            have hshare := num_own (own_below HS4.out (hB.out.trans (hb1.mono hB.out.size)))
            have hcm := cmp_n hn1 hshare (r := cmpN pp N) rfl
            have hb01 := HB0.out.trans (hb1.mono HB0.out.size)
            have ho1x := own_below HO.out hb1
            have hr1 := HR.out.below hb1 HR.out.lt
            have HB1 := Lib.hid (hB.out.trans (hb1.mono hB.out.size))
            by_cases hpN : pp = N
            · have hc0 : cmpN pp N = 0 := cmpN_zero.2 hpN
              rw [hc0] at hcm
              have HCM := Lib.hid hcm
              have HPN := Lib.hid (And.intro hpp' hpN)
              have HOX := Lib.hid ho1x
              have HR1 := Lib.hid hr1
              have HB01 := Lib.hid hb01
              clear hcm hn1 ho1 hshare hb1 hb01 ho1x hr1 hpp' hpN hc0 HCW r0 r1 r2
              go_wp2_with fail
              refine (HCM.out).mono ?_
              rintro e v2 ⟨rfl, hb2⟩
              have hr2 := HR1.out.below hb2 HR1.out.lt
              have hO2 := own_below HOX.out hb2
              have hb02 := HB01.out.trans (hb2.mono HB01.out.size)
              obtain ⟨r0, r1, r2, _⟩ := hr2.facts
              have HNX := Lib.hid (wordNext_c v2 k C i cc x hk1 hk4 HX.out.2.1 HX.out.1 (Sl.of_own hO2) (by omega))
              have HB2' := Lib.hid (HB1.out.trans (hb2.mono HB1.out.size))
              have HB02 := Lib.hid hb02
              clear hr2 hO2 hb02 hb2 HCM
              go_wp2_with fail
              refine (HNX.out).mono ?_
              rintro e v3 ⟨C3, cc3, rfl, ho3, hb3⟩
              rw [HX.out.2.2.2] at ho3
              have HO3 := Lib.hid (own_base ho3 HB02.out.size)
              have HBX := Lib.hid (HB2'.out.trans (hb3.mono HB2'.out.size))
              have HFX : Hid (∀ u, u < j + 1 → (preL k r t (digB k i u)).length = N) := Lib.hid (fun u hu => by
                rcases Nat.lt_or_ge u j with h | h
                · exact hF.out u h
                · obtain rfl : u = j := by omega
                  rw [← HX.out.2.2.1, HPN.out.1, HPN.out.2])
              have hnl : (nextB k x).length = (wordQ k i (j + 1)).length := by rw [HX.out.2.2.2]
              rw [hnl]
              clear ho3 hb3 hnl HNX r0 r1 r2
              go_wp2_with fail
              exact ⟨⟨j + 1, C3, cc3, by go_num, by omega, rfl, HFX, HO3, HBX⟩, by simp [intOf]; omega⟩
            · obtain ⟨zc, hzc, hz0⟩ : ∃ zc, cmpN pp N = zc ∧ ¬ zc = 0 := ⟨_, rfl, fun h => hpN (cmpN_zero.1 h)⟩
              rw [hzc] at hcm
              have HCM := Lib.hid hcm
              have HPN := Lib.hid (And.intro hpp' hpN)
              have HOX := Lib.hid ho1x
              have HB01 := Lib.hid hb01
              clear hcm hn1 ho1 hshare hb1 hb01 ho1x hr1 hpp' hpN hzc HCW
              go_wp2_with fail
              refine (HCM.out).mono ?_
              rintro e v2 ⟨rfl, hb2⟩
              have HO2 := Lib.hid (own_below HOX.out hb2)
              have HB02 := Lib.hid (HB01.out.trans (hb2.mono HB01.out.size))
              clear hb2
              go_wp2_with fail
              exact bodyPost_ret (v := .tuple #[.bool false, .slice C i cc, .nilIface]) (by simp [results, Tryz.results20, go_sem]) rfl (.inr ⟨C, cc, x, rfl, HO2.out, HX.out.1, HX.out.2.1, by rw [HPN.out.1, HNE.out]; exact HPN.out.2, HB02.out⟩)
          · obtain rfl : j = all := by omega
            have hja' : ¬ (j : Int) < (j : Int) := by omega
            have HB0 := Lib.hid hb0
            clear hb0
            go_wp2_with fail
            exact bodyPost_ret (v := .tuple #[.bool true, .slice none 0 0, .nilIface]) (by simp [results, Tryz.results20, go_sem]) rfl (.inl ⟨rfl, .inr (fair_all hk1 (fun u hu => by rw [HNE.out]; exact hF.out u (by rw [← HALL.out]; exact hu))), HB0.out⟩)
end Go.Proofs.YtibplgpolmplpaaGreatDoor

namespace Go.Proofs.YtibplgpolmplpaaGreatDoor
namespace SubP
open BagP RuleP

/-- The nodes behind a word. -/
def aft (k N : Nat) (t : List Nat) (w : List Nat) : List Bool := w.foldl (fun B c => beh k N t B c) (List.replicate N true)
theorem aft_nil (k N : Nat) (t : List Nat) : aft k N t [] = List.replicate N true := rfl
theorem aft_snoc (k N : Nat) (t w : List Nat) (c : Nat) : aft k N t (w ++ [c]) = beh k N t (aft k N t w) c := by simp [aft]
theorem snoc_of {n : Nat} {w : List Nat} (h : w.length = n + 1) : ∃ v x, w = v ++ [x] ∧ v.length = n := by
  have hne : w ≠ [] := fun e => by rw [e] at h; cases h
  refine ⟨w.dropLast, w.getLast hne, (List.dropLast_concat_getLast hne).symm, ?_⟩
  rw [List.length_dropLast]; omega
theorem image_snoc {k r n c : Nat} {t x : List Nat} (hx : x.length = n + 2 * r) : image k r t (x ++ [c]) = image k r t x ++ [t.getD (wval k (x.drop n ++ [c])) 0] := by
  have hl : (image k r t x).length = n := by rw [image_len]; omega
  apply List.ext_getElem?
  intro i
  rcases Nat.lt_trichotomy i n with h | h | h
  · rw [image_at (by rw [List.length_append]; simp; omega), List.getElem?_append_left (by omega), image_at (by omega)]
    congr 3
    unfold win
    rw [List.drop_append_of_le_length (by omega), List.take_append_of_le_length (by rw [List.length_drop]; omega)]
  · subst h
    rw [image_at (by rw [List.length_append]; simp; omega), List.getElem?_append_right (by omega), hl, Nat.sub_self]
    show some _ = some _
    congr 3
    unfold win
    rw [List.drop_append_of_le_length (by omega), List.take_of_length_le (by rw [List.length_append, List.length_drop]; simp; omega)]
  · rw [List.getElem?_eq_none (by rw [image_len, List.length_append]; simp; omega), List.getElem?_eq_none (by rw [List.length_append, hl]; simp; omega)]
/-- A node is behind a word just if a preimage ends in it. -/
theorem mem_aft {k r : Nat} (hk : 0 < k) {t : List Nat} : ∀ (n : Nat) (w : List Nat), w.length = n → ∀ v, v ∈ nodesOf (aft k (k ^ (2 * r)) t w) ↔ v < k ^ (2 * r) ∧ ∃ x, x.length = n + 2 * r ∧ (∀ y ∈ x, y < k) ∧ image k r t x = w ∧ x.drop n = digB k (2 * r) v
  | 0, w, h, v => by
    rw [List.length_eq_zero_iff.1 h, aft_nil, mem_nodesOf, List.length_replicate]
    constructor
    · rintro ⟨h1, _⟩
      exact ⟨h1, digB k (2 * r) v, by rw [digB_len]; omega, digB_sym hk _ _, image_few (by rw [digB_len]; exact Nat.le_refl _), rfl⟩
    · rintro ⟨h1, _⟩
      exact ⟨h1, by rw [List.getD_eq_getElem?_getD, List.getElem?_replicate, if_pos h1]; rfl⟩
  | n + 1, w, h, v => by
    obtain ⟨w', s, rfl, hw'⟩ := snoc_of h
    have hN : 0 < k ^ (2 * r) := Nat.pow_pos hk
    rw [aft_snoc, mem_beh hN, mem_behF]
    constructor
    · rintro ⟨u, hu, c, hc, hs, rfl⟩
      obtain ⟨hu1, x, hx1, hx2, hx3, hx4⟩ := (mem_aft hk n w' hw' u).1 hu
      refine ⟨Nat.mod_lt _ hN, x ++ [c], by rw [List.length_append, hx1]; simp; omega, fun y hy => ?_, ?_, ?_⟩
      · rcases List.mem_append.1 hy with hy | hy
        · exact hx2 y hy
        · rw [List.mem_singleton.1 hy]; exact hc
      · rw [image_snoc hx1, hx3, hx4, wval_snoc, wval_digB hk hu1, hs]
      · rw [← node_next hk hu1 hc, ← hx4, ← List.drop_append_of_le_length (by omega), List.drop_drop]
    · rintro ⟨hv, x', hx1, hx2, hx3, hx4⟩
      obtain ⟨x, c, rfl, hxl⟩ := snoc_of (n := n + 2 * r) (w := x') (by omega)
      have hxs : ∀ y ∈ x, y < k := fun y hy => hx2 y (List.mem_append.2 (.inl hy))
      have hc : c < k := hx2 c (List.mem_append.2 (.inr (List.mem_singleton.2 rfl)))
      rw [image_snoc hxl] at hx3
      have hil : (image k r t x).length = w'.length := by rw [image_len]; omega
      obtain ⟨e1, e2⟩ := List.append_inj hx3 hil
      have hdl : (x.drop n).length = 2 * r := by rw [List.length_drop]; omega
      have hds : ∀ y ∈ x.drop n, y < k := fun y hy => hxs y (List.mem_of_mem_drop hy)
      have hul := wval_lt hds
      rw [hdl] at hul
      have hdg := digB_wval hk (2 * r) (x.drop n) hdl hds
      refine ⟨wval k (x.drop n), (mem_aft hk n w' hw' _).2 ⟨hul, x, hxl, hxs, e1, hdg.symm⟩, c, hc, ?_, ?_⟩
      · rw [← wval_snoc]
        injection e2
      · have h5 := node_next hk hul hc
        rw [hdg] at h5
        rw [← List.drop_append_of_le_length (by omega), List.drop_drop, hx4] at h5
        have h6 := congrArg (wval k) h5
        rw [wval_digB hk hv, wval_digB hk (Nat.mod_lt _ hN)] at h6
        exact h6.symm
/-- What holds of the sets as they are found: unlike, not empty, each behind some word. -/
structure Met (k N : Nat) (t : List Nat) (S : St) : Prop where
  nd : S.sets.Nodup
  ne : ∀ B ∈ S.sets, nodesOf B ≠ []
  word : ∀ B ∈ S.sets, ∃ w : List Nat, (∀ c ∈ w, c < k) ∧ B = aft k N t w
/-- One set more than there may be. -/
def Much (k N : Nat) (t : List Nat) : Prop := ∃ S : St, Met k N t S ∧ 4096 < S.sets.length
theorem Met.init {k N : Nat} {t : List Nat} (hN : 0 < N) : Met k N t (init N) where
  nd := by simp [SubP.init]
  ne := (Inv.init hN).some
  word := fun B hB => by
    simp [SubP.init] at hB
    exact ⟨[], fun c hc => by simp at hc, hB⟩
theorem Met.more {k N : Nat} {t : List Nat} {S : St} (h : Met k N t S) {i s : Nat} (hi : i < S.sets.length) (hs : s < k) (h1 : nodesOf (beh k N t (S.sets.getD i []) s) ≠ []) (h2 : beh k N t (S.sets.getD i []) s ∉ S.sets) {W : List (List Nat)} {X : List (List Int)} :
    Met k N t ⟨S.sets ++ [beh k N t (S.sets.getD i []) s], W, X⟩ := by
  have hm : S.sets.getD i [] ∈ S.sets := by
    rw [List.getD_eq_getElem?_getD, List.getElem?_eq_getElem hi]
    exact List.getElem_mem hi
  obtain ⟨w, hw1, hw2⟩ := h.word _ hm
  refine ⟨?_, ?_, ?_⟩
  · rw [List.nodup_append]
    exact ⟨h.nd, by simp, fun a ha b hb e => by simp at hb; subst hb; subst e; exact h2 ha⟩
  · intro B hB
    rcases List.mem_append.1 hB with hB | hB
    · exact h.ne B hB
    · simp at hB; subst hB; exact h1
  · intro B hB
    rcases List.mem_append.1 hB with hB | hB
    · exact h.word B hB
    · obtain rfl := List.mem_singleton.1 hB
      refine ⟨w ++ [s], fun c hc => ?_, by rw [aft_snoc, ← hw2]⟩
      rcases List.mem_append.1 hc with hc | hc
      · exact hw1 c hc
      · rw [List.mem_singleton.1 hc]; exact hs
theorem Met.sym {k N : Nat} {t : List Nat} {S : St} (h : Met k N t S) {i s : Nat} {row : List Int} (hi : i < S.sets.length) (hs : s < k) :
    (∃ S' row', sym k N t false i S row s = .go S' row' ∧ Met k N t S' ∧ S.sets.length ≤ S'.sets.length) ∨ (sym k N t false i S row s = .over ∧ Much k N t) := by
  unfold SubP.sym
  by_cases h1 : nodesOf (beh k N t (S.sets.getD i []) s) = []
  · rw [if_pos h1]
    exact .inl ⟨_, _, rfl, h, Nat.le_refl _⟩
  · rw [if_neg h1]
    by_cases h2 : beh k N t (S.sets.getD i []) s ∈ S.sets
    · rw [if_pos h2]
      exact .inl ⟨_, _, rfl, h, Nat.le_refl _⟩
    · rw [if_neg h2]
      by_cases h3 : 4096 ≤ S.sets.length
      · rw [if_pos h3]
        exact .inr ⟨rfl, _, h.more hi hs h1 h2 (W := []) (X := []), by simp; omega⟩
      · rw [if_neg h3]
        exact .inl ⟨_, _, rfl, h.more hi hs h1 h2, by simp⟩
theorem Met.rowTo {k N : Nat} {t : List Nat} {S : St} (h : Met k N t S) {i : Nat} (hi : i < S.sets.length) : ∀ {s : Nat}, s ≤ k →
    (∃ S' row', rowTo k N t false i S s = .go S' row' ∧ Met k N t S' ∧ S.sets.length ≤ S'.sets.length) ∨ (rowTo k N t false i S s = .over ∧ Much k N t)
  | 0, _ => .inl ⟨S, [], rfl, h, Nat.le_refl _⟩
  | s + 1, hs => by
    rw [SubP.rowTo]
    rcases Met.rowTo h hi (s := s) (by omega) with ⟨S', row', e, h', hl⟩ | ⟨e, hm⟩
    · rw [e]
      rcases h'.sym (row := row') (show i < S'.sets.length by omega) (show s < k by omega) with ⟨S2, row2, e2, h2, hl2⟩ | ⟨e2, hm⟩
      · exact .inl ⟨S2, row2, e2, h2, by omega⟩
      · exact .inr ⟨e2, hm⟩
    · rw [e]
      exact .inr ⟨rfl, hm⟩
theorem Met.round {k N : Nat} {t : List Nat} (hN : 0 < N) : ∀ (n : Nat), (∃ S row, roundTo k N t false n = .go S row ∧ Met k N t S) ∨ (roundTo k N t false n = .over ∧ Much k N t)
  | 0 => .inl ⟨_, _, rfl, Met.init hN⟩
  | n + 1 => by
    rw [roundTo]
    rcases Met.round hN n with ⟨S, row, e, h⟩ | ⟨e, hm⟩
    · rw [e]
      dsimp only
      by_cases hl : n < S.sets.length
      · rw [if_pos hl]
        rcases h.rowTo hl (Nat.le_refl k) with ⟨S', row', e', h', _⟩ | ⟨e', hm⟩
        · rw [e']
          exact .inl ⟨_, _, rfl, ⟨h'.nd, h'.ne, h'.word⟩⟩
        · rw [e']
          exact .inr ⟨rfl, hm⟩
      · rw [if_neg hl]
        exact .inl ⟨_, _, rfl, h⟩
    · rw [e]
      exact .inr ⟨rfl, hm⟩
theorem aft_has {k r : Nat} {t : List Nat} (hk : 0 < k) {w : List Nat} : nodesOf (aft k (k ^ (2 * r)) t w) ≠ [] ↔ HasP k r t w := by
  constructor
  · intro h
    obtain ⟨v, hv⟩ := List.exists_mem_of_ne_nil _ h
    obtain ⟨_, x, h1, h2, h3, _⟩ := (mem_aft hk _ w rfl v).1 hv
    exact ⟨x, h1, h2, h3⟩
  · rintro ⟨x, h1, h2, h3⟩ he
    have hdl : (x.drop w.length).length = 2 * r := by rw [List.length_drop]; omega
    have hds : ∀ y ∈ x.drop w.length, y < k := fun y hy => h2 y (List.mem_of_mem_drop hy)
    have hul := wval_lt hds
    rw [hdl] at hul
    have hu := (mem_aft (t := t) hk _ w rfl (wval k (x.drop w.length))).2 ⟨hul, x, h1, h2, h3, (digB_wval hk (2 * r) _ hdl hds).symm⟩
    rw [he] at hu
    simp at hu
end SubP
end Go.Proofs.YtibplgpolmplpaaGreatDoor

namespace Go.Proofs.YtibplgpolmplpaaGreatDoor
open RuleP SubP

theorem run_has {k r : Nat} {t : List Nat} (hk : 0 < k) {w : List Nat} : nodesOf (run k (k ^ (2 * r)) t w) ≠ [] ↔ HasP k r t w := aft_has hk
theorem fin_has {k r : Nat} {t : List Nat} (hk : 0 < k) {S : St} {row : List Int} (h : fin k (k ^ (2 * r)) t true = .go S row) (v : List Nat) (hv : ∀ x ∈ v, x < k) : HasP k r t v :=
  (run_has hk).1 (fin_yes (Nat.pow_pos hk) h hv)
theorem fin_hasNot {k r : Nat} {t x : List Nat} (hk : 0 < k) (h : fin k (k ^ (2 * r)) t true = .orphan x) : (∀ s ∈ x, s < k) ∧ x ≠ [] ∧ preL k r t x = [] ∧ ∀ y : List Nat, (∀ s ∈ y, s < k) → Slt k y x → preL k r t y ≠ [] := by
  obtain ⟨h1, h2, h3, h4⟩ := fin_orphan (Nat.pow_pos hk) h
  refine ⟨h1, h2, ?_, fun y hy hlt => preL_has.2 ((run_has hk).1 (h4 y hy hlt))⟩
  apply Classical.byContradiction
  intro hne
  exact (run_has hk).2 (preL_has.1 hne) h3
theorem one_symbol {r : Nat} {t a b : List Nat} (h : RuleP.Twin 1 r t a b) : False := by
  refine h.ne ?_
  apply List.ext_getElem?
  intro i
  rcases Nat.lt_or_ge i a.length with hi | hi
  · have hib : i < b.length := by rw [← h.len]; exact hi
    have h1 := h.sa (a[i]) (List.getElem_mem hi)
    have h2 := h.sb (b[i]) (List.getElem_mem hib)
    rw [List.getElem?_eq_getElem hi, List.getElem?_eq_getElem hib]
    congr 1
    omega
  · rw [List.getElem?_eq_none hi, List.getElem?_eq_none (by rw [← h.len]; exact hi)]
end Go.Proofs.YtibplgpolmplpaaGreatDoor

namespace Go.Proofs.YtibplgpolmplpaaGreatDoor
open Go.ChangeShapes Go.WideShapes Go.ChangeAt Go.RowKit

theorem own : ownKnob Tryz.prog.godebug = none := by kernel_rfl
theorem laidOut : laidOutB Tryz.prog = true := by kernel_rfl
theorem cellsInt : Tryz.prog.cellsOf 3 = 1 := by kernel_rfl

set_option maxRecDepth 100000 in
/-- A slice of numbers that came in, nil or not: its cells, its reading behind a call that writes to nothing that was there. -/
theorem open_sl {H : Type} {enc : TypeId × Value → H} {W : World} {base : Nat} {v : Value} {d : DataW H} {p : List MemPlace} (hval : Value.okWide Tryz.prog W .any base 22 v)
    (h : DataW.Trod enc Tryz.prog W 0 (fun _ => true) true 22 v d p) :
    ∃ (A : Option Addr) (n c : Nat) (xs : List Int), v = .slice A n c ∧ n ≤ c ∧ c ≤ maxLen ∧ Sl W A n (xs.map (Value.int .i64)) ∧ (∀ x ∈ xs, (Lit.int .i64 x).wf = true) := by
  obtain ⟨a0, len, cap, rfl⟩ := okWide_slice Tryz.underlying22 hval
  obtain ⟨fuel, hf⟩ := h
  rcases open_ints Tryz.underlying22 Tryz.underlying3 cellsInt hf with ⟨hcs, _⟩ | ⟨a, len', cap', zs, hcs, _, hl, hm, hz, _, hcell, hwz⟩
  · simp [Value.cells] at hcs
    obtain ⟨rfl, rfl, rfl⟩ := hcs
    exact ⟨none, 0, 0, [], rfl, Nat.le_refl _, Nat.zero_le _, Sl.nil _ _, fun x hx => by simp at hx⟩
  · simp [Value.cells] at hcs
    obtain ⟨rfl, rfl, rfl⟩ := hcs
    simp only [if_true] at hz
    refine ⟨some a, len, cap, zs.take len, rfl, hl, hm, ⟨by simp; omega, fun k u hu => ?_⟩, fun x hx => hwz x (List.mem_of_mem_take hx)⟩
    have hk : k < len := by
      have := (List.getElem?_eq_some_iff.1 hu).1
      simp at this
      omega
    refine ⟨a, rfl, ?_⟩
    rw [hcell k (by omega)]
    rw [List.getElem?_map, List.getElem?_take, if_pos hk] at hu
    rw [List.getD_eq_getElem?_getD]
    cases hz : zs[k]? with
    | none => rw [hz] at hu; cases hu
    | some z => rw [hz] at hu; exact hu

/-- No parameter of these types wants a stand-in. -/
theorem noStandIn (l : List TypeId) (hall : (l.all fun u => !Tryz.prog.wantsStandIn u) = true) {ps : Array TypeId} (hp : ps.toList = l) (j : Nat) (t : TypeId) (ht : ps[j]? = some t) : Tryz.prog.wantsStandIn t = false := by
  have hm : t ∈ l := by rw [← hp]; exact Array.mem_toList_iff.2 (Array.mem_of_getElem? ht)
  simpa using List.all_eq_true.1 hall t hm

end Go.Proofs.YtibplgpolmplpaaGreatDoor

namespace Go.Proofs.YtibplgpolmplpaaGreatDoor
open Go.ChangeShapes Go.WideShapes Go.ChangeAt Go.RowKit Go.Joins
set_option linter.all false
set_option maxRecDepth 10000

theorem open_rule {H : Type} {enc : TypeId × Value → H} {W : World} {base : Nat} {v : Value} {d : DataW H} {p : List MemPlace} (hval : Value.okWide Tryz.prog W .any base 24 v)
    (h : DataW.Trod enc Tryz.prog W 0 (fun _ => true) true 24 v d p) :
    ∃ (K R : Int) (A : Option Addr) (n c : Nat) (xs : List Int), v = .agg #[.int .i64 K, .int .i64 R, .slice A n c] ∧ n ≤ c ∧ c ≤ maxLen ∧ Sl W A n (xs.map (Value.int .i64)) ∧ (∀ x ∈ xs, (Lit.int .i64 x).wf = true) := by
  obtain ⟨c0, c1, c2, y0, y1, y2, m, rfl, rfl, rfl, hy0, hy1, hy2⟩ := open_agg3 Tryz.underlying24 (by kernel_rfl) (by kernel_rfl) hval h
  obtain ⟨K, e0, _, _⟩ := DataW.trod_int Tryz.underlying3 hy0
  obtain ⟨R, e1, _, _⟩ := DataW.trod_int Tryz.underlying3 hy1
  simp at e0 e1
  subst e0 e1
  rcases open_ints Tryz.underlying22 Tryz.underlying3 cellsInt hy2 with ⟨hcs, _⟩ | ⟨a, len', cap', zs, hcs, _, hl, hm, hz, _, hcell, hwz⟩
  · simp at hcs
    subst hcs
    exact ⟨K, R, none, 0, 0, [], rfl, Nat.le_refl _, Nat.zero_le _, Sl.nil _ _, fun x hx => by simp at hx⟩
  · simp at hcs
    subst hcs
    simp only [if_true] at hz
    refine ⟨K, R, some a, len', cap', zs.take len', rfl, hl, hm, ⟨by simp; omega, fun k u hu => ?_⟩, fun x hx => hwz x (List.mem_of_mem_take hx)⟩
    have hk : k < len' := by
      have := (List.getElem?_eq_some_iff.1 hu).1
      simp at this
      omega
    refine ⟨a, rfl, ?_⟩
    rw [hcell k (by omega)]
    rw [List.getElem?_map, List.getElem?_take, if_pos hk] at hu
    rw [List.getD_eq_getElem?_getD]
    cases hz : zs[k]? with
    | none => rw [hz] at hu; cases hu
    | some z => rw [hz] at hu; exact hu
end Go.Proofs.YtibplgpolmplpaaGreatDoor

namespace Go.Proofs.YtibplgpolmplpaaGreatDoor
open Go.ChangeShapes Go.WideShapes Go.ChangeAt Go.RowKit Go.Joins
end Go.Proofs.YtibplgpolmplpaaGreatDoor

namespace Go.Proofs.YtibplgpolmplpaaGreatDoor
open Go.ChangeShapes Go.WideShapes Go.ChangeAt Go.RowKit

def handleRow : String × DataW Unit := ("errors.errorType", .iface "internal/reflectlite.rtype" (.agg [.ptr (.lit (.string [101, 114, 114, 111, 114]))]))
noncomputable def handled (os : Os) : World :=
  let w0 := World.holding Tryz.prog os ⟨#[], #[], []⟩
  { w0 with heap := w0.heap.modify 1 fun
      | .cells _ t frozen => .cells #[.iface 138 (.agg #[.pointer (some ⟨13, 27, none⟩)])] t frozen
      | o => o }
def plainOf (laid : List (String × DataW Unit)) : List (String × DataW Unit) := laid.filter fun x => x.2.handleName?.isNone
noncomputable def laidAllH (os : Os) (laid : List (String × DataW Unit)) : World := (handled os).layVars Tryz.prog (plainOf laid)
theorem laidAllH_os (os : Os) (laid : List (String × DataW Unit)) : (laidAllH os laid).os = os := World.layVars_os _ _ _
theorem laidMetH_allH {os : Os} {laid : List (String × DataW Unit)} (args : Array Value)
    (hf : (handled os).layFits Tryz.prog (plainOf laid) [] = true)
    (hi : (handled os).layIfaces Tryz.prog (plainOf laid) (laidAllH os laid) = true)
    (hh : (laid.filter fun x => x.2.handleName?.isSome).all (handleAtB Tryz.prog (laidAllH os laid)) = true) :
    laidMetH Tryz.prog laid ((laidAllH os laid).forCall (fun _ _ => 0) ⟨#[], args, []⟩).memory := by
  have e1 : ((plainOf laid).filter fun x => ((plainOf laid).map (·.1)).contains x.1) = plainOf laid := List.filter_eq_self.2 fun x hx => List.contains_iff_mem.2 (List.mem_map.2 ⟨x, hx, rfl⟩)
  have e2 : ((plainOf laid).filter fun x => !((plainOf laid).map (·.1)).contains x.1) = [] := List.filter_eq_nil_iff.2 fun x hx => by rw [List.contains_iff_mem.2 (List.mem_map.2 ⟨x, hx, rfl⟩)]; simp
  have h : laidMet Tryz.prog (plainOf laid) (laidAllH os laid) := laidMet_layVars (w0 := handled os) ((plainOf laid).map (·.1)) [] (by rw [e1]; rfl) (by rw [e1]; exact hf) (by rw [e1]; exact hi) (by rw [e2]; exact LaidIn.none)
  have h2 : laidMetH Tryz.prog laid (laidAllH os laid) := laidMetH_of_parts h hh
  exact laidMetH.of_heap (by simp [World.memory, World.forCall, Input.heap]) h2

theorem rtypeCut : (Tryz.prog.cutTypes.find? (·.1 == "internal/reflectlite.rtype")).map (·.2) = some 138 := by kernel_rfl
theorem oneErrorRow : ((List.range Tryz.prog.types.size).filter fun t => Tryz.prog.rowNamed t [101, 114, 114, 111, 114]) = [27] := by kernel_rfl
theorem errT_of {W : World} {l : List (String × DataW Unit)} (h : laidMetH Tryz.prog l W) (hl : (l.filter fun x => x.2.handleName?.isSome) = [handleRow]) : ErrT W := by
  have h' := (laidMetH_iff.1 h).2
  rw [hl] at h'
  obtain ⟨name, u, ty, e1, e2, e3, e4, e5⟩ := h' _ (List.mem_singleton.2 rfl)
  have en : name = [101, 114, 114, 111, 114] := (Option.some.inj e1).symm
  subst en
  obtain rfl := Option.some.inj (rtypeCut.symm.trans e2)
  have hm : ty ∈ (List.range Tryz.prog.types.size).filter fun t => Tryz.prog.rowNamed t [101, 114, 114, 111, 114] := List.mem_filter.2 ⟨List.mem_range.2 e3, e4⟩
  rw [oneErrorRow] at hm
  obtain rfl := List.mem_singleton.1 hm
  have hh : typeHandle Tryz.prog 27 = .pointer (some ⟨13, 27, none⟩) := by kernel_rfl
  rw [hh] at e5
  have et : Tryz.prog.globalNamed "errors.errorType" = some 1 := by kernel_rfl
  simpa [ErrT] using World.var?_cell et e5 0
end Go.Proofs.YtibplgpolmplpaaGreatDoor

namespace Go.Proofs.YtibplgpolmplpaaGreatDoor
open Go.RowKit
namespace Apart

def mk (i : Nat) : Int := -2 * (i : Int) - 1
/-- What list i holds, when k lists have been marked, and j places of the next. -/
def cont (k j i : Nat) (xs : List Int) : List Int := if i < k then List.replicate xs.length (mk i) else if i = k then List.replicate j (mk i) ++ xs.drop j else xs

theorem cont_zero (k i : Nat) (xs : List Int) : cont k 0 i xs = if i < k then List.replicate xs.length (mk i) else xs := by
  unfold cont; split
  · rfl
  · split <;> simp
/-- Every list in a row of its own. -/
structure Rows (w : World) (R : List (Value × List Int)) (k j : Nat) : Prop where
  own : ∀ (i : Nat) (p : Value × List Int), R[i]? = some p → w.ownsRow 0 3 1 p.1 p.2.length ((cont k j i p.2).map (Value.int .i64))
def Far (R : List (Value × List Int)) : Prop := ∀ (i j : Nat) (p q : Value × List Int) (g : Nat), i ≠ j → R[i]? = some p → R[j]? = some q → p.1.ownBlock = some g → q.1.ownBlock ≠ some g
def Foot (R : List (Value × List Int)) (b : Nat) : Prop := ∃ p ∈ R, p.1.ownBlock = some b

end Apart
end Go.Proofs.YtibplgpolmplpaaGreatDoor

namespace Go.Proofs.YtibplgpolmplpaaGreatDoor
open Go.RowKit Apart

end Go.Proofs.YtibplgpolmplpaaGreatDoor

namespace Go.Proofs.YtibplgpolmplpaaGreatDoor
open Go.RowKit

/-- A row of the call's own whose block lies from lo on and before hi. -/
structure Row (w : World) (lo hi : Nat) (v : Value) (n : Nat) (xs : List Value) : Prop where
  own : w.ownsRow lo 3 1 v n xs
  hi : ∀ g, v.ownBlock = some g → g < hi
namespace Row
variable {w w' : World} {lo hi n : Nat} {v : Value} {xs : List Value}
theorem of (h : w.ownsRow lo 3 1 v n xs) : Row w lo w.heap.size v n xs := ⟨h, fun g hg => (h.lt g hg).2⟩
theorem keeps {O : Nat → Prop} (h : Row w lo hi v n xs) (hk : Keeps O w w') (ho : ∀ b, O b → lo ≤ b → b < hi → False) : Row w' lo hi v n xs :=
  ⟨own_keeps h.own hk (fun g hg hO => ho g hO (h.own.lt g hg).1 (h.hi g hg)), h.hi⟩
theorem below (h : Row w lo hi v n xs) (hb : Below w.heap.size w w') : Row w' lo hi v n xs := ⟨own_below h.own hb, h.hi⟩
theorem sl {A : Option Addr} {c : Nat} (h : Row w lo hi (.slice A n c) n xs) : Sl w A n xs := Sl.of_own h.own
end Row

/-- Rows one behind the other, from block lo on. -/
def Ranged (w : World) : Nat → List (Value × List Int) → Prop
  | _, [] => True
  | lo, p :: R => ∃ l hi, lo ≤ l ∧ l ≤ hi ∧ Row w l hi p.1 p.2.length (p.2.map (Value.int .i64)) ∧ Ranged w hi R
namespace Ranged
variable {w : World}
theorem at_ : ∀ {R : List (Value × List Int)} {lo : Nat}, Ranged w lo R → ∀ (i : Nat) (p : Value × List Int), R[i]? = some p → ∃ l hi, lo ≤ l ∧ l ≤ hi ∧ Row w l hi p.1 p.2.length (p.2.map (Value.int .i64))
  | [], _, _, i, p, h => by simp at h
  | q :: R, lo, ⟨l, hi, h1, h2, h3, h4⟩, 0, p, h => by simp at h; subst h; exact ⟨l, hi, h1, h2, h3⟩
  | q :: R, lo, ⟨l, hi, h1, h2, h3, h4⟩, i + 1, p, h => by
    obtain ⟨l', hi', a, b, c⟩ := at_ h4 i p (by simpa using h)
    exact ⟨l', hi', by omega, b, c⟩
theorem rows {R : List (Value × List Int)} {lo : Nat} (h : Ranged w lo R) : Apart.Rows w R 0 0 := ⟨fun i p hp => by
  obtain ⟨l, hi, _, _, hr⟩ := h.at_ i p hp
  rw [Apart.cont_zero, if_neg (by omega)]
  exact own_base hr.own (Nat.zero_le _)⟩
theorem foot {R : List (Value × List Int)} {lo b : Nat} (h : Ranged w lo R) (hb : Apart.Foot R b) : lo ≤ b := by
  obtain ⟨p, hp, hg⟩ := hb
  obtain ⟨i, hi⟩ := List.getElem?_of_mem hp
  obtain ⟨l, hi', h1, _, hr⟩ := h.at_ i p hi
  have := (hr.own.lt b hg).1
  omega
theorem far : ∀ {R : List (Value × List Int)} {lo : Nat}, Ranged w lo R → Apart.Far R
  | [], _, _ => fun i j p q g _ hi => by simp at hi
  | r :: R, lo, ⟨l, hi, h1, h2, h3, h4⟩ => by
    have ih := far h4
    have hd : ∀ (j : Nat) (q : Value × List Int) (g : Nat), R[j]? = some q → r.1.ownBlock = some g → q.1.ownBlock ≠ some g := fun j q g hq hg hq' => by
      have := h3.hi g hg
      have := h4.foot ⟨q, List.mem_of_getElem? hq, hq'⟩
      omega
    intro i j p q g hij hp hq hg hq'
    match i, j, hij, hp, hq with
    | 0, 0, hij, _, _ => exact hij rfl
    | 0, j + 1, _, hp, hq =>
      simp at hp hq
      subst hp
      exact hd j q g hq hg hq'
    | i + 1, 0, _, hp, hq =>
      simp at hp hq
      subst hq
      exact hd i p g hp hq' hg
    | i + 1, j + 1, hij, hp, hq =>
      simp at hp hq
      exact ih i j p q g (by omega) hp hq hg hq'
theorem mono {R : List (Value × List Int)} {lo lo' : Nat} (h : Ranged w lo R) (hl : lo' ≤ lo) : Ranged w lo' R := by
  cases R with
  | nil => trivial
  | cons p R => obtain ⟨l, hi, h1, h2, h3, h4⟩ := h; exact ⟨l, hi, by omega, h2, h3, h4⟩
theorem cons {R : List (Value × List Int)} {lo l hi hi' : Nat} {v : Value} {xs : List Int} {n : Nat} (h1 : lo ≤ l) (h2 : l ≤ hi) (hr : Row w l hi v n (xs.map (Value.int .i64))) (hn : xs.length = n) (h3 : hi ≤ hi') (h : Ranged w hi' R) : Ranged w lo ((v, xs) :: R) := by
  subst hn
  exact ⟨l, hi, h1, h2, hr, h.mono h3⟩
theorem nil (w : World) (lo : Nat) : Ranged w lo [] := trivial
end Ranged

end Go.Proofs.YtibplgpolmplpaaGreatDoor

namespace Go.Proofs.YtibplgpolmplpaaGreatDoor
open Go.RowKit RuleP

namespace FarR
/-- Rows and what they hold. -/
def rowsI (rows : List Value) (L : List (List Int)) : List (Value × List Int) := rows.zip L
theorem rowsI_at {rows : List Value} {L : List (List Int)} {i : Nat} {p : Value × List Int} (hp : (rowsI rows L)[i]? = some p) : rows[i]? = some p.1 ∧ L[i]? = some p.2 := by
  unfold rowsI at hp
  rw [List.getElem?_zip_eq_some] at hp
  exact hp
theorem far_of {rows : List Value} {L : List (List Int)} (h : FarV rows) : Apart.Far (rowsI rows L) := fun i j p q g hij hp hq hg => h i j p.1 q.1 g hij (rowsI_at hp).1 (rowsI_at hq).1 hg
/-- A group of rows: they lie in blocks from lo to hi, none longer than m. -/
structure Grp (w : World) (lo hi m : Nat) (R : List (Value × List Int)) : Prop where
  own : ∀ p ∈ R, w.ownsRow 0 3 1 p.1 p.2.length (p.2.map (Value.int .i64))
  blk : ∀ p ∈ R, ∀ g, p.1.ownBlock = some g → lo ≤ g ∧ g < hi
  len : ∀ p ∈ R, p.2.length ≤ m
  far : Apart.Far R
theorem Grp.pure {w w' : World} {lo hi m : Nat} {R : List (Value × List Int)} (h : Grp w lo hi m R) (hb : Below w.heap.size w w') : Grp w' lo hi m R :=
  { h with own := fun p hp => own_below (h.own p hp) hb }
theorem Grp.list {w : World} {B m : Nat} {lv : Value} {rows : List Value} {L : List (List Int)} {X : Nat → Prop} (h : RowsAt w B lv rows L X) (hm : ∀ l ∈ L, l.length ≤ m) : Grp w B w.heap.size m (rowsI rows L) where
  own := fun p hp => by
    obtain ⟨i, hi⟩ := List.getElem?_of_mem hp
    obtain ⟨a, b⟩ := rowsI_at hi
    obtain ⟨v, h1, h2, _⟩ := h.el i p.2 b
    rw [a] at h1
    cases h1
    exact own_base h2 (Nat.zero_le _)
  blk := fun p hp g hg => by
    obtain ⟨i, hi⟩ := List.getElem?_of_mem hp
    obtain ⟨a, b⟩ := rowsI_at hi
    obtain ⟨v, h1, h2, _⟩ := h.el i p.2 b
    rw [a] at h1
    cases h1
    exact h2.lt g hg
  len := fun p hp => by
    obtain ⟨i, hi⟩ := List.getElem?_of_mem hp
    exact hm _ (List.mem_of_getElem? (rowsI_at hi).2)
  far := far_of h.far
theorem Grp.one {w : World} {B m : Nat} {v : Value} {l : List Int} (h : w.ownsRow B 3 1 v l.length (l.map (Value.int .i64))) (hm : l.length ≤ m) : Grp w B w.heap.size m [(v, l)] where
  own := fun p hp => by rw [List.mem_singleton] at hp; rw [hp]; exact own_base h (Nat.zero_le _)
  blk := fun p hp g hg => by rw [List.mem_singleton] at hp; rw [hp] at hg; exact h.lt g hg
  len := fun p hp => by rw [List.mem_singleton] at hp; rw [hp]; exact hm
  far := fun i j p q g hij hp hq _ _ => by
    match i, j, hij, hp, hq with
    | 0, 0, hij, _, _ => exact hij rfl
    | i + 1, _, _, hp, _ => simp at hp
    | 0, j + 1, _, _, hq => simp at hq
end FarR
end Go.Proofs.YtibplgpolmplpaaGreatDoor

namespace Go.Proofs.YtibplgpolmplpaaGreatDoor
open BagP RuleP
namespace SubP
variable {k N : Nat} {t : List Nat}

theorem sym_stop {i s : Nat} {S : St} {row : List Int} {o : Out} (h : sym k N t true i S row s = o) (ho : ∀ x, o ≠ .orphan x) : sym k N t false i S row s = o := by
  unfold sym at h ⊢
  split at h
  · rw [if_pos rfl] at h
    exact absurd h.symm (ho _)
  · rename_i hn
    rw [if_neg hn]
    exact h
theorem row_stop {i : Nat} {S : St} : ∀ {s : Nat} {o : Out}, rowTo k N t true i S s = o → (∀ x, o ≠ .orphan x) → rowTo k N t false i S s = o
  | 0, _, h, _ => h
  | s + 1, o, h, ho => by
    unfold rowTo at h ⊢
    split at h
    · rename_i S' row e
      rw [row_stop e (fun x hx => by cases hx)]
      exact sym_stop h ho
    · exact absurd h.symm (ho _)
    · rename_i e
      rw [row_stop e (fun x hx => by cases hx)]
      exact h
theorem round_stop : ∀ {n : Nat} {o : Out}, roundTo k N t true n = o → (∀ x, o ≠ .orphan x) → roundTo k N t false n = o
  | 0, _, h, _ => h
  | n + 1, o, h, ho => by
    unfold roundTo at h ⊢
    split at h
    · rename_i S row e
      rw [round_stop e (fun x hx => by cases hx)]
      simp only
      split at h
      · rename_i hl
        rw [if_pos hl]
        split at h
        · rename_i S' row' e'
          rw [row_stop e' (fun x hx => by cases hx)]
          exact h
        · exact absurd h.symm (ho _)
        · rename_i e'
          rw [row_stop e' (fun x hx => by cases hx)]
          exact h
      · rename_i hl
        rw [if_neg hl]
        exact h
    · exact absurd h.symm (ho _)
    · rename_i e
      rw [round_stop e (fun x hx => by cases hx)]
      exact h
/-- What is not too much without a stop is not too much with one. -/
theorem fin_not_over {S : St} {row : List Int} (h : fin k N t false = .go S row) : fin k N t true ≠ .over := fun e => by
  have := round_stop (n := 4097) e (fun x hx => by cases hx)
  unfold fin at h
  rw [h] at this
  cases this
end SubP
end Go.Proofs.YtibplgpolmplpaaGreatDoor
