/- The inverse of the least radius: inverse.find and inverse.Rule of a good rule of at most 64 entries. Condition: the table reads from memory; the error variables hold what E says. inverse.Rule of any rule of at most 64 entries. Condition: the table reads from memory; the error variables hold what E says. The search for twins, the walk: twins.meet. Condition: the graph reads from memory; it is one of pairs. Whether a rule has twins: twins.Finite. Condition: the table reads from memory; the error variables hold what E says. The rules of the tops' own: edentop.eca. No condition. Whether the rules 170 and 90 have inverses, reckoned. No condition. What strings.TrimLeft returns at the cutset "0". No condition. Bytes that the call owns, as a text. Plain lemmas over memory. No condition. What memory holds of the walk over the subsets: subset's walk. Plain lemmas, no program. No condition. -/
import Derived.Deep.RegionHeld3
import Derived.StillTailTactics
import Derived.Deep.AppendLies
import Derived.IntWalk
import Derived.Laws.BitsAllLaws
import Derived.Lib.Strings
import Derived.Lib.Walk
import Derived.Lib.TrimByte
import Derived.Laws.Strings3
import Derived.Laws.BytesArg
import Derived.Test.YtedmmmlahpmmoaaGreatDoorV3
import Derived.Test.YtedmmmlahpmmoaaGreatDoorV4
import Derived.Test.YtedmmmlahpmmoaaGreatDoorV5
import Derived.Test.YtedmmmlahpmmoaaGreatDoorV6
import Derived.Test.YtedmmmlahpmmoaaGreatDoorV7
import Derived.Test.YtedmmmlahpmmoaaGreatDoorV8
import Derived.Test.YtedmmmlahpmmoaaGreatDoorV9
import Derived.Test.YtedmmmlahpmmoaaGreatDoorV13
import Derived.Test.YtedmmmlahpmmoaaGreatDoorV14
import Derived.Test.YtedmmmlahpmmoaaGreatDoorV18
import Derived.Test.YtedmmmlahpmmoaaGreatDoorV19
import Derived.Test.YtedmmmlahpmmoaaGreatDoorV22
import Derived.Test.YtedmmmlahpmmoaaGreatDoorV23
import Derived.Test.YtedmmmlahpmmoaaGreatDoorV28
import Derived.Test.YtedmmmlahpmmoaaGreatDoorV29
namespace Go.Proofs.YtedmmmlahpmmoaaGreatDoor
open Go.RowKit RuleP TarjP PairP

theorem neg_step {S i : Nat} (h : i < S) : (List.replicate i (-1 : Int) ++ List.replicate (S - i) 0).set i (-1) = List.replicate (i + 1) (-1) ++ List.replicate (S - (i + 1)) 0 := by
  rw [List.set_append_right _ _ (by simp), List.length_replicate, Nat.sub_self, show S - i = (S - (i + 1)) + 1 by omega, List.replicate_succ, List.set_cons_zero, List.replicate_succ']
  simp

set_option maxRecDepth 100000 in
set_option maxHeartbeats 4000000 in
theorem find_good (w : World) (E : Nat → Addr) (hE : Errs w E) (k r n c : Nat) (A : Option Addr) (t : List Nat) (hT : Sl w A n ((ints t).map (Value.int .i64))) (hr : IsRule k r t) (h64 : t.length ≤ 64) :
    Calls Tryz.prog 15 #[ruleV (k : Int) (r : Int) A n c] w (FindPost w E (decide (apartP (k ^ (2 * workR r)) (pairG k (k ^ (2 * workR r)) (workT k r t)) = [])) k r t) := by
  have hk1 := hr.k1
  have hk4 := hr.k4
  have hr3 := hr.r3
  have hn : t.length = n := by simpa [ints] using hT.1
  obtain ⟨w3, hw3, hru, hz, b3⟩ := find_head w (.int .i64 (k : Int)) (.int .i64 (r : Int)) (.slice A n c)
  obtain ⟨r0, r1, r2, _⟩ := hru.facts
  have hone := one_good w3 E (hE.below b3) k r n c A t (hT.below b3) hr h64
  obtain ⟨yes, hyes⟩ : ∃ yes, decide (apartP (k ^ (2 * workR r)) (pairG k (k ^ (2 * workR r)) (workT k r t)) = []) = yes := ⟨_, rfl⟩
  rw [hyes] at hone ⊢
  have hAlt : ∀ ad, A = some ad → ad.block < w3.heap.size := fun ad hA => by
    have hn0 : 0 < n := by rw [← hn, hr.len]; exact Nat.pow_pos hk1
    obtain ⟨ad', v, h1, _, h2⟩ := (hT.below b3).at_ hn0
    rw [hA] at h1
    cases h1
    have h3 := cell_blk h2
    rwa [show (ad.add 0).block = ad.block by unfold Addr.add; split <;> rfl] at h3
  have HON := Lib.hid hone
  have HW3 := Lib.hid hw3
  have HE := Lib.hid (fun (wz : World) (hz : Below w3.heap.size w3 wz) => (hE.below b3).below hz)
  have HT := Lib.hid (fun (wz : World) (hz : Below w3.heap.size w3 wz) => (hT.below b3).below hz)
  have HRZ := Lib.hid (fun (wz : World) (hb : Below w3.heap.size w3 wz) => (⟨hru.below hb hru.lt, hz.below hb hz.lt⟩ : RuleAt wz w.heap.size (.int .i64 (k : Int)) (.int .i64 (r : Int)) (.slice A n c) ∧ RuleAt wz (w.heap.size + 1) (.int .i64 0) (.int .i64 0) (.slice none 0 0)))
  have HLT := Lib.hid (show w.heap.size + 1 < w3.heap.size from hz.lt)
  have B3 := Lib.hid b3
  have HENV := Lib.hid (fun (ρ g gt S : Nat) (h1 : ρ ≤ 3) (hS : k ^ (2 * ρ + 1) = S) (h2 : w3.heap.size ≤ gt) (h3 : g ≠ gt) => (⟨hr, hn, by omega, h1, hS, fun ad hA e => by have := hAlt ad hA; omega, h3⟩ : FillEnv k r ρ t A n g gt S))
  have HKK := Lib.hid (And.intro hk1 hk4)
  have HFC := Lib.hid (fun (ρ g gt S : Nat) (hE : FillEnv k r ρ t A n g gt S) => fill_c k r ρ t A n c g gt S hE (2 * (r + ρ) + 1))
  rw [← hw3] at r0 r1 r2
  unfold ruleV at HON ⊢
  clear hw3 b3 hru hz hE hT hr h64 hone hyes hAlt hn
  go_enter Tryz.func15, Tryz.ntmps15
  go_wp2_with fail
  rw [HW3.out]
  clear r0 r1 r2
  refine (HON.out).mono ?_
  rintro e w4 ⟨⟨P1, n1, a1, P2, n2, a2, P3, n3, a3, Q1, m1, b1, Q2, m2, b2, Q3, m3, b3, rfl⟩, hb4⟩
  have hb5 := (hb4.alloc hb4.size (.cells #[.int .i64 0, .slice P1 n1 a1, .slice P2 n2 a2, .slice P3 n3 a3] 26)).alloc (by simp; have := hb4.size; omega) (.cells #[.int .i64 0, .slice Q1 m1 b1, .slice Q2 m2 b2, .slice Q3 m3 b3] 26)
  obtain ⟨w5, hw5⟩ : ∃ w5, ((w4.alloc (.cells #[.int .i64 0, .slice P1 n1 a1, .slice P2 n2 a2, .slice P3 n3 a3] 26)).alloc (.cells #[.int .i64 0, .slice Q1 m1 b1, .slice Q2 m2 b2, .slice Q3 m3 b3] 26)) = w5 := ⟨_, rfl⟩
  rw [hw5] at hb5
  have HW5 := Lib.hid hw5
  have B5 := Lib.hid hb5
  clear hb4 hb5 hw5 HON
  cases yes with
  | false =>
    have HWR := Lib.hid (invWrong_c w5 E (HE.out w5 B5.out) 0 9 (by decide) (by decide))
    go_wp2_with fail
    rw [HW5.out]
    refine (HWR.out).mono ?_
    rintro e w6 ⟨rfl, he, hb⟩
    have B6 := Lib.hid (B5.out.trans (hb.mono B5.out.size))
    have hz6 := (HRZ.out w6 B6.out).2
    obtain ⟨f0, f1, f2, f3, f4, f5⟩ := hz6.facts
    have HER := Lib.hid he
    clear he hb HWR
    go_wp2_with fail
    obtain ⟨w7, hw7, hx, hk⟩ := rule_set3 hz6 (.int .i64 0) (.int .i64 0) (.slice none 0 0)
    rw [hw7]
    clear f0 f1 f2 f3 f4 f5
    obtain ⟨f0, f1, f2, _⟩ := hx.facts
    have hB := B3.out.trans (B6.out.mono B3.out.size)
    exact bodyPost_ret (v := .tuple #[.agg #[.int .i64 0, .int .i64 0, .slice none 0 0], errV w5.heap.size]) (by simp [results, Tryz.results15, go_sem, f0, f1, f2]) rfl ⟨⟨_, rfl, err_set3 HER.out hz6 hk⟩, hB.trans (hk.below hB.size (fun b e => by have h : b = w.heap.size + 1 := e; omega))⟩
  | true =>
    go_wp2_with fail
    rw [HW5.out]
    go_loopw [29] (fun iv wl => ∃ ρ : Nat, ρ ≤ 4 ∧ iv = .int .i64 (ρ : Int) ∧ Hid (findP k r t 4 0 = findP k r t (4 - ρ) ρ) ∧ Hid (Below w3.heap.size w3 wl)) (fun iv _ => 4 - (intOf iv).toNat)
    case atStart => exact ⟨0, by omega, rfl, Lib.hid rfl, B5⟩
    case round =>
      clear B5
      obtain ⟨ρ, hρ, rfl, HF, BB⟩ := hrel
      by_cases hlt : ρ < 4
      · have hlt' : (ρ : Int) < 4 := by omega
        have hsz := size_ok wr k ρ hk1 hk4 (by omega)
        have hS6 : k ^ (2 * ρ + 1) ≤ 16384 := pow4_le hk1 hk4 (by omega)
        obtain ⟨S, hS⟩ : ∃ S, k ^ (2 * ρ + 1) = S := ⟨_, rfl⟩
        rw [hS] at hsz hS6
        have HSZ := Lib.hid hsz
        have HS := Lib.hid hS
        obtain ⟨y0, y1, y2, y3, y4, y5⟩ := (HRZ.out wr BB.out).1.facts
        clear hsz hS
        go_wp2_with fail
        refine (HSZ.out).mono ?_
        rintro e w6 ⟨rfl, rfl⟩
        have hmk := fun (wz : World) => run_make_row' (P := Tryz.prog) 22 3 (.int .i64 0) 8 tInts.und tInts.info rfl .i64 .i64 S (by omega) (by omega) wz
        have hS0 : (0 : Int) ≤ (S : Int) := by omega
        have hlw : w.heap.size < wr.heap.size := (HRZ.out wr BB.out).1.lt
        go_upto_region 10 with fail
        go_region
        -- the guess
        have hO7 := zerosAt wr wr.heap.size wr.heap.size S rfl (Nat.le_refl _) (by simp only [maxLen]; omega)
        obtain ⟨gt, hgt⟩ : ∃ gt, wr.heap.size = gt := ⟨_, rfl⟩
        have hG7 : GuessAt (((wr.alloc (.cells (madeCells #[.int .i64 0] S) 3)).alloc (.cells #[.int .i64 (k : Int), .int .i64 (r : Int), .slice A n c, .int .i64 (ρ : Int), .slice (some ⟨gt, 0, none⟩) S S] 65)).drew) (gt + 1) k r A n c ρ gt S := by
          have h := heap_new (wr.alloc (.cells (madeCells #[.int .i64 0] S) 3)) (.cells #[.int .i64 (k : Int), .int .i64 (r : Int), .slice A n c, .int .i64 (ρ : Int), .slice (some ⟨gt, 0, none⟩) S S] 65)
          rw [World.size_alloc, hgt] at h
          exact h
        have hO7' := (hO7.alloc (.cells #[.int .i64 (k : Int), .int .i64 (r : Int), .slice A n c, .int .i64 (ρ : Int), .slice (some ⟨gt, 0, none⟩) S S] 65)).drew
        have hB7 := ((BB.out.alloc BB.out.size (.cells (madeCells #[.int .i64 0] S) 3)).alloc (by have := BB.out.size; simp; omega) (.cells #[.int .i64 (k : Int), .int .i64 (r : Int), .slice A n c, .int .i64 (ρ : Int), .slice (some ⟨gt, 0, none⟩) S S] 65)).drew
        have hgt3 : w3.heap.size ≤ gt := by rw [← hgt]; exact BB.out.size
        rw [hgt] at hO7 hO7' ⊢
        obtain ⟨w7, hw7⟩ : ∃ w7, (((wr.alloc (.cells (madeCells #[.int .i64 0] S) 3)).alloc (.cells #[.int .i64 (k : Int), .int .i64 (r : Int), .slice A n c, .int .i64 (ρ : Int), .slice (some ⟨gt, 0, none⟩) S S] 65)).drew) = w7 := ⟨_, rfl⟩
        rw [hw7] at hG7 hO7' hB7 ⊢
        have HG7 := Lib.hid hG7
        have HO7 : Hid (w7.ownsRow gt 3 1 (.slice (some ⟨gt, 0, none⟩) S S) S ((List.replicate 0 (-1 : Int) ++ List.replicate (S - 0) 0).map (Value.int .i64))) := Lib.hid (by
          have e : List.replicate 0 (-1 : Int) ++ List.replicate (S - 0) 0 = ints (List.replicate S 0) := by simp [ints]
          rw [e]
          exact hO7')
        have B7 := Lib.hid hB7
        have HGT := Lib.hid hgt3
        obtain ⟨x0, x1, x2, x3, x4⟩ := hG7.facts
        clear hO7 hgt hG7 hO7' hB7 hgt3 hw7 y0 y1 y2 y3 y4 y5 hmk hlw
        go_wp2_with fail
        clear x0 x1 x2 x3 x4
        go_loopw [50] (fun iv wl => ∃ i : Nat, i ≤ S ∧ iv = .int .i64 (i : Int) ∧ Hid (wl.ownsRow gt 3 1 (.slice (some ⟨gt, 0, none⟩) S S) S ((List.replicate i (-1 : Int) ++ List.replicate (S - i) 0).map (Value.int .i64))) ∧ Hid (GuessAt wl (gt + 1) k r A n c ρ gt S) ∧ Hid (Below w3.heap.size w3 wl)) (fun iv _ => S - (intOf iv).toNat)
        case atStart => exact ⟨0, Nat.zero_le _, rfl, HO7, HG7, B7⟩
        case round =>
          clear HO7 HG7 B7 BB
          obtain ⟨i, hi, rfl, HO, HG, BB⟩ := hrel
          obtain ⟨v0, rfl⟩ : ∃ v0, v0 = wr := ⟨_, rfl⟩
          by_cases hil : i < S
          · have hil' : (i : Int) < (S : Int) := by omega
            have hi0 : (0 : Int) ≤ (i : Int) := by omega
            obtain ⟨x0, x1, x2, x3, x4⟩ := HG.out.facts
            have ct := HO.out.cellAt i (by omega)
            rw [List.getElem?_map, List.getElem?_append_right (by simp), List.length_replicate, Nat.sub_self, List.getElem?_replicate, if_pos (by omega)] at ct
            simp only [Option.map_some] at ct
            have ft := HO.out.frozenAt i
            have h1 := (HO.out.stored i (.int .i64 (-1))).1
            have e3 : ((List.replicate i (-1 : Int) ++ List.replicate (S - i) 0).map (Value.int .i64)).set i (.int .i64 (-1)) = (List.replicate (i + 1) (-1 : Int) ++ List.replicate (S - (i + 1)) 0).map (Value.int .i64) := by
              rw [← neg_step hil, List.map_set]
            rw [e3] at h1
            have hks := Keeps.of_setCell v0 ⟨gt, i, none⟩ (.int .i64 (-1))
            have hg1 := HG.out.keeps hks (fun e => by have h : gt + 1 = gt := e; omega)
            have hb1 := BB.out.trans (hks.below BB.out.size (fun b e => by rw [show b = gt from e]; exact HGT.out))
            obtain ⟨v1, hv1⟩ : ∃ v1, v0.setCell ⟨gt, i, none⟩ (.int .i64 (-1)) = v1 := ⟨_, rfl⟩
            rw [hv1] at h1 hg1 hb1
            have HV1 := Lib.hid hv1
            have HO1 := Lib.hid h1
            have HG1 := Lib.hid hg1
            have HB1 := Lib.hid hb1
            clear h1 e3 hks hg1 hb1 hv1
            go_wp2_with fail
            rw [HV1.out]
            exact ⟨⟨i + 1, by omega, by go_num, HO1, HG1, HB1⟩, by simp [intOf]; omega⟩
          · obtain rfl : i = S := by omega
            have hil' : ¬ (i : Int) < (i : Int) := by omega
            have ho : v0.ownsRow gt 3 1 (.slice (some ⟨gt, 0, none⟩) i i) i ((List.replicate i (-1 : Int)).map (Value.int .i64)) := by
              have h := HO.out
              rw [Nat.sub_self, List.replicate_zero, List.append_nil] at h
              exact h
            have hfc := HFC.out ρ (gt + 1) gt i (HENV.out ρ (gt + 1) gt i (by omega) HS.out HGT.out (by omega)) v0 gt 0 0 0 0 (List.replicate i (-1)) (by omega) (Nat.pow_pos HKK.out.1) (Nat.pow_pos HKK.out.1) HKK.out.1 HG.out (HT.out v0 BB.out) ho
            rw [show fillP k r t (r + ρ) (2 * (r + ρ) + 1) 0 0 0 0 (List.replicate i (-1)) = fillR k r t ρ by unfold fillR; rw [HS.out]] at hfc
            obtain ⟨b, hb⟩ : ∃ b, (fillR k r t ρ).1 = b := ⟨_, rfl⟩
            obtain ⟨T2, hT2⟩ : ∃ T2, (fillR k r t ρ).2 = T2 := ⟨_, rfl⟩
            rw [hb, hT2] at hfc
            have HFL := Lib.hid (show Calls Tryz.prog 31 #[.pointer (some ⟨gt + 1, 0, none⟩), .int .i64 0, .int .i64 0, .int .i64 0, .int .i64 0] v0 fun e w' => e = .returned (.bool b) ∧ w'.ownsRow gt 3 1 (.slice (some ⟨gt, 0, none⟩) i i) i (T2.map (Value.int .i64)) ∧ Keeps (fun b => b = gt) v0 w' from hfc)
            have HFP : Hid (findP k r t (4 - ρ) ρ = if b = true then some (ρ, T2) else findP k r t (4 - (ρ + 1)) (ρ + 1)) := Lib.hid (by
              rw [show 4 - ρ = (4 - (ρ + 1)) + 1 by omega, findP, hb, hT2])
            clear hb hT2 hfc ho
            go_wp2_with fail
            refine (HFL.out).mono ?_
            rintro e w9 ⟨rfl, ho9, hk9⟩
            have hb9 := BB.out.trans (hk9.below BB.out.size (fun b e => by rw [show b = gt from e]; exact HGT.out))
            have hg9 := HG.out.keeps hk9 (fun e => by have h : gt + 1 = gt := e; omega)
            have HO9 := Lib.hid ho9
            have B9 := Lib.hid hb9
            have HG9 := Lib.hid hg9
            have HTL := Lib.hid (show T2.length = i by have := ho9.1; simpa using this)
            clear ho9 hk9 hb9 hg9 HFL
            cases b with
            | false =>
              have HN : Hid (findP k r t 4 0 = findP k r t (4 - (ρ + 1)) (ρ + 1)) := Lib.hid (by rw [HF.out, HFP.out]; rfl)
              go_wp2_with fail
              exact ⟨⟨ρ + 1, by omega, by go_num, HN, B9⟩, by simp [intOf]; omega⟩
            | true =>
              have HN : Hid (findP k r t 4 0 = some (ρ, T2)) := Lib.hid (by rw [HF.out, HFP.out]; rfl)
              obtain ⟨hrb, hz9⟩ := HRZ.out w9 B9.out
              obtain ⟨y0, y1, y2, y3, y4, y5⟩ := hrb.facts
              obtain ⟨f0, f1, f2, f3, f4, f5⟩ := hz9.facts
              obtain ⟨x0, x1, x2, x3, x4⟩ := HG9.out.facts
              go_wp2_with fail
              go_region
              clear y0 y1 y2 y3 y4 y5 f0 f1 f2 f3 f4 f5 x0 x1 x2 x3 x4
              obtain ⟨w10, hw10, hx, hk⟩ := rule_set3 hz9 (.int .i64 (k : Int)) (.int .i64 (ρ : Int)) (.slice (some ⟨gt, 0, none⟩) i i)
              rw [hw10]
              have hTl := HTL.out
              subst hTl
              have hlt3 := HLT.out
              have hgt := HGT.out
              have ho10 : w10.drew.ownsRow w.heap.size 3 1 (.slice (some ⟨gt, 0, none⟩) T2.length T2.length) T2.length (T2.map (Value.int .i64)) := (own_base (own_keeps HO9.out hk (fun b hb e => by
                have h1 : gt = b := Option.some.inj hb
                have h2 : b = w.heap.size + 1 := e
                omega)) (by omega)).drew
              have hB := B3.out.trans (B9.out.mono B3.out.size)
              have hB10 := (hB.trans (hk.below hB.size (fun b e => by have h : b = w.heap.size + 1 := e; omega))).drew
              obtain ⟨f0, f1, f2, _⟩ := hx.facts
              have HEND := Lib.hid (And.intro ho10 hB10)
              clear hx hk hw10 ho10 hB10 hB
              go_wp2_with fail
              exact bodyPost_ret (v := .tuple #[.agg #[.int .i64 (k : Int), .int .i64 (ρ : Int), .slice (some ⟨gt, 0, none⟩) T2.length T2.length], .nilIface]) (by simp [results, Tryz.results15, go_sem, f0, f1, f2]) rfl ⟨by rw [HN.out]; exact ⟨gt, rfl, HEND.out.1⟩, HEND.out.2⟩
      · obtain rfl : ρ = 4 := by omega
        have HWR := Lib.hid (invWrong_c wr E (HE.out wr BB.out) 0 4 (by decide) (by decide))
        have HFN : Hid (findP k r t 4 0 = none) := Lib.hid (by rw [HF.out]; rfl)
        go_wp2_with fail
        refine (HWR.out).mono ?_
        rintro e w6 ⟨rfl, he, hb⟩
        have B6 := Lib.hid (BB.out.trans (hb.mono BB.out.size))
        have hz6 := (HRZ.out w6 B6.out).2
        obtain ⟨f0, f1, f2, f3, f4, f5⟩ := hz6.facts
        have HER := Lib.hid he
        clear he hb HWR
        go_wp2_with fail
        obtain ⟨w7, hw7, hx, hk⟩ := rule_set3 hz6 (.int .i64 0) (.int .i64 0) (.slice none 0 0)
        rw [hw7]
        clear f0 f1 f2 f3 f4 f5
        obtain ⟨f0, f1, f2, _⟩ := hx.facts
        have hB := B3.out.trans (B6.out.mono B3.out.size)
        exact bodyPost_ret (v := .tuple #[.agg #[.int .i64 0, .int .i64 0, .slice none 0 0], errV wr.heap.size]) (by simp [results, Tryz.results15, go_sem, f0, f1, f2]) rfl ⟨by rw [HFN.out]; exact ⟨_, rfl, err_set3 HER.out hz6 hk⟩, hB.trans (hk.below hB.size (fun b e => by have h : b = w.heap.size + 1 := e; omega))⟩
end Go.Proofs.YtedmmmlahpmmoaaGreatDoor

namespace Go.Proofs.YtedmmmlahpmmoaaGreatDoor
open Go.RowKit RuleP TarjP PairP

set_option maxRecDepth 100000 in
set_option maxHeartbeats 2000000 in
theorem inv_bad (w : World) (E : Nat → Addr) (hE : Errs w E) (K R : Int) (A : Option Addr) (n c : Nat) (T : List Int) (hT : Sl w A n (T.map (Value.int .i64))) (hm : n ≤ 9223372036854775807) (tl : Tale) (hs : small K R T = some tl) :
    Calls Tryz.prog 5 #[ruleV K R A n c] w fun e w' => ∃ u p, e = .returned (.tuple #[ruleV 0 0 none 0 0, .iface u p]) ∧ Below w.heap.size w w' := by
  obtain ⟨w3, hw3, hr, hz, b3⟩ := find_head w (.int .i64 K) (.int .i64 R) (.slice A n c)
  obtain ⟨r0, r1, r2, _⟩ := hr.facts
  have HFI := Lib.hid (find_bad w3 E (hE.below b3) K R A n c T (hT.below b3) hm tl hs)
  have HW3 := Lib.hid hw3
  have HZ := Lib.hid hz
  have B3 := Lib.hid b3
  rw [← hw3] at r0 r1 r2
  unfold ruleV at HFI ⊢
  clear hw3 b3 hr hz hE hT hs
  go_enter Tryz.func5, Tryz.ntmps5
  go_wp2_with fail
  rw [HW3.out]
  clear r0 r1 r2
  refine (HFI.out).mono ?_
  rintro e w4 ⟨u, p, rfl, hb4⟩
  try unfold ruleV
  have hz4 := HZ.out.below hb4 HZ.out.lt
  have B4 := Lib.hid (B3.out.trans (hb4.mono B3.out.size))
  obtain ⟨f0, f1, f2, f3, f4, f5⟩ := hz4.facts
  clear hb4 HFI
  go_wp2_with fail
  obtain ⟨w7, hw7, hx, hk⟩ := rule_set3 hz4 (.int .i64 0) (.int .i64 0) (.slice none 0 0)
  rw [hw7]
  clear f0 f1 f2 f3 f4 f5
  obtain ⟨f0, f1, f2, _⟩ := hx.facts
  exact bodyPost_ret (v := .tuple #[.agg #[.int .i64 0, .int .i64 0, .slice none 0 0], .iface u p]) (by simp [results, Tryz.results5, go_sem, f0, f1, f2]) rfl ⟨u, p, rfl, B4.out.trans (hk.below B4.out.size (fun b e => by have h : b = w.heap.size + 1 := e; omega))⟩

/-- FindPost, by its three ways. -/
theorem FindPost.ways {w : World} {E : Nat → Addr} {yes : Bool} {k r : Nat} {t : List Nat} {e : Ending} {w' : World} (h : FindPost w E yes k r t e w') :
    (∃ ρ T gt, yes = true ∧ findP k r t 4 0 = some (ρ, T) ∧ e = .returned (.tuple #[ruleV (k : Int) (ρ : Int) (some ⟨gt, 0, none⟩) T.length T.length, .nilIface]) ∧ w'.ownsRow w.heap.size 3 1 (.slice (some ⟨gt, 0, none⟩) T.length T.length) T.length (T.map (Value.int .i64)) ∧ Below w.heap.size w w') ∨
    (∃ n v, (n = 4 ∨ n = 9) ∧ (yes = true → n = 4 ∧ findP k r t 4 0 = none) ∧ (yes = false → n = 9) ∧ e = .returned (.tuple #[ruleV 0 0 none 0 0, v]) ∧ ErrIs w' E n [(sInverse, 0)] v ∧ Below w.heap.size w w') := by
  obtain ⟨h, hb⟩ := h
  cases yes with
  | true =>
    cases hf : findP k r t 4 0 with
    | some x =>
      obtain ⟨ρ, T⟩ := x
      rw [hf] at h
      obtain ⟨gt, h1, h2⟩ := h
      exact .inl ⟨ρ, T, gt, rfl, rfl, h1, h2, hb⟩
    | none =>
      rw [hf] at h
      obtain ⟨v, h1, h2⟩ := h
      exact .inr ⟨4, v, .inl rfl, fun _ => ⟨rfl, rfl⟩, fun h => (by cases h), h1, h2, hb⟩
  | false =>
    obtain ⟨v, h1, h2⟩ := h
    exact .inr ⟨9, v, .inr rfl, fun h => (by cases h), fun _ => rfl, h1, h2, hb⟩
theorem FindPost.of_yes {w : World} {E : Nat → Addr} {k r : Nat} {t : List Nat} {e : Ending} {w' : World} {ρ : Nat} {T : List Int} {gt : Nat} (hf : findP k r t 4 0 = some (ρ, T)) (he : e = .returned (.tuple #[ruleV (k : Int) (ρ : Int) (some ⟨gt, 0, none⟩) T.length T.length, .nilIface])) (ho : w'.ownsRow w.heap.size 3 1 (.slice (some ⟨gt, 0, none⟩) T.length T.length) T.length (T.map (Value.int .i64))) (hb : Below w.heap.size w w') : FindPost w E true k r t e w' := by
  refine ⟨?_, hb⟩
  rw [hf]
  exact ⟨gt, he, ho⟩
theorem FindPost.of_no {w : World} {E : Nat → Addr} {yes : Bool} {k r n : Nat} {t : List Nat} {e : Ending} {w' : World} {v : Value} (h1 : yes = true → n = 4 ∧ findP k r t 4 0 = none) (h2 : yes = false → n = 9) (he : e = .returned (.tuple #[ruleV 0 0 none 0 0, v])) (hv : ErrIs w' E n [(sInverse, 0)] v) (hb : Below w.heap.size w w') : FindPost w E yes k r t e w' := by
  refine ⟨?_, hb⟩
  cases yes with
  | true =>
    obtain ⟨rfl, hf⟩ := h1 rfl
    rw [hf]
    exact ⟨v, he, hv⟩
  | false =>
    obtain rfl := h2 rfl
    exact ⟨v, he, hv⟩

set_option maxRecDepth 100000 in
set_option maxHeartbeats 2000000 in
theorem inv_good (w : World) (E : Nat → Addr) (hE : Errs w E) (k r n c : Nat) (A : Option Addr) (t : List Nat) (hT : Sl w A n ((ints t).map (Value.int .i64))) (hr : IsRule k r t) (h64 : t.length ≤ 64) :
    Calls Tryz.prog 5 #[ruleV (k : Int) (r : Int) A n c] w (FindPost w E (decide (apartP (k ^ (2 * workR r)) (pairG k (k ^ (2 * workR r)) (workT k r t)) = [])) k r t) := by
  obtain ⟨w3, hw3, hru, hz, b3⟩ := find_head w (.int .i64 (k : Int)) (.int .i64 (r : Int)) (.slice A n c)
  obtain ⟨r0, r1, r2, _⟩ := hru.facts
  have hfi := find_good w3 E (hE.below b3) k r n c A t (hT.below b3) hr h64
  obtain ⟨yes, hyes⟩ : ∃ yes, decide (apartP (k ^ (2 * workR r)) (pairG k (k ^ (2 * workR r)) (workT k r t)) = []) = yes := ⟨_, rfl⟩
  rw [hyes] at hfi ⊢
  have HFI := Lib.hid hfi
  have HW3 := Lib.hid hw3
  have HZ := Lib.hid hz
  have B3 := Lib.hid b3
  rw [← hw3] at r0 r1 r2
  unfold ruleV at HFI ⊢
  clear hw3 b3 hru hz hE hT hr h64 hfi hyes
  go_enter Tryz.func5, Tryz.ntmps5
  go_wp2_with fail
  rw [HW3.out]
  clear r0 r1 r2
  refine (HFI.out).mono ?_
  rintro e w4 hfp
  rcases hfp.ways with ⟨ρ, T, gt, hy, hf, rfl, ho, hb4⟩ | ⟨m, v, hm, hy1, hy2, rfl, he, hb4⟩
  · unfold ruleV
    have hz4 := HZ.out.below hb4 HZ.out.lt
    have B4 := Lib.hid (B3.out.trans (hb4.mono B3.out.size))
    have HX := Lib.hid (And.intro hy (And.intro hf ho))
    obtain ⟨f0, f1, f2, f3, f4, f5⟩ := hz4.facts
    have hzl := HZ.out.lt
    have hg := (ho.lt gt rfl).1
    clear hb4 HFI hfp hy hf ho
    go_wp2_with fail
    obtain ⟨w7, hw7, hx, hk⟩ := rule_set3 hz4 (.int .i64 (k : Int)) (.int .i64 (ρ : Int)) (.slice (some ⟨gt, 0, none⟩) T.length T.length)
    rw [hw7]
    clear f0 f1 f2 f3 f4 f5
    obtain ⟨f0, f1, f2, _⟩ := hx.facts
    have ho7 := own_base (own_keeps HX.out.2.2 hk (fun b hb e => by
      have h1 : gt = b := Option.some.inj hb
      have h2 : b = w.heap.size + 1 := e
      omega)) B3.out.size
    have hfin := FindPost.of_yes (E := E) HX.out.2.1 rfl ho7 (B4.out.trans (hk.below B4.out.size (fun b e => by have h : b = w.heap.size + 1 := e; omega)))
    rw [← HX.out.1] at hfin
    exact bodyPost_ret (v := .tuple #[.agg #[.int .i64 (k : Int), .int .i64 (ρ : Int), .slice (some ⟨gt, 0, none⟩) T.length T.length], .nilIface]) (by simp [results, Tryz.results5, go_sem, f0, f1, f2]) rfl hfin
  · unfold ruleV
    have hz4 := HZ.out.below hb4 HZ.out.lt
    have B4 := Lib.hid (B3.out.trans (hb4.mono B3.out.size))
    have HX := Lib.hid (And.intro hy1 (And.intro hy2 he))
    obtain ⟨u, p, rfl⟩ := he.iface
    obtain ⟨f0, f1, f2, f3, f4, f5⟩ := hz4.facts
    clear hb4 HFI hfp hy1 hy2 he hm
    go_wp2_with fail
    obtain ⟨w7, hw7, hx, hk⟩ := rule_set3 hz4 (.int .i64 0) (.int .i64 0) (.slice none 0 0)
    rw [hw7]
    clear f0 f1 f2 f3 f4 f5
    obtain ⟨f0, f1, f2, _⟩ := hx.facts
    exact bodyPost_ret (v := .tuple #[.agg #[.int .i64 0, .int .i64 0, .slice none 0 0], .iface u p]) (by simp [results, Tryz.results5, go_sem, f0, f1, f2]) rfl (FindPost.of_no HX.out.1 HX.out.2.1 rfl (err_set3 HX.out.2.2 hz4 hk) (B4.out.trans (hk.below B4.out.size (fun b e => by have h : b = w.heap.size + 1 := e; omega))))
end Go.Proofs.YtedmmmlahpmmoaaGreatDoor

namespace Go.Proofs.YtedmmmlahpmmoaaGreatDoor
open Go.RowKit RuleP MeetP

theorem ints_push (l : List Nat) (x : Nat) : (ints (l ++ [x])).map (Value.int .i64) = (ints l).map (Value.int .i64) ++ [.int .i64 (x : Int)] := by simp [ints]

end Go.Proofs.YtedmmmlahpmmoaaGreatDoor

namespace Go.Proofs.YtedmmmlahpmmoaaGreatDoor
open Go.RowKit RuleP PairP MeetP

theorem backTo_len (came : List Int) : ∀ (f v : Nat), (backTo came f v).length ≤ f
  | 0, _ => by simp [backTo]
  | f + 1, v => by
    unfold backTo
    split
    · simp
    · simp only [List.length_cons]
      exact Nat.succ_le_succ (backTo_len came f _)
end Go.Proofs.YtedmmmlahpmmoaaGreatDoor

namespace Go.Proofs.YtedmmmlahpmmoaaGreatDoor
open Go.RowKit RuleP

theorem RuleAt.put2 {w : World} {g : Nat} {x0 x1 x2 : Value} (h : RuleAt w g x0 x1 x2) (u : Value) : RuleAt (w.setCell ⟨g, 2, none⟩ u) g x0 x1 u := by
  unfold RuleAt at *
  have h0 := (Array.getElem?_eq_some_iff.1 h).1
  simp only [World.setCell]
  simp [Array.getElem?_modify, h]
/-- The table of a rule of two symbols and the radius 1, of its number. -/
def ecaT (x n : Nat) : List Nat := (List.range n).map fun i => x / 2 ^ i % 2
theorem ecaT_snoc (x n : Nat) : ecaT x (n + 1) = ecaT x n ++ [x / 2 ^ n % 2] := by
  unfold ecaT
  rw [List.range_succ, List.map_append]
  rfl
theorem bit_eq (x j : Nat) (hx : x < 4096) : bits .and .i64 ((x : Int) / 2 ^ j) 1 = ((x / 2 ^ j % 2 : Nat) : Int) := by
  have e0 : ((2 : Int) ^ j) = ((2 ^ j : Nat) : Int) := (Int.natCast_pow 2 j).symm
  have e1 : ((x : Int) / ((2 ^ j : Nat) : Int)) = ((x / 2 ^ j : Nat) : Int) := by simp
  have h1 : x / 2 ^ j < 4096 := Nat.lt_of_le_of_lt (Nat.div_le_self _ _) hx
  rw [e0, e1]
  generalize x / 2 ^ j = y at h1
  have e2 : ((BitVec.ofInt 64 (1 : Int)).toNat) = 1 := by decide
  show IntKind.i64.wrap ((BitVec.ofInt 64 (y : Int) &&& BitVec.ofInt 64 (1 : Int)).toNat : Int) = _
  rw [BitVec.toNat_and, ofInt_u64 y (by omega), e2, nat_mask1]
  exact IntWalk.i64_in _ (by omega)

/-- What an append behind pure steps has written. -/
theorem pushW {w v0 w' : World} {v : Value} {g n cap : Nat} (h0 : Below w.heap.size w v0) (hor : (v = .slice (some ⟨g, 0, none⟩) n cap ∧ v0.grownBy w' (some g)) ∨ (v0.heap.size ≤ g ∧ v0.grownBy w' none)) :
    Keeps (fun b => v.ownBlock = some b) w w' ∧ (v.ownBlock = some g ∨ w.heap.size ≤ g) := by
  have h0' : Keeps (fun b => v.ownBlock = some b) w v0 := Keeps.of_pure h0 _
  rcases hor with ⟨rfl, h⟩ | ⟨h1, h⟩
  · exact ⟨h0'.trans ((Keeps.of_grown h).mono (fun b _ e => e)) (fun _ _ h => h), .inl rfl⟩
  · exact ⟨h0'.trans (Keeps.of_grown h) (fun b _ e => by cases e), .inr (Nat.le_trans h0.size h1)⟩
/-- What edentop.eca answers. -/
def EcaPost (w : World) (x : Nat) (e : Ending) (w' : World) : Prop :=
  ∃ (A : Option Addr) (c : Nat), e = .returned (.agg #[.int .i64 2, .int .i64 1, .slice A 8 c]) ∧ Sl w' A 8 ((ints (ecaT x 8)).map (Value.int .i64)) ∧ Below w.heap.size w w'

set_option maxRecDepth 100000 in
set_option maxHeartbeats 2000000 in
theorem eca_c (w : World) (x : Nat) (hx : x < 256) : Calls Tryz.prog 11 #[.int .i64 (x : Int)] w (EcaPost w x) := by
  have hb1 := (Below.refl w.heap.size w).alloc (Nat.le_refl _) (.cells #[.int .i64 0, .int .i64 0, .slice none 0 0] 24)
  have hr0 := RuleAt.new w (.int .i64 0) (.int .i64 0) (.slice none 0 0)
  obtain ⟨w1, hw1⟩ : ∃ w1, w.alloc (.cells #[.int .i64 0, .int .i64 0, .slice none 0 0] 24) = w1 := ⟨_, rfl⟩
  rw [hw1] at hb1 hr0
  have hz1 : w1.heap.size = w.heap.size + 1 := by rw [← hw1]; simp
  have hb2 := hb1.alloc (by omega) (.cells #[.int .i64 2, .int .i64 1, .slice none 0 0] 24)
  have hr1 := RuleAt.new w1 (.int .i64 2) (.int .i64 1) (.slice none 0 0)
  have hr01 := hr0.alloc (.cells #[.int .i64 2, .int .i64 1, .slice none 0 0] 24)
  obtain ⟨w2, hw2⟩ : ∃ w2, w1.alloc (.cells #[.int .i64 2, .int .i64 1, .slice none 0 0] 24) = w2 := ⟨_, rfl⟩
  rw [hw2] at hb2 hr1 hr01
  have hz2 : w2.heap.size = w.heap.size + 2 := by rw [← hw2]; simp [hz1]
  rw [hz1] at hr1
  have HW1 := Lib.hid hw1
  have HW2 := Lib.hid hw2
  have HB2 := Lib.hid hb2
  have HR1 := Lib.hid hr1
  have HR0 := Lib.hid hr01
  have HO : Hid (w2.ownsRow (w.heap.size + 2) 3 1 (.slice none 0 0) 0 ((ints (ecaT x 0)).map (Value.int .i64))) := Lib.hid (World.ownsRow_nil _ _ _ _)
  have HS : Hid (w.heap.size + 2 ≤ w2.heap.size) := Lib.hid (by omega)
  have HZ1 := Lib.hid hz1
  clear hw1 hw2 hb1 hb2 hr0 hr1 hr01 hz1 hz2
  go_enter Tryz.func11, Tryz.ntmps11
  go_wp2_with fail
  rw [HW1.out]
  go_wp2_with fail
  rw [HW2.out]
  go_loopw [4] (fun iv wl => ∃ (i : Nat) (A : Option Addr) (c : Nat), iv = .int .i64 (i : Int) ∧ i ≤ 8 ∧ Hid (RuleAt wl (w.heap.size + 1) (.int .i64 2) (.int .i64 1) (.slice A i c)) ∧ Hid (RuleAt wl w.heap.size (.int .i64 0) (.int .i64 0) (.slice none 0 0)) ∧
    Hid (wl.ownsRow (w.heap.size + 2) 3 1 (.slice A i c) i ((ints (ecaT x i)).map (Value.int .i64))) ∧ Hid (w.heap.size + 2 ≤ wl.heap.size) ∧ Hid (Below w.heap.size w wl)) (fun iv _ => 8 - (intOf iv).toNat)
  case atStart => exact ⟨0, none, 0, rfl, Nat.zero_le _, HR1, HR0, HO, HS, HB2⟩
  case round =>
    clear HR1 HR0 HO HS HB2
    obtain ⟨i, A, c, rfl, hi, HR1, HR0, HO, HS, HB⟩ := hrel
    obtain ⟨p0, p1, p2, p3, p4, p5⟩ := HR1.out.facts
    by_cases hi8 : i < 8
    · have hi' : (i : Int) < 8 := by omega
      have hbq := bit_eq x i (by omega)
      obtain ⟨y, hy⟩ : ∃ y, x / 2 ^ i % 2 = y := ⟨_, rfl⟩
      rw [hy] at hbq
      have HY := Lib.hid hy
      have hO := HO.out
      have hs := HS.out
      clear hy
      obtain ⟨_, _, y2, _⟩ := (HR1.out.alloc (.cells #[.int .i64 (y : Int)] 3)).facts
      have y2' : ((wr.alloc (.cells #[.int .i64 (y : Int)] 3)).drew).cell? ⟨w.heap.size + 1, 2, none⟩ = some (.slice A i c) := y2
      have hnb := own_ne_blk hO HR1.out (by decide)
      go_wp2_with fail
      go_region_law (
           refine step_push3 ?_ (.tmp 11) (.tmp 16) 22 rfl tInts (base := w.heap.size + 2) (v := .slice A i c) (n := i) (xs := (ints (ecaT x i)).map (Value.int .i64)) ?_ rfl ⟨wr.heap.size, 0, none⟩ 1 rfl (.int .i64 (y : Int)) ?_ rfl ?_ ?_ ?_ ?_
           · rfl
           · first
               | exact own_below hO (((Below.refl _ _).alloc (Nat.le_refl _) _).drew)
               | exact own_below hO (((Below.refl _ _).drew).alloc (Nat.le_refl _) _)
           · simp
           · (simp only [maxLen]; omega)
           · omega
           · (simp; omega)
           intro g3 cap3 w3 hown3 hor3 hlt3
           first
             | have hkk := pushW (w := wr) (((Below.refl _ _).alloc (Nat.le_refl _) _).drew) hor3
             | have hkk := pushW (w := wr) (((Below.refl _ _).drew).alloc (Nat.le_refl _) _) hor3
           obtain ⟨hk3, hg3⟩ := hkk
           have hR3 := RuleAt.keeps HR1.out hk3 hnb
           obtain ⟨z0, z1, z2, z3, z4, z5⟩ := hR3.facts
           clear hor3)
      all_goals
        have hR4 := hR3.put2 (.slice (some ⟨g3, 0, none⟩) (i + 1) cap3)
        have hR04 := (HR0.out.keeps hk3 (own_ne_blk hO HR0.out (by decide))).keeps (Keeps.of_setCell w3 ⟨w.heap.size + 1, 2, none⟩ (.slice (some ⟨g3, 0, none⟩) (i + 1) cap3)) (by simp)
        have hO4 : (w3.setCell ⟨w.heap.size + 1, 2, none⟩ (.slice (some ⟨g3, 0, none⟩) (i + 1) cap3)).ownsRow (w.heap.size + 2) 3 1 (.slice (some ⟨g3, 0, none⟩) (i + 1) cap3) (i + 1) ((ints (ecaT x (i + 1))).map (Value.int .i64)) := by
          rw [ecaT_snoc, HY.out, ints_push]
          exact own_keeps hown3 (Keeps.of_setCell _ _ _) (fun b hb e => own_ne_blk hown3 hR3 (by decide) (by rw [hb]; exact congrArg some e))
        have hS4 : w.heap.size + 2 ≤ (w3.setCell ⟨w.heap.size + 1, 2, none⟩ (.slice (some ⟨g3, 0, none⟩) (i + 1) cap3)).heap.size := by rw [World.size_setCell]; exact Nat.le_trans hs hk3.size
        have hB4 := (HB.out.trans (hk3.below HB.out.size (fun b hb => Nat.le_trans (Nat.le_add_right _ 2) (hO.lt b hb).1))).setCell (p := ⟨w.heap.size + 1, 2, none⟩) (Nat.le_succ _) (.slice (some ⟨g3, 0, none⟩) (i + 1) cap3)
        have HX4 := Lib.hid (And.intro hR4 (And.intro hR04 (And.intro hO4 (And.intro hS4 hB4))))
        clear hR4 hR04 hO4 hS4 hB4 hown3 hlt3 hk3 hg3 hR3 z0 z1 z2 z3 z4 z5
        go_wp2_with fail
        exact ⟨⟨i + 1, _, _, by go_num, by omega, Lib.hid HX4.out.1, Lib.hid HX4.out.2.1, Lib.hid HX4.out.2.2.1, Lib.hid HX4.out.2.2.2.1, Lib.hid HX4.out.2.2.2.2⟩, by simp [intOf]; omega⟩
    · obtain rfl : i = 8 := by omega
      obtain ⟨q0, q1, q2, q3, q4, q5⟩ := HR0.out.facts
      have hF := HR0.out.set3 (.int .i64 2) (.int .i64 1) (.slice A 8 c)
      obtain ⟨f0, f1, f2, _⟩ := hF.facts
      have hown5 := own_set3 HO.out HR0.out (by decide) (.int .i64 2) (.int .i64 1) (.slice A 8 c)
      have HSL := Lib.hid (Sl.of_own hown5)
      have HB5 := Lib.hid (below_set3 HB.out (Nat.le_refl w.heap.size) (.int .i64 2) (.int .i64 1) (.slice A 8 c))
      clear hF hown5
      go_wp2_with fail
      exact bodyPost_ret (v := .agg #[.int .i64 2, .int .i64 1, .slice A 8 c]) (by simp [results, Tryz.results11, go_sem, f0, f1, f2]) rfl ⟨A, c, rfl, HSL.out, HB5.out⟩
end Go.Proofs.YtedmmmlahpmmoaaGreatDoor

namespace Go.Proofs.YtedmmmlahpmmoaaGreatDoor
open Go.RowKit RuleP TarjP PairP

theorem one_170 : apartP 4 (pairG 2 4 [0, 1, 0, 1, 0, 1, 0, 1]) = [] := by kernel_rfl
theorem one_90 : (apartP 4 (pairG 2 4 [0, 1, 0, 1, 1, 0, 1, 0])).isEmpty = false := by kernel_rfl
theorem find_170 : findP 2 1 [0, 1, 0, 1, 0, 1, 0, 1] 4 0 = some (1, [0, 0, 0, 0, 1, 1, 1, 1]) := by kernel_rfl
end Go.Proofs.YtedmmmlahpmmoaaGreatDoor

namespace Go.Proofs.YtedmmmlahpmmoaaGreatDoor
open Go.RowKit

end Go.Proofs.YtedmmmlahpmmoaaGreatDoor

namespace Go.Proofs.YtedmmmlahpmmoaaGreatDoor
open Go.RowKit

def bv (b : UInt8) : Value := .int .u8 (b.toNat : Int)

end Go.Proofs.YtedmmmlahpmmoaaGreatDoor

namespace Go.Proofs.YtedmmmlahpmmoaaGreatDoor
open Go.RowKit BagP RuleP SubP

/-- What stays: the rule, where it lies, where the walk and its bag lie, the world ahead of it. -/
structure WalkP where
  w0 : World
  k : Nat
  r : Nat
  t : List Nat
  TA : Option Addr
  tc : Nat
  wb : Nat
  bp : Value
  stop : Bool
def WalkP.N (D : WalkP) : Nat := D.k ^ (2 * D.r)
def WalkP.B (D : WalkP) : Nat := D.w0.heap.size
def WalkP.cells (D : WalkP) (nv wv : Value) : Array Value :=
  #[.int .i64 (D.k : Int), .int .i64 (D.r : Int), .slice D.TA D.t.length D.tc, D.bp, nv, wv, .bool D.stop]
structure WalkOk (D : WalkP) : Prop where
  rule : IsRule D.k D.r D.t
  small : D.t.length ≤ 256
  T : Sl D.w0 D.TA D.t.length ((ints D.t).map (Value.int .i64))
theorem WalkOk.k4 {D : WalkP} (h : WalkOk D) : 1 ≤ D.k ∧ D.k ≤ 4 := ⟨h.rule.k1, h.rule.k4⟩
namespace WalkAt
variable {w w' : World} {D : WalkP} {S : St} {nv wv nv' wv' : Value} {nr wr nr' wr' : List Value} {X X' : Nat → Prop}
end WalkAt
end Go.Proofs.YtedmmmlahpmmoaaGreatDoor
