/- The walk of BagPlays: it returns true. Condition: the script reads from memory; the error variables hold what E says. -/
import Derived.Test.YtiobnnhjnkcafaaDoorP12
import Derived.Test.YtiobnnhjnkcafaaDoorP13
namespace Go.Proofs.YtiobnnhjnkcafaaDoor
open Go.RowKit Go.WideMaps Go.Maps BagP RuleP

theorem newO_tale (n : Int) : TaleOk (newO n).1 := by
  intro x hx
  unfold newO at hx
  repeat' split at hx
  all_goals first | (cases hx; exact ⟨by simp, by simp⟩) | cases hx
theorem newBO_c (w : World) (E : Nat → Addr) (hE : Errs w E) (n : Int) :
    Calls Tryd.prog 5 #[.int .i64 n] w fun e w' => ∃ (pp : Option Addr) (ev : Value), e = .returned (.tuple #[.pointer pp, ev]) ∧ ErrV w' E (newO n).1 ev ∧ BagO w' (.pointer pp) (newO n).2 (fun k => w.heap.size ≤ k) ∧ (pp == none) = (newO n).2.isNone ∧ Below w.heap.size w w' := by
  by_cases h1 : n < 0
  · have e1 : newO n = (some (3, [(BagR.bagS, 0)]), none) := by unfold newO; rw [if_pos h1]
    rw [e1]
    refine (newBag_neg w E hE n h1).mono ?_
    rintro e w' ⟨b, rfl, he, hb⟩
    exact ⟨none, _, rfl, he, rfl, rfl, hb⟩
  · by_cases h2 : 8192 < n
    · have e1 : newO n = (some (4, [(BagR.bagS, 0)]), none) := by unfold newO; rw [if_neg h1, if_pos h2]
      rw [e1]
      refine (newBag_big w E hE n h2).mono ?_
      rintro e w' ⟨b, rfl, he, hb⟩
      exact ⟨none, _, rfl, he, rfl, rfl, hb⟩
    · have e1 : newO n = (none, some (n.toNat, [])) := by unfold newO; rw [if_neg h1, if_neg h2]
      rw [e1]
      obtain ⟨m, rfl⟩ : ∃ m : Nat, n = (m : Int) := ⟨n.toNat, by omega⟩
      rw [Int.toNat_natCast]
      refine (newBag_c w m (by omega)).mono ?_
      rintro e w' ⟨rfl, hB, hb⟩
      exact ⟨_, _, rfl, rfl, ⟨hB, BagR.GoodS.nil _⟩, rfl, hb⟩
theorem newRO_c (w : World) (n : Int) :
    Calls Tryd.prog 6 #[.int .i64 n] w (Ans2 w (newO n).1 fun v w' => ∃ qq : Option Addr, v = .pointer qq ∧ RBagO w' (.pointer qq) (newO n).2 (fun k => w.heap.size ≤ k) ∧ (qq == none) = (newO n).2.isNone) := by
  by_cases h1 : n < 0
  · have e1 : newO n = (some (3, [(BagR.bagS, 0)]), none) := by unfold newO; rw [if_pos h1]
    rw [e1]
    refine (rnew_neg w n h1).mono ?_
    rintro e w' ⟨v, N, A1, n1, c1, A2, n2, c2, rfl, hW, rfl, hb⟩
    exact ⟨_, N, A1, n1, c1, A2, n2, c2, rfl, hW, ⟨none, rfl, rfl, rfl⟩, hb⟩
  · by_cases h2 : 8192 < n
    · have e1 : newO n = (some (4, [(BagR.bagS, 0)]), none) := by unfold newO; rw [if_neg h1, if_pos h2]
      rw [e1]
      refine (rnew_big w n h2).mono ?_
      rintro e w' ⟨v, N, A1, n1, c1, A2, n2, c2, rfl, hW, rfl, hb⟩
      exact ⟨_, N, A1, n1, c1, A2, n2, c2, rfl, hW, ⟨none, rfl, rfl, rfl⟩, hb⟩
    · have e1 : newO n = (none, some (n.toNat, [])) := by unfold newO; rw [if_neg h1, if_neg h2]
      rw [e1]
      obtain ⟨m, rfl⟩ : ∃ m : Nat, n = (m : Int) := ⟨n.toNat, by omega⟩
      rw [Int.toNat_natCast]
      refine (rnew_good w m (by omega)).mono ?_
      rintro e w' ⟨v, N, A1, n1, c1, A2, n2, c2, rfl, hW, hB, hb⟩
      have hB' := hB
      obtain ⟨bb, mb, sv, rows, D, rfl, _⟩ := hB'
      exact ⟨_, N, A1, n1, c1, A2, n2, c2, rfl, hW, ⟨_, rfl, ⟨hB, BagR.GoodS.nil _⟩, rfl⟩, hb⟩
theorem bplays_c (w0 w : World) (E : Nat → Addr) (hE : Errs w0 E) (hT : ErrT w0) (p q : Value) (o : BagD) (b : BOp) (hop : BOpOk w0 b) (hb : Below w0.heap.size w0 w)
    (hB : BothB w0.heap.size (fun _ => False) w p o q o) (hn : b.n ≤ 200) :
    Calls Tryd.prog 8 #[p, q, bopV b.K b.I b.J b.A b.n b.c] w (PlayPost w0 p q) := by
  have h : b.K % 5 = 0 ∨ b.K % 5 = 1 ∨ b.K % 5 = 2 ∨ b.K % 5 = 3 ∨ b.K % 5 = 4 := by omega
  rcases h with h | h | h | h | h
  · exact bplays_0 w0 w E hE hT p q o b.K b.I b.J b.A b.n b.c b.xs hop.hL hb hB hn h
  · exact bplays_1 w0 w E hE hT p q o b.K b.I b.J b.A b.n b.c b.xs hop.hL hb hB hn h
  · exact bplays_2 w0 w E hE hT p q o b.K b.I b.J b.A b.n b.c b.xs hop.hL hb hB hn h
  · exact bplays_3 w0 w E hE hT p q o b.K b.I b.J b.A b.n b.c b.xs hop.hL hb hB hn h
  · exact bplays_4 w0 w E hE hT p q o b.K b.I b.J b.A b.n b.c b.xs hop.hL hb hB hn h
theorem BothB.len_le {base : Nat} {X : Nat → Prop} {w : World} {p q : Value} {o r : BagD} (h : BothB base X w p o q r) : lenO r ≤ 4096 := by
  obtain ⟨O1, O2, _, h2, _⟩ := h.ex
  cases r with
  | none => exact Nat.zero_le _
  | some y => obtain ⟨n, S⟩ := y; exact h2.2.big
/-- What the last loop reads of the document's bag. -/
theorem BothB.sets {base : Nat} {X : Nat → Prop} {w : World} {p q : Value} {n : Nat} {S : List (List Nat)} {r : BagD} (h : BothB base X w p r q (some (n, S))) {i : Nat} (hi : i < S.length) :
    ∃ (bb g : Nat) (sc : Nat) (C : Option Addr) (cc : Nat), q = .pointer (some ⟨bb, 0, none⟩) ∧ w.cell? ⟨bb, 1, none⟩ = some (.slice (some ⟨g, 0, none⟩) S.length sc) ∧ w.cell? ⟨g, i, none⟩ = some (.slice C (getO (some (n, S)) (i : Int)).1.length cc) ∧
      Sl w C (getO (some (n, S)) (i : Int)).1.length ((getO (some (n, S)) (i : Int)).1.map (Value.int .i64)) ∧ (getO (some (n, S)) (i : Int)).2 = none ∧ (getO (some (n, S)) (i : Int)).1.length ≤ 8192 := by
  obtain ⟨O1, O2, _, ⟨⟨bb, mb, sv, rows, D, rfl, hB⟩, hg⟩, _⟩ := h.ex
  have hin : BagR.inS S (i : Int) := ⟨by omega, by omega⟩
  have e : getO (some (n, S)) (i : Int) = (getL n (S.getD i []), none) := by
    simp only [getO]
    unfold BagR.getF
    rw [if_pos hin, Int.toNat_natCast]
  rw [e]
  have hl : (S.map (BagR.getN n))[i]? = some (BagR.getN n (S.getD i [])) := by
    rw [List.getElem?_map, List.getD_eq_getElem?_getD, List.getElem?_eq_getElem hi]; rfl
  obtain ⟨v, h1, h2, h3⟩ := hB.row i _ hl
  obtain ⟨C, cc, rfl, _, _⟩ := own_slice h2
  have hSl : (S.map (BagR.getN n)).length = S.length := by simp
  have hown := hB.own
  rw [hSl] at hown
  obtain ⟨g, sc, rfl⟩ : ∃ g sc, sv = .slice (some ⟨g, 0, none⟩) S.length sc := by
    rcases hown.2 with ⟨_, h⟩ | ⟨g, cap, cur, h, _⟩
    · omega
    · exact ⟨g, cap, h⟩
  have hlen : (getL n (S.getD i [])).length = (BagR.getN n (S.getD i [])).length := by rw [BagR.getL_getN, ints_len]
  refine ⟨bb, g, sc, C, cc, rfl, ?_, ?_, ?_, rfl, ?_⟩
  · rw [cell_of_row w bb _ _ _ _ hB.blk]; rfl
  · rw [hown.cellAt i (by omega), h1, hlen]
  · have := Sl.of_own h2
    simp only
    rw [hlen]
    exact this
  · simp only
    rw [hlen]
    exact (hB.okw _ (List.mem_of_getElem? hl)).2

set_option maxRecDepth 100000 in
set_option maxHeartbeats 4000000 in
theorem bagPlays_c (w : World) (E : Nat → Addr) (hE : Errs w E) (hT : ErrT w) (n : Int) (SA : Option Addr) (m sc : Nat) (hS : BScript w SA m) (hm : m ≤ sc) (hsc : sc ≤ maxLen) :
    Calls Tryd.prog 3 #[.int .i64 n, .slice SA m sc] w fun e w' => e = .returned (.bool true) ∧ Below w.heap.size w w' := by
  have HE := Lib.hid (fun (wz : World) (hz : Below w.heap.size w wz) => hE.below hz)
  have HT := Lib.hid (fun (wz : World) (hz : Below w.heap.size w wz) => hT.below hz)
  have HE0 := Lib.hid hE
  have HT0 := Lib.hid hT
  have HS := Lib.hid hS
  unfold maxLen at hsc
  obtain ⟨o, ho⟩ : ∃ o, (newO n).2 = o := ⟨_, rfl⟩
  obtain ⟨tl, htl⟩ : ∃ tl, (newO n).1 = tl := ⟨_, rfl⟩
  have HTL : Hid (TaleOk tl) := Lib.hid (by rw [← htl]; exact newO_tale n)
  have HN1 := Lib.hid (fun (wz : World) (hz : Below w.heap.size w wz) => newBO_c wz E (HE.out wz hz) n)
  have HN2 := Lib.hid (fun (wz : World) => newRO_c wz n)
  rw [ho, htl] at HN1 HN2
  clear hE hT hS ho htl
  go_enter Tryd.func3, Tryd.ntmps3
  go_wp2_with fail
  refine (awake_c w).mono ?_
  rintro e w1 ⟨rfl, b1⟩
  go_wp2_with fail
  refine (HN1.out w1 b1).mono ?_
  rintro e w2 ⟨pp, ev, rfl, he2, hB2, hp2, b2⟩
  have b02 := b1.trans (b2.mono b1.size)
  go_wp2_with fail
  refine (HN2.out w2).mono ?_
  rintro e w3 ⟨v3, N3, A1, n1, c1, A2, n2, c2, rfl, hu3, ⟨qq, rfl, hR3, hq3⟩, b3⟩
  have b03 := b02.trans (b3.mono b02.size)
  have he3 := he2.below b3
  have hbg : BothB w.heap.size (fun _ => False) w3 (.pointer pp) o (.pointer qq) o := BothB.made (base := w.heap.size) (w0 := w) (hB2.restrict.below b3) hR3
    (fun k hk => ⟨Nat.le_trans b1.size hk.1, fun h => by have := hk.2; omega⟩) (fun k hk => Nat.le_trans b02.size hk) b03.size
  have hw4 := WantAt.new w3 (.int .i64 (N3 : Int)) (.slice A1 n1 c1) (.slice A2 n2 c2)
  have b4 := (Below.refl w3.heap.size w3).alloc (Nat.le_refl _) (.cells #[.int .i64 (N3 : Int), .slice A1 n1 c1, .slice A2 n2 c2] 33)
  obtain ⟨w4, hw4'⟩ : ∃ w4, w3.alloc (.cells #[.int .i64 (N3 : Int), .slice A1 n1 c1, .slice A2 n2 c2] 33) = w4 := ⟨_, rfl⟩
  have HW4 := Lib.hid hw4'
  rw [hw4'] at hw4 b4
  have b04 := b03.trans (b4.mono b03.size)
  have hbg4 := hbg.below b4
  have HI := Lib.hid (rawIs_c w4 E (HE.out w4 b04) (HT.out w4 b04) tl HTL.out ev _ (he3.below b4) (hu3.below b4).want)
  obtain ⟨d0, d1', d2', _⟩ := hw4.facts
  have HP2 := Lib.hid hp2
  have HQ2 := Lib.hid hq3
  clear hw4' b4 b1 b2 b3 he2 he3 hB2 hu3 hR3 hbg b02 b03 hw4 HN1 HN2 hp2 hq3
  go_wp2_with fail
  rw [HW4.out]
  refine (HI.out).mono ?_
  rintro e w5 ⟨rfl, b5⟩
  have b05 := Lib.hid (b04.trans (b5.mono b04.size))
  have hbg5 := Lib.hid (hbg4.below b5)
  clear HI b5 b04 hbg4 d0 d1' d2'
  have hpq : (!pp.isNone == qq.isNone) = false := by
    have h1 : (pp == none) = (qq == none) := HP2.out.trans HQ2.out.symm
    cases pp <;> cases qq
    · rfl
    · exact absurd h1 (by simp)
    · exact absurd h1 (by simp)
    · rfl
  go_wp2_with fail
  clear hpq
  obtain ⟨p, hp⟩ : ∃ p, Value.pointer pp = p := ⟨_, rfl⟩
  obtain ⟨q, hq⟩ : ∃ q, Value.pointer qq = q := ⟨_, rfl⟩
  rw [hp, hq] at hbg5 ⊢
  clear hp hq HP2 HQ2
  go_loopw [9] (fun iv wr => ∃ (i : Nat) (r : BagD), i ≤ m ∧ i ≤ 200 ∧ iv = .int .i64 (i : Int) ∧ Hid (BothB w.heap.size (fun _ => False) wr p r q r) ∧ Hid (Below w.heap.size w wr)) (fun iv _ => 200 - (intOf iv).toNat)
  case atStart => exact ⟨0, o, Nat.zero_le _, by decide, rfl, hbg5, b05⟩
  case round =>
    obtain ⟨i, r, hi, hi200, rfl, hbr, hb⟩ := hrel
    clear hbg5 b05
    by_cases hlt : i < m ∧ i < 200
    · obtain ⟨hl1, hl2⟩ := hlt
      have hlt' : (i : Int) < (m : Int) := by omega
      have h200' : (i : Int) < 200 := by omega
      have hi0 : (0 : Int) ≤ (i : Int) := by omega
      obtain ⟨ad, b, rfl, hop, c0, c1, c2, c3⟩ := HS.out i hl1
      have hb' := hb.out
      have c0 := cell_later hb' c0
      have c1 := cell_later hb' c1
      have c2 := cell_later hb' c2
      have c3 := cell_later hb' c3
      rw [addr_add4 _ _ _ (by decide)] at c1 c2 c3
      by_cases hn : b.n ≤ 200
      · have hn' : (b.n : Int) ≤ 200 := by omega
        have HPL := Lib.hid (bplays_c w wr E HE0.out HT0.out p q r b hop hb' hbr.out hn)
        unfold bopV at HPL
        obtain ⟨K, I, J, A, bn, bc, xs⟩ := b
        dsimp only at c0 c1 c2 c3 hn' HPL
        clear hop hb' hbr hn
        go_wp2_with fail
        refine (HPL.out).mono ?_
        rintro e w7 ⟨rfl, h7, r7, hb7⟩
        have H7 := Lib.hid h7
        have HB7 := Lib.hid hb7
        clear h7 hb7 HPL
        go_wp2_with fail
        exact ⟨⟨i + 1, r7, by omega, by omega, by go_num, HB7, H7⟩, by simp [intOf]; omega⟩
      · have hn' : ¬ (b.n : Int) ≤ 200 := by omega
        clear hop hb' hn
        go_wp2_with fail
        exact ⟨⟨i + 1, r, by omega, by omega, by go_num, hbr, hb⟩, by simp [intOf]; omega⟩
    · have hcond : (decide ((i : Int) < (m : Int)) && decide ((i : Int) < 200)) = false := by
        rw [Bool.and_eq_false_iff]
        rcases Classical.not_and_iff_not_or_not.1 hlt with h | h
        · exact .inl (decide_eq_false (by omega))
        · exact .inr (decide_eq_false (by omega))
      by_cases him : i < m
      · have him' : (i : Int) < (m : Int) := by omega
        have h200' : ¬ (i : Int) < 200 := by omega
        clear hcond
        go_wp2_with fail
        go_loopw [10] (fun jv wl => ∃ j : Nat, j ≤ lenO r ∧ jv = .int .i64 (j : Int) ∧ Hid (BothB w.heap.size (fun _ => False) wl p r q r) ∧ Hid (Below w.heap.size w wl)) (fun jv _ => lenO r - (intOf jv).toNat)
        case atStart => exact ⟨0, Nat.zero_le _, rfl, hbr, hb⟩
        case round =>
        obtain ⟨j, hj, rfl, hb2, hbb⟩ := hrel
        obtain ⟨v0, rfl⟩ : ∃ v0, v0 = wr := ⟨_, rfl⟩
        clear hbr hb
        have HLN := Lib.hid (rboth_len hb2.out)
        have hle := hb2.out.len_le
        obtain ⟨L, hL⟩ : ∃ L, lenO r = L := ⟨_, rfl⟩
        rw [hL] at HLN hj hle
        have HLL := Lib.hid hL
        clear hL
        go_wp2_with fail
        refine (HLN.out).mono ?_
        rintro e v1 ⟨rfl, rfl⟩
        clear HLN
        by_cases hjL : j < L
        · have hjL' : (j : Int) < (L : Int) := by omega
          have hj0 : (0 : Int) ≤ (j : Int) := by omega
          obtain ⟨⟨nn, S⟩, rfl⟩ : ∃ x, r = some x := by
            cases r with
            | none => have := HLL.out; simp [lenO] at this; omega
            | some x => exact ⟨x, rfl⟩
          have hjS : j < S.length := by have := HLL.out; simp [lenO] at this; omega
          have HLS : Hid (S.length = L) := Lib.hid HLL.out
          obtain ⟨bb, g, scc, C, cc, rfl, x1, x2, x3, x4, x5⟩ := hb2.out.sets hjS
          have hget := both_get hb2.out E (HE.out v0 hbb.out) (j : Int)
          obtain ⟨ys, hys⟩ : ∃ ys, (getO (some (nn, S)) (j : Int)).1 = ys := ⟨_, rfl⟩
          rw [x4, hys] at hget
          rw [hys] at x2 x3 x5
          obtain ⟨ny, hny⟩ : ∃ ny, ys.length = ny := ⟨_, rfl⟩
          rw [hny] at hget x2 x3 x5
          rw [HLS.out] at x1
          have HX3 := Lib.hid x3
          have HG := Lib.hid hget
          clear hys hny hget x3 x4
          go_wp2_with fail
          refine (HG.out).mono ?_
          rintro e v2 ⟨vx, ev2, rfl, he2, ho2, hb22⟩
          obtain rfl : ev2 = .nilIface := he2
          obtain ⟨D, dc, rfl, _, _⟩ := own_slice ho2
          have hin := ints_b v2 D C ny ny dc cc ys ys (Sl.of_own ho2) (HX3.out.below hb22) (by omega) (by omega)
          rw [decide_eq_true rfl] at hin
          have HIN := Lib.hid hin
          have y1 := cell_later hb22 x1
          have y2 := cell_later hb22 x2
          have H22 := Lib.hid hb22
          clear hin ho2 hb22 x1 x2 HG HX3
          go_wp2_with fail
          refine (HIN.out).mono ?_
          rintro e v3 ⟨rfl, hb33⟩
          have HB3 := Lib.hid (H22.out.trans (hb33.mono H22.out.size))
          have HBX := Lib.hid (hb2.out.below HB3.out)
          have HBY := Lib.hid (hbb.out.trans (HB3.out.mono hbb.out.size))
          have HJM : Hid (lenO (some (nn, S)) = L) := HLL
          have hjm : j + 1 ≤ lenO (some (nn, S)) := by rw [HJM.out]; omega
          clear hb33 y1 y2
          go_wp2_with fail
          have hLe := HJM.out
          exact ⟨⟨j + 1, hjm, by go_num, HBX, HBY⟩, by simp [intOf]; omega⟩
        · have hjL' : ¬ (j : Int) < (L : Int) := by omega
          go_wp2_with fail
          go_ret
          exact ⟨rfl, hbb.out⟩
      · have him' : ¬ (i : Int) < (m : Int) := by omega
        clear hcond
        go_wp2_with fail
        go_loopw [10] (fun jv wl => ∃ j : Nat, j ≤ lenO r ∧ jv = .int .i64 (j : Int) ∧ Hid (BothB w.heap.size (fun _ => False) wl p r q r) ∧ Hid (Below w.heap.size w wl)) (fun jv _ => lenO r - (intOf jv).toNat)
        case atStart => exact ⟨0, Nat.zero_le _, rfl, hbr, hb⟩
        case round =>
        obtain ⟨j, hj, rfl, hb2, hbb⟩ := hrel
        obtain ⟨v0, rfl⟩ : ∃ v0, v0 = wr := ⟨_, rfl⟩
        clear hbr hb
        have HLN := Lib.hid (rboth_len hb2.out)
        have hle := hb2.out.len_le
        obtain ⟨L, hL⟩ : ∃ L, lenO r = L := ⟨_, rfl⟩
        rw [hL] at HLN hj hle
        have HLL := Lib.hid hL
        clear hL
        go_wp2_with fail
        refine (HLN.out).mono ?_
        rintro e v1 ⟨rfl, rfl⟩
        clear HLN
        by_cases hjL : j < L
        · have hjL' : (j : Int) < (L : Int) := by omega
          have hj0 : (0 : Int) ≤ (j : Int) := by omega
          obtain ⟨⟨nn, S⟩, rfl⟩ : ∃ x, r = some x := by
            cases r with
            | none => have := HLL.out; simp [lenO] at this; omega
            | some x => exact ⟨x, rfl⟩
          have hjS : j < S.length := by have := HLL.out; simp [lenO] at this; omega
          have HLS : Hid (S.length = L) := Lib.hid HLL.out
          obtain ⟨bb, g, scc, C, cc, rfl, x1, x2, x3, x4, x5⟩ := hb2.out.sets hjS
          have hget := both_get hb2.out E (HE.out v0 hbb.out) (j : Int)
          obtain ⟨ys, hys⟩ : ∃ ys, (getO (some (nn, S)) (j : Int)).1 = ys := ⟨_, rfl⟩
          rw [x4, hys] at hget
          rw [hys] at x2 x3 x5
          obtain ⟨ny, hny⟩ : ∃ ny, ys.length = ny := ⟨_, rfl⟩
          rw [hny] at hget x2 x3 x5
          rw [HLS.out] at x1
          have HX3 := Lib.hid x3
          have HG := Lib.hid hget
          clear hys hny hget x3 x4
          go_wp2_with fail
          refine (HG.out).mono ?_
          rintro e v2 ⟨vx, ev2, rfl, he2, ho2, hb22⟩
          obtain rfl : ev2 = .nilIface := he2
          obtain ⟨D, dc, rfl, _, _⟩ := own_slice ho2
          have hin := ints_b v2 D C ny ny dc cc ys ys (Sl.of_own ho2) (HX3.out.below hb22) (by omega) (by omega)
          rw [decide_eq_true rfl] at hin
          have HIN := Lib.hid hin
          have y1 := cell_later hb22 x1
          have y2 := cell_later hb22 x2
          have H22 := Lib.hid hb22
          clear hin ho2 hb22 x1 x2 HG HX3
          go_wp2_with fail
          refine (HIN.out).mono ?_
          rintro e v3 ⟨rfl, hb33⟩
          have HB3 := Lib.hid (H22.out.trans (hb33.mono H22.out.size))
          have HBX := Lib.hid (hb2.out.below HB3.out)
          have HBY := Lib.hid (hbb.out.trans (HB3.out.mono hbb.out.size))
          have HJM : Hid (lenO (some (nn, S)) = L) := HLL
          have hjm : j + 1 ≤ lenO (some (nn, S)) := by rw [HJM.out]; omega
          clear hb33 y1 y2
          go_wp2_with fail
          have hLe := HJM.out
          exact ⟨⟨j + 1, hjm, by go_num, HBX, HBY⟩, by simp [intOf]; omega⟩
        · have hjL' : ¬ (j : Int) < (L : Int) := by omega
          go_wp2_with fail
          go_ret
          exact ⟨rfl, hbb.out⟩
end Go.Proofs.YtiobnnhjnkcafaaDoor
