/- A step of the walk over the subsets: (*subset.walk).step. Condition: the walk lies in memory as WalkAt says. A list filled to a place. Plain lemmas. No condition. The package's name in errors. No condition. What the rows' listed error variables give a walk: each holds an error of its own. Condition: the row's list. -/
import Derived.Deep.RegionHeld3
import Derived.Deep.RegionLaw
import Derived.StillTailTactics
import Derived.Test.YtibplgpolmplpaaGreatDoorRows
import Derived.LaidLaws
import Derived.LaidSub
import Derived.Test.YtibplgpolmplpaaGreatDoorX1
import Derived.Test.YtibplgpolmplpaaGreatDoorX3
import Derived.Test.YtibplgpolmplpaaGreatDoorX19
namespace Go.Proofs.YtibplgpolmplpaaGreatDoor
open Go.RowKit BagP RuleP SubP

/-- An orphan found: an error of its own kind. -/
def foundV (b : Nat) : Value := .iface 70 (.pointer (some ⟨b, 0, none⟩))
/-- The error holds this word, in new memory. -/
def FoundAt (w : World) (B b : Nat) (x : List Nat) : Prop :=
  ∃ xv, w.heap[b]? = some (.cells #[xv] 74 (0, 0)) ∧ w.ownsRow B 3 1 xv x.length ((ints x).map (Value.int .i64)) ∧ B ≤ b
/-- What a step leaves. -/
def StepPost (w : World) (D : WalkP) (S : St) (E : Nat → Addr) (i s : Nat) (nv wv : Value) (nr _ : List Value) (X : Nat → Prop) (e : Ending) (w' : World) : Prop :=
  (nodesOf (beh D.k D.N D.t (S.sets.getD i []) s) = [] → D.stop = false → e = .returned (.tuple #[.int .i64 (-1), .nilIface]) ∧ Below w.heap.size w w') ∧
  (nodesOf (beh D.k D.N D.t (S.sets.getD i []) s) = [] → D.stop = true → ∃ b, e = .returned (.tuple #[.int .i64 0, foundV b]) ∧ FoundAt w' w.heap.size b (S.words.getD i [] ++ [s]) ∧ Below w.heap.size w w') ∧
  (nodesOf (beh D.k D.N D.t (S.sets.getD i []) s) ≠ [] → beh D.k D.N D.t (S.sets.getD i []) s ∈ S.sets → e = .returned (.tuple #[.int .i64 ((S.sets.idxOf (beh D.k D.N D.t (S.sets.getD i []) s) : Nat) : Int), .nilIface]) ∧ Below w.heap.size w w') ∧
  (nodesOf (beh D.k D.N D.t (S.sets.getD i []) s) ≠ [] → beh D.k D.N D.t (S.sets.getD i []) s ∉ S.sets → 4096 ≤ S.sets.length → ∃ b, e = .returned (.tuple #[.int .i64 0, errV b]) ∧ ErrIs w' E 4 [(sBag, 0)] (errV b) ∧ Below w.heap.size w w') ∧
  (nodesOf (beh D.k D.N D.t (S.sets.getD i []) s) ≠ [] → beh D.k D.N D.t (S.sets.getD i []) s ∉ S.sets → S.sets.length < 4096 → ∃ wv' wr', e = .returned (.tuple #[.int .i64 ((S.sets.length : Nat) : Int), .nilIface]) ∧
    WalkAt w' D ⟨S.sets ++ [beh D.k D.N D.t (S.sets.getD i []) s], S.words ++ [S.words.getD i [] ++ [s]], S.next⟩ nv wv' nr wr' X ∧ Keeps (WalkAt.Foot w D nv wv) w w')

variable {w w' : World} {D : WalkP} {S : St} {nv wv : Value} {nr ws : List Value} {X : Nat → Prop} {E : Nat → Addr} {i s : Nat}
theorem StepPost.none (hn : nodesOf (beh D.k D.N D.t (S.sets.getD i []) s) = []) (hs : D.stop = false) (hb : Below w.heap.size w w') : StepPost w D S E i s nv wv nr ws X (.returned (.tuple #[.int .i64 (-1), .nilIface])) w' :=
  ⟨fun _ _ => ⟨rfl, hb⟩, fun _ h => (by rw [hs] at h; cases h), fun h => absurd hn h, fun h => absurd hn h, fun h => absurd hn h⟩
theorem StepPost.orphan (hn : nodesOf (beh D.k D.N D.t (S.sets.getD i []) s) = []) (hs : D.stop = true) {b : Nat} (hf : FoundAt w' w.heap.size b (S.words.getD i [] ++ [s])) (hb : Below w.heap.size w w') : StepPost w D S E i s nv wv nr ws X (.returned (.tuple #[.int .i64 0, foundV b])) w' :=
  ⟨fun _ h => (by rw [hs] at h; cases h), fun _ _ => ⟨b, rfl, hf, hb⟩, fun h => absurd hn h, fun h => absurd hn h, fun h => absurd hn h⟩
theorem StepPost.old (hn : nodesOf (beh D.k D.N D.t (S.sets.getD i []) s) ≠ []) (hm : beh D.k D.N D.t (S.sets.getD i []) s ∈ S.sets) {x : Int} (hx : x = ((S.sets.idxOf (beh D.k D.N D.t (S.sets.getD i []) s) : Nat) : Int)) (hb : Below w.heap.size w w') : StepPost w D S E i s nv wv nr ws X (.returned (.tuple #[.int .i64 x, .nilIface])) w' :=
  ⟨fun h => absurd h hn, fun h => absurd h hn, fun _ _ => ⟨by rw [hx], hb⟩, fun _ h => absurd hm h, fun _ h => absurd hm h⟩
theorem StepPost.full (hn : nodesOf (beh D.k D.N D.t (S.sets.getD i []) s) ≠ []) (hm : beh D.k D.N D.t (S.sets.getD i []) s ∉ S.sets) (hl : 4096 ≤ S.sets.length) {b : Nat} (he : ErrIs w' E 4 [(sBag, 0)] (errV b)) (hb : Below w.heap.size w w') : StepPost w D S E i s nv wv nr ws X (.returned (.tuple #[.int .i64 0, errV b])) w' :=
  ⟨fun h => absurd h hn, fun h => absurd h hn, fun _ h => absurd h hm, fun _ _ _ => ⟨b, rfl, he, hb⟩, fun _ _ h => by omega⟩
theorem StepPost.new (hn : nodesOf (beh D.k D.N D.t (S.sets.getD i []) s) ≠ []) (hm : beh D.k D.N D.t (S.sets.getD i []) s ∉ S.sets) (hl : S.sets.length < 4096) {wv' : Value} {ws' : List Value} {x : Int} (hx : x = ((S.sets.length : Nat) : Int))
    (hw : WalkAt w' D ⟨S.sets ++ [beh D.k D.N D.t (S.sets.getD i []) s], S.words ++ [S.words.getD i [] ++ [s]], S.next⟩ nv wv' nr ws' X) (hk : Keeps (WalkAt.Foot w D nv wv) w w') : StepPost w D S E i s nv wv nr ws X (.returned (.tuple #[.int .i64 x, .nilIface])) w' :=
  ⟨fun h => absurd h hn, fun h => absurd h hn, fun _ h => absurd h hm, fun _ _ h => by omega, fun _ _ _ => ⟨wv', ws', by rw [hx], hw, hk⟩⟩

/-- Behind the new set and its word. -/
theorem new_end {w5 w6 w8 w9 : World} {W : List Nat} {g cap g2 cap2 : Nat} (h : WalkAt w D S nv wv nr ws X) (hX : ∀ b, X b → b < w.heap.size) (hb5 : Below w.heap.size w w5) (hk6 : Keeps (BOwn w5 D.B) w5 w6)
    (h6 : WalkAt w6 D ⟨S.sets ++ [beh D.k D.N D.t (S.sets.getD i []) s], S.words, S.next⟩ nv wv nr ws X) (hW : S.words.getD i [] = W)
    (hn : nodesOf (beh D.k D.N D.t (S.sets.getD i []) s) ≠ []) (hm : beh D.k D.N D.t (S.sets.getD i []) s ∉ S.sets) (hl : S.sets.length < 4096)
    (hb8 : Below w6.heap.size w6 w8) (ho8 : w8.ownsRow w6.heap.size 3 1 (.slice (some ⟨g, 0, none⟩) (W.length + 1) cap) (W.length + 1) ((ints W).map (Value.int .i64) ++ [.int .i64 (s : Int)]))
    (ho9 : w9.ownsRow D.B 22 1 (.slice (some ⟨g2, 0, none⟩) (S.words.length + 1) cap2) (S.words.length + 1) (ws ++ [.slice (some ⟨g, 0, none⟩) (W.length + 1) cap]))
    (hk9 : Keeps (fun b => wv.ownBlock = some b) w8 w9) (hg9 : wv.ownBlock = some g2 ∨ w8.heap.size ≤ g2) :
    StepPost w D S E i s nv wv nr ws X (.returned (.tuple #[.int .i64 ((S.sets.length : Nat) : Int), .nilIface])) (w9.setCell ⟨D.wb, 5, none⟩ (.slice (some ⟨g2, 0, none⟩) (S.words.length + 1) cap2)) := by
  have hB : D.B ≤ w.heap.size := h.old.size
  have z56 := hk6.size
  have z05 := hb5.size
  have h8 := h6.pure hb8
  have e1 : (ints (W ++ [s])).map (Value.int .i64) = (ints W).map (Value.int .i64) ++ [Value.int .i64 (s : Int)] := by simp [ints]
  have e2 : (W ++ [s]).length = W.length + 1 := by simp
  have hv : w8.ownsRow D.B 3 1 (.slice (some ⟨g, 0, none⟩) (W.length + 1) cap) (W ++ [s]).length ((ints (W ++ [s])).map (Value.int .i64)) := by
    rw [e1, e2]; exact own_base ho8 (by omega)
  have hgg : w6.heap.size ≤ g := (ho8.lt g rfl).1
  have hd := h8.worded (x := W ++ [s]) hv (fun g' hg' hx' => by
      have e : g = g' := by simpa [Value.ownBlock] using hg'
      subst e
      have := hX _ hx'
      omega) (fun g' hg' u hu => by
      have e : g = g' := by simpa [Value.ownBlock] using hg'
      subst e
      exact (h6.wd.not_new hgg).2 u hu) ho9 hk9 (fun g' hg' => by
      have e : g2 = g' := by simpa [Value.ownBlock] using hg'
      subst e
      exact hg9)
  refine StepPost.new hn hm hl (wv' := .slice (some ⟨g2, 0, none⟩) (S.words.length + 1) cap2) (ws' := ws ++ [.slice (some ⟨g, 0, none⟩) (W.length + 1) cap]) rfl (by rw [hW]; exact hd) ?_
  have k1 : Keeps (WalkAt.Foot w D nv wv) w w5 := Keeps.of_pure hb5 _
  have k2 : Keeps (WalkAt.Foot w D nv wv) w w6 := k1.trans hk6 (fun b hb hB => by
    refine .inr (.inl ⟨?_, hB.2⟩)
    have hbt := hB.1
    unfold BT at hbt ⊢
    rw [hb5.block b hb] at hbt
    exact hbt)
  have k3 : Keeps (WalkAt.Foot w D nv wv) w w8 := k2.trans (Keeps.of_pure hb8 (fun _ => False)) (fun _ _ h => h.elim)
  have k4 : Keeps (WalkAt.Foot w D nv wv) w w9 := k3.trans hk9 (fun b _ hb => .inr (.inr (.inr hb)))
  exact k4.trans (Keeps.of_setCell w9 _ _) (fun b _ hb => .inl hb)

set_option maxRecDepth 100000 in
set_option maxHeartbeats 4000000 in
theorem step_c (h : WalkAt w D S nv wv nr ws X) (hD : WalkOk D) (hE : Errs w E) {j : Nat} (hI : Inv D.N j S) (hX : ∀ b, X b → b < w.heap.size) (hi : i < S.sets.length) (_ : s < D.k) (hwl : (S.words.getD i []).length ≤ 4096) :
    Calls Tryz.prog 80 #[.pointer (some ⟨D.wb, 0, none⟩), .int .i64 (i : Int), .int .i64 (s : Int)] w (StepPost w D S E i s nv wv nr ws X) := by
  obtain ⟨B, hB⟩ : ∃ B, S.sets[i]? = some B := ⟨_, List.getElem?_eq_getElem hi⟩
  have hBl := hI.ok B (List.mem_of_getElem? hB)
  have hgd : S.sets.getD i [] = B := getD_of hB
  obtain ⟨M, hM⟩ : ∃ M, nodesOf B = M := ⟨_, rfl⟩
  have hMN : ∀ u ∈ M, u < D.N := by rw [← hM]; exact nodes_range hBl
  have hMl : M.length ≤ D.N := by rw [← hM, ← hBl]; exact nodesTo_len _ _
  have hN := hD.Nle
  have hk4 := hD.k4
  have hNk := hD.N256
  have HGET := Lib.hid (Get_c h.bag i (wordsOf D.N B) (by rw [List.getElem?_map, hB]; rfl))
  rw [getL_words hBl, hM] at HGET
  have hw0 := h.wd.lst
  rw [List.length_map] at hw0
  obtain ⟨WA, wc, rfl, hwc, hwm⟩ := own_slice hw0
  clear hw0
  have HH := Lib.hid h
  have HD := Lib.hid hD
  have HE := Lib.hid hE
  have HI := Lib.hid hI
  have HX := Lib.hid hX
  have HB := Lib.hid hB
  have HGD := Lib.hid hgd
  have HM := Lib.hid hM
  have HMN := Lib.hid hMN
  obtain ⟨c0, c1, c2, c3, c4, c5, c6, f4, f5⟩ := h.facts
  clear h hD hE hI hX hB hgd hM hMN hBl
  go_enter Tryz.func80, Tryz.ntmps80
  go_wp2_with fail
  refine (HGET.out).mono ?_
  rintro e w1 ⟨mv, rfl, hmv, hb1⟩
  clear HGET c0 c1 c2 c3 c4 c5 c6 f4 f5
  have hml : ((ints M).map (Value.int .i64)).length = M.length := by rw [List.length_map, ints_len]
  rw [hml] at hmv
  obtain ⟨MA, mc, rfl, _, _⟩ := own_slice hmv
  have HSM := Lib.hid (Sl.of_own hmv)
  clear hml
  go_wp2_with fail
  go_loopw [10, 33] (fun b iv wl => ∃ q : Nat, q ≤ M.length ∧ iv = .int .i64 (q : Int) ∧ wl.ownsRow w1.heap.size 3 1 b (behF D.k D.N D.t s (M.take q)).length ((ints (behF D.k D.N D.t s (M.take q))).map (Value.int .i64)) ∧ Hid (Below w1.heap.size w1 wl)) (fun _ iv _ => M.length - (intOf iv).toNat)
  case atStart => exact ⟨0, Nat.zero_le _, rfl, World.ownsRow_nil _ _ _ _, Lib.hid (Below.refl _ _)⟩
  case round =>
    obtain ⟨q, hq, rfl, hown, hb3⟩ := hrel
    have hb2 := Lib.hid (hb1.trans (hb3.out.mono hb1.size))
    by_cases hlt : q < M.length
    · obtain ⟨u, hu⟩ : ∃ u, M[q]? = some u := ⟨_, List.getElem?_eq_getElem hlt⟩
      have huN : u < D.N := HMN.out u (List.mem_of_getElem? hu)
      obtain ⟨ad, hA, hcz⟩ := (HSM.out.below hb3.out).2 q (.int .i64 (u : Int)) (by rw [List.getElem?_map]; unfold ints; rw [List.getElem?_map, hu]; rfl)
      subst hA
      have hlen := behF_len D.k D.N D.t s (M.take q)
      have hlq : (M.take q).length = q := by rw [List.length_take]; omega
      have hkq : D.k * q ≤ 1024 := Nat.le_trans (Nat.mul_le_mul hk4.2 (show q ≤ 256 by omega)) (by decide)
      rw [hlq] at hlen
      obtain ⟨L0, hL0⟩ : ∃ L0, behF D.k D.N D.t s (M.take q) = L0 := ⟨_, rfl⟩
      have HL0 := Lib.hid (show behF D.k D.N D.t s (M.take (q + 1)) = L0 ++ outTo D.k D.N D.t s u D.k by rw [List.take_add_one, hu, Option.toList_some, behF_snoc, hL0])
      rw [hL0] at hown hlen
      have hL0l : L0.length ≤ 1024 := by omega
      have hfw := (HH.out.pure hb2.out).facts
      obtain ⟨c0, c1, c2, c3, c4, c5, c6, f4, f5⟩ := hfw
      have HU := Lib.hid hu
      clear hlen hL0 hu hkq hlq
      go_wp2_with fail
      clear c0 c1 c2 c3 c4 c5 c6 f4 f5 hcz
      go_loopw [10, 42] (fun b iv wl => ∃ c : Nat, c ≤ D.k ∧ iv = .int .i64 (c : Int) ∧ wl.ownsRow w1.heap.size 3 1 b (L0 ++ outTo D.k D.N D.t s u c).length ((ints (L0 ++ outTo D.k D.N D.t s u c)).map (Value.int .i64)) ∧ Hid (Below w1.heap.size w1 wl)) (fun _ iv _ => D.k - (intOf iv).toNat)
      case atStart => exact ⟨0, Nat.zero_le _, rfl, by rw [outTo_zero, List.append_nil]; exact hown, hb3⟩
      case round =>
        clear hown hb2 hb3
        obtain ⟨c, hc, rfl, hown, hb3⟩ := hrel
        have hb2 := Lib.hid (hb1.trans (hb3.out.mono hb1.size))
        by_cases hck : c < D.k
        · obtain ⟨c0, c1, c2, c3, c4, c5, c6, f4, f5⟩ := (HH.out.pure hb2.out).facts
          have hol := outTo_len D.k D.N D.t s u c
          have hEG := edge_good _ E (HE.out.below hb2.out) D.k D.r u c D.TA D.t.length D.tc D.t ((HH.out.pure hb2.out).tab HD.out) HD.out.rule HD.out.small huN hck
          have HLL := Lib.hid (show (L0 ++ outTo D.k D.N D.t s u c).length ≤ 2000 by rw [List.length_append]; omega)
          have HST := Lib.hid (outTo_succ D.k D.N D.t s u c)
          obtain ⟨L1, hL1⟩ : ∃ L1, outTo D.k D.N D.t s u c = L1 := ⟨_, rfl⟩
          rw [hL1] at hown HLL HST hol
          obtain ⟨LX, hLX⟩ : ∃ LX, L0 ++ L1 = LX := ⟨_, rfl⟩
          rw [hLX] at hown HLL
          have HLX := Lib.hid hLX
          obtain ⟨lb, hlb⟩ : ∃ lb, D.t.getD (u * D.k + c) 0 = lb := ⟨_, rfl⟩
          obtain ⟨to, hto⟩ : ∃ to, (u * D.k + c) % D.k ^ (2 * D.r) = to := ⟨_, rfl⟩
          have hto' : (u * D.k + c) % D.N = to := hto
          rw [hlb, hto] at hEG
          rw [hlb, hto'] at HST
          have HEG := Lib.hid hEG
          unfold ruleV at HEG
          have HTW := Lib.hid hto
          have hm : LX.length + 1 ≤ maxLen := by have := HLL.out; simp only [maxLen]; omega
          have hm8 : (LX.length + 1) * 8 ≤ 140737488355328 := by have := HLL.out; omega
          have HO := Lib.hid hown
          clear hEG hL1 hLX hol hlb hto hto' hown
          go_wp2_with fail
          refine (HEG.out).mono ?_
          rintro e w3 ⟨rfl, h3⟩
          clear HEG c0 c1 c2 c3 c4 c5 c6 f4 f5
          have hb4 := hb3.out.trans (h3.mono hb3.out.size)
          have hown3 := own_below HO.out h3
          clear HO h3
          by_cases hls : lb = s
          · have hq1 : ((lb : Int) == (s : Int)) = true := by rw [hls]; simp
            have HS2 := Lib.hid (HST.out.trans (by rw [if_pos hls]))
            have HB4 := Lib.hid hb4
            have hbs := hb4.size
            clear hls HST hb4
            go_wp2_with (at_builtin; refine wpList_push rfl _ _ _ rfl tInts hown3 rfl _ 0 rfl rfl rfl hm hm8 hbs ?_; intro g cap w4 hown4 hg4 hat4 hlt4)
            refine ⟨⟨c + 1, by omega, by go_num, ?_, Lib.hid (HB4.out.grown hg4 HB4.out.size (fun j hj => (hown3.lt j hj).1))⟩, by simp [intOf]; omega⟩
            · rw [HS2.out, ← List.append_assoc, HLX.out]
              have e2 : (LX ++ [to]).length = LX.length + 1 := by simp
              rw [e2]
              have e3 : (ints (LX ++ [to])).map (Value.int .i64) = (ints LX).map (Value.int .i64) ++ [Value.int .i64 (to : Int)] := by simp [ints]
              rw [e3]
              exact hown4
          · have hq1 : ((lb : Int) == (s : Int)) = false := by simp; omega
            have HS2 := Lib.hid (HST.out.trans (by rw [if_neg hls, List.append_nil]))
            have HB4 := Lib.hid hb4
            clear hls HST hb4
            go_wp2_with fail
            refine ⟨⟨c + 1, by omega, by go_num, ?_, HB4⟩, by simp [intOf]; omega⟩
            rw [HS2.out, HLX.out]
            exact hown3
        · have hck' : c = D.k := by omega
          subst hck'
          go_wp2_with fail
          exact ⟨⟨q + 1, by omega, by go_num, by rw [HL0.out]; exact hown, hb3⟩, by simp [intOf]; omega⟩
    · obtain rfl : q = M.length := by omega
      have hb5 := hb1.trans (hb3.out.mono hb1.size)
      rw [List.take_length] at hown
      have hBL : behF D.k D.N D.t s M = behF D.k D.N D.t s (nodesOf B) := by rw [HM.out]
      have hNZ := HD.out.N0
      have hnil := behF_nil_iff (k := D.k) hNZ (t := D.t) (B := B) (s := s)
      have hbit := bits_beh (k := D.k) hNZ (t := D.t) (B := B) (s := s)
      have hlt' := behF_lt (k := D.k) hNZ (t := D.t) (s := s) (M := nodesOf B)
      have hlen := behF_len D.k D.N D.t s M
      have hkq : D.k * M.length ≤ 1024 := Nat.le_trans (Nat.mul_le_mul hk4.2 (show M.length ≤ 256 by omega)) (by decide)
      rw [← hBL] at hnil hbit hlt'
      have hbehl := beh_len D.k D.N D.t B s
      obtain ⟨BL, hBL'⟩ : ∃ BL, behF D.k D.N D.t s M = BL := ⟨_, rfl⟩
      obtain ⟨bh, hbh⟩ : ∃ bh, beh D.k D.N D.t B s = bh := ⟨_, rfl⟩
      rw [hBL'] at hown hnil hbit hlt' hlen
      rw [hbh] at hnil hbit hbehl
      have HBH := Lib.hid hbh
      obtain ⟨c0, c1, c2, c3, c4, c5, c6, f4, f5⟩ := (HH.out.pure hb5).facts
      have hbl1 : BL.length ≤ 1024 := by omega
      obtain ⟨BA, bc, rfl, hbc, hbm⟩ := own_slice hown
      clear hlen hkq hBL hBL' hbh hNZ
      by_cases hn : BL = []
      · have HN := Lib.hid (hnil.1 hn)
        subst hn
        simp only [List.length_nil] at hown hbc
        cases hst : D.stop
        · rw [hst] at c6
          have HST0 := Lib.hid hst
          have HB5 := Lib.hid hb5
          clear hnil hbit hlt' hst
          go_wp2_with fail
          go_ret2
          exact StepPost.none (by rw [HGD.out, HBH.out]; exact HN.out) HST0.out HB5.out
        · rw [hst] at c6
          have HST0 := Lib.hid hst
          have h5 := HH.out.pure hb5
          have hwi : (S.words.map ints)[i]? = some (ints (S.words.getD i [])) := by
            rw [List.getElem?_map, List.getD_eq_getElem?_getD, List.getElem?_eq_getElem (by rw [HI.out.len]; exact hi)]; rfl
          obtain ⟨rv, hrv, hro, _⟩ := h5.wd.el i _ hwi
          obtain ⟨RA, rc, rfl, _, _⟩ := own_slice hro
          obtain ⟨ad, hAd, hcw⟩ := (Sl.of_own h5.wlst).2 i _ hrv
          subst hAd
          have hwlen : (S.words.map ints).length = S.words.length := by rw [List.length_map]
          have hWL := HI.out.len
          have hbig := HI.out.big
          have hil : (ints (S.words.getD i [])).length = (S.words.getD i []).length := ints_len _
          rw [hil] at hro hcw
          obtain ⟨W, hW⟩ : ∃ W, S.words.getD i [] = W := ⟨_, rfl⟩
          rw [hW] at hro hcw hwl
          have HW := Lib.hid hW
          have HCL := Lib.hid (clone_c wr RA W.length rc _ (ints_one _) (by omega) (Sl.of_own hro))
          have hi' : i < S.words.length := by omega
          have hwl5 : S.words.length ≤ 4096 := by omega
          have HB5 := Lib.hid hb5
          have hzb := hb5.size
          clear hnil hbit hlt' hst hwlen hWL hbig hil hW hrv hwi hro h5 hb5
          go_wp2_with fail
          refine (HCL.out).mono ?_
          rintro e w6 ⟨C, cc, rfl, hc6, hb6⟩
          clear HCL
          have hm : W.length + 1 ≤ maxLen := by simp only [maxLen]; omega
          have hm8 : (W.length + 1) * 8 ≤ 140737488355328 := by omega
          have hwz : wr.heap.size ≤ w6.heap.size := hb6.size
          go_wp2_with (at_builtin; refine wpList_push rfl _ _ _ rfl tInts hc6 rfl _ 0 rfl rfl rfl hm hm8 hwz ?_; intro g cap w7 hown7 hg7 hat7 hlt7)
          go_ret2
          have hb7 := hb6.grown hg7 hwz (fun j hj => (hc6.lt j hj).1)
          refine StepPost.orphan (by rw [HGD.out, HBH.out]; exact HN.out) HST0.out ⟨_, heap_new _ _, ?_, ?_⟩ ?_
          · rw [HW.out]
            have e2 : (W ++ [s]).length = W.length + 1 := by simp
            have e3 : (ints (W ++ [s])).map (Value.int .i64) = (ints W).map (Value.int .i64) ++ [Value.int .i64 (s : Int)] := by simp [ints]
            rw [e2, e3]
            exact (own_base hown7 HB5.out.size).alloc _
          · exact Nat.le_trans HB5.out.size hb7.size
          · exact (HB5.out.trans (hb7.mono HB5.out.size)).alloc (Nat.le_trans HB5.out.size hb7.size) _
      · have HN := Lib.hid (fun h => hn (hnil.2 h))
        have hbl0 : ((BL.length : Int) == 0) = false := by simp; omega
        have hxs := ints_range hlt'
        have hSl := Sl.of_own hown
        have hok := HI.out.ok
        have hlb5 : BL.length ≤ 140737488355328 := by omega
        have hmw := mem_words hok hbehl
        have HMEM := Lib.hid hmw
        rw [← hbit] at hmw
        by_cases hin : bh ∈ S.sets
        · have hidx : (S.sets.map (wordsOf D.N))[S.sets.idxOf bh]? = some (bitsOf D.N (ints BL)) := by
            rw [hbit, List.getElem?_map, List.getElem?_eq_getElem (List.idxOf_lt_length_of_mem hin)]
            simp
          have HP := Lib.hid (Put_in (HH.out.pure hb5).bag BA BL.length bc (ints BL) hlb5 hSl hxs _ hidx)
          obtain ⟨ix, hix⟩ : ∃ ix, S.sets.idxOf bh = ix := ⟨_, rfl⟩
          rw [hix] at HP
          have HIX := Lib.hid hix
          have HIN := Lib.hid hin
          have HB5 := Lib.hid hb5
          clear hnil hbit hlt' hn hxs hSl hok hmw hin hidx hix hb5
          go_wp2_with fail
          refine (HP.out).mono ?_
          rintro e w6 ⟨rfl, h6⟩
          have HB6 := Lib.hid (HB5.out.trans (h6.mono HB5.out.size))
          clear HP h6
          go_wp2_with fail
          go_ret2
          exact StepPost.old (by rw [HGD.out, HBH.out]; exact HN.out) (by rw [HGD.out, HBH.out]; exact HIN.out) (by rw [HGD.out, HBH.out, HIX.out]) HB6.out
        · by_cases hfull : S.sets.length < 4096
          · have h5 := HH.out.pure hb5
            have hPT := putT_c h5.bag (Nat.le_trans (show D.B ≤ w.heap.size from HH.out.old.size) hb5.size) BA BL.length bc (ints BL) hlb5 hSl hxs (.inr (by rw [List.length_map]; exact hfull))
            have hnm : bitsOf D.N (ints BL) ∉ S.sets.map (wordsOf D.N) := fun h => hin (hmw.1 h)
            rw [addS_new hnm, List.idxOf_append, if_neg hnm, List.length_map, decide_eq_false hnm, show List.idxOf (bitsOf D.N (ints BL)) [bitsOf D.N (ints BL)] = 0 by simp, Nat.zero_add] at hPT
            simp only [Bool.not_false] at hPT
            have HP := Lib.hid hPT
            have HBIT := Lib.hid hbit
            have HIN := Lib.hid hin
            have HFL := Lib.hid hfull
            have HB5 := Lib.hid hb5
            have H5 := Lib.hid h5
            clear hnil hbit hlt' hn hxs hSl hok hmw hin hnm hPT hfull hb5 h5
            go_wp2_with fail
            refine (HP.out).mono ?_
            rintro e w6 ⟨rfl, hbag6, hk6⟩
            clear HP c0 c1 c2 c3 c4 c5 c6 f4 f5
            rw [HBIT.out] at hbag6
            have h6 := H5.out.bagged hk6 (sets := S.sets ++ [bh]) (by rw [List.map_append]; exact hbag6)
            have hwi : (S.words.map ints)[i]? = some (ints (S.words.getD i [])) := by
              rw [List.getElem?_map, List.getD_eq_getElem?_getD, List.getElem?_eq_getElem (by rw [HI.out.len]; exact hi)]; rfl
            obtain ⟨rv, hrv, hro, _⟩ := h6.wd.el i _ hwi
            obtain ⟨RA, rc, rfl, _, _⟩ := own_slice hro
            obtain ⟨ad, hAd, hcw⟩ := (Sl.of_own h6.wlst).2 i _ hrv
            subst hAd
            have hwlen : (S.words.map ints).length = S.words.length := by rw [List.length_map]
            have hWL := HI.out.len
            have hbig := HI.out.big
            have hil : (ints (S.words.getD i [])).length = (S.words.getD i []).length := ints_len _
            have hi' : i < S.words.length := by omega
            have hwl5 : S.words.length ≤ 4096 := by omega
            rw [hil] at hro hcw
            obtain ⟨W, hW⟩ : ∃ W, S.words.getD i [] = W := ⟨_, rfl⟩
            rw [hW] at hro hcw hwl
            have HW := Lib.hid hW
            obtain ⟨c0, c1, c2, c3, c4, c5, c6, f4, f5⟩ := h6.facts
            have H6 := Lib.hid h6
            have HK6 := Lib.hid hk6
            have HRO := Lib.hid hro
            have HCW := Lib.hid hcw
            have hlad := World.block_lt_of_cell? _ _ hcw
            have hlwb := h6.lt
            clear hwlen hWL hbig hil hW hrv hwi hro h6 hk6 hbag6
            have hw8 : W.length * 8 ≤ 140737488355328 := by omega
            have HS1 := Lib.hid (Sl.of_own (own_below HRO.out ((Below.refl w6.heap.size w6).drew)))
            have HCA : Hid (Calls Tryz.prog 64 #[.slice RA W.length rc] w6.drew fun e w' => ∃ C cc, e = .returned (.slice C W.length cc) ∧ w'.ownsRow w6.heap.size 3 1 (.slice C W.length cc) W.length ((ints W).map (Value.int .i64)) ∧ Below w6.heap.size w6 w') := Lib.hid (
              (clone_c _ RA W.length rc _ (ints_one _) hw8 HS1.out).mono fun e w7 h => by
                obtain ⟨C, cc, h1, h2, h3⟩ := h
                exact ⟨C, cc, h1, h2, ((Below.refl w6.heap.size w6).drew).trans h3⟩)
            have hlt0 : (w6.alloc (.cells #[.int .i64 (s : Int)] 3)).cell? ⟨w6.heap.size, 0, none⟩ = some (.int .i64 (s : Int)) := by simp
            have hba0 : Below w6.heap.size w6 (w6.alloc (.cells #[.int .i64 (s : Int)] 3)) := (Below.refl _ _).alloc (Nat.le_refl _) _
            have HCB : Hid (Calls Tryz.prog 64 #[.slice RA W.length rc] (w6.alloc (.cells #[.int .i64 (s : Int)] 3)).drew fun e w' => ∃ C cc, e = .returned (.slice C W.length cc) ∧ w'.ownsRow w6.heap.size 3 1 (.slice C W.length cc) W.length ((ints W).map (Value.int .i64)) ∧ Below w6.heap.size w6 w' ∧ w'.cell? ⟨w6.heap.size, 0, none⟩ = some (.int .i64 (s : Int))) := Lib.hid (
              (clone_c _ RA W.length rc _ (ints_one _) hw8 ((Sl.of_own (own_below HRO.out hba0)).below ((Below.refl _ _).drew))).mono fun e w7 h => by
                obtain ⟨C, cc, h1, h2, h3⟩ := h
                exact ⟨C, cc, h1, own_base h2 hba0.size, (hba0.trans (((Below.refl _ _).drew).mono hba0.size)).trans (h3.mono hba0.size), cell_later h3 hlt0⟩)
            clear hlt0 hba0
            have HC5 := Lib.hid (fun (w7 : World) (h : Below w6.heap.size w6 w7) => (⟨(H6.out.pure h).facts.2.2.2.2.2.1, (H6.out.pure h).lt⟩ : _ ∧ _))
            have HPA := Lib.hid (fun (w7 w8 : World) (C : Option Addr) (cc g cap : Nat) (h : Below w6.heap.size w6 w7) (hc : w7.ownsRow w6.heap.size 3 1 (.slice C W.length cc) W.length ((ints W).map (Value.int .i64))) (o : Obj)
                (hor : (Value.slice C W.length cc = .slice (some ⟨g, 0, none⟩) W.length cap ∧ (w7.alloc o).grownBy w8 (some g)) ∨ ((w7.alloc o).heap.size ≤ g ∧ (w7.alloc o).grownBy w8 none)) => (by
              obtain ⟨k1, k2⟩ := push3_keeps hor
              exact h.trans (k1.below h.size (fun b hb => (hc.lt b hb).1)) : Below w6.heap.size w6 w8))
            have HPB := Lib.hid (fun (w7 w8 : World) (C : Option Addr) (cc g cap : Nat) (h : Below w6.heap.size w6 w7) (hc : w7.ownsRow w6.heap.size 3 1 (.slice C W.length cc) W.length ((ints W).map (Value.int .i64)))
                (hor : (Value.slice C W.length cc = .slice (some ⟨g, 0, none⟩) W.length cap ∧ w7.grownBy w8 (some g)) ∨ (w7.heap.size ≤ g ∧ w7.grownBy w8 none)) => (by
              rcases hor with ⟨e, h'⟩ | ⟨h1, h'⟩
              · exact h.grown h' h.size (fun j hj => by cases hj; exact (hc.lt g (by rw [e]; rfl)).1)
              · exact h.grown h' h.size (fun j hj => by cases hj) : Below w6.heap.size w6 w8))
            have HC9 := Lib.hid (fun (w8 w9 : World) (h : Below w6.heap.size w6 w8) (hk : Keeps (fun b => (Value.slice (some ad) S.words.length wc).ownBlock = some b) w8 w9) => (H6.out.pure h).worded_pre hk)
            have hm1 : W.length + 1 ≤ maxLen := by simp only [maxLen]; omega
            have hm2 : (W.length + 1) * 8 ≤ 140737488355328 := by omega
            have hm3 : S.words.length + 1 ≤ maxLen := by simp only [maxLen]; omega
            have hm4 : (S.words.length + 1) * 24 ≤ 140737488355328 := by omega
            have hBs : D.B ≤ w6.heap.size := H6.out.old.size
            have HEND := Lib.hid (fun (w8 w9 : World) (g cap g2 cap2 : Nat) => new_end (E := E) (i := i) (s := s) (w8 := w8) (w9 := w9) (g := g) (cap := cap) (g2 := g2) (cap2 := cap2) HH.out HX.out HB5.out HK6.out (by rw [HGD.out, HBH.out]; exact H6.out) HW.out (by rw [HGD.out, HBH.out]; exact HN.out) (by rw [HGD.out, HBH.out]; exact HIN.out) HFL.out)
            clear HH HX HB5 HK6 HGD HBH HW HN HIN HFL H5 HD HE HI HB HM HMN HSM HBIT HS1 HCW HRO HMEM c0 c1 c2 c3 c4 c6 f4 hBs hwl
            go_wp2_with fail
            go_region_law (first
              | (go_simp
                 go_at_call 64
                 first
                   | (with_reducible refine (HCA.out).mono ?_
                      rintro e w7 ⟨C, cc, rfl, hcc, hbb⟩)
                   | (with_reducible refine (HCB.out).mono ?_
                      rintro e w7 ⟨C, cc, rfl, hcc, hbb, hlit⟩)
                   | fail
                 obtain ⟨c5', hlw7⟩ := HC5.out w7 hbb
                 have hz7 := hbb.size
                 dsimp only)
              | (refine step_push3 ?_ (.tmp 112) (.tmp 114) 22 rfl tInts (base := w6.heap.size) (v := .slice C W.length cc) (n := W.length) (xs := (ints W).map (Value.int .i64)) ?_ rfl ⟨w7.heap.size, 0, none⟩ 1 rfl (.int .i64 (s : Int)) ?_ rfl hm1 hm2 ?_ ?_
                 · rfl
                 · exact hcc.alloc _
                 · simp
                 · (rw [World.size_alloc]; omega)
                 intro g cap w8 hown8 hor8 hlt8
                 have hbb8 := HPA.out w7 w8 C cc g cap hbb hcc _ hor8
                 obtain ⟨c58, hlw8⟩ := HC5.out w8 hbb8
                 have hz8 := hbb8.size
                 clear hor8)
              | (refine step_push3 ?_ (.tmp 112) (.tmp 114) 22 rfl tInts (base := w6.heap.size) (v := .slice C W.length cc) (n := W.length) (xs := (ints W).map (Value.int .i64)) ?_ rfl ⟨w6.heap.size, 0, none⟩ 1 rfl (.int .i64 (s : Int)) ?_ rfl hm1 hm2 ?_ ?_
                 · rfl
                 · exact hcc
                 · exact hlit
                 · exact hz7
                 intro g cap w8 hown8 hor8 hlt8
                 have hbb8 := HPB.out w7 w8 C cc g cap hbb hcc hor8
                 obtain ⟨c58, hlw8⟩ := HC5.out w8 hbb8
                 have hz8 := hbb8.size
                 clear hor8)
              | (refine step_push3 ?_ (.tmp 104) (.tmp 116) 31 rfl tIntss (base := D.B) (v := .slice (some ad) S.words.length wc) (n := S.words.length) (xs := ws) ?_ rfl ⟨w8.heap.size, 0, none⟩ 1 rfl (.slice (some ⟨g, 0, none⟩) (W.length + 1) cap) ?_ rfl hm3 hm4 ?_ ?_
                 · rfl
                 · exact ((H6.out.pure hbb8).wlst).alloc _
                 · simp
                 · exact Nat.le_trans H6.out.old.size (Nat.le_trans hbb8.size (Nat.le_trans (Nat.le_succ _) (Nat.le_of_eq (World.size_alloc _ _).symm)))
                 intro g2 cap2 w9 hown9 hor9 hlt9
                 obtain ⟨hk9, hg9⟩ := push3_keeps hor9
                 obtain ⟨c59, f59, hz9⟩ := HC9.out w8 w9 hbb8 hk9
                 clear hor9)
              | fail)
            all_goals
              have HE9 := Lib.hid (HEND.out w8 w9 g cap g2 cap2 hbb8 hown8 hown9 hk9 hg9)
              clear HEND hown8 hown9 hk9 hg9 hbb hcc hbb8
              go_wp2_with fail
              go_ret2
              exact HE9.out
          · have hf' : (S.sets.map (wordsOf D.N)).length = 4096 := by rw [List.length_map]; have := HI.out.big; omega
            have HP := Lib.hid (Put_full (HH.out.pure hb5).bag E (HE.out.below hb5) BA BL.length bc (ints BL) hlb5 hSl hxs (fun h => hin (hmw.1 h)) hf')
            have HIN := Lib.hid hin
            have HF := Lib.hid (show 4096 ≤ S.sets.length by omega)
            have HB5 := Lib.hid hb5
            clear hnil hbit hlt' hn hxs hSl hok hmw hin hf' hfull hb5
            go_wp2_with fail
            refine (HP.out).mono ?_
            rintro e w6 ⟨b, rfl, he6, h6⟩
            have HB6 := Lib.hid (HB5.out.trans (h6.mono HB5.out.size))
            have HE6 := Lib.hid he6
            clear HP h6 he6
            go_wp2_with fail
            go_ret2
            exact StepPost.full (by rw [HGD.out, HBH.out]; exact HN.out) (by rw [HGD.out, HBH.out]; exact HIN.out) HF.out HE6.out HB6.out
end Go.Proofs.YtibplgpolmplpaaGreatDoor

namespace Go.Proofs.YtibplgpolmplpaaGreatDoor
theorem fillTo_at' {α : Type} {l : List α} {n k : Nat} {z : α} (hk : k < n) (hl : k ≤ l.length) : (fillTo l n z k)[k]? = some z := by
  unfold fillTo
  have h : (l.take k).length = k := by rw [List.length_take]; omega
  rw [List.getElem?_append_right (by omega), h, Nat.sub_self, List.getElem?_replicate, if_pos (by omega)]
end Go.Proofs.YtibplgpolmplpaaGreatDoor

namespace Go.Proofs.YtibplgpolmplpaaGreatDoor
def sSubset : ByteArray := ⟨#[115, 117, 98, 115, 101, 116]⟩
end Go.Proofs.YtibplgpolmplpaaGreatDoor

namespace Go.Proofs.YtibplgpolmplpaaGreatDoor
open Go.RowKit Go.ChangeShapes

def mkSent (nm : String) (x : String × List UInt8) : String × DataW Unit := (x.1, .iface nm (.ptr (.agg [.lit (.string x.2)])))

theorem sents {P : Program} {nm : String} {W : World} {ti tp te ts : TypeId} {ms : Array (String × TypeId)} {f : Field}
    (hi : P.underlying ti = some (.interface ms)) (hrow : ∀ u, P.typeName? 3 u = some nm → u = tp)
    (hp : P.underlying tp = some (.pointer te)) (he : P.underlying te = some (.struct #[f])) (hft : f.type = ts) (hfo : f.offset = 0) (hs : P.underlying ts = some .string) (hc : P.cellsOf te = 1) (hcs : P.cellsOf ts = 1)
    (all : List MemPlace) (hrows : ∀ b off, MemPlace.cell b off ∈ all → (∃ c t, W.heap[b]? = some (.cells c t (0, 0))) ∧ ∀ u v, W.cell? ⟨b, off, none⟩ = some (.iface u v) → Value.okWide P W .any 0 u v) :
    ∀ (L : List (String × List UInt8)) (ps : List MemPlace), (∀ x ∈ L, ∀ g, P.globalNamed x.1 = some g → (P.globals[g]?).map (·.type) = some ti) → DataW.LaidVars P W (L.map (mkSent nm)) ps → ps.Nodup → (∀ x ∈ ps, x ∈ all) →
      ∃ adr : List Addr, adr.length = L.length ∧ adr.Nodup ∧ (∀ a ∈ adr, MemPlace.cell a.block a.off ∈ ps) ∧ ∀ (i : Nat) x a, L[i]? = some x → adr[i]? = some a → W.var? P x.1 = some #[.iface tp (.pointer (some a))] := by
  intro L
  induction L with
  | nil => intro ps _ _ _ _; exact ⟨[], rfl, List.nodup_nil, fun a h => by simp at h, fun i x a h => by simp at h⟩
  | cons y L ih =>
    intro ps hti h hnd hall
    obtain ⟨g, t, cs, fuel, p, q, hg, ht, hv, hd, hr, rfl⟩ := h
    have ht' := hti y (by simp) g hg
    rw [ht] at ht'
    obtain rfl := Option.some.inj ht'
    obtain ⟨l0⟩ := cs
    have ok0 : ∀ u v, l0 = [.iface u v] → Value.okWide P W .any 0 u v := fun u v e => by
      subst e
      exact (hrows g 0 (hall _ (by simp [MemPlace.row]))).2 u v (by simpa using World.var?_cell hg hv 0)
    obtain ⟨a0, s0, rfl, hc0, hs0, hz0, rfl⟩ := errorString_of_trod hi hrow hp he hft hfo hs hc hcs hd ok0
    obtain ⟨adr, h1, h2, h3, h4⟩ := ih q (fun x hx => hti x (by simp [hx])) hr ((List.nodup_append.1 hnd).2.1) (fun x hx => hall x (by simp [hx]))
    refine ⟨a0 :: adr, by simp [h1], List.nodup_cons.2 ⟨fun hm => ?_, h2⟩, ?_, ?_⟩
    · have := (List.nodup_append.1 hnd).2.2 (.cell a0.block a0.off) (by simp [MemPlace.row]) _ (h3 a0 hm)
      exact this rfl
    · intro a ha
      rcases List.mem_cons.1 ha with rfl | ha
      · simp [MemPlace.row]
      · have := h3 a ha
        simp [this]
    · intro i x a hx ha
      cases i with
      | zero =>
        simp at hx ha
        subst hx ha
        exact hv
      | succ i => exact h4 i x a (by simpa using hx) (by simpa using ha)

/-- The error variables' rows of a list. -/
def keepSent (x : String × DataW Unit) : Bool := match x.2 with
  | .iface _ (.ptr (.agg [.lit (.string _)])) => true
  | _ => false
def sentsOf (l : List (String × DataW Unit)) : List (String × List UInt8) := l.filterMap fun x => match x.2 with
  | .iface _ (.ptr (.agg [.lit (.string t)])) => some (x.1, t)
  | _ => none
def sentGlobals : List (Option Nat) := [some 2, some 3, some 4, some 0, some 5, some 6, some 7, some 8, some 9, some 10, some 11, some 12]
/-- The errors' addresses are twelve different ones. -/
def Apart12 (E : Nat → Addr) : Prop := ∀ i j, ((1 ≤ i ∧ i ≤ 11) ∨ i = 99) → ((1 ≤ j ∧ j ≤ 11) ∨ j = 99) → E i = E j → i = j

theorem star : "*" ++ "errors.errorString" = "*errors.errorString" := by decide
theorem rowErr (u : TypeId) (h : Tryz.prog.typeName? 3 u = some "*errors.errorString") : u = 219 :=
  typeName_ptr_named (nm := "errors.errorString") (by rw [star]; kernel_rfl) (by kernel_rfl) (by decide) u (by rw [star]; exact h)
theorem cellsErr : Tryz.prog.cellsOf 239 = 1 := by kernel_rfl
theorem cellsStr : Tryz.prog.cellsOf 9 = 1 := by kernel_rfl

/-- Each error's own memory. -/
def ErrBlk (W : World) (E : Nat → Addr) : Prop := ∀ n, ((1 ≤ n ∧ n ≤ 11) ∨ n = 99) → ∃ c t, W.heap[(E n).block]? = some (.cells c t (0, 0))
theorem ErrBlk.below {W W' : World} {E : Nat → Addr} (h : ErrBlk W E) (hb : Below W.heap.size W W') : ErrBlk W' E := fun n hn => by
  obtain ⟨c, t, hc⟩ := h n hn
  exact ⟨c, t, (hb.block _ (Array.getElem?_eq_some_iff.1 hc).1).trans hc⟩
/-- From a row's list: the error variables hold errors, twelve different ones. -/
theorem errs_of2 {W : World} (l : List (String × DataW Unit)) (h : laidMetH Tryz.prog l W)
    (hl : ((l.filter fun x => x.2.handleName?.isNone).filter keepSent) = (sentsOf l).map (mkSent "*errors.errorString"))
    (hg : (sentsOf l).map (fun x => Tryz.prog.globalNamed x.1) = sentGlobals)
    (ht : ((sentsOf l).all fun x => decide ((Tryz.prog.globalNamed x.1).bind (fun g => (Tryz.prog.globals[g]?).map (·.type)) = some 27)) = true) :
    ∃ E, Errs W E ∧ Apart12 E ∧ ErrBlk W E := by
  obtain ⟨ps, h1, h2, h3⟩ := (laidMetH_iff.1 h).1.filter keepSent
  rw [hl] at h1
  obtain ⟨adr, a1, a2, a3, a4⟩ := sents Tryz.underlying27 rowErr Tryz.underlying219 Tryz.underlying239 rfl rfl Tryz.underlying9 cellsErr cellsStr ps h3 (sentsOf l) ps (fun x hx g hxg => by
    have := List.all_eq_true.1 ht x hx
    rw [hxg] at this
    simpa using this) h1 h2 (fun x hx => hx)
  have hlen : (sentsOf l).length = 12 := by
    have := congrArg List.length hg
    simpa [sentGlobals] using this
  have cell : ∀ (i g : Nat), sentGlobals[i]? = some (some g) → ∃ a, adr[i]? = some a ∧ W.cell? ⟨g, 0, none⟩ = some (.iface 219 (.pointer (some a))) := by
    intro i g hi
    rw [← hg, List.getElem?_map] at hi
    cases hx : (sentsOf l)[i]? with
    | none => rw [hx] at hi; cases hi
    | some x =>
      rw [hx] at hi
      have hil : i < (sentsOf l).length := (List.getElem?_eq_some_iff.1 hx).1
      have ha : adr[i]? = some (adr[i]'(by omega)) := List.getElem?_eq_getElem (by omega)
      have hv := a4 i x _ hx ha
      refine ⟨_, ha, ?_⟩
      simpa using World.var?_cell (Option.some.inj hi) hv 0
  let ix : Nat → Nat := fun n => if n = 99 then 11 else n - 1
  have get : ∀ (n g : Nat), sentGlobals[ix n]? = some (some g) → W.cell? ⟨g, 0, none⟩ = some (.iface 219 (.pointer (some ((fun n => adr.getD (ix n) ⟨0, 0, none⟩) n)))) := by
    intro n g hi
    obtain ⟨a, ha, hc⟩ := cell _ _ hi
    simp only [List.getD_eq_getElem?_getD, ha, Option.getD_some]
    exact hc
  refine ⟨fun n => adr.getD (ix n) ⟨0, 0, none⟩, ⟨get 1 _ rfl, get 2 _ rfl, get 3 _ rfl, get 4 _ rfl, get 5 _ rfl, get 6 _ rfl, get 7 _ rfl, get 8 _ rfl, get 9 _ rfl, get 10 _ rfl, get 11 _ rfl, get 99 _ rfl⟩, ?_⟩
  have bound : ∀ n, ((1 ≤ n ∧ n ≤ 11) ∨ n = 99) → ix n < adr.length := by
    intro n hn
    rw [a1, hlen]
    show (if n = 99 then 11 else n - 1) < 12
    split <;> omega
  refine ⟨fun i j hi hj he => ?_, fun n hn => ?_⟩
  rotate_left
  · have hx := bound n hn
    simp only [List.getD_eq_getElem?_getD, List.getElem?_eq_getElem hx, Option.getD_some]
    exact (h3 _ _ (a3 _ (List.getElem_mem hx))).1
  have hx := bound i hi
  have hy := bound j hj
  simp only [List.getD_eq_getElem?_getD, List.getElem?_eq_getElem hx, List.getElem?_eq_getElem hy, Option.getD_some] at he
  have hpw := List.pairwise_iff_getElem.1 a2
  have hij : ix i = ix j := by
    rcases Nat.lt_trichotomy (ix i) (ix j) with h | h | h
    · exact absurd he (hpw _ _ hx hy h)
    · exact h
    · exact absurd he.symm (hpw _ _ hy hx h)
  change (if i = 99 then 11 else i - 1) = (if j = 99 then 11 else j - 1) at hij
  split at hij <;> split at hij <;> omega
end Go.Proofs.YtibplgpolmplpaaGreatDoor
