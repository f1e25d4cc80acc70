/- One call by the program's bag and the document's: edenlaw09.plays returns true. Condition: both bags hold the same sets; the call's list reads from memory; the error variables hold what E says. -/
import Derived.Deep.RegionHeld3
import Derived.Test.YtiobnnhjnkcafaaDoorP10
import Derived.Test.YtiobnnhjnkcafaaDoorP11
namespace Go.Proofs.YtiobnnhjnkcafaaDoor
open Go.RowKit Go.WideMaps Go.Maps BagP RuleP

theorem tmod5 (x : Int) : -4 ≤ x.tmod 5 ∧ x.tmod 5 ≤ 4 ∧ (x.tmod 5 + 5) % 5 = x % 5 := by
  rcases Int.lt_or_le x 0 with h | h
  · have : x.tmod 5 = -((-x) % 5) := by
      rw [← Int.tmod_eq_emod_of_nonneg (by omega : 0 ≤ -x), Int.neg_tmod, Int.neg_neg]
    omega
  · rw [Int.tmod_eq_emod_of_nonneg h]; omega
/-- On the way through a call: its fields, the list that was lent, both bags. -/
structure PlayAt (w0 : World) (gO gL : Nat) (K I J : Int) (A : Option Addr) (n c : Nat) (xs : List Int) (p q : Value) (o r : BagD) (w : World) : Prop where
  hb : Below w0.heap.size w0 w
  op : BOpAt w gO (.int .i64 K) (.int .i64 I) (.int .i64 J) (.slice A n c)
  l : w.ownsRow w0.heap.size 3 1 (.slice (some ⟨gL, 0, none⟩) (n + 2) (n + 2)) (n + 2) (xs.map (Value.int .i64) ++ [.int .i64 7001, .int .i64 7002])
  bags : BothB w0.heap.size (fun k => k = gO ∨ k = gL) w p o q r
  hl : xs.length = n
namespace PlayAt
variable {w0 w w' : World} {gO gL : Nat} {K I J : Int} {A : Option Addr} {n c : Nat} {xs : List Int} {p q : Value} {o r o' r' : BagD}
theorem below (h : PlayAt w0 gO gL K I J A n c xs p q o r w) (hb : Below w.heap.size w w') : PlayAt w0 gO gL K I J A n c xs p q o r w' :=
  ⟨h.hb.trans (hb.mono h.hb.size), h.op.below hb h.op.lt, own_below h.l hb, h.bags.below hb, h.hl⟩
theorem step (h : PlayAt w0 gO gL K I J A n c xs p q o r w) (hB : BothB w0.heap.size (fun k => k = gO ∨ k = gL) w' p o' q r') (hk : Keeps (fun k => w0.heap.size ≤ k ∧ ¬ (k = gO ∨ k = gL)) w w') : PlayAt w0 gO gL K I J A n c xs p q o' r' w' :=
  ⟨h.hb.trans (hk.below h.hb.size (fun _ x => x.1)), h.op.keeps hk (fun x => x.2 (.inl rfl)), own_keeps h.l hk (fun g hg x => x.2 (.inr (by simpa [Value.ownBlock] using hg.symm))), hB, h.hl⟩
theorem sl2 (h : PlayAt w0 gO gL K I J A n c xs p q o r w) : Sl w (some ⟨gL, 0, none⟩) (n + 2) (xs.map (Value.int .i64) ++ [.int .i64 7001, .int .i64 7002]) := Sl.of_own h.l
theorem sl (h : PlayAt w0 gO gL K I J A n c xs p q o r w) : Sl w (some ⟨gL, 0, none⟩) n (xs.map (Value.int .i64)) :=
  ⟨by simpa using h.hl, fun k v hv => h.sl2.2 k v (by rw [List.getElem?_append_left (List.getElem?_eq_some_iff.1 hv).1]; exact hv)⟩
theorem lt (h : PlayAt w0 gO gL K I J A n c xs p q o r w) : w0.heap.size ≤ gL ∧ gL < w.heap.size := h.l.lt gL rfl
/-- Only the list that was lent has been written over. -/
theorem wrote (h : PlayAt w0 gO gL K I J A n c xs p q o r w) (hk : Keeps (fun k => k = gL) w w') : Below w0.heap.size w0 w' ∧ BothB w0.heap.size (fun _ => False) w' p o q r :=
  ⟨h.hb.trans (hk.below h.hb.size (fun k e => by rw [e]; exact h.lt.1)), (h.bags.other (hk.mono fun k _ e => .inr e)).fresh (Below.refl _ _) (fun _ x => x.elim)⟩
end PlayAt
def PlayPost (w0 : World) (p q : Value) (e : Ending) (w' : World) : Prop := e = .returned (.bool true) ∧ Below w0.heap.size w0 w' ∧ ∃ o', BothB w0.heap.size (fun _ => False) w' p o' q o'
theorem putO_tale (o : BagD) (xs : List Int) : TaleOk (putO o xs).1.2.2 := by
  intro x hx
  cases o with
  | none => cases hx; exact ⟨by decide, by decide⟩
  | some y =>
    obtain ⟨n, S⟩ := y
    simp only [putO] at hx
    unfold BagR.putF BagR.putL at hx
    repeat' split at hx
    all_goals first | (cases hx; exact ⟨by simp, by simp⟩) | cases hx
theorem unionO_tale (o : BagD) (i j : Int) : TaleOk (unionO o i j).1.2.2 := by
  intro x hx
  cases o with
  | none => cases hx; exact ⟨by decide, by decide⟩
  | some y =>
    obtain ⟨n, S⟩ := y
    simp only [unionO] at hx
    unfold BagR.unionF BagR.putL at hx
    repeat' split at hx
    all_goals first | (cases hx; exact ⟨by simp, by simp⟩) | cases hx
theorem findO_tale (o : BagD) (xs : List Int) : TaleOk (findO o xs).2 := by
  intro x hx
  cases o with
  | none => cases hx; exact ⟨by decide, by decide⟩
  | some y =>
    obtain ⟨n, S⟩ := y
    simp only [findO] at hx
    unfold BagR.findF at hx
    repeat' split at hx
    all_goals first | (cases hx; exact ⟨by simp, by simp⟩) | cases hx
theorem getO_tale (o : BagD) (i : Int) : TaleOk (getO o i).2 := by
  intro x hx
  cases o with
  | none => cases hx; exact ⟨by decide, by decide⟩
  | some y =>
    obtain ⟨n, S⟩ := y
    simp only [getO] at hx
    unfold BagR.getF at hx
    repeat' split at hx
    all_goals first | (cases hx; exact ⟨by simp, by simp⟩) | cases hx
theorem hasO_tale (o : BagD) (i x : Int) : TaleOk (hasO o i x).2 := by
  intro x hx
  cases o with
  | none => cases hx; exact ⟨by decide, by decide⟩
  | some y =>
    obtain ⟨n, S⟩ := y
    simp only [hasO] at hx
    unfold BagR.hasF at hx
    repeat' split at hx
    all_goals first | (cases hx; exact ⟨by simp, by simp⟩) | cases hx
theorem getO_len {base : Nat} {X : Nat → Prop} {w : World} {p q : Value} {o r : BagD} (h : BothB base X w p o q r) (i : Int) : (getO o i).1.length ≤ 8192 := by
  obtain ⟨O1, O2, h1, h2, _⟩ := h.ex
  cases o with
  | none => exact Nat.zero_le _
  | some y =>
    obtain ⟨m, S⟩ := y
    obtain ⟨⟨_, _, _, _, _, _, hb⟩, _⟩ := h1
    simp only [getO]
    unfold BagR.getF
    split
    · exact Nat.le_trans (getL_len _ _) hb.nn
    · exact Nat.zero_le _


set_option maxRecDepth 100000 in
set_option maxHeartbeats 4000000 in
theorem bplays_0 (w0 w : World) (E : Nat → Addr) (hE : Errs w0 E) (hT : ErrT w0) (p q : Value) (o : BagD) (K I J : Int) (A : Option Addr) (n c : Nat) (xs : List Int) (hL : Sl w0 A n (xs.map (Value.int .i64))) (hb : Below w0.heap.size w0 w)
    (hB : BothB w0.heap.size (fun _ => False) w p o q o) (hn : n ≤ 200) (hk : K % 5 = 0) :
    Calls Tryd.prog 8 #[p, q, bopV K I J A n c] w (PlayPost w0 p q) := by
  have hl : xs.length = n := by simpa using hL.1
  obtain ⟨t1, t2, t3⟩ := tmod5 K
  rw [hk] at t3
  have hbB := (Below.refl w.heap.size w).alloc (Nat.le_refl _) (.cells #[.int .i64 K, .int .i64 I, .int .i64 J, .slice A n c] 38)
  have hx := BOpAt.new w (.int .i64 K) (.int .i64 I) (.int .i64 J) (.slice A n c)
  obtain ⟨wB, hwB⟩ : ∃ wB, w.alloc (.cells #[.int .i64 K, .int .i64 I, .int .i64 J, .slice A n c] 38) = wB := ⟨_, rfl⟩
  rw [hwB] at hbB hx
  have HWB := Lib.hid hwB
  have hbB0 : Below w0.heap.size w0 wB := hb.trans (hbB.mono hb.size)
  have HLE := Lib.hid (lent_c wB A n c (xs.map (Value.int .i64)) (hL.below hbB0) (fun v hv => by obtain ⟨x, _, rfl⟩ := List.mem_map.1 hv; rfl) (by omega))
  have HE := Lib.hid (fun (wz : World) (hz : Below w0.heap.size w0 wz) => hE.below hz)
  have HT := Lib.hid (fun (wz : World) (hz : Below w0.heap.size w0 wz) => hT.below hz)
  have HLL := Lib.hid (fun (wz : World) (hz : Below w0.heap.size w0 wz) => hL.below hz)
  have HX := Lib.hid hx
  have HBB := Lib.hid hbB
  have HB0 := Lib.hid hbB0
  have HBAGS := Lib.hid hB
  have HLEN := Lib.hid hl
  clear hk hwB hbB hx hbB0 hB hE hT hL hl hb
  unfold bopV
  go_enter Tryd.func8, Tryd.ntmps8
  go_wp2_with fail
  rw [HWB.out]
  refine (HLE.out).mono ?_
  rintro e wL ⟨rfl, oL, hbL⟩
  have hP : PlayAt w0 w.heap.size wB.heap.size K I J A n c xs p q o o wL := ⟨HB0.out.trans (hbL.mono HB0.out.size), HX.out.below hbL HX.out.lt, own_base oL HB0.out.size,
    HBAGS.out.fresh (HBB.out.trans (hbL.mono HBB.out.size)) (fun k hk => by
      rcases hk with rfl | rfl
      · exact ⟨Nat.lt_of_lt_of_le HX.out.lt hbL.size, .inr (Nat.le_refl _)⟩
      · exact ⟨(oL.lt _ rfl).2, .inr HBB.out.size⟩), HLEN.out⟩
  have HLT := Lib.hid hP.lt
  obtain ⟨gL, hgL⟩ : ∃ gL, wB.heap.size = gL := ⟨_, rfl⟩
  rw [hgL] at hP HLT ⊢
  clear oL hbL HLE hgL HBAGS HB0 HBB HX
  obtain ⟨f0, f1, f2, f3⟩ := hP.op.facts
  have HC := Lib.hid (both_put hP.bags E (HE.out wL hP.hb) (some ⟨gL, 0, none⟩) n (n + 2) xs (by omega) hP.sl)
  obtain ⟨o2, ho2⟩ : ∃ o2, (putO o xs).2 = o2 := ⟨_, rfl⟩
  obtain ⟨a1, ha1⟩ : ∃ a1, (putO o xs).1.1 = a1 := ⟨_, rfl⟩
  obtain ⟨b1, hb1⟩ : ∃ b1, (putO o xs).1.2.1 = b1 := ⟨_, rfl⟩
  obtain ⟨tl, htl⟩ : ∃ tl, (putO o xs).1.2.2 = tl := ⟨_, rfl⟩
  have HTL : Hid (TaleOk tl) := Lib.hid (by rw [← htl]; exact putO_tale _ _)
  rw [ho2, ha1, hb1, htl] at HC
  have HEQ := Lib.hid (And.intro ho2 (And.intro ha1 (And.intro hb1 htl)))
  clear ho2 ha1 hb1 htl
  go_wp2_with fail
  refine (HC.out).mono ?_
  rintro e w1 ⟨ev, rfl, he1, hB1, hk1⟩
  have hP1 := hP.step hB1 hk1
  have hr := rboth_put hP1.bags A n c xs (by omega) (HLL.out w1 hP1.hb)
  rw [HEQ.out.1, HEQ.out.2.1, HEQ.out.2.2.1, HEQ.out.2.2.2] at hr
  have HR := Lib.hid hr
  obtain ⟨g0, g1, g2, g3⟩ := hP1.op.facts
  clear HC hP hr hB1 hk1 f0 f1 f2 f3
  go_wp2_with fail
  refine (HR.out).mono ?_
  rintro e w2 ⟨N2, B1, n1, d1, B2, n2, d2, rfl, hu2, ⟨hB2, hk2⟩, hp2⟩
  have he2 : ErrV w2 E tl ev := by
    cases tl with
    | none => exact he1
    | some x => exact he1.below (hp2 (by simp))
  have hP2 := hP1.step hB2 hk2
  clear HR hP1 he1 hB2 hk2 hp2 g0 g1 g2 g3 HEQ
  have hw3 := WantAt.new w2 (.int .i64 (N2 : Int)) (.slice B1 n1 d1) (.slice B2 n2 d2)
  have b3 := (Below.refl w2.heap.size w2).alloc (Nat.le_refl _) (.cells #[.int .i64 (N2 : Int), .slice B1 n1 d1, .slice B2 n2 d2] 33)
  obtain ⟨w3, hw3'⟩ : ∃ w3, w2.alloc (.cells #[.int .i64 (N2 : Int), .slice B1 n1 d1, .slice B2 n2 d2] 33) = w3 := ⟨_, rfl⟩
  have HW3 := Lib.hid hw3'
  rw [hw3'] at hw3 b3
  have hP3 := hP2.below b3
  have he3 := he2.below b3
  have hu3 := hu2.below b3
  have HI := Lib.hid (rawIs_c w3 E (HE.out w3 hP3.hb) (HT.out w3 hP3.hb) tl HTL.out ev _ he3 hu3.want)
  obtain ⟨d0, d1', d2', _⟩ := hw3.facts
  clear hw3' b3 hP2 he2 hu2 he3 hu3 hw3
  go_wp2_with fail
  rw [HW3.out]
  refine (HI.out).mono ?_
  rintro e w4 ⟨rfl, h4⟩
  have hP4 := hP3.below h4
  clear HI h4 hP3 d0 d1' d2' 
  obtain ⟨f0, f1, f2, f3⟩ := hP4.op.facts
  have HK := Lib.hid (kept_c w4 (some ⟨gL, 0, none⟩) A n (n + 2) c xs (HLL.out w4 hP4.hb) hP4.sl2 (Nat.le_refl _) (by unfold maxLen; omega))
  go_wp2_with fail
  refine (HK.out).mono ?_
  rintro e w5 ⟨rfl, h5⟩
  have hP5 := hP4.below h5
  have hl5 := hP5.l
  have HP5 := Lib.hid hP5
  clear HK h5 hP4 f0 f1 f2 f3 hP5
  go_wp2_with fail
  go_loopw [34] (fun iv wl => ∃ (i : Nat) (ys : List Value), iv = .int .i64 (i : Int) ∧ i ≤ n ∧ Hid (wl.ownsRow w0.heap.size 3 1 (.slice (some ⟨gL, 0, none⟩) (n + 2) (n + 2)) (n + 2) ys) ∧ Hid (Keeps (fun k => k = gL) w5 wl)) (fun iv _ => n - (intOf iv).toNat)
  case atStart => exact ⟨0, _, rfl, Nat.zero_le _, Lib.hid hl5, Lib.hid (Keeps.refl _ _)⟩
  case round =>
    obtain ⟨i, ys, rfl, hi, hO, hKK⟩ := hrel
    clear hl5
    by_cases hin : i < n
    · have hin' : (i : Int) < (n : Int) := by omega
      have hi0 : (0 : Int) ≤ (i : Int) := by omega
      have hyl : ys.length = n + 2 := by have h := hO.out.1; omega
      obtain ⟨u, hu⟩ : ∃ u, ys[i]? = some u := ⟨_, List.getElem?_eq_getElem (by omega)⟩
      have q0 : wr.cell? ⟨gL, i, none⟩ = some u := by rw [hO.out.cellAt i (by omega), hu]
      have q1 := hO.out.frozenAt i
      have HN := Lib.hid (hO.out.stored i (.int .i64 0)).1
      have HK2 := Lib.hid (hKK.out.trans (Keeps.of_setCell wr ⟨gL, i, none⟩ (.int .i64 0)) (fun k _ e => e))
      clear hu hyl hO hKK
      go_wp2_with fail
      exact ⟨⟨i + 1, _, by go_num, by omega, HN, HK2⟩, by simp [intOf]; omega⟩
    · obtain rfl : i = n := by omega
      have hin' : ¬ (i : Int) < (i : Int) := by omega
      obtain ⟨z1, z2⟩ := HP5.out.wrote hKK.out
      have HL1 := Lib.hid (both_len z2)
      have HL2 := Lib.hid (rboth_len z2)
      have HZ1 := Lib.hid z1
      have HZ2 := Lib.hid z2
      clear z1 z2 hO hKK
      go_wp2_with fail
      refine (HL1.out).mono ?_
      rintro e w7 ⟨rfl, rfl⟩
      go_wp2_with fail
      refine (HL2.out).mono ?_
      rintro e w7 ⟨rfl, rfl⟩
      go_wp2_with fail
      go_ret
      exact ⟨by simp, HZ1.out, _, HZ2.out⟩

set_option maxRecDepth 100000 in
set_option maxHeartbeats 4000000 in
theorem bplays_1 (w0 w : World) (E : Nat → Addr) (hE : Errs w0 E) (hT : ErrT w0) (p q : Value) (o : BagD) (K I J : Int) (A : Option Addr) (n c : Nat) (xs : List Int) (hL : Sl w0 A n (xs.map (Value.int .i64))) (hb : Below w0.heap.size w0 w)
    (hB : BothB w0.heap.size (fun _ => False) w p o q o) (hn : n ≤ 200) (hk : K % 5 = 1) :
    Calls Tryd.prog 8 #[p, q, bopV K I J A n c] w (PlayPost w0 p q) := by
  have hl : xs.length = n := by simpa using hL.1
  obtain ⟨t1, t2, t3⟩ := tmod5 K
  rw [hk] at t3
  have hbB := (Below.refl w.heap.size w).alloc (Nat.le_refl _) (.cells #[.int .i64 K, .int .i64 I, .int .i64 J, .slice A n c] 38)
  have hx := BOpAt.new w (.int .i64 K) (.int .i64 I) (.int .i64 J) (.slice A n c)
  obtain ⟨wB, hwB⟩ : ∃ wB, w.alloc (.cells #[.int .i64 K, .int .i64 I, .int .i64 J, .slice A n c] 38) = wB := ⟨_, rfl⟩
  rw [hwB] at hbB hx
  have HWB := Lib.hid hwB
  have hbB0 : Below w0.heap.size w0 wB := hb.trans (hbB.mono hb.size)
  have HLE := Lib.hid (lent_c wB A n c (xs.map (Value.int .i64)) (hL.below hbB0) (fun v hv => by obtain ⟨x, _, rfl⟩ := List.mem_map.1 hv; rfl) (by omega))
  have HE := Lib.hid (fun (wz : World) (hz : Below w0.heap.size w0 wz) => hE.below hz)
  have HT := Lib.hid (fun (wz : World) (hz : Below w0.heap.size w0 wz) => hT.below hz)
  have HLL := Lib.hid (fun (wz : World) (hz : Below w0.heap.size w0 wz) => hL.below hz)
  have HX := Lib.hid hx
  have HBB := Lib.hid hbB
  have HB0 := Lib.hid hbB0
  have HBAGS := Lib.hid hB
  have HLEN := Lib.hid hl
  clear hk hwB hbB hx hbB0 hB hE hT hL hl hb
  unfold bopV
  go_enter Tryd.func8, Tryd.ntmps8
  go_wp2_with fail
  rw [HWB.out]
  refine (HLE.out).mono ?_
  rintro e wL ⟨rfl, oL, hbL⟩
  have hP : PlayAt w0 w.heap.size wB.heap.size K I J A n c xs p q o o wL := ⟨HB0.out.trans (hbL.mono HB0.out.size), HX.out.below hbL HX.out.lt, own_base oL HB0.out.size,
    HBAGS.out.fresh (HBB.out.trans (hbL.mono HBB.out.size)) (fun k hk => by
      rcases hk with rfl | rfl
      · exact ⟨Nat.lt_of_lt_of_le HX.out.lt hbL.size, .inr (Nat.le_refl _)⟩
      · exact ⟨(oL.lt _ rfl).2, .inr HBB.out.size⟩), HLEN.out⟩
  have HLT := Lib.hid hP.lt
  obtain ⟨gL, hgL⟩ : ∃ gL, wB.heap.size = gL := ⟨_, rfl⟩
  rw [hgL] at hP HLT ⊢
  clear oL hbL HLE hgL HBAGS HB0 HBB HX
  obtain ⟨f0, f1, f2, f3⟩ := hP.op.facts
  have hc := both_find hP.bags E (HE.out wL hP.hb) (some ⟨gL, 0, none⟩) n (n + 2) xs (by omega) hP.sl
  obtain ⟨a1, ha1⟩ : ∃ a1, (findO o xs).1 = a1 := ⟨_, rfl⟩
  obtain ⟨tl, htl⟩ : ∃ tl, (findO o xs).2 = tl := ⟨_, rfl⟩
  have HTL : Hid (TaleOk tl) := Lib.hid (by rw [← htl]; exact findO_tale _ _)
  rw [ha1, htl] at hc
  have HC := Lib.hid hc
  have HEQ := Lib.hid (And.intro ha1 htl)
  clear ha1 htl hc
  go_wp2_with fail
  refine (HC.out).mono ?_
  rintro e w1 ⟨ev, rfl, he1, hb1⟩
  have hP1 := hP.below hb1
  have hr := rboth_find hP1.bags A n c xs (by omega) (HLL.out w1 hP1.hb)
  rw [HEQ.out.1, HEQ.out.2] at hr
  have HR := Lib.hid hr
  obtain ⟨g0, g1, g2, g3⟩ := hP1.op.facts
  clear HC hP hr hb1 f0 f1 f2 f3
  go_wp2_with fail
  refine (HR.out).mono ?_
  rintro e w2 ⟨v2, N2, B1, n1, d1, B2, n2, d2, rfl, hu2, rfl, hb2⟩
  have he2 := he1.below hb2
  have hP2 := hP1.below hb2
  clear HR hP1 he1 hb2 g0 g1 g2 g3 HEQ
  have hw3 := WantAt.new w2 (.int .i64 (N2 : Int)) (.slice B1 n1 d1) (.slice B2 n2 d2)
  have b3 := (Below.refl w2.heap.size w2).alloc (Nat.le_refl _) (.cells #[.int .i64 (N2 : Int), .slice B1 n1 d1, .slice B2 n2 d2] 33)
  obtain ⟨w3, hw3'⟩ : ∃ w3, w2.alloc (.cells #[.int .i64 (N2 : Int), .slice B1 n1 d1, .slice B2 n2 d2] 33) = w3 := ⟨_, rfl⟩
  have HW3 := Lib.hid hw3'
  rw [hw3'] at hw3 b3
  have hP3 := hP2.below b3
  have he3 := he2.below b3
  have hu3 := hu2.below b3
  have HI := Lib.hid (rawIs_c w3 E (HE.out w3 hP3.hb) (HT.out w3 hP3.hb) tl HTL.out ev _ he3 hu3.want)
  obtain ⟨d0, d1', d2', _⟩ := hw3.facts
  clear hw3' b3 hP2 he2 hu2 he3 hu3 hw3
  go_wp2_with fail
  rw [HW3.out]
  refine (HI.out).mono ?_
  rintro e w4 ⟨rfl, h4⟩
  have hP4 := hP3.below h4
  clear HI h4 hP3 d0 d1' d2' 
  obtain ⟨f0, f1, f2, f3⟩ := hP4.op.facts
  have HK := Lib.hid (kept_c w4 (some ⟨gL, 0, none⟩) A n (n + 2) c xs (HLL.out w4 hP4.hb) hP4.sl2 (Nat.le_refl _) (by unfold maxLen; omega))
  go_wp2_with fail
  refine (HK.out).mono ?_
  rintro e w5 ⟨rfl, h5⟩
  have hP5 := hP4.below h5
  have hl5 := hP5.l
  have HP5 := Lib.hid hP5
  clear HK h5 hP4 f0 f1 f2 f3 hP5
  go_wp2_with fail
  go_loopw [34] (fun iv wl => ∃ (i : Nat) (ys : List Value), iv = .int .i64 (i : Int) ∧ i ≤ n ∧ Hid (wl.ownsRow w0.heap.size 3 1 (.slice (some ⟨gL, 0, none⟩) (n + 2) (n + 2)) (n + 2) ys) ∧ Hid (Keeps (fun k => k = gL) w5 wl)) (fun iv _ => n - (intOf iv).toNat)
  case atStart => exact ⟨0, _, rfl, Nat.zero_le _, Lib.hid hl5, Lib.hid (Keeps.refl _ _)⟩
  case round =>
    obtain ⟨i, ys, rfl, hi, hO, hKK⟩ := hrel
    clear hl5
    by_cases hin : i < n
    · have hin' : (i : Int) < (n : Int) := by omega
      have hi0 : (0 : Int) ≤ (i : Int) := by omega
      have hyl : ys.length = n + 2 := by have h := hO.out.1; omega
      obtain ⟨u, hu⟩ : ∃ u, ys[i]? = some u := ⟨_, List.getElem?_eq_getElem (by omega)⟩
      have q0 : wr.cell? ⟨gL, i, none⟩ = some u := by rw [hO.out.cellAt i (by omega), hu]
      have q1 := hO.out.frozenAt i
      have HN := Lib.hid (hO.out.stored i (.int .i64 0)).1
      have HK2 := Lib.hid (hKK.out.trans (Keeps.of_setCell wr ⟨gL, i, none⟩ (.int .i64 0)) (fun k _ e => e))
      clear hu hyl hO hKK
      go_wp2_with fail
      exact ⟨⟨i + 1, _, by go_num, by omega, HN, HK2⟩, by simp [intOf]; omega⟩
    · obtain rfl : i = n := by omega
      have hin' : ¬ (i : Int) < (i : Int) := by omega
      obtain ⟨z1, z2⟩ := HP5.out.wrote hKK.out
      have HL1 := Lib.hid (both_len z2)
      have HL2 := Lib.hid (rboth_len z2)
      have HZ1 := Lib.hid z1
      have HZ2 := Lib.hid z2
      clear z1 z2 hO hKK
      go_wp2_with fail
      refine (HL1.out).mono ?_
      rintro e w7 ⟨rfl, rfl⟩
      go_wp2_with fail
      refine (HL2.out).mono ?_
      rintro e w7 ⟨rfl, rfl⟩
      go_wp2_with fail
      go_ret
      exact ⟨by simp, HZ1.out, _, HZ2.out⟩

set_option maxRecDepth 100000 in
set_option maxHeartbeats 4000000 in
theorem bplays_2 (w0 w : World) (E : Nat → Addr) (hE : Errs w0 E) (hT : ErrT w0) (p q : Value) (o : BagD) (K I J : Int) (A : Option Addr) (n c : Nat) (xs : List Int) (hL : Sl w0 A n (xs.map (Value.int .i64))) (hb : Below w0.heap.size w0 w)
    (hB : BothB w0.heap.size (fun _ => False) w p o q o) (hn : n ≤ 200) (hk : K % 5 = 2) :
    Calls Tryd.prog 8 #[p, q, bopV K I J A n c] w (PlayPost w0 p q) := by
  have hl : xs.length = n := by simpa using hL.1
  obtain ⟨t1, t2, t3⟩ := tmod5 K
  rw [hk] at t3
  have hbB := (Below.refl w.heap.size w).alloc (Nat.le_refl _) (.cells #[.int .i64 K, .int .i64 I, .int .i64 J, .slice A n c] 38)
  have hx := BOpAt.new w (.int .i64 K) (.int .i64 I) (.int .i64 J) (.slice A n c)
  obtain ⟨wB, hwB⟩ : ∃ wB, w.alloc (.cells #[.int .i64 K, .int .i64 I, .int .i64 J, .slice A n c] 38) = wB := ⟨_, rfl⟩
  rw [hwB] at hbB hx
  have HWB := Lib.hid hwB
  have hbB0 : Below w0.heap.size w0 wB := hb.trans (hbB.mono hb.size)
  have HLE := Lib.hid (lent_c wB A n c (xs.map (Value.int .i64)) (hL.below hbB0) (fun v hv => by obtain ⟨x, _, rfl⟩ := List.mem_map.1 hv; rfl) (by omega))
  have HE := Lib.hid (fun (wz : World) (hz : Below w0.heap.size w0 wz) => hE.below hz)
  have HT := Lib.hid (fun (wz : World) (hz : Below w0.heap.size w0 wz) => hT.below hz)
  have HLL := Lib.hid (fun (wz : World) (hz : Below w0.heap.size w0 wz) => hL.below hz)
  have HX := Lib.hid hx
  have HBB := Lib.hid hbB
  have HB0 := Lib.hid hbB0
  have HBAGS := Lib.hid hB
  have HLEN := Lib.hid hl
  clear hk hwB hbB hx hbB0 hB hE hT hL hl hb
  unfold bopV
  go_enter Tryd.func8, Tryd.ntmps8
  go_wp2_with fail
  rw [HWB.out]
  refine (HLE.out).mono ?_
  rintro e wL ⟨rfl, oL, hbL⟩
  have hP : PlayAt w0 w.heap.size wB.heap.size K I J A n c xs p q o o wL := ⟨HB0.out.trans (hbL.mono HB0.out.size), HX.out.below hbL HX.out.lt, own_base oL HB0.out.size,
    HBAGS.out.fresh (HBB.out.trans (hbL.mono HBB.out.size)) (fun k hk => by
      rcases hk with rfl | rfl
      · exact ⟨Nat.lt_of_lt_of_le HX.out.lt hbL.size, .inr (Nat.le_refl _)⟩
      · exact ⟨(oL.lt _ rfl).2, .inr HBB.out.size⟩), HLEN.out⟩
  have HLT := Lib.hid hP.lt
  obtain ⟨gL, hgL⟩ : ∃ gL, wB.heap.size = gL := ⟨_, rfl⟩
  rw [hgL] at hP HLT ⊢
  clear oL hbL HLE hgL HBAGS HB0 HBB HX
  obtain ⟨f0, f1, f2, f3⟩ := hP.op.facts
  have hc := both_get hP.bags E (HE.out wL hP.hb) I
  have hyl := getO_len hP.bags I
  obtain ⟨ys, hys⟩ : ∃ ys, (getO o I).1 = ys := ⟨_, rfl⟩
  obtain ⟨tl, htl⟩ : ∃ tl, (getO o I).2 = tl := ⟨_, rfl⟩
  have HTL : Hid (TaleOk tl) := Lib.hid (by rw [← htl]; exact getO_tale _ _)
  obtain ⟨ny, hny⟩ : ∃ ny, ys.length = ny := ⟨_, rfl⟩
  rw [hys, htl, hny] at hc
  rw [hys, hny] at hyl
  have HC := Lib.hid hc
  have HEQ := Lib.hid (And.intro hys (And.intro htl hny))
  clear hys htl hc hny
  go_wp2_with fail
  refine (HC.out).mono ?_
  rintro e w1 ⟨x1, ev, rfl, he1, ho1, hb1⟩
  obtain ⟨C1, c1, rfl, _, _⟩ := own_slice ho1
  have hP1 := hP.below hb1
  have hr := rboth_get hP1.bags I
  rw [HEQ.out.1, HEQ.out.2.1, HEQ.out.2.2] at hr
  have HR := Lib.hid hr
  have HPL := Lib.hid hP
  obtain ⟨g0, g1, g2, g3⟩ := hP1.op.facts
  clear HC hP hr f0 f1 f2 f3
  go_wp2_with fail
  refine (HR.out).mono ?_
  rintro e w2 ⟨v2, N2, B1, n1, d1, B2, n2, d2, rfl, hu2, ho2, hb2⟩
  obtain ⟨C2, c2, rfl, _, _⟩ := own_slice ho2
  have he2 := he1.below hb2
  have hP2 := hP1.below hb2
  have ho12 := own_below ho1 hb2
  have hb12 : Below wL.heap.size wL w2 := hb1.trans (hb2.mono hb1.size)
  clear HR hP1 he1 hb2 hb1 g0 g1 g2 g3 HEQ ho1
  have hw3 := WantAt.new w2 (.int .i64 (N2 : Int)) (.slice B1 n1 d1) (.slice B2 n2 d2)
  have b3 := (Below.refl w2.heap.size w2).alloc (Nat.le_refl _) (.cells #[.int .i64 (N2 : Int), .slice B1 n1 d1, .slice B2 n2 d2] 33)
  obtain ⟨w3, hw3'⟩ : ∃ w3, w2.alloc (.cells #[.int .i64 (N2 : Int), .slice B1 n1 d1, .slice B2 n2 d2] 33) = w3 := ⟨_, rfl⟩
  have HW3 := Lib.hid hw3'
  rw [hw3'] at hw3 b3
  have hP3 := hP2.below b3
  have he3 := he2.below b3
  have hu3 := hu2.below b3
  have ho13 := own_below ho12 b3
  have ho23 := own_below ho2 b3
  have hb13 : Below wL.heap.size wL w3 := hb12.trans (b3.mono hb12.size)
  have hin := ints_b w3 C1 C2 ny ny c1 c2 ys ys (Sl.of_own ho13) (Sl.of_own ho23) (by omega) (by omega)
  rw [decide_eq_true rfl] at hin
  have HIN := Lib.hid hin
  obtain ⟨d0, d1', d2', _⟩ := hw3.facts
  clear hw3' hP2 he2 hu2 ho12 ho2 hb12 hin b3
  go_wp2_with fail
  rw [HW3.out]
  refine (HIN.out).mono ?_
  rintro e w35 ⟨rfl, h35⟩
  have hP35 := hP3.below h35
  have HI := Lib.hid (rawIs_c w35 E (HE.out w35 hP35.hb) (HT.out w35 hP35.hb) tl HTL.out ev _ (he3.below h35) (hu3.below h35).want)
  obtain ⟨d0, d1', d2', _⟩ := (hw3.below h35 hw3.lt).facts
  have ho135 := own_below ho13 h35
  have hb135 : Below wL.heap.size wL w35 := hb13.trans (h35.mono hb13.size)
  clear HIN he3 hu3 hw3 hP3 ho13 ho23 hb13 hP35 h35
  go_wp2_with fail
  refine (HI.out).mono ?_
  rintro e w38 ⟨rfl, h38⟩
  have ho138 := Lib.hid (own_below ho135 h38)
  have hb138 : Hid (Below wL.heap.size wL w38) := Lib.hid (hb135.trans (h38.mono hb135.size))
  clear HI h38 hb135 ho135 d0 d1' d2'
  go_wp2_with fail
  go_loopw [23] (fun iv wl => ∃ (i : Nat) (zs : List Value), iv = .int .i64 (i : Int) ∧ i ≤ ny ∧ Hid (wl.ownsRow wL.heap.size 3 1 (.slice C1 ny c1) ny zs) ∧ Hid (Below wL.heap.size wL wl)) (fun iv _ => ny - (intOf iv).toNat)
  case atStart => exact ⟨0, _, rfl, Nat.zero_le _, ho138, hb138⟩
  case round =>
  obtain ⟨i, zs, rfl, hi, hO, hKK⟩ := hrel
  clear ho138 hb138
  by_cases hin : i < ny
  · have hin' : (i : Int) < (ny : Int) := by omega
    have hi0 : (0 : Int) ≤ (i : Int) := by omega
    have hzl : zs.length = ny := by have h := hO.out.1; omega
    obtain ⟨gx, capx, curx, hgx⟩ : ∃ gx capx curx, Value.slice C1 ny c1 = .slice (some ⟨gx, 0, none⟩) ny capx ∧ curx = wL := by
      rcases hO.out.2 with ⟨_, h⟩ | ⟨g, cap, cur, h, _⟩
      · omega
      · exact ⟨g, cap, wL, h, rfl⟩
    obtain ⟨hgx, rfl⟩ := hgx
    injection hgx with hC1 _ hcap
    subst hC1 hcap
    obtain ⟨u, hu⟩ : ∃ u, zs[i]? = some u := ⟨_, List.getElem?_eq_getElem (by omega)⟩
    have q0 : wr.cell? ⟨gx, i, none⟩ = some u := by rw [hO.out.cellAt i (by omega), hu]
    have q1 := hO.out.frozenAt i
    have HN := Lib.hid (hO.out.stored i (.int .i64 (-1))).1
    have HK2 := Lib.hid (hKK.out.setCell (p := ⟨gx, i, none⟩) (hO.out.lt gx rfl).1 (.int .i64 (-1)))
    clear hu hzl hO hKK
    go_wp2_with fail
    exact ⟨⟨i + 1, _, by go_num, by omega, HN, HK2⟩, by simp [intOf]; omega⟩
  obtain rfl : i = ny := by omega
  have hin' : ¬ (i : Int) < (i : Int) := by omega
  have hP4 := HPL.out.below hKK.out
  obtain ⟨w4, rfl⟩ : ∃ w4, w4 = wr := ⟨_, rfl⟩
  clear hO hKK HPL
  obtain ⟨f0, f1, f2, f3⟩ := hP4.op.facts
  have HK := Lib.hid (kept_c w4 (some ⟨gL, 0, none⟩) A n (n + 2) c xs (HLL.out w4 hP4.hb) hP4.sl2 (Nat.le_refl _) (by unfold maxLen; omega))
  go_wp2_with fail
  refine (HK.out).mono ?_
  rintro e w5 ⟨rfl, h5⟩
  have hP5 := hP4.below h5
  have hl5 := hP5.l
  have HP5 := Lib.hid hP5
  clear HK h5 hP4 f0 f1 f2 f3 hP5
  go_wp2_with fail
  go_loopw [34] (fun iv wl => ∃ (i : Nat) (ys : List Value), iv = .int .i64 (i : Int) ∧ i ≤ n ∧ Hid (wl.ownsRow w0.heap.size 3 1 (.slice (some ⟨gL, 0, none⟩) (n + 2) (n + 2)) (n + 2) ys) ∧ Hid (Keeps (fun k => k = gL) w5 wl)) (fun iv _ => n - (intOf iv).toNat)
  case atStart => exact ⟨0, _, rfl, Nat.zero_le _, Lib.hid hl5, Lib.hid (Keeps.refl _ _)⟩
  case round =>
    obtain ⟨i, ys, rfl, hi, hO, hKK⟩ := hrel
    clear hl5
    by_cases hin : i < n
    · have hin' : (i : Int) < (n : Int) := by omega
      have hi0 : (0 : Int) ≤ (i : Int) := by omega
      have hyl : ys.length = n + 2 := by have h := hO.out.1; omega
      obtain ⟨u, hu⟩ : ∃ u, ys[i]? = some u := ⟨_, List.getElem?_eq_getElem (by omega)⟩
      have q0 : wr.cell? ⟨gL, i, none⟩ = some u := by rw [hO.out.cellAt i (by omega), hu]
      have q1 := hO.out.frozenAt i
      have HN := Lib.hid (hO.out.stored i (.int .i64 0)).1
      have HK2 := Lib.hid (hKK.out.trans (Keeps.of_setCell wr ⟨gL, i, none⟩ (.int .i64 0)) (fun k _ e => e))
      clear hu hyl hO hKK
      go_wp2_with fail
      exact ⟨⟨i + 1, _, by go_num, by omega, HN, HK2⟩, by simp [intOf]; omega⟩
    · obtain rfl : i = n := by omega
      have hin' : ¬ (i : Int) < (i : Int) := by omega
      obtain ⟨z1, z2⟩ := HP5.out.wrote hKK.out
      have HL1 := Lib.hid (both_len z2)
      have HL2 := Lib.hid (rboth_len z2)
      have HZ1 := Lib.hid z1
      have HZ2 := Lib.hid z2
      clear z1 z2 hO hKK
      go_wp2_with fail
      refine (HL1.out).mono ?_
      rintro e w7 ⟨rfl, rfl⟩
      go_wp2_with fail
      refine (HL2.out).mono ?_
      rintro e w7 ⟨rfl, rfl⟩
      go_wp2_with fail
      go_ret
      exact ⟨by simp, HZ1.out, _, HZ2.out⟩

set_option maxRecDepth 100000 in
set_option maxHeartbeats 4000000 in
theorem bplays_3 (w0 w : World) (E : Nat → Addr) (hE : Errs w0 E) (hT : ErrT w0) (p q : Value) (o : BagD) (K I J : Int) (A : Option Addr) (n c : Nat) (xs : List Int) (hL : Sl w0 A n (xs.map (Value.int .i64))) (hb : Below w0.heap.size w0 w)
    (hB : BothB w0.heap.size (fun _ => False) w p o q o) (hn : n ≤ 200) (hk : K % 5 = 3) :
    Calls Tryd.prog 8 #[p, q, bopV K I J A n c] w (PlayPost w0 p q) := by
  have hl : xs.length = n := by simpa using hL.1
  obtain ⟨t1, t2, t3⟩ := tmod5 K
  rw [hk] at t3
  have hbB := (Below.refl w.heap.size w).alloc (Nat.le_refl _) (.cells #[.int .i64 K, .int .i64 I, .int .i64 J, .slice A n c] 38)
  have hx := BOpAt.new w (.int .i64 K) (.int .i64 I) (.int .i64 J) (.slice A n c)
  obtain ⟨wB, hwB⟩ : ∃ wB, w.alloc (.cells #[.int .i64 K, .int .i64 I, .int .i64 J, .slice A n c] 38) = wB := ⟨_, rfl⟩
  rw [hwB] at hbB hx
  have HWB := Lib.hid hwB
  have hbB0 : Below w0.heap.size w0 wB := hb.trans (hbB.mono hb.size)
  have HLE := Lib.hid (lent_c wB A n c (xs.map (Value.int .i64)) (hL.below hbB0) (fun v hv => by obtain ⟨x, _, rfl⟩ := List.mem_map.1 hv; rfl) (by omega))
  have HE := Lib.hid (fun (wz : World) (hz : Below w0.heap.size w0 wz) => hE.below hz)
  have HT := Lib.hid (fun (wz : World) (hz : Below w0.heap.size w0 wz) => hT.below hz)
  have HLL := Lib.hid (fun (wz : World) (hz : Below w0.heap.size w0 wz) => hL.below hz)
  have HX := Lib.hid hx
  have HBB := Lib.hid hbB
  have HB0 := Lib.hid hbB0
  have HBAGS := Lib.hid hB
  have HLEN := Lib.hid hl
  clear hk hwB hbB hx hbB0 hB hE hT hL hl hb
  unfold bopV
  go_enter Tryd.func8, Tryd.ntmps8
  go_wp2_with fail
  rw [HWB.out]
  refine (HLE.out).mono ?_
  rintro e wL ⟨rfl, oL, hbL⟩
  have hP : PlayAt w0 w.heap.size wB.heap.size K I J A n c xs p q o o wL := ⟨HB0.out.trans (hbL.mono HB0.out.size), HX.out.below hbL HX.out.lt, own_base oL HB0.out.size,
    HBAGS.out.fresh (HBB.out.trans (hbL.mono HBB.out.size)) (fun k hk => by
      rcases hk with rfl | rfl
      · exact ⟨Nat.lt_of_lt_of_le HX.out.lt hbL.size, .inr (Nat.le_refl _)⟩
      · exact ⟨(oL.lt _ rfl).2, .inr HBB.out.size⟩), HLEN.out⟩
  have HLT := Lib.hid hP.lt
  obtain ⟨gL, hgL⟩ : ∃ gL, wB.heap.size = gL := ⟨_, rfl⟩
  rw [hgL] at hP HLT ⊢
  clear oL hbL HLE hgL HBAGS HB0 HBB HX
  obtain ⟨f0, f1, f2, f3⟩ := hP.op.facts
  have hc := both_has hP.bags E (HE.out wL hP.hb) I J
  obtain ⟨a1, ha1⟩ : ∃ a1, (hasO o I J).1 = a1 := ⟨_, rfl⟩
  obtain ⟨tl, htl⟩ : ∃ tl, (hasO o I J).2 = tl := ⟨_, rfl⟩
  have HTL : Hid (TaleOk tl) := Lib.hid (by rw [← htl]; exact hasO_tale _ _ _)
  rw [ha1, htl] at hc
  have HC := Lib.hid hc
  have HEQ := Lib.hid (And.intro ha1 htl)
  clear ha1 htl hc
  go_wp2_with fail
  refine (HC.out).mono ?_
  rintro e w1 ⟨ev, rfl, he1, hb1⟩
  have hP1 := hP.below hb1
  have hr := rboth_has hP1.bags I J
  rw [HEQ.out.1, HEQ.out.2] at hr
  have HR := Lib.hid hr
  obtain ⟨g0, g1, g2, g3⟩ := hP1.op.facts
  clear HC hP hr hb1 f0 f1 f2 f3
  go_wp2_with fail
  refine (HR.out).mono ?_
  rintro e w2 ⟨v2, N2, B1, n1, d1, B2, n2, d2, rfl, hu2, rfl, hb2⟩
  have he2 := he1.below hb2
  have hP2 := hP1.below hb2
  clear HR hP1 he1 hb2 g0 g1 g2 g3 HEQ
  have hw3 := WantAt.new w2 (.int .i64 (N2 : Int)) (.slice B1 n1 d1) (.slice B2 n2 d2)
  have b3 := (Below.refl w2.heap.size w2).alloc (Nat.le_refl _) (.cells #[.int .i64 (N2 : Int), .slice B1 n1 d1, .slice B2 n2 d2] 33)
  obtain ⟨w3, hw3'⟩ : ∃ w3, w2.alloc (.cells #[.int .i64 (N2 : Int), .slice B1 n1 d1, .slice B2 n2 d2] 33) = w3 := ⟨_, rfl⟩
  have HW3 := Lib.hid hw3'
  rw [hw3'] at hw3 b3
  have hP3 := hP2.below b3
  have he3 := he2.below b3
  have hu3 := hu2.below b3
  have HI := Lib.hid (rawIs_c w3 E (HE.out w3 hP3.hb) (HT.out w3 hP3.hb) tl HTL.out ev _ he3 hu3.want)
  obtain ⟨d0, d1', d2', _⟩ := hw3.facts
  clear hw3' b3 hP2 he2 hu2 he3 hu3 hw3
  go_wp2_with fail
  rw [HW3.out]
  refine (HI.out).mono ?_
  rintro e w4 ⟨rfl, h4⟩
  have hP4 := hP3.below h4
  clear HI h4 hP3 d0 d1' d2' 
  obtain ⟨f0, f1, f2, f3⟩ := hP4.op.facts
  have HK := Lib.hid (kept_c w4 (some ⟨gL, 0, none⟩) A n (n + 2) c xs (HLL.out w4 hP4.hb) hP4.sl2 (Nat.le_refl _) (by unfold maxLen; omega))
  go_wp2_with fail
  refine (HK.out).mono ?_
  rintro e w5 ⟨rfl, h5⟩
  have hP5 := hP4.below h5
  have hl5 := hP5.l
  have HP5 := Lib.hid hP5
  clear HK h5 hP4 f0 f1 f2 f3 hP5
  go_wp2_with fail
  go_loopw [34] (fun iv wl => ∃ (i : Nat) (ys : List Value), iv = .int .i64 (i : Int) ∧ i ≤ n ∧ Hid (wl.ownsRow w0.heap.size 3 1 (.slice (some ⟨gL, 0, none⟩) (n + 2) (n + 2)) (n + 2) ys) ∧ Hid (Keeps (fun k => k = gL) w5 wl)) (fun iv _ => n - (intOf iv).toNat)
  case atStart => exact ⟨0, _, rfl, Nat.zero_le _, Lib.hid hl5, Lib.hid (Keeps.refl _ _)⟩
  case round =>
    obtain ⟨i, ys, rfl, hi, hO, hKK⟩ := hrel
    clear hl5
    by_cases hin : i < n
    · have hin' : (i : Int) < (n : Int) := by omega
      have hi0 : (0 : Int) ≤ (i : Int) := by omega
      have hyl : ys.length = n + 2 := by have h := hO.out.1; omega
      obtain ⟨u, hu⟩ : ∃ u, ys[i]? = some u := ⟨_, List.getElem?_eq_getElem (by omega)⟩
      have q0 : wr.cell? ⟨gL, i, none⟩ = some u := by rw [hO.out.cellAt i (by omega), hu]
      have q1 := hO.out.frozenAt i
      have HN := Lib.hid (hO.out.stored i (.int .i64 0)).1
      have HK2 := Lib.hid (hKK.out.trans (Keeps.of_setCell wr ⟨gL, i, none⟩ (.int .i64 0)) (fun k _ e => e))
      clear hu hyl hO hKK
      go_wp2_with fail
      exact ⟨⟨i + 1, _, by go_num, by omega, HN, HK2⟩, by simp [intOf]; omega⟩
    · obtain rfl : i = n := by omega
      have hin' : ¬ (i : Int) < (i : Int) := by omega
      obtain ⟨z1, z2⟩ := HP5.out.wrote hKK.out
      have HL1 := Lib.hid (both_len z2)
      have HL2 := Lib.hid (rboth_len z2)
      have HZ1 := Lib.hid z1
      have HZ2 := Lib.hid z2
      clear z1 z2 hO hKK
      go_wp2_with fail
      refine (HL1.out).mono ?_
      rintro e w7 ⟨rfl, rfl⟩
      go_wp2_with fail
      refine (HL2.out).mono ?_
      rintro e w7 ⟨rfl, rfl⟩
      go_wp2_with fail
      go_ret
      exact ⟨by simp, HZ1.out, _, HZ2.out⟩

set_option maxRecDepth 100000 in
set_option maxHeartbeats 4000000 in
theorem bplays_4 (w0 w : World) (E : Nat → Addr) (hE : Errs w0 E) (hT : ErrT w0) (p q : Value) (o : BagD) (K I J : Int) (A : Option Addr) (n c : Nat) (xs : List Int) (hL : Sl w0 A n (xs.map (Value.int .i64))) (hb : Below w0.heap.size w0 w)
    (hB : BothB w0.heap.size (fun _ => False) w p o q o) (hn : n ≤ 200) (hk : K % 5 = 4) :
    Calls Tryd.prog 8 #[p, q, bopV K I J A n c] w (PlayPost w0 p q) := by
  have hl : xs.length = n := by simpa using hL.1
  obtain ⟨t1, t2, t3⟩ := tmod5 K
  rw [hk] at t3
  have hbB := (Below.refl w.heap.size w).alloc (Nat.le_refl _) (.cells #[.int .i64 K, .int .i64 I, .int .i64 J, .slice A n c] 38)
  have hx := BOpAt.new w (.int .i64 K) (.int .i64 I) (.int .i64 J) (.slice A n c)
  obtain ⟨wB, hwB⟩ : ∃ wB, w.alloc (.cells #[.int .i64 K, .int .i64 I, .int .i64 J, .slice A n c] 38) = wB := ⟨_, rfl⟩
  rw [hwB] at hbB hx
  have HWB := Lib.hid hwB
  have hbB0 : Below w0.heap.size w0 wB := hb.trans (hbB.mono hb.size)
  have HLE := Lib.hid (lent_c wB A n c (xs.map (Value.int .i64)) (hL.below hbB0) (fun v hv => by obtain ⟨x, _, rfl⟩ := List.mem_map.1 hv; rfl) (by omega))
  have HE := Lib.hid (fun (wz : World) (hz : Below w0.heap.size w0 wz) => hE.below hz)
  have HT := Lib.hid (fun (wz : World) (hz : Below w0.heap.size w0 wz) => hT.below hz)
  have HLL := Lib.hid (fun (wz : World) (hz : Below w0.heap.size w0 wz) => hL.below hz)
  have HX := Lib.hid hx
  have HBB := Lib.hid hbB
  have HB0 := Lib.hid hbB0
  have HBAGS := Lib.hid hB
  have HLEN := Lib.hid hl
  clear hk hwB hbB hx hbB0 hB hE hT hL hl hb
  unfold bopV
  go_enter Tryd.func8, Tryd.ntmps8
  go_wp2_with fail
  rw [HWB.out]
  refine (HLE.out).mono ?_
  rintro e wL ⟨rfl, oL, hbL⟩
  have hP : PlayAt w0 w.heap.size wB.heap.size K I J A n c xs p q o o wL := ⟨HB0.out.trans (hbL.mono HB0.out.size), HX.out.below hbL HX.out.lt, own_base oL HB0.out.size,
    HBAGS.out.fresh (HBB.out.trans (hbL.mono HBB.out.size)) (fun k hk => by
      rcases hk with rfl | rfl
      · exact ⟨Nat.lt_of_lt_of_le HX.out.lt hbL.size, .inr (Nat.le_refl _)⟩
      · exact ⟨(oL.lt _ rfl).2, .inr HBB.out.size⟩), HLEN.out⟩
  have HLT := Lib.hid hP.lt
  obtain ⟨gL, hgL⟩ : ∃ gL, wB.heap.size = gL := ⟨_, rfl⟩
  rw [hgL] at hP HLT ⊢
  clear oL hbL HLE hgL HBAGS HB0 HBB HX
  obtain ⟨f0, f1, f2, f3⟩ := hP.op.facts
  have HC := Lib.hid (both_union hP.bags E (HE.out wL hP.hb) I J)
  obtain ⟨o2, ho2⟩ : ∃ o2, (unionO o I J).2 = o2 := ⟨_, rfl⟩
  obtain ⟨a1, ha1⟩ : ∃ a1, (unionO o I J).1.1 = a1 := ⟨_, rfl⟩
  obtain ⟨b1, hb1⟩ : ∃ b1, (unionO o I J).1.2.1 = b1 := ⟨_, rfl⟩
  obtain ⟨tl, htl⟩ : ∃ tl, (unionO o I J).1.2.2 = tl := ⟨_, rfl⟩
  have HTL : Hid (TaleOk tl) := Lib.hid (by rw [← htl]; exact unionO_tale _ _ _)
  rw [ho2, ha1, hb1, htl] at HC
  have HEQ := Lib.hid (And.intro ho2 (And.intro ha1 (And.intro hb1 htl)))
  clear ho2 ha1 hb1 htl
  go_wp2_with fail
  refine (HC.out).mono ?_
  rintro e w1 ⟨ev, rfl, he1, hB1, hk1⟩
  have hP1 := hP.step hB1 hk1
  have hr := rboth_union hP1.bags I J
  rw [HEQ.out.1, HEQ.out.2.1, HEQ.out.2.2.1, HEQ.out.2.2.2] at hr
  have HR := Lib.hid hr
  obtain ⟨g0, g1, g2, g3⟩ := hP1.op.facts
  clear HC hP hr hB1 hk1 f0 f1 f2 f3
  go_wp2_with fail
  refine (HR.out).mono ?_
  rintro e w2 ⟨N2, B1, n1, d1, B2, n2, d2, rfl, hu2, ⟨hB2, hk2⟩, hp2⟩
  have he2 : ErrV w2 E tl ev := by
    cases tl with
    | none => exact he1
    | some x => exact he1.below (hp2 (by simp))
  have hP2 := hP1.step hB2 hk2
  clear HR hP1 he1 hB2 hk2 hp2 g0 g1 g2 g3 HEQ
  have hw3 := WantAt.new w2 (.int .i64 (N2 : Int)) (.slice B1 n1 d1) (.slice B2 n2 d2)
  have b3 := (Below.refl w2.heap.size w2).alloc (Nat.le_refl _) (.cells #[.int .i64 (N2 : Int), .slice B1 n1 d1, .slice B2 n2 d2] 33)
  obtain ⟨w3, hw3'⟩ : ∃ w3, w2.alloc (.cells #[.int .i64 (N2 : Int), .slice B1 n1 d1, .slice B2 n2 d2] 33) = w3 := ⟨_, rfl⟩
  have HW3 := Lib.hid hw3'
  rw [hw3'] at hw3 b3
  have hP3 := hP2.below b3
  have he3 := he2.below b3
  have hu3 := hu2.below b3
  have HI := Lib.hid (rawIs_c w3 E (HE.out w3 hP3.hb) (HT.out w3 hP3.hb) tl HTL.out ev _ he3 hu3.want)
  obtain ⟨d0, d1', d2', _⟩ := hw3.facts
  clear hw3' b3 hP2 he2 hu2 he3 hu3 hw3
  go_wp2_with fail
  rw [HW3.out]
  refine (HI.out).mono ?_
  rintro e w4 ⟨rfl, h4⟩
  have hP4 := hP3.below h4
  clear HI h4 hP3 d0 d1' d2' 
  obtain ⟨f0, f1, f2, f3⟩ := hP4.op.facts
  have HK := Lib.hid (kept_c w4 (some ⟨gL, 0, none⟩) A n (n + 2) c xs (HLL.out w4 hP4.hb) hP4.sl2 (Nat.le_refl _) (by unfold maxLen; omega))
  go_wp2_with fail
  refine (HK.out).mono ?_
  rintro e w5 ⟨rfl, h5⟩
  have hP5 := hP4.below h5
  have hl5 := hP5.l
  have HP5 := Lib.hid hP5
  clear HK h5 hP4 f0 f1 f2 f3 hP5
  go_wp2_with fail
  go_loopw [34] (fun iv wl => ∃ (i : Nat) (ys : List Value), iv = .int .i64 (i : Int) ∧ i ≤ n ∧ Hid (wl.ownsRow w0.heap.size 3 1 (.slice (some ⟨gL, 0, none⟩) (n + 2) (n + 2)) (n + 2) ys) ∧ Hid (Keeps (fun k => k = gL) w5 wl)) (fun iv _ => n - (intOf iv).toNat)
  case atStart => exact ⟨0, _, rfl, Nat.zero_le _, Lib.hid hl5, Lib.hid (Keeps.refl _ _)⟩
  case round =>
    obtain ⟨i, ys, rfl, hi, hO, hKK⟩ := hrel
    clear hl5
    by_cases hin : i < n
    · have hin' : (i : Int) < (n : Int) := by omega
      have hi0 : (0 : Int) ≤ (i : Int) := by omega
      have hyl : ys.length = n + 2 := by have h := hO.out.1; omega
      obtain ⟨u, hu⟩ : ∃ u, ys[i]? = some u := ⟨_, List.getElem?_eq_getElem (by omega)⟩
      have q0 : wr.cell? ⟨gL, i, none⟩ = some u := by rw [hO.out.cellAt i (by omega), hu]
      have q1 := hO.out.frozenAt i
      have HN := Lib.hid (hO.out.stored i (.int .i64 0)).1
      have HK2 := Lib.hid (hKK.out.trans (Keeps.of_setCell wr ⟨gL, i, none⟩ (.int .i64 0)) (fun k _ e => e))
      clear hu hyl hO hKK
      go_wp2_with fail
      exact ⟨⟨i + 1, _, by go_num, by omega, HN, HK2⟩, by simp [intOf]; omega⟩
    · obtain rfl : i = n := by omega
      have hin' : ¬ (i : Int) < (i : Int) := by omega
      obtain ⟨z1, z2⟩ := HP5.out.wrote hKK.out
      have HL1 := Lib.hid (both_len z2)
      have HL2 := Lib.hid (rboth_len z2)
      have HZ1 := Lib.hid z1
      have HZ2 := Lib.hid z2
      clear z1 z2 hO hKK
      go_wp2_with fail
      refine (HL1.out).mono ?_
      rintro e w7 ⟨rfl, rfl⟩
      go_wp2_with fail
      refine (HL2.out).mono ?_
      rintro e w7 ⟨rfl, rfl⟩
      go_wp2_with fail
      go_ret
      exact ⟨by simp, HZ1.out, _, HZ2.out⟩
end Go.Proofs.YtiobnnhjnkcafaaDoor
