/- The call of FormsAll: it returns true. Condition: its calls read from memory, their lists within reach; the error variables hold what E says. -/
import Derived.Test.YtpllojpgpejfmaaGreatDoorF5
import Derived.Test.YtpllojpgpejfmaaGreatDoorF24
import Derived.Test.YtpllojpgpejfmaaGreatDoorF31
namespace Go.Proofs.YtpllojpgpejfmaaGreatDoor
open Go.RowKit RuleP

/-- A call of the script. -/
structure FD where
  kd : Int
  K : Int
  D : Int
  KA : Int
  RA : Int
  A : Option Addr
  n : Nat
  c : Nat
  TA : List Int
  KB : Int
  RB : Int
  B : Option Addr
  m : Nat
  d : Nat
  TB : List Int
  P : Option Addr
  l : Nat
  e : Nat
  Q : List Int
structure FOk (w : World) (o : FD) : Prop where
  hA : Sl w o.A o.n (o.TA.map (Value.int .i64))
  hB : Sl w o.B o.m (o.TB.map (Value.int .i64))
  hP : Sl w o.P o.l (o.Q.map (Value.int .i64))
  hn : o.n * 8 ≤ 140737488351232
  hm : o.m * 8 ≤ 140737488351232
  hl : o.l * 8 ≤ 140737488351232
  hD1 : -9223372036854775808 ≤ o.D
  hD2 : o.D ≤ 9223372036854775807
theorem FOk.below {w w' : World} {o : FD} (h : FOk w o) (hb : Below w.heap.size w w') : FOk w' o :=
  ⟨h.hA.below hb, h.hB.below hb, h.hP.below hb, h.hn, h.hm, h.hl, h.hD1, h.hD2⟩
/-- The script lies in memory: ten cells a call. -/
def FScript (w : World) (SA : Option Addr) (m : Nat) : Prop := ∀ i, i < m → ∃ (ad : Addr) (o : FD), SA = some ad ∧ FOk w o ∧
  w.cell? (ad.add (i * 10)) = some (.int .i64 o.kd) ∧ w.cell? (ad.add (i * 10 + 1)) = some (.int .i64 o.K) ∧ w.cell? (ad.add (i * 10 + 2)) = some (.int .i64 o.D) ∧
  w.cell? (ad.add (i * 10 + 3)) = some (.int .i64 o.KA) ∧ w.cell? (ad.add (i * 10 + 4)) = some (.int .i64 o.RA) ∧ w.cell? (ad.add (i * 10 + 5)) = some (.slice o.A o.n o.c) ∧
  w.cell? (ad.add (i * 10 + 6)) = some (.int .i64 o.KB) ∧ w.cell? (ad.add (i * 10 + 7)) = some (.int .i64 o.RB) ∧ w.cell? (ad.add (i * 10 + 8)) = some (.slice o.B o.m o.d) ∧ w.cell? (ad.add (i * 10 + 9)) = some (.slice o.P o.l o.e)
theorem FScript.below {w w' : World} {SA : Option Addr} {m : Nat} (h : FScript w SA m) (hb : Below w.heap.size w w') : FScript w' SA m := fun i hi => by
  obtain ⟨ad, o, e, ho, c0, c1, c2, c3, c4, c5, c6, c7, c8, c9⟩ := h i hi
  exact ⟨ad, o, e, ho.below hb, cell_later hb c0, cell_later hb c1, cell_later hb c2, cell_later hb c3, cell_later hb c4, cell_later hb c5, cell_later hb c6, cell_later hb c7, cell_later hb c8, cell_later hb c9⟩
theorem addr_add3 (ad : Addr) (k j : Nat) (hj : 0 < j) : ad.add (k + j) = ⟨(ad.add k).block, (ad.add k).off + j, none⟩ := by
  unfold Addr.add
  rw [if_neg (by omega)]
  split
  · rename_i h; rw [h, Nat.zero_add]
  · rw [Nat.add_assoc]
theorem OpAt.froz {w : World} {g : Nat} {v0 v1 v2 v3 v4 v5 v6 v7 v8 v9 : Value} (h : OpAt w g v0 v1 v2 v3 v4 v5 v6 v7 v8 v9) (i : Nat) : w.frozen? ⟨g, i, none⟩ = false := frozen_of_row _ _ i _ _ h
theorem OpAt.setA {w : World} {g : Nat} {v0 v1 v2 v3 v4 v5 v6 v7 v8 v9 : Value} (h : OpAt w g v0 v1 v2 v3 v4 v5 v6 v7 v8 v9) (x y z : Value) : OpAt (((w.setCell ⟨g, 3, none⟩ x).setCell ⟨g, 4, none⟩ y).setCell ⟨g, 5, none⟩ z) g v0 v1 v2 x y z v6 v7 v8 v9 := by
  unfold OpAt at *
  have h0 := (Array.getElem?_eq_some_iff.1 h).1
  simp only [World.setCell]
  simp [Array.getElem?_modify, h]
theorem OpAt.setB {w : World} {g : Nat} {v0 v1 v2 v3 v4 v5 v6 v7 v8 v9 : Value} (h : OpAt w g v0 v1 v2 v3 v4 v5 v6 v7 v8 v9) (x y z : Value) : OpAt (((w.setCell ⟨g, 6, none⟩ x).setCell ⟨g, 7, none⟩ y).setCell ⟨g, 8, none⟩ z) g v0 v1 v2 v3 v4 v5 x y z v9 := by
  unfold OpAt at *
  have h0 := (Array.getElem?_eq_some_iff.1 h).1
  simp only [World.setCell]
  simp [Array.getElem?_modify, h]
theorem OpAt.setP {w : World} {g : Nat} {v0 v1 v2 v3 v4 v5 v6 v7 v8 v9 : Value} (h : OpAt w g v0 v1 v2 v3 v4 v5 v6 v7 v8 v9) (x : Value) : OpAt (w.setCell ⟨g, 9, none⟩ x) g v0 v1 v2 v3 v4 v5 v6 v7 v8 x := by
  unfold OpAt at *
  have h0 := (Array.getElem?_eq_some_iff.1 h).1
  simp only [World.setCell]
  simp [Array.getElem?_modify, h]
theorem keeps_o3 (w : World) (g a b c : Nat) (x y z : Value) : Keeps (fun k => k = g) w (((w.setCell ⟨g, a, none⟩ x).setCell ⟨g, b, none⟩ y).setCell ⟨g, c, none⟩ z) :=
  ((Keeps.of_setCell w ⟨g, a, none⟩ x).trans (Keeps.of_setCell _ ⟨g, b, none⟩ y) (fun _ _ h => h)).trans (Keeps.of_setCell _ ⟨g, c, none⟩ z) (fun _ _ h => h)
theorem sl_front {w : World} {g n k : Nat} {xs ys : List Value} (h : Sl w (some ⟨g, 0, none⟩) k (xs ++ ys)) (hl : xs.length = n) : Sl w (some ⟨g, 0, none⟩) n xs :=
  ⟨hl, fun i v hv => h.2 i v (by rw [List.getElem?_append_left (List.getElem?_eq_some_iff.1 hv).1]; exact hv)⟩
/-- Two operations in memory, one behind the other. -/
theorem two_ops (w : World) (kd K D KA RA KB RB : Int) (A B P : Option Addr) (n c m d l e : Nat) : ∃ wx, (w.alloc (.cells #[.int .i64 kd, .int .i64 K, .int .i64 D, .int .i64 KA, .int .i64 RA, .slice A n c, .int .i64 KB, .int .i64 RB, .slice B m d, .slice P l e] 28)).alloc (.cells #[.int .i64 kd, .int .i64 K, .int .i64 D, .int .i64 KA, .int .i64 RA, .slice A n c, .int .i64 KB, .int .i64 RB, .slice B m d, .slice P l e] 28) = wx ∧
    OpAt wx w.heap.size (.int .i64 kd) (.int .i64 K) (.int .i64 D) (.int .i64 KA) (.int .i64 RA) (.slice A n c) (.int .i64 KB) (.int .i64 RB) (.slice B m d) (.slice P l e) ∧
    OpAt wx (w.heap.size + 1) (.int .i64 kd) (.int .i64 K) (.int .i64 D) (.int .i64 KA) (.int .i64 RA) (.slice A n c) (.int .i64 KB) (.int .i64 RB) (.slice B m d) (.slice P l e) ∧
    Below w.heap.size w wx ∧ wx.heap.size = w.heap.size + 2 := by
  refine ⟨_, rfl, ?_, ?_, ?_, by simp⟩
  · have h0 : OpAt (w.alloc (.cells #[.int .i64 kd, .int .i64 K, .int .i64 D, .int .i64 KA, .int .i64 RA, .slice A n c, .int .i64 KB, .int .i64 RB, .slice B m d, .slice P l e] 28)) w.heap.size (.int .i64 kd) (.int .i64 K) (.int .i64 D) (.int .i64 KA) (.int .i64 RA) (.slice A n c) (.int .i64 KB) (.int .i64 RB) (.slice B m d) (.slice P l e) := heap_new _ _
    exact h0.below ((Below.refl (w.heap.size + 1) (w.alloc (.cells #[.int .i64 kd, .int .i64 K, .int .i64 D, .int .i64 KA, .int .i64 RA, .slice A n c, .int .i64 KB, .int .i64 RB, .slice B m d, .slice P l e] 28))).alloc (by simp) (.cells #[.int .i64 kd, .int .i64 K, .int .i64 D, .int .i64 KA, .int .i64 RA, .slice A n c, .int .i64 KB, .int .i64 RB, .slice B m d, .slice P l e] 28)) (by omega)
  · have h0 : OpAt ((w.alloc (.cells #[.int .i64 kd, .int .i64 K, .int .i64 D, .int .i64 KA, .int .i64 RA, .slice A n c, .int .i64 KB, .int .i64 RB, .slice B m d, .slice P l e] 28)).alloc (.cells #[.int .i64 kd, .int .i64 K, .int .i64 D, .int .i64 KA, .int .i64 RA, .slice A n c, .int .i64 KB, .int .i64 RB, .slice B m d, .slice P l e] 28)) (w.alloc (.cells #[.int .i64 kd, .int .i64 K, .int .i64 D, .int .i64 KA, .int .i64 RA, .slice A n c, .int .i64 KB, .int .i64 RB, .slice B m d, .slice P l e] 28)).heap.size (.int .i64 kd) (.int .i64 K) (.int .i64 D) (.int .i64 KA) (.int .i64 RA) (.slice A n c) (.int .i64 KB) (.int .i64 RB) (.slice B m d) (.slice P l e) := heap_new _ _
    rw [World.size_alloc] at h0
    exact h0
  · exact ((Below.refl w.heap.size w).alloc (Nat.le_refl _) (.cells #[.int .i64 kd, .int .i64 K, .int .i64 D, .int .i64 KA, .int .i64 RA, .slice A n c, .int .i64 KB, .int .i64 RB, .slice B m d, .slice P l e] 28)).alloc (by simp) (.cells #[.int .i64 kd, .int .i64 K, .int .i64 D, .int .i64 KA, .int .i64 RA, .slice A n c, .int .i64 KB, .int .i64 RB, .slice B m d, .slice P l e] 28)

set_option maxRecDepth 100000 in
set_option maxHeartbeats 8000000 in
theorem formsAll_c (w : World) (E : Nat → Addr) (hE : Errs w E) (hT : ErrT w) (SA : Option Addr) (M sc : Nat) (hS : FScript w SA M) (hm : M ≤ sc) (hsc : sc ≤ maxLen) :
    Calls Tryz.prog 3 #[.slice SA M sc] w fun e w' => e = .returned (.bool true) ∧ Below w.heap.size w w' := by
  have HE := Lib.hid hE
  have HT := Lib.hid hT
  have HS := Lib.hid hS
  unfold maxLen at hsc
  clear hE hT hS
  go_enter Tryz.func3, Tryz.ntmps3
  go_wp2_with fail
  refine (awake5_c w E HE.out).mono ?_
  rintro e w1 ⟨rfl, b1⟩
  go_wp2_with fail
  go_loopw [3] (fun iv wr => ∃ i : Nat, i ≤ M ∧ i ≤ 8 ∧ iv = .int .i64 (i : Int) ∧ Hid (Below w.heap.size w wr)) (fun iv _ => 8 - (intOf iv).toNat)
  case atStart => exact ⟨0, Nat.zero_le _, by decide, rfl, Lib.hid b1⟩
  case round =>
    obtain ⟨i, hi, hi8, rfl, hb⟩ := hrel
    clear b1
    by_cases hlt : i < M
    · by_cases h8 : i < 8
      · have hlt' : (i : Int) < (M : Int) := by omega
        have h8' : (i : Int) < 8 := by omega
        obtain ⟨ad, o, rfl, ho, c0, c1, c2, c3, c4, c5, c6, c7, c8, c9⟩ := HS.out.below hb.out i hlt
        have HE1 := HE.out.below hb.out
        have HT1 := HT.out.below hb.out
        obtain ⟨kd, K, D, KA, RA, A, n, c, TA, KB, RB, B, m, d, TB, P, l, e, Q⟩ := o
        obtain ⟨hA, hB, hP, hn, hmm, hl, hD1, hD2⟩ := ho
        simp only at c0 c1 c2 c3 c4 c5 c6 c7 c8 c9 hA hB hP hn hmm hl hD1 hD2
        rw [addr_add3 _ _ _ (by decide)] at c1 c2 c3 c4 c5 c6 c7 c8 c9
        obtain ⟨wO, hwO, ho1, ho2, hbO, hsO⟩ := two_ops wr kd K D KA RA KB RB A B P n c m d l e
        have hTA : TA.length = n := by simpa using hA.1
        have hTB : TB.length = m := by simpa using hB.1
        have hTQ : Q.length = l := by simpa using hP.1
        have HL := Lib.hid (And.intro hTA (And.intro hTB hTQ))
        have HLA := Lib.hid (lentRule_c wO KA RA A n c _ (hA.below hbO) (by intro v hv; obtain ⟨z, _, rfl⟩ := List.mem_map.1 hv; rfl) hn)
        have HLB := Lib.hid (fun (wz : World) (hz : Below wr.heap.size wr wz) => lentRule_c wz KB RB B m d _ (hB.below hz) (by intro v hv; obtain ⟨z, _, rfl⟩ := List.mem_map.1 hv; rfl) hmm)
        have HLP := Lib.hid (fun (wz : World) (hz : Below wr.heap.size wr wz) => lent_c wz P l e _ (hP.below hz) (by intro v hv; obtain ⟨z, _, rfl⟩ := List.mem_map.1 hv; rfl) hl)
        have HSL := Lib.hid (fun (wz : World) (hz : Below wr.heap.size wr wz) => (⟨hA.below hz, hB.below hz, hP.below hz⟩ : _ ∧ _ ∧ _))
        have HEE := Lib.hid (fun (wz : World) (hz : Below wr.heap.size wr wz) => (⟨HE1.below hz, HT1.below hz⟩ : _ ∧ _))
        have HN := Lib.hid (And.intro hn (And.intro hmm hl))
        have HDD := Lib.hid (And.intro hD1 hD2)
        have HWO := Lib.hid hwO
        have HO1 := Lib.hid ho1
        have HO2 := Lib.hid ho2
        have HBO := Lib.hid hbO
        obtain ⟨f0, f1, f2, f3, f4, f5, f6, f7, f8, f9⟩ := ho1.facts
        clear hwO ho1 ho2 hbO hA hB hP hn hmm hl hD1 hD2 HE1 HT1 hTA hTB hTQ
        unfold ruleV at *
        go_wp2_with fail
        rw [HWO.out]
        clear c0 c1 c2 c3 c4 c5 c6 c7 c8 c9
        refine (HLA.out).mono ?_
        rintro x w2 ⟨gA, rfl, hgA, hoA, hb2⟩
        have hb2w := HBO.out.trans (hb2.mono HBO.out.size)
        have q1 := HO1.out.below hb2 HO1.out.lt
        have q2 := HO2.out.below hb2 HO2.out.lt
        clear f0 f1 f2 f3 f4 f5 f6 f7 f8 f9
        have hgA' := hoA.lt gA rfl
        have hk := keeps_o3 w2 (wr.heap.size + 1) 3 4 5 (.int .i64 KA) (.int .i64 RA) (.slice (some ⟨gA, 0, none⟩) n (n + 2))
        have hw3b := q2.setA (.int .i64 KA) (.int .i64 RA) (.slice (some ⟨gA, 0, none⟩) n (n + 2))
        have hw3a := q1.keeps hk (show ¬ wr.heap.size = wr.heap.size + 1 by omega)
        have hoA3 := own_keeps hoA hk (fun b hb hO => by have h1 := (hoA.lt b hb).1; have : b = wr.heap.size + 1 := hO; omega)
        have hbw3w := hb2w.trans (hk.below hb2w.size (fun b hb => by have : b = wr.heap.size + 1 := hb; omega))
        obtain ⟨f0, f1, f2, f3, f4, f5, f6, f7, f8, f9⟩ := q1.facts
        obtain ⟨g0, g1, g2, g3, g4, g5, g6, g7, g8, g9⟩ := q2.facts
        have z3 := q2.froz 3
        have z4 := q2.froz 4
        have z5 := q2.froz 5
        have hsw3 : (((w2.setCell ⟨wr.heap.size + 1, 3, none⟩ (.int .i64 KA)).setCell ⟨wr.heap.size + 1, 4, none⟩ (.int .i64 RA)).setCell ⟨wr.heap.size + 1, 5, none⟩ (.slice (some ⟨gA, 0, none⟩) n (n + 2))).heap.size = w2.heap.size := by simp
        obtain ⟨w3, hw3⟩ : ∃ wz, (((w2.setCell ⟨wr.heap.size + 1, 3, none⟩ (.int .i64 KA)).setCell ⟨wr.heap.size + 1, 4, none⟩ (.int .i64 RA)).setCell ⟨wr.heap.size + 1, 5, none⟩ (.slice (some ⟨gA, 0, none⟩) n (n + 2))) = wz := ⟨_, rfl⟩
        rw [hw3] at hw3b hw3a hsw3 hbw3w hoA3
        have Hw3 := Lib.hid hw3
        have HLB3 := Lib.hid (HLB.out w3 hbw3w)
        clear hw3 hk q1 q2 HLA hb2 hb2w hoA
        unfold ruleV at HLB3
        go_wp2_with fail
        rw [Hw3.out]
        clear f0 f1 f2 f3 f4 f5 f6 f7 f8 f9 g0 g1 g2 g3 g4 g5 g6 g7 g8 g9 z3 z4 z5
        refine (HLB3.out).mono ?_
        rintro x w4 ⟨gB, rfl, hgB, hoB, hb4⟩
        have hb4w := hbw3w.trans (hb4.mono hbw3w.size)
        have q1 := hw3a.below hb4 hw3a.lt
        have q2 := hw3b.below hb4 hw3b.lt
        have hoA4 := own_below hoA3 hb4
        have hgB' := hoB.lt gB rfl
        have hk := keeps_o3 w4 (wr.heap.size + 1) 6 7 8 (.int .i64 KB) (.int .i64 RB) (.slice (some ⟨gB, 0, none⟩) m (m + 2))
        have hw5b := q2.setB (.int .i64 KB) (.int .i64 RB) (.slice (some ⟨gB, 0, none⟩) m (m + 2))
        have hw5a := q1.keeps hk (show ¬ wr.heap.size = wr.heap.size + 1 by omega)
        have hoA5 := own_keeps hoA4 hk (fun b hb hO => by have h1 := (hoA4.lt b hb).1; have : b = wr.heap.size + 1 := hO; omega)
        have hoB5 := own_keeps hoB hk (fun b hb hO => by have h1 := (hoB.lt b hb).1; have : b = wr.heap.size + 1 := hO; omega)
        have hbw5w := hb4w.trans (hk.below hb4w.size (fun b hb => by have : b = wr.heap.size + 1 := hb; omega))
        obtain ⟨f0, f1, f2, f3, f4, f5, f6, f7, f8, f9⟩ := q1.facts
        obtain ⟨g0, g1, g2, g3, g4, g5, g6, g7, g8, g9⟩ := q2.facts
        have z6 := q2.froz 6
        have z7 := q2.froz 7
        have z8 := q2.froz 8
        have hsw5 : (((w4.setCell ⟨wr.heap.size + 1, 6, none⟩ (.int .i64 KB)).setCell ⟨wr.heap.size + 1, 7, none⟩ (.int .i64 RB)).setCell ⟨wr.heap.size + 1, 8, none⟩ (.slice (some ⟨gB, 0, none⟩) m (m + 2))).heap.size = w4.heap.size := by simp
        obtain ⟨w5, hw5⟩ : ∃ wz, (((w4.setCell ⟨wr.heap.size + 1, 6, none⟩ (.int .i64 KB)).setCell ⟨wr.heap.size + 1, 7, none⟩ (.int .i64 RB)).setCell ⟨wr.heap.size + 1, 8, none⟩ (.slice (some ⟨gB, 0, none⟩) m (m + 2))) = wz := ⟨_, rfl⟩
        rw [hw5] at hw5b hw5a hsw5 hbw5w hoA5 hoB5
        have Hw5 := Lib.hid hw5
        have HLP5 := Lib.hid (HLP.out w5 hbw5w)
        clear hw5 hk q1 q2 HLB3 HLB hb4 hb4w hoA4 hoB hoA3 hw3a hw3b hbw3w Hw3
        go_wp2_with fail
        rw [Hw5.out]
        clear f0 f1 f2 f3 f4 f5 f6 f7 f8 f9 g0 g1 g2 g3 g4 g5 g6 g7 g8 g9 z6 z7 z8
        refine (HLP5.out).mono ?_
        rintro x w6 ⟨rfl, hoP, hb6⟩
        obtain ⟨gP, hgP⟩ : ∃ gP, w5.heap.size = gP := ⟨_, rfl⟩
        have hb6w := hbw5w.trans (hb6.mono hbw5w.size)
        have q1 := hw5a.below hb6 hw5a.lt
        have q2 := hw5b.below hb6 hw5b.lt
        have hoA6 := own_below hoA5 hb6
        have hoB6 := own_below hoB5 hb6
        rw [hgP] at hoP ⊢
        have hgP' := hoP.lt gP rfl
        have hk := Keeps.of_setCell w6 ⟨wr.heap.size + 1, 9, none⟩ (.slice (some ⟨gP, 0, none⟩) l (l + 2))
        have hw7b := q2.setP (.slice (some ⟨gP, 0, none⟩) l (l + 2))
        have hw7a := q1.keeps hk (show ¬ wr.heap.size = wr.heap.size + 1 by omega)
        have hoA7 := own_keeps hoA6 hk (fun b hb hO => by have h1 := (hoA6.lt b hb).1; have : b = wr.heap.size + 1 := hO; omega)
        have hoB7 := own_keeps hoB6 hk (fun b hb hO => by have h1 := (hoB6.lt b hb).1; have : b = wr.heap.size + 1 := hO; omega)
        have hoP7 := own_keeps hoP hk (fun b hb hO => by have h1 := (hoP.lt b hb).1; have : b = wr.heap.size + 1 := hO; omega)
        have hbw7w := hb6w.trans (hk.below hb6w.size (fun b hb => by have : b = wr.heap.size + 1 := hb; omega))
        obtain ⟨f0, f1, f2, f3, f4, f5, f6, f7, f8, f9⟩ := q1.facts
        obtain ⟨g0, g1, g2, g3, g4, g5, g6, g7, g8, g9⟩ := q2.facts
        have z9 := q2.froz 9
        have hsw7 : (w6.setCell ⟨wr.heap.size + 1, 9, none⟩ (.slice (some ⟨gP, 0, none⟩) l (l + 2))).heap.size = w6.heap.size := by simp
        obtain ⟨w7, hw7⟩ : ∃ wz, (w6.setCell ⟨wr.heap.size + 1, 9, none⟩ (.slice (some ⟨gP, 0, none⟩) l (l + 2))) = wz := ⟨_, rfl⟩
        rw [hw7] at hw7b hw7a hsw7 hbw7w hoA7 hoB7 hoP7
        have Hw7 := Lib.hid hw7
        have hPL := plays_any w7 E (HEE.out w7 hbw7w).1 (HEE.out w7 hbw7w).2 kd K D KA RA KB RB (some ⟨gA, 0, none⟩) (some ⟨gB, 0, none⟩) (some ⟨gP, 0, none⟩) n (n + 2) m (m + 2) l (l + 2) TA TB Q (sl_front (Sl.of_own hoA7) (by simpa using HL.out.1)) (sl_front (Sl.of_own hoB7) (by simpa using HL.out.2.1)) (sl_front (Sl.of_own hoP7) (by simpa using HL.out.2.2)) (by have := HN.out.1; omega) (by have := HN.out.2.1; omega) HN.out.2.2 HDD.out.1 HDD.out.2
        have HPL := Lib.hid hPL
        have HA7 := Lib.hid hoA7
        have HB7 := Lib.hid hoB7
        have HP7 := Lib.hid hoP7
        have HF7 := Lib.hid (And.intro hw7a hw7b)
        have HBW := Lib.hid hbw7w
        clear hw7 hk q1 q2 HLP5 HLP hb6 hb6w hoA6 hoB6 hoP hoA5 hoB5 hw5a hw5b hbw5w Hw5 hPL hoA7 hoB7 hoP7 hw7a hw7b hbw7w hgA' hgB' hgP' hgP hsw3 hsw5 hsw7 hgA hgB
        go_wp2_with fail
        rw [Hw7.out]
        clear f0 f1 f2 f3 f4 f5 f6 f7 f8 f9 g0 g1 g2 g3 g4 g5 g6 g7 g8 g9 z9
        obtain ⟨g0, g1, g2, g3, g4, g5, g6, g7, g8, g9⟩ := HF7.out.2.facts
        go_wp2_with fail
        refine (HPL.out).mono ?_
        rintro x w8 ⟨rfl, h8⟩
        clear g0 g1 g2 g3 g4 g5 g6 g7 g8 g9 HPL
        obtain ⟨f0, f1, f2, f3, f4, f5, f6, f7, f8, f9⟩ := (HF7.out.1.below h8 HF7.out.1.lt).facts
        obtain ⟨g0, g1, g2, g3, g4, g5, g6, g7, g8, g9⟩ := (HF7.out.2.below h8 HF7.out.2.lt).facts
        have hbk := HBW.out.trans (h8.mono HBW.out.size)
        have HK := Lib.hid (keptRule_c w8 KA RA (some ⟨gA, 0, none⟩) A n (n + 2) c TA (HSL.out w8 hbk).1 (Sl.of_own (own_below HA7.out h8)) (Nat.le_refl _) (by have := HN.out.1; simp only [maxLen]; omega))
        clear hbk
        unfold ruleV at HK
        go_wp2_with fail
        refine (HK.out).mono ?_
        rintro x w9 ⟨rfl, h9'⟩
        have h9 := h8.trans (h9'.mono h8.size)
        clear HK f0 f1 f2 f3 f4 f5 f6 f7 f8 f9 g0 g1 g2 g3 g4 g5 g6 g7 g8 g9 h8 h9'
        obtain ⟨f0, f1, f2, f3, f4, f5, f6, f7, f8, f9⟩ := (HF7.out.1.below h9 HF7.out.1.lt).facts
        obtain ⟨g0, g1, g2, g3, g4, g5, g6, g7, g8, g9⟩ := (HF7.out.2.below h9 HF7.out.2.lt).facts
        have hbk := HBW.out.trans (h9.mono HBW.out.size)
        have HK := Lib.hid (keptRule_c w9 KB RB (some ⟨gB, 0, none⟩) B m (m + 2) d TB (HSL.out w9 hbk).2.1 (Sl.of_own (own_below HB7.out h9)) (Nat.le_refl _) (by have := HN.out.2.1; simp only [maxLen]; omega))
        clear hbk
        unfold ruleV at HK
        go_wp2_with fail
        refine (HK.out).mono ?_
        rintro x w10 ⟨rfl, h10'⟩
        have h10 := h9.trans (h10'.mono h9.size)
        clear HK f0 f1 f2 f3 f4 f5 f6 f7 f8 f9 g0 g1 g2 g3 g4 g5 g6 g7 g8 g9 h9 h10'
        obtain ⟨f0, f1, f2, f3, f4, f5, f6, f7, f8, f9⟩ := (HF7.out.1.below h10 HF7.out.1.lt).facts
        obtain ⟨g0, g1, g2, g3, g4, g5, g6, g7, g8, g9⟩ := (HF7.out.2.below h10 HF7.out.2.lt).facts
        have hbk := HBW.out.trans (h10.mono HBW.out.size)
        have HK := Lib.hid (kept_c w10 (some ⟨gP, 0, none⟩) P l (l + 2) e Q (HSL.out w10 hbk).2.2 (Sl.of_own (own_below HP7.out h10)) (Nat.le_refl _) (by have := HN.out.2.2; simp only [maxLen]; omega))
        clear hbk
        unfold ruleV at HK
        go_wp2_with fail
        refine (HK.out).mono ?_
        rintro x w11 ⟨rfl, h11'⟩
        have h11 := h10.trans (h11'.mono h10.size)
        clear HK f0 f1 f2 f3 f4 f5 f6 f7 f8 f9 g0 g1 g2 g3 g4 g5 g6 g7 g8 g9 h10 h11'
        have HBB := Lib.hid (hb.out.trans ((HBW.out.trans (h11.mono HBW.out.size)).mono hb.out.size))
        clear h11
        go_wp2_with fail
        exact ⟨⟨i + 1, by omega, by omega, by go_num, HBB⟩, by simp [intOf]; omega⟩
      · have h8' : ¬ (i : Int) < 8 := by omega
        have hlt' : (i : Int) < (M : Int) := by omega
        go_wp2_with fail
        go_ret
        exact ⟨rfl, hb.out⟩
    · have hlt' : ¬ (i : Int) < (M : Int) := by omega
      go_wp2_with fail
      go_ret
      exact ⟨rfl, hb.out⟩
end Go.Proofs.YtpllojpgpejfmaaGreatDoor
