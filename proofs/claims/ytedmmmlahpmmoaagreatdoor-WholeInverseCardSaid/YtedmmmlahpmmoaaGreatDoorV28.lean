/- Whether a rule is one to one: inject.One: its answer is that no live pair is apart. Condition: the table reads from memory; the error variables hold what E says. The inverse of the least radius: inverse.find, inverse.Rule. Condition: the table reads from memory; the error variables hold what E says. -/
import Derived.Test.YtedmmmlahpmmoaaGreatDoorV8
import Derived.Test.YtedmmmlahpmmoaaGreatDoorV24
import Derived.Test.YtedmmmlahpmmoaaGreatDoorV27
namespace Go.Proofs.YtedmmmlahpmmoaaGreatDoor
open Go.RowKit RuleP TarjP PairP

/-- A verdict with two rows, whatever they are, and an error. -/
def RowsV (e : Ending) (b : Bool) (v : Value) : Prop := ∃ (P1 : Option Addr) (n1 a1 : Nat) (P2 : Option Addr) (n2 a2 : Nat) (P3 : Option Addr) (n3 a3 : Nat) (Q1 : Option Addr) (m1 b1 : Nat) (Q2 : Option Addr) (m2 b2 : Nat) (Q3 : Option Addr) (m3 b3 : Nat),
  e = .returned (.tuple #[.bool b, .agg #[.int .i64 0, .slice P1 n1 a1, .slice P2 n2 a2, .slice P3 n3 a3], .agg #[.int .i64 0, .slice Q1 m1 b1, .slice Q2 m2 b2, .slice Q3 m3 b3], v])
def sInject : ByteArray := ⟨#[105, 110, 106, 101, 99, 116]⟩
/-- What pairs.Graph answers to no small rule. -/
theorem graphBad_c (w : World) (E : Nat → Addr) (hE : Errs w E) (K R : Int) (A : Option Addr) (n c : Nat) (T : List Int) (hT : Sl w A n (T.map (Value.int .i64))) (hm : n ≤ 9223372036854775807) (tl : Tale) (hs : small K R T = some tl) :
    Calls Tryz.prog 39 #[ruleV K R A n c] w fun e w' => ∃ v, e = .returned (.tuple #[.slice none 0 0, v]) ∧ ErrV w' E (some (tl.1, (sPairs, 0) :: tl.2)) v ∧ Below w.heap.size w w' := by
  have hb1 := (Below.refl w.heap.size w).alloc (Nat.le_refl _) (.cells #[.int .i64 K, .int .i64 R, .slice A n c] 24)
  have hr1 := RuleAt.new w (.int .i64 K) (.int .i64 R) (.slice A n c)
  obtain ⟨r0, r1, r2, _⟩ := hr1.facts
  obtain ⟨w1, hw1⟩ : ∃ w1, w.alloc (.cells #[.int .i64 K, .int .i64 R, .slice A n c] 24) = w1 := ⟨_, rfl⟩
  rw [hw1] at hb1
  have HWK := Lib.hid (working_bad w1 E (hE.below hb1) K R A n c T (hT.below hb1) hm tl hs)
  have HW1 := Lib.hid hw1
  have HB1 := Lib.hid hb1
  unfold ruleV at HWK ⊢
  clear hw1 hb1 hr1 hE hT hs
  go_enter Tryz.func39, Tryz.ntmps39
  go_wp2_with fail
  rw [HW1.out]
  refine (HWK.out).mono ?_
  rintro e w2 ⟨C, N, cc, v, rfl, _, he, hb2⟩
  unfold ruleV
  obtain ⟨u, p, rfl⟩ := ErrIs.iface (show ErrIs w2 E tl.1 ((sPairs, 0) :: tl.2) v from he)
  have hb3 := (Below.refl w2.heap.size w2).alloc (Nat.le_refl _) (.cells #[.int .i64 0, .int .i64 0, .slice C N cc] 24)
  have HV := Lib.hid (he.below hb3)
  have HB := Lib.hid ((HB1.out.trans (hb2.mono HB1.out.size)).trans (hb3.mono (HB1.out.trans (hb2.mono HB1.out.size)).size))
  clear he hb2 hb3 HWK
  go_wp2_with fail
  go_ret2
  exact ⟨_, rfl, HV.out, HB.out⟩

/-- Three blocks at the head: the rule, two rows of noughts. -/
theorem one_head (w : World) (K R : Value) (T : Value) : ∃ w3, ((w.alloc (.cells #[K, R, T] 24)).alloc (.cells #[.int .i64 0, .slice none 0 0, .slice none 0 0, .slice none 0 0] 26)).alloc (.cells #[.int .i64 0, .slice none 0 0, .slice none 0 0, .slice none 0 0] 26) = w3 ∧
    RuleAt w3 w.heap.size K R T ∧ RowAt w3 (w.heap.size + 1) (.int .i64 0) (.slice none 0 0) (.slice none 0 0) (.slice none 0 0) ∧ RowAt w3 (w.heap.size + 1 + 1) (.int .i64 0) (.slice none 0 0) (.slice none 0 0) (.slice none 0 0) ∧ Below w.heap.size w w3 := by
  refine ⟨_, rfl, ((RuleAt.new w K R T).alloc _).alloc _, ?_, ?_, ((Below.refl w.heap.size w).alloc (Nat.le_refl _) _).alloc (by simp) _ |>.alloc (by simp; omega) _⟩
  · have h := (RowAt.new (w.alloc (.cells #[K, R, T] 24)) (.int .i64 0) (.slice none 0 0) (.slice none 0 0) (.slice none 0 0)).alloc (.cells #[.int .i64 0, .slice none 0 0, .slice none 0 0, .slice none 0 0] 26)
    rw [World.size_alloc] at h
    exact h
  · have h := RowAt.new ((w.alloc (.cells #[K, R, T] 24)).alloc (.cells #[.int .i64 0, .slice none 0 0, .slice none 0 0, .slice none 0 0] 26)) (.int .i64 0) (.slice none 0 0) (.slice none 0 0) (.slice none 0 0)
    rw [World.size_alloc, World.size_alloc] at h
    exact h

theorem RowAt.newA (X : World) (a : Nat) (h : X.heap.size = a) (x0 x1 x2 x3 : Value) : RowAt (X.alloc (.cells #[x0, x1, x2, x3] 26)) a x0 x1 x2 x3 := by
  subst h
  exact RowAt.new X x0 x1 x2 x3
theorem RowAt.drewA {w : World} {g : Nat} {x0 x1 x2 x3 : Value} (h : RowAt w g x0 x1 x2 x3) : RowAt w.drew g x0 x1 x2 x3 := h
theorem RowAt.belowS {w w' : World} {g : Nat} {x0 x1 x2 x3 : Value} (hb : Below w.heap.size w w') (h : RowAt w g x0 x1 x2 x3) : RowAt w' g x0 x1 x2 x3 := h.below hb h.lt
/-- Two rows written over. -/
theorem rows_set8 {w : World} {p q : Nat} {x0 x1 x2 x3 y0 y1 y2 y3 : Value} (hne : p ≠ q) (hp : RowAt w p x0 x1 x2 x3) (hq : RowAt w q y0 y1 y2 y3) (a0 a1 a2 a3 b0 b1 b2 b3 : Value) :
    ∃ W, ((((((((w.setCell ⟨p, 0, none⟩ a0).setCell ⟨p, 1, none⟩ a1).setCell ⟨p, 2, none⟩ a2).setCell ⟨p, 3, none⟩ a3).setCell ⟨q, 0, none⟩ b0).setCell ⟨q, 1, none⟩ b1).setCell ⟨q, 2, none⟩ b2).setCell ⟨q, 3, none⟩ b3) = W ∧
      RowAt W p a0 a1 a2 a3 ∧ RowAt W q b0 b1 b2 b3 ∧ Keeps (fun k => k = p ∨ k = q) w W := by
  have k1 := keeps_set4 w p a0 a1 a2 a3
  have h1 := hp.set4 a0 a1 a2 a3
  have h2 := hq.keeps k1 (fun e => hne e.symm)
  generalize ((((w.setCell ⟨p, 0, none⟩ a0).setCell ⟨p, 1, none⟩ a1).setCell ⟨p, 2, none⟩ a2).setCell ⟨p, 3, none⟩ a3) = v at k1 h1 h2 ⊢
  have k2 := keeps_set4 v q b0 b1 b2 b3
  exact ⟨_, rfl, h1.keeps k2 hne, h2.set4 b0 b1 b2 b3, (k1.mono (fun _ _ h => .inl h)).trans k2 (fun _ _ h => .inr h)⟩

/-- Two new rows. -/
theorem rows_new2 (w : World) (B : Nat) (a0 a1 a2 a3 b0 b1 b2 b3 : Value) : ∃ W, ((w.alloc (.cells #[a0, a1, a2, a3] 26)).alloc (.cells #[b0, b1, b2, b3] 26)) = W ∧
    RowAt W w.heap.size a0 a1 a2 a3 ∧ RowAt W (w.heap.size + 1) b0 b1 b2 b3 ∧ Keeps (fun k => B ≤ k) w W := by
  refine ⟨_, rfl, (RowAt.new w a0 a1 a2 a3).alloc _, ?_, Keeps.of_pure (((Below.refl w.heap.size w).alloc (Nat.le_refl _) _).alloc (by simp) _) _⟩
  have h := RowAt.new (w.alloc (.cells #[a0, a1, a2, a3] 26)) b0 b1 b2 b3
  rw [World.size_alloc] at h
  exact h
/-- A row written over and a new one. -/
theorem rows_mix {w : World} {p B : Nat} {x0 x1 x2 x3 : Value} (hB : B ≤ p) (hp : RowAt w p x0 x1 x2 x3) (a0 a1 a2 a3 b0 b1 b2 b3 : Value) : ∃ W, (((((w.setCell ⟨p, 0, none⟩ a0).setCell ⟨p, 1, none⟩ a1).setCell ⟨p, 2, none⟩ a2).setCell ⟨p, 3, none⟩ a3).alloc (.cells #[b0, b1, b2, b3] 26)) = W ∧
    RowAt W p a0 a1 a2 a3 ∧ RowAt W w.heap.size b0 b1 b2 b3 ∧ Keeps (fun k => B ≤ k) w W := by
  have k1 := keeps_set4 w p a0 a1 a2 a3
  have h1 := hp.set4 a0 a1 a2 a3
  have hs : ((((w.setCell ⟨p, 0, none⟩ a0).setCell ⟨p, 1, none⟩ a1).setCell ⟨p, 2, none⟩ a2).setCell ⟨p, 3, none⟩ a3).heap.size = w.heap.size := by simp
  generalize ((((w.setCell ⟨p, 0, none⟩ a0).setCell ⟨p, 1, none⟩ a1).setCell ⟨p, 2, none⟩ a2).setCell ⟨p, 3, none⟩ a3) = v at k1 h1 hs ⊢
  refine ⟨_, rfl, h1.alloc _, RowAt.newA v _ hs _ _ _ _, (k1.mono (fun k _ e => by have h2 : k = p := e; omega)).trans (Keeps.of_pure ((Below.refl v.heap.size v).alloc (Nat.le_refl _) _) (fun _ => False)) (fun _ _ h => h.elim)⟩
/-- What the region leaves. -/
theorem rows_pair {w5 w6 : World} {p q : Nat} (W : World) {a0 a1 a2 a3 b0 b1 b2 b3 : Value} (h : RowAt W p a0 a1 a2 a3 ∧ RowAt W q b0 b1 b2 b3 ∧ Keeps (fun k => k = p ∨ k = q) w6 W) (hp : w5.heap.size ≤ p) (hq : w5.heap.size ≤ q) : RowAt W p a0 a1 a2 a3 ∧ RowAt W q b0 b1 b2 b3 ∧ Keeps (fun k => w5.heap.size ≤ k) w6 W :=
  ⟨h.1, h.2.1, h.2.2.mono (fun k _ e => by omega)⟩

set_option maxRecDepth 100000 in
set_option maxHeartbeats 2000000 in
theorem one_bad (w : World) (E : Nat → Addr) (hE : Errs w E) (K R : Int) (A : Option Addr) (n c : Nat) (T : List Int) (hT : Sl w A n (T.map (Value.int .i64))) (hm : n ≤ 9223372036854775807) (tl : Tale) (hs : small K R T = some tl) :
    Calls Tryz.prog 28 #[ruleV K R A n c] w fun e w' => ∃ v, RowsV e false v ∧ ErrV w' E (under sInject 0 (some (tl.1, (sPairs, 0) :: tl.2))) v ∧ Below w.heap.size w w' := by
  obtain ⟨w3, hw3, hr, hz3, hz4, b3⟩ := one_head w (.int .i64 K) (.int .i64 R) (.slice A n c)
  obtain ⟨r0, r1, r2, _⟩ := hr.facts
  have HGR := Lib.hid (graphBad_c w3 E (hE.below b3) K R A n c T (hT.below b3) hm tl hs)
  have HW3 := Lib.hid hw3
  have HZ := Lib.hid (And.intro hz3 hz4)
  have B3 := Lib.hid b3
  rw [← hw3] at r0 r1 r2
  unfold ruleV at HGR ⊢
  clear hw3 b3 hr hz3 hz4 hE hT hs
  go_enter Tryz.func28, Tryz.ntmps28
  go_wp2_with fail
  rw [HW3.out]
  clear r0 r1 r2
  refine (HGR.out).mono ?_
  rintro e w4 ⟨v, rfl, he, hb4⟩
  obtain ⟨u, p, rfl⟩ := ErrIs.iface (show ErrIs w4 E tl.1 ((sPairs, 0) :: tl.2) v from he)
  have HU := Lib.hid (under_c w4 E sInject 0 _ _ he)
  have B4 := Lib.hid (B3.out.trans (hb4.mono B3.out.size))
  have HZ4 := Lib.hid (And.intro (HZ.out.1.below hb4 HZ.out.1.lt) (HZ.out.2.below hb4 HZ.out.2.lt))
  clear he hb4 HGR
  go_wp2_with fail
  refine (HU.out).mono ?_
  rintro e w5 ⟨v', rfl, he, hb⟩
  obtain ⟨u2, p2, rfl⟩ : ∃ u p, v' = .iface u p := ErrIs.iface (show ErrIs w5 E tl.1 _ v' from he)
  have B5 := Lib.hid (B4.out.trans (hb.mono B4.out.size))
  have hz3 := HZ4.out.1.below hb HZ4.out.1.lt
  have hz4 := HZ4.out.2.below hb HZ4.out.2.lt
  obtain ⟨f0, f1, f2, f3, f4, f5, f6, f7⟩ := hz3.facts
  obtain ⟨g0, g1, g2, g3, g4, g5, g6, g7⟩ := hz4.facts
  have HE := Lib.hid he
  clear he hb HU
  go_wp2_with fail
  obtain ⟨w6, hw6, hx, hy, hk⟩ := rows_set8 (p := w.heap.size + 1) (q := w.heap.size + 1 + 1) (by omega) hz3 hz4 (.int .i64 0) (.slice none 0 0) (.slice none 0 0) (.slice none 0 0) (.int .i64 0) (.slice none 0 0) (.slice none 0 0) (.slice none 0 0)
  rw [hw6]
  clear f0 f1 f2 f3 f4 f5 f6 f7 g0 g1 g2 g3 g4 g5 g6 g7
  obtain ⟨f0, f1, f2, f3, _⟩ := hx.facts
  obtain ⟨g0, g1, g2, g3, _⟩ := hy.facts
  have hb6 := B5.out.trans (hk.below B5.out.size (fun b e => by omega))
  have he6 := ErrIs.keeps' hk (fun b cs hb e => by
    rcases hb with rfl | rfl
    · rw [hz3] at e; exact absurd e (by simp)
    · rw [hz4] at e; exact absurd e (by simp)) HE.out
  exact bodyPost_ret (v := .tuple #[.bool false, .agg #[.int .i64 0, .slice none 0 0, .slice none 0 0, .slice none 0 0], .agg #[.int .i64 0, .slice none 0 0, .slice none 0 0, .slice none 0 0], .iface u2 p2]) (by simp [results, Tryz.results28, go_sem, f0, f1, f2, f3, g0, g1, g2, g3]) rfl ⟨_, ⟨_, _, _, _, _, _, _, _, _, _, _, _, _, _, _, _, _, _, rfl⟩, he6, hb6⟩
set_option maxRecDepth 100000 in
set_option maxHeartbeats 4000000 in
theorem one_good (w : World) (E : Nat → Addr) (hE : Errs w E) (k r n c : Nat) (A : Option Addr) (t : List Nat) (hT : Sl w A n ((ints t).map (Value.int .i64))) (hr : IsRule k r t) (h64 : t.length ≤ 64) :
    Calls Tryz.prog 28 #[ruleV (k : Int) (r : Int) A n c] w fun e w' => RowsV e (decide (apartP (k ^ (2 * workR r)) (pairG k (k ^ (2 * workR r)) (workT k r t)) = [])) .nilIface ∧ Below w.heap.size w w' := by
  have h256 : t.length ≤ 256 := by omega
  have hk1 := hr.k1
  have hN := work_small hr h64
  obtain ⟨N, hNe⟩ : ∃ N, k ^ (2 * workR r) = N := ⟨_, rfl⟩
  have hN0 : 0 < N := by rw [← hNe]; exact Nat.pow_pos hr.k1
  obtain ⟨hg, hgl, hM2, hM0, hsum⟩ := pairs_graph (k := k) (workT k r t) hN0 (by rw [← hNe]; exact hN)
  obtain ⟨M, hMe⟩ : ∃ M, N * N = M := ⟨_, rfl⟩
  obtain ⟨w3, hw3, hru, hz3, hz4, b3⟩ := one_head w (.int .i64 (k : Int)) (.int .i64 (r : Int)) (.slice A n c)
  obtain ⟨r0, r1, r2, _⟩ := hru.facts
  have HGR := Lib.hid (graph_c w3 E (hE.below b3) k r n c A t (hT.below b3) hr h256)
  have HAP := Lib.hid (fun (wz : World) (hz : Below w.heap.size w wz) => apart_c wz E (hE.below hz) k r n c A t (hT.below hz) hr h64)
  rw [hNe] at HGR
  simp only [hNe] at HAP ⊢
  obtain ⟨g, hge⟩ : ∃ g, pairG k N (workT k r t) = g := ⟨_, rfl⟩
  rw [hge] at HGR hg hgl hsum
  simp only [hge] at HAP ⊢
  rw [hMe] at HGR
  have HWI := Lib.hid (fun (wz : World) (C : Option Addr) (v : Nat) (hv : v ∈ liveP g) (hG : ListAt wz C M (g.map ints)) => witness_c wz k N C M g v hk1 hN0 (by rw [← hNe]; exact hN) hMe hg (by rw [hgl, hMe]) hv hG hsum)
  have HAL := Lib.hid (show ∀ v ∈ apartP N g, v ∈ liveP g from fun v hv => (List.mem_filter.1 hv).1)
  obtain ⟨L, hL⟩ : ∃ L, apartP N g = L := ⟨_, rfl⟩
  simp only [hL] at HAP HAL ⊢
  have HW3 := Lib.hid hw3
  have HR := Lib.hid hru
  have HZ := Lib.hid (And.intro hz3 hz4)
  have B3 := Lib.hid b3
  rw [← hw3] at r0 r1 r2
  unfold ruleV at HGR HAP ⊢
  clear hw3 b3 hru hz3 hz4 hE hT hr h64 h256 hN hNe hg hgl hM2 hM0 hsum hMe hge hL
  go_enter Tryz.func28, Tryz.ntmps28
  go_wp2_with fail
  rw [HW3.out]
  clear r0 r1 r2
  refine (HGR.out).mono ?_
  rintro e w4 ⟨C, M', rfl, hM', hG, hb4⟩
  obtain rfl := hM'
  have B4 := Lib.hid (B3.out.trans (hb4.mono B3.out.size))
  have HR4 := Lib.hid (HR.out.below hb4 HR.out.lt)
  have HZ4 := Lib.hid (And.intro (HZ.out.1.below hb4 HZ.out.1.lt) (HZ.out.2.below hb4 HZ.out.2.lt))
  have HG4 := Lib.hid hG
  have HAP4 := Lib.hid (HAP.out w4 B4.out)
  obtain ⟨r0, r1, r2, _⟩ := HR4.out.facts
  clear hG hb4 HGR
  go_wp2_with fail
  refine (HAP4.out).mono ?_
  rintro e w5 ⟨D, m, d, rfl, ho, hb5⟩
  have B5 := Lib.hid (B4.out.trans (hb5.mono B4.out.size))
  have HR5 := Lib.hid (HR4.out.below hb5 HR4.out.lt)
  have HZ5 := Lib.hid (And.intro (HZ4.out.1.below hb5 HZ4.out.1.lt) (HZ4.out.2.below hb5 HZ4.out.2.lt))
  have HG5 := Lib.hid (HG4.out.keep hb5)
  have HO := Lib.hid ho
  clear ho hb5 r0 r1 r2 HAP4
  obtain ⟨r0, r1, r2, _⟩ := HR5.out.facts
  obtain ⟨f0, f1, f2, f3, f4, f5, f6, f7⟩ := HZ5.out.1.facts
  obtain ⟨g0, g1, g2, g3, g4, g5, g6, g7⟩ := HZ5.out.2.facts
  have hLm : L.length = m := by have := HO.out.1; simpa [ints] using this
  by_cases hm0 : m = 0
  · have hm0' : (m : Int) = 0 := by omega
    have HL0 := Lib.hid (show L = [] from List.eq_nil_of_length_eq_zero (by omega))
    subst hm0
    clear hLm hm0'
    go_wp2_with fail
    obtain ⟨w6, hw6, hx, hy, hk⟩ := rows_set8 (p := w.heap.size + 1) (q := w.heap.size + 1 + 1) (by omega) HZ5.out.1 HZ5.out.2 (.int .i64 0) (.slice none 0 0) (.slice none 0 0) (.slice none 0 0) (.int .i64 0) (.slice none 0 0) (.slice none 0 0) (.slice none 0 0)
    rw [hw6]
    clear f0 f1 f2 f3 f4 f5 f6 f7 g0 g1 g2 g3 g4 g5 g6 g7
    obtain ⟨f0, f1, f2, f3, _⟩ := hx.facts
    obtain ⟨g0, g1, g2, g3, _⟩ := hy.facts
    have hb6 := B5.out.trans (hk.below B5.out.size (fun b e => by omega))
    have hd : decide (L = []) = true := decide_eq_true HL0.out
    exact bodyPost_ret (v := .tuple #[.bool true, .agg #[.int .i64 0, .slice none 0 0, .slice none 0 0, .slice none 0 0], .agg #[.int .i64 0, .slice none 0 0, .slice none 0 0, .slice none 0 0], .nilIface]) (by simp [results, Tryz.results28, go_sem, f0, f1, f2, f3, g0, g1, g2, g3]) rfl ⟨by rw [hd]; exact ⟨_, _, _, _, _, _, _, _, _, _, _, _, _, _, _, _, _, _, rfl⟩, hb6⟩
  · have hm0' : ¬ (m : Int) = 0 := by omega
    have hm1 : (0 : Int) < (m : Int) := by omega
    have hm2 : 0 < m := by omega
    have hd : decide (L = []) = false := decide_eq_false (fun e => by rw [e] at hLm; simp at hLm; omega)
    have HD := Lib.hid hd
    obtain ⟨v, L', hLv⟩ : ∃ v L', L = v :: L' := by
      cases L with
      | nil => simp at hLm; omega
      | cons v L' => exact ⟨v, L', rfl⟩
    obtain ⟨gd, hgd, cv⟩ := ownN_cell HO.out (j := 0) (u := .int .i64 (v : Int)) (by rw [hLv]; rfl)
    subst hgd
    have HWI5 := Lib.hid (fun (wz : World) (hz : Below w5.heap.size w5 wz) => HWI.out wz C v (HAL.out v (by rw [hLv]; exact List.mem_cons_self)) (HG5.out.keep hz))
    clear hLv hLm hd f0 f1 f2 f3 f4 f5 f6 f7 g0 g1 g2 g3 g4 g5 g6 g7
    go_upto_region 7 with fail
    have HRR := Lib.hid (fun (wz : World) (hz : Below w5.heap.size w5 wz) => (⟨cell_later hz r0, cell_later hz cv⟩ : wz.cell? ⟨w.heap.size, 0, none⟩ = some (.int .i64 (k : Int)) ∧ wz.cell? ⟨gd, 0, none⟩ = some (.int .i64 (v : Int))))
    have hl0 : w.heap.size < w5.heap.size := HR5.out.lt
    have hl1 : gd < w5.heap.size := (HO.out.lt gd rfl).2
    have hi1 : ¬ w5.heap.size = w.heap.size := by omega
    have hi2 : ¬ w5.heap.size + 1 = w.heap.size := by omega
    have hi3 : ¬ w5.heap.size = gd := by omega
    have hi4 : ¬ w5.heap.size + 1 = gd := by omega
    have hi5 : ¬ w.heap.size = w5.heap.size := by omega
    have hi6 : ¬ w.heap.size = w5.heap.size + 1 := by omega
    have hi7 : ¬ gd = w5.heap.size := by omega
    have hi8 : ¬ gd = w5.heap.size + 1 := by omega
    go_region_held3 (fun wz => wz.cell? ⟨w.heap.size, 0, none⟩ = some (.int .i64 (k : Int)) ∧ wz.cell? ⟨gd, 0, none⟩ = some (.int .i64 (v : Int)))
      (first | (refine ⟨?_, ?_⟩ <;> with_reducible assumption) | go_keep)
      (first
        | (go_simp
           go_at_call 41
           with_reducible refine (HWI5.out _ ?_).mono ?_
           · repeat (first | with_reducible exact Below.refl _ _ | with_reducible refine bl_dr ?_ | with_reducible refine bl_al (Nat.le_refl _) _ ?_)
           rintro e w6 ⟨⟨P1, n1, a1, P2, n2, a2, P3, n3, a3, Q1, b1, Q2, b2, Q3, b3, rfl⟩, hb6⟩
           have hB6 : Below w5.heap.size w5 w6 := by
             refine bl_call (Nat.le_refl _) hb6 ?_
             repeat (first | with_reducible exact Below.refl _ _ | with_reducible refine bl_dr ?_ | with_reducible refine bl_al (Nat.le_refl _) _ ?_)
           obtain ⟨z0, z1⟩ := HRR.out w6 hB6
           have hl2 : w.heap.size < w6.heap.size := Nat.lt_of_lt_of_le hl0 hB6.size
           have hl3 : gd < w6.heap.size := Nat.lt_of_lt_of_le hl1 hB6.size
           first
             | (have hq : RowAt w6 w5.heap.size (.int .i64 0) (.slice none 0 0) (.slice none 0 0) (.slice none 0 0) := by
                  refine RowAt.belowS hb6 ?_
                  repeat (first | with_reducible refine RowAt.drewA ?_ | (with_reducible refine RowAt.newA _ _ ?_ _ _ _ _; simp; done) | with_reducible refine RowAt.alloc ?_ _)
                  done
                have ql := hq.lt
                have hqR := hq
                obtain ⟨q0, q1, q2, q3, q4, q5, q6, q7⟩ := hq.facts)
             | skip
           first
             | (have hp : RowAt w6 (w5.heap.size + 1) (.int .i64 0) (.slice none 0 0) (.slice none 0 0) (.slice none 0 0) := by
                  refine RowAt.belowS hb6 ?_
                  repeat (first | with_reducible refine RowAt.drewA ?_ | (with_reducible refine RowAt.newA _ _ ?_ _ _ _ _; simp; done) | with_reducible refine RowAt.alloc ?_ _)
                  done
                have pl := hp.lt
                have hpR := hp
                obtain ⟨p0, p1, p2, p3, p4, p5, p6, p7⟩ := hp.facts)
             | skip
           dsimp only)
        | fail)
    all_goals
      have hl6 := hB6.size
      have hzz3 := HZ5.out.1.below hB6 HZ5.out.1.lt
      have hzz4 := HZ5.out.2.below hB6 HZ5.out.2.lt
      have hlz3 := HZ5.out.1.lt
      have hlz4 := HZ5.out.2.lt
      first
        | (obtain ⟨W, hW, hX, hY, hK⟩ := rows_new2 w6 w5.heap.size (.int .i64 0) (.slice P1 n1 a1) (.slice P2 n2 a2) (.slice P3 n3 a3) (.int .i64 0) (.slice Q1 n1 b1) (.slice Q2 n2 b2) (.slice Q3 n3 b3)
           rw [hW]
           obtain ⟨p, hp⟩ : ∃ p, w6.heap.size = p := ⟨_, rfl⟩
           obtain ⟨q, hq⟩ : ∃ q, p + 1 = q := ⟨_, rfl⟩
           rw [hp] at hX hY ⊢
           rw [hq] at hY ⊢)
        | (obtain ⟨W, hW, hY, hX, hK⟩ := rows_new2 w6 w5.heap.size (.int .i64 0) (.slice Q1 n1 b1) (.slice Q2 n2 b2) (.slice Q3 n3 b3) (.int .i64 0) (.slice P1 n1 a1) (.slice P2 n2 a2) (.slice P3 n3 a3)
           rw [hW]
           obtain ⟨q, hq⟩ : ∃ q, w6.heap.size = q := ⟨_, rfl⟩
           obtain ⟨p, hp⟩ : ∃ p, q + 1 = p := ⟨_, rfl⟩
           rw [hq] at hX hY ⊢
           rw [hp] at hX ⊢)
        | (obtain ⟨W, hW, hX, hY, hK⟩ := rows_mix (B := w5.heap.size) (Nat.le_refl _) hqR (.int .i64 0) (.slice P1 n1 a1) (.slice P2 n2 a2) (.slice P3 n3 a3) (.int .i64 0) (.slice Q1 n1 b1) (.slice Q2 n2 b2) (.slice Q3 n3 b3)
           rw [hW]
           obtain ⟨p, hp⟩ : ∃ p, w5.heap.size = p := ⟨_, rfl⟩
           obtain ⟨q, hq⟩ : ∃ q, w6.heap.size = q := ⟨_, rfl⟩
           have hpq : p < q := by omega
           rw [hp] at hX ⊢
           rw [hq] at hY ⊢)
        | (obtain ⟨W, hW, hY, hX, hK⟩ := rows_mix (B := w5.heap.size) (Nat.le_refl _) hqR (.int .i64 0) (.slice Q1 n1 b1) (.slice Q2 n2 b2) (.slice Q3 n3 b3) (.int .i64 0) (.slice P1 n1 a1) (.slice P2 n2 a2) (.slice P3 n3 a3)
           rw [hW]
           obtain ⟨q, hq⟩ : ∃ q, w5.heap.size = q := ⟨_, rfl⟩
           obtain ⟨p, hp⟩ : ∃ p, w6.heap.size = p := ⟨_, rfl⟩
           have hpq : q < p := by omega
           rw [hq] at hY ⊢
           rw [hp] at hX ⊢)
        | (obtain ⟨W, hW, hXX⟩ := rows_set8 (p := w5.heap.size) (q := w5.heap.size + 1) (by omega) hqR hpR (.int .i64 0) (.slice P1 n1 a1) (.slice P2 n2 a2) (.slice P3 n3 a3) (.int .i64 0) (.slice Q1 n1 b1) (.slice Q2 n2 b2) (.slice Q3 n3 b3)
           rw [hW]
           obtain ⟨hX, hY, hK⟩ := rows_pair (w5 := w5) W hXX (by omega) (by omega)
           clear hXX
           obtain ⟨p, hp⟩ : ∃ p, w5.heap.size = p := ⟨_, rfl⟩
           obtain ⟨q, hq⟩ : ∃ q, p + 1 = q := ⟨_, rfl⟩
           rw [hp] at hX hY ⊢
           rw [hq] at hY ⊢)
        | (obtain ⟨W, hW, hXX⟩ := rows_set8 (p := w5.heap.size + 1) (q := w5.heap.size) (by omega) hpR hqR (.int .i64 0) (.slice P1 n1 a1) (.slice P2 n2 a2) (.slice P3 n3 a3) (.int .i64 0) (.slice Q1 n1 b1) (.slice Q2 n2 b2) (.slice Q3 n3 b3)
           rw [hW]
           obtain ⟨hX, hY, hK⟩ := rows_pair (w5 := w5) W hXX (by omega) (by omega)
           clear hXX
           obtain ⟨q, hq⟩ : ∃ q, w5.heap.size = q := ⟨_, rfl⟩
           obtain ⟨p, hp⟩ : ∃ p, q + 1 = p := ⟨_, rfl⟩
           rw [hq] at hX hY ⊢
           rw [hp] at hX ⊢)
        | fail
      have hWz3 := hzz3.keeps hK (by omega)
      have hWz4 := hzz4.keeps hK (by omega)
      have bW := (B5.out.trans (hB6.mono B5.out.size)).trans (hK.below (B5.out.trans (hB6.mono B5.out.size)).size (fun b e => by omega))
      have hne : p ≠ q ∧ w.heap.size + 1 + 1 < p ∧ w.heap.size + 1 + 1 < q := by omega
      have HX := Lib.hid (And.intro hX (And.intro hY (And.intro hWz3 (And.intro hWz4 (And.intro bW hne)))))
      clear hl6 hzz3 hzz4 hlz3 hlz4 hW hX hY hK hp hq hWz3 hWz4 bW hne z0 z1 hb6 hB6 hl0 hl1 hl2 hl3 hi1 hi2 hi3 hi4 hi5 hi6 hi7 hi8 r0 r1 r2 cv
      try clear q0 q1 q2 q3 q4 q5 q6 q7 ql hqR
      try clear p0 p1 p2 p3 p4 p5 p6 p7 pl hpR
      try clear hpq
      obtain ⟨hX, hY, hWz3, hWz4, _, hne1, hne2, hne3⟩ := HX.out
      obtain ⟨f0, f1, f2, f3, f4, f5, f6, f7⟩ := hX.facts
      obtain ⟨g0, g1, g2, g3, g4, g5, g6, g7⟩ := hY.facts
      obtain ⟨d0, d1, d2, d3, d4, d5, d6, d7⟩ := hWz3.facts
      obtain ⟨j0, j1, j2, j3, j4, j5, j6, j7⟩ := hWz4.facts
      have i1 : ¬ w.heap.size + 1 = p := by omega
      have i2 : ¬ w.heap.size + 1 = q := by omega
      have i3 : ¬ w.heap.size + 1 + 1 = p := by omega
      have i4 : ¬ w.heap.size + 1 + 1 = q := by omega
      have i5 : ¬ p = w.heap.size + 1 := by omega
      have i6 : ¬ q = w.heap.size + 1 := by omega
      have i7 : ¬ p = w.heap.size + 1 + 1 := by omega
      have i8 : ¬ q = w.heap.size + 1 + 1 := by omega
      clear hX hY hWz3 hWz4 hne1 hne2 hne3
      go_wp2_with fail
      go_region
      clear f0 f1 f2 f3 f4 f5 f6 f7 g0 g1 g2 g3 g4 g5 g6 g7 d0 d1 d2 d3 d4 d5 d6 d7 j0 j1 j2 j3 j4 j5 j6 j7 i1 i2 i3 i4 i5 i6 i7 i8
      obtain ⟨w8, hw8, hx, hy, hk⟩ := rows_set8 (p := w.heap.size + 1) (q := w.heap.size + 1 + 1) (by omega) HX.out.2.2.1 HX.out.2.2.2.1 (.int .i64 0) (.slice P1 n1 a1) (.slice P2 n2 a2) (.slice P3 n3 a3) (.int .i64 0) (.slice Q1 n1 b1) (.slice Q2 n2 b2) (.slice Q3 n3 b3)
      rw [hw8]
      have HB8 := Lib.hid ((HX.out.2.2.2.2.1.trans (hk.below HX.out.2.2.2.2.1.size (fun b e => by omega))).drew)
      obtain ⟨f0, f1, f2, f3, _⟩ := hx.facts
      obtain ⟨g0, g1, g2, g3, _⟩ := hy.facts
      clear hx hy hk hw8
      go_wp2_with fail
      exact bodyPost_ret (v := .tuple #[.bool false, .agg #[.int .i64 0, .slice P1 n1 a1, .slice P2 n2 a2, .slice P3 n3 a3], .agg #[.int .i64 0, .slice Q1 n1 b1, .slice Q2 n2 b2, .slice Q3 n3 b3], .nilIface]) (by simp [results, Tryz.results28, go_sem, f0, f1, f2, f3, g0, g1, g2, g3]) rfl ⟨by rw [HD.out]; exact ⟨_, _, _, _, _, _, _, _, _, _, _, _, _, _, _, _, _, _, rfl⟩, HB8.out⟩
end Go.Proofs.YtedmmmlahpmmoaaGreatDoor

namespace Go.Proofs.YtedmmmlahpmmoaaGreatDoor
open Go.RowKit RuleP TarjP PairP

def sInverse : ByteArray := ⟨#[105, 110, 118, 101, 114, 115, 101]⟩
theorem invWrong_c (w : World) (E : Nat → Addr) (hE : Errs w E) (at' : Int) (n : Nat) (h1 : 1 ≤ n) (h2 : n ≤ 11) :
    Calls Tryz.prog 29 #[.int .i64 at', .int .i64 (n : Int)] w fun e w' => e = .returned (errV w.heap.size) ∧ ErrIs w' E n [(sInverse, at')] (errV w.heap.size) ∧ Below w.heap.size w w' := by
  have HE := Lib.hid hE
  clear hE
  go_enter Tryz.func29, Tryz.ntmps29
  go_wp2_with fail
  refine (new_c w E HE.out sInverse at' n h1 h2).mono ?_
  rintro e w' ⟨rfl, rfl⟩
  go_wp2_with fail
  go_ret
  exact ⟨rfl, ⟨w.heap.size, _, rfl, heap_new _ _, rfl⟩, (Below.refl _ _).alloc (Nat.le_refl _) _⟩

/-- The table of one radius. -/
def fillR (k r : Nat) (t : List Nat) (ρ : Nat) : Bool × List Int := fillP k r t (r + ρ) (2 * (r + ρ) + 1) 0 0 0 0 (List.replicate (k ^ (2 * ρ + 1)) (-1))
/-- The least radius whose table can be filled. -/
def findP (k r : Nat) (t : List Nat) : Nat → Nat → Option (Nat × List Int)
  | 0, _ => none
  | f + 1, ρ => if (fillR k r t ρ).1 = true then some (ρ, (fillR k r t ρ).2) else findP k r t f (ρ + 1)
theorem findP_ok {k r : Nat} {t : List Nat} : ∀ (f ρ : Nat) {x : Nat × List Int}, findP k r t f ρ = some x → x.1 < ρ + f ∧ (fillR k r t x.1).1 = true ∧ x.2 = (fillR k r t x.1).2
  | 0, _, _, h => by cases h
  | f + 1, ρ, x, h => by
    rw [findP] at h
    split at h
    · rename_i h1
      cases h
      exact ⟨by omega, h1, rfl⟩
    · have := findP_ok f (ρ + 1) h
      exact ⟨by omega, this.2⟩
/-- What find answers. -/
def FindPost (w : World) (E : Nat → Addr) (yes : Bool) (k r : Nat) (t : List Nat) (e : Ending) (w' : World) : Prop :=
  (match yes, findP k r t 4 0 with
    | true, some (ρ, T) => ∃ gt : Nat, e = .returned (.tuple #[ruleV (k : Int) (ρ : Int) (some ⟨gt, 0, none⟩) T.length T.length, .nilIface]) ∧ w'.ownsRow w.heap.size 3 1 (.slice (some ⟨gt, 0, none⟩) T.length T.length) T.length (T.map (Value.int .i64))
    | true, none => ∃ v, e = .returned (.tuple #[ruleV 0 0 none 0 0, v]) ∧ ErrIs w' E 4 [(sInverse, 0)] v
    | false, _ => ∃ v, e = .returned (.tuple #[ruleV 0 0 none 0 0, v]) ∧ ErrIs w' E 9 [(sInverse, 0)] v) ∧ Below w.heap.size w w'

/-- A rule's block and one of noughts. -/
theorem find_head (w : World) (K R : Value) (T : Value) : ∃ w3, ((w.alloc (.cells #[K, R, T] 24)).alloc (.cells #[.int .i64 0, .int .i64 0, .slice none 0 0] 24)) = w3 ∧
    RuleAt w3 w.heap.size K R T ∧ RuleAt w3 (w.heap.size + 1) (.int .i64 0) (.int .i64 0) (.slice none 0 0) ∧ Below w.heap.size w w3 := by
  refine ⟨_, rfl, (RuleAt.new w K R T).alloc _, ?_, ((Below.refl w.heap.size w).alloc (Nat.le_refl _) _).alloc (by simp) _⟩
  have h := RuleAt.new (w.alloc (.cells #[K, R, T] 24)) (.int .i64 0) (.int .i64 0) (.slice none 0 0)
  rw [World.size_alloc] at h
  exact h
/-- A rule written over. -/
theorem rule_set3 {w : World} {p : Nat} {x0 x1 x2 : Value} (hp : RuleAt w p x0 x1 x2) (a0 a1 a2 : Value) :
    ∃ W, (((w.setCell ⟨p, 0, none⟩ a0).setCell ⟨p, 1, none⟩ a1).setCell ⟨p, 2, none⟩ a2) = W ∧ RuleAt W p a0 a1 a2 ∧ Keeps (fun k => k = p) w W := by
  refine ⟨_, rfl, ?_, keeps_set3 w p a0 a1 a2⟩
  unfold RuleAt at *
  simp [World.setCell, Array.getElem?_modify, hp]
/-- An error outlives a rule that is written over. -/
theorem err_set3 {w W : World} {E : Nat → Addr} {n p : Nat} {l : List (ByteArray × Int)} {v : Value} {x0 x1 x2 : Value} (he : ErrIs w E n l v) (hp : RuleAt w p x0 x1 x2) (hk : Keeps (fun k => k = p) w W) : ErrIs W E n l v :=
  ErrIs.keeps' hk (fun b cs hb e => by
    rw [show b = p from hb] at e
    unfold RuleAt at hp
    rw [hp] at e
    exact absurd e (by simp)) he

set_option maxRecDepth 100000 in
set_option maxHeartbeats 2000000 in
theorem find_bad (w : World) (E : Nat → Addr) (hE : Errs w E) (K R : Int) (A : Option Addr) (n c : Nat) (T : List Int) (hT : Sl w A n (T.map (Value.int .i64))) (hm : n ≤ 9223372036854775807) (tl : Tale) (hs : small K R T = some tl) :
    Calls Tryz.prog 15 #[ruleV K R A n c] w fun e w' => ∃ u p, e = .returned (.tuple #[ruleV 0 0 none 0 0, .iface u p]) ∧ Below w.heap.size w w' := by
  obtain ⟨w3, hw3, hr, hz, b3⟩ := find_head w (.int .i64 K) (.int .i64 R) (.slice A n c)
  obtain ⟨r0, r1, r2, _⟩ := hr.facts
  have HON := Lib.hid (one_bad w3 E (hE.below b3) K R A n c T (hT.below b3) hm tl hs)
  have HW3 := Lib.hid hw3
  have HZ := Lib.hid hz
  have B3 := Lib.hid b3
  rw [← hw3] at r0 r1 r2
  unfold ruleV at HON ⊢
  clear hw3 b3 hr hz hE hT hs
  go_enter Tryz.func15, Tryz.ntmps15
  go_wp2_with fail
  rw [HW3.out]
  clear r0 r1 r2
  refine (HON.out).mono ?_
  rintro e w4 ⟨v, ⟨P1, n1, a1, P2, n2, a2, P3, n3, a3, Q1, m1, b1, Q2, m2, b2, Q3, m3, b3, rfl⟩, he, hb4⟩
  obtain ⟨u, p, rfl⟩ : ∃ u p, v = .iface u p := ErrIs.iface (show ErrIs w4 E tl.1 _ v from he)
  have hb5 := ((Below.refl w4.heap.size w4).alloc (Nat.le_refl _) (.cells #[.int .i64 0, .slice P1 n1 a1, .slice P2 n2 a2, .slice P3 n3 a3] 26)).alloc (by simp) (.cells #[.int .i64 0, .slice Q1 m1 b1, .slice Q2 m2 b2, .slice Q3 m3 b3] 26)
  obtain ⟨w5, hw5⟩ : ∃ w5, ((w4.alloc (.cells #[.int .i64 0, .slice P1 n1 a1, .slice P2 n2 a2, .slice P3 n3 a3] 26)).alloc (.cells #[.int .i64 0, .slice Q1 m1 b1, .slice Q2 m2 b2, .slice Q3 m3 b3] 26)) = w5 := ⟨_, rfl⟩
  rw [hw5] at hb5
  have HW5 := Lib.hid hw5
  have HU := Lib.hid (under_c w5 E sInverse 0 _ _ (ErrV.below he hb5))
  have HZ5 := Lib.hid ((HZ.out.below hb4 HZ.out.lt).below hb5 (HZ.out.below hb4 HZ.out.lt).lt)
  have B5 := Lib.hid ((B3.out.trans (hb4.mono B3.out.size)).trans (hb5.mono (B3.out.trans (hb4.mono B3.out.size)).size))
  clear he hb4 hb5 hw5 HON
  go_wp2_with fail
  rw [HW5.out]
  refine (HU.out).mono ?_
  rintro e w6 ⟨v', rfl, he, hb⟩
  obtain ⟨u2, p2, rfl⟩ : ∃ u p, v' = .iface u p := ErrIs.iface (show ErrIs w6 E tl.1 _ v' from he)
  have hz6 := HZ5.out.below hb HZ5.out.lt
  have B6 := Lib.hid (B5.out.trans (hb.mono B5.out.size))
  obtain ⟨f0, f1, f2, f3, f4, f5⟩ := hz6.facts
  clear he hb HU
  go_wp2_with fail
  obtain ⟨w7, hw7, hx, hk⟩ := rule_set3 hz6 (.int .i64 0) (.int .i64 0) (.slice none 0 0)
  rw [hw7]
  clear f0 f1 f2 f3 f4 f5
  obtain ⟨f0, f1, f2, _⟩ := hx.facts
  exact bodyPost_ret (v := .tuple #[.agg #[.int .i64 0, .int .i64 0, .slice none 0 0], .iface u2 p2]) (by simp [results, Tryz.results15, go_sem, f0, f1, f2]) rfl ⟨u2, p2, rfl, B6.out.trans (hk.below B6.out.size (fun b e => by have h : b = w.heap.size + 1 := e; omega))⟩
end Go.Proofs.YtedmmmlahpmmoaaGreatDoor
