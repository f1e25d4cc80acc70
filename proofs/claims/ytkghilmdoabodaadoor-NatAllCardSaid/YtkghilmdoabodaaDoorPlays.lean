/- One call of any numbers, by the program and by the document: edenlaw02.plays returns true. Condition: the numbers read from memory; the error variables hold what E says. -/
import Derived.Test.YtkghilmdoabodaaDoorRef2E
import Derived.Test.YtkghilmdoabodaaDoorTextQ
import Derived.Test.YtkghilmdoabodaaDoorRefP
import Derived.Test.YtkghilmdoabodaaDoorNatJM
import Derived.Deep.RegionHeld3
namespace Go.Proofs.YtkghilmdoabodaaDoor
open Go.RowKit NatP

set_option maxRecDepth 100000 in
set_option maxHeartbeats 1000000 in
theorem refPow_bad (w : World) (k : Nat) (n : Int) (hn : n < 0 ∨ 1024 < n) :
    Calls Tryd.prog 40 #[.int .u32 (k : Int), .int .i64 n] w fun e w' => RefNE w 0 (some (if n < 0 then 3 else 4, [(sNat, 0)])) e w' := by
  have hw0 := WantAt.new w (.int .i64 0) (.slice none 0 0) (.slice none 0 0)
  have hb0 := (Below.refl w.heap.size w).alloc (Nat.le_refl _) (.cells #[.int .i64 0, .slice none 0 0, .slice none 0 0] 50)
  by_cases h0 : n < 0
  · rw [if_pos h0]
    have HN := Lib.hid (newB_c (w.alloc (.cells #[.int .i64 0, .slice none 0 0, .slice none 0 0] 50)) sNat 0 3)
    go_enter Tryd.func40, Tryd.ntmps40
    go_wp2_with fail
    refine (HN.out).mono ?_
    rintro e w1 ⟨A1, n1, c1, A2, n2, c2, rfl, hu, hb1⟩
    have hw1 := hw0.below hb1 (by simp)
    have hu2 := hu.set3 (g := w.heap.size) (by simp) (.int .i64 3) (.slice A1 n1 c1) (.slice A2 n2 c2)
    have hb2 := below_set3 (hb0.trans (hb1.mono (by simp))) (Nat.le_refl _) (.int .i64 3) (.slice A1 n1 c1) (.slice A2 n2 c2)
    obtain ⟨d0, d1, d2, f0, f1, f2⟩ := hw1.facts
    have HU := Lib.hid (hu2.base (base' := w.heap.size) (by simp))
    have HB := Lib.hid hb2
    clear hu hu2 hb1 hb2 hw1 hw0 hb0
    go_wp2_with fail
    exact bodyPost_ret (v := .tuple #[.slice none 0 0, .agg #[.int .i64 3, .slice A1 n1 c1, .slice A2 n2 c2]]) (by simp [results, Tryd.results40, go_sem, d0, d1, d2]) rfl (RefNE.bad (N := 3) HU.out HB.out)
  · rw [if_neg h0]
    have h1 : 1024 < n := hn.resolve_left h0
    have HN := Lib.hid (newB_c (w.alloc (.cells #[.int .i64 0, .slice none 0 0, .slice none 0 0] 50)) sNat 0 4)
    go_enter Tryd.func40, Tryd.ntmps40
    go_wp2_with fail
    refine (HN.out).mono ?_
    rintro e w1 ⟨A1, n1, c1, A2, n2, c2, rfl, hu, hb1⟩
    have hw1 := hw0.below hb1 (by simp)
    have hu2 := hu.set3 (g := w.heap.size) (by simp) (.int .i64 4) (.slice A1 n1 c1) (.slice A2 n2 c2)
    have hb2 := below_set3 (hb0.trans (hb1.mono (by simp))) (Nat.le_refl _) (.int .i64 4) (.slice A1 n1 c1) (.slice A2 n2 c2)
    obtain ⟨d0, d1, d2, f0, f1, f2⟩ := hw1.facts
    have HU := Lib.hid (hu2.base (base' := w.heap.size) (by simp))
    have HB := Lib.hid hb2
    clear hu hu2 hb1 hb2 hw1 hw0 hb0
    go_wp2_with fail
    exact bodyPost_ret (v := .tuple #[.slice none 0 0, .agg #[.int .i64 4, .slice A1 n1 c1, .slice A2 n2 c2]]) (by simp [results, Tryd.results40, go_sem, d0, d1, d2]) rfl (RefNE.bad (N := 4) HU.out HB.out)

set_option maxRecDepth 100000 in
set_option maxHeartbeats 1000000 in
theorem refOver_bad (w : World) (A : Option Addr) (n c : Nat) :
    Calls Tryd.prog 38 #[.slice A n c, .int .u32 0] w fun e w' => ∃ (A1 : Option Addr) (n1 c1 : Nat) (A2 : Option Addr) (n2 c2 : Nat), e = .returned (.tuple #[.slice none 0 0, .int .u32 0, .agg #[.int .i64 3, .slice A1 n1 c1, .slice A2 n2 c2]]) ∧
      WantB w' w.heap.size (some (3, [(sNat, 0)])) (.agg #[.int .i64 3, .slice A1 n1 c1, .slice A2 n2 c2]) ∧ Below w.heap.size w w' := by
  have hw0 := WantAt.new w (.int .i64 0) (.slice none 0 0) (.slice none 0 0)
  have hb0 := (Below.refl w.heap.size w).alloc (Nat.le_refl _) (.cells #[.int .i64 0, .slice none 0 0, .slice none 0 0] 50)
  have HN := Lib.hid (newB_c (w.alloc (.cells #[.int .i64 0, .slice none 0 0, .slice none 0 0] 50)) sNat 0 3)
  go_enter Tryd.func38, Tryd.ntmps38
  go_wp2_with fail
  refine (HN.out).mono ?_
  rintro e w1 ⟨A1, n1, c1, A2, n2, c2, rfl, hu, hb1⟩
  have hw1 := hw0.below hb1 (by simp)
  have hu2 := hu.set3 (g := w.heap.size) (by simp) (.int .i64 3) (.slice A1 n1 c1) (.slice A2 n2 c2)
  have hb2 := below_set3 (hb0.trans (hb1.mono (by simp))) (Nat.le_refl _) (.int .i64 3) (.slice A1 n1 c1) (.slice A2 n2 c2)
  obtain ⟨d0, d1, d2, f0, f1, f2⟩ := hw1.facts
  have HU := Lib.hid (hu2.base (base' := w.heap.size) (by simp))
  have HB := Lib.hid hb2
  clear hu hu2 hb1 hb2 hw1 hw0 hb0
  go_wp2_with fail
  exact bodyPost_ret (v := .tuple #[.slice none 0 0, .int .u32 0, .agg #[.int .i64 3, .slice A1 n1 c1, .slice A2 n2 c2]]) (by simp [results, Tryd.results38, go_sem, d0, d1, d2]) rfl ⟨A1, n1, c1, A2, n2, c2, rfl, HU.out, HB.out⟩

/-- What the program answers: the limbs of x, and the error of a tale. -/
def ProgNE (w : World) (E : Nat → Addr) (x : Nat) (t : Option Tale) (e : Ending) (w' : World) : Prop :=
  ∃ (C : Option Addr) (cc : Nat) (v : Value), e = .returned (.tuple #[.slice C (limbs x).length cc, v]) ∧ w'.ownsRow w.heap.size 27 1 (.slice C (limbs x).length cc) (limbs x).length ((limbs x).map wv) ∧ ErrV w' E t v ∧ Below w.heap.size w w'
theorem ProgNE.good {w : World} {E : Nat → Addr} {x : Nat} {e : Ending} {w' : World} (h : New2 w x e w') : ProgNE w E x none e w' := by
  obtain ⟨A, c, rfl, _, ho, hb⟩ := h
  exact ⟨A, c, _, rfl, ho, rfl, hb⟩
theorem ProgNE.bad {w : World} {E : Nat → Addr} {t : Tale} {e : Ending} {w' : World} (h : Bad2 w E t e w') : ProgNE w E 0 (some t) e w' := by
  obtain ⟨b, rfl, he, hb⟩ := h
  exact ⟨none, 0, _, rfl, ⟨rfl, .inl ⟨rfl, rfl⟩⟩, he, hb⟩
theorem text_n {w : World} {A : Option Addr} {n c v : Nat} (h : Num w A n c v) (m1 : n ≤ 1000000000) :
    Calls Tryd.prog 28 #[.slice A n c] w fun e w' => e = .returned (.string ⟨(textB v).toArray⟩) ∧ Below w.heap.size w w' := by
  obtain ⟨xs, a1, b1, s1, o1, rfl⟩ := h
  exact text_c w A n c xs s1 o1 a1 b1 m1
/-- What a call answers by the program and by the document. -/
def subT (v u : Nat) : Option Tale := if v < u then some (3, [(sNat, 0)]) else none
theorem subT_ok (v u : Nat) : TaleOk (subT v u) := by intro x hx; unfold subT at hx; split at hx <;> cases hx; exact ⟨by decide, by decide⟩
theorem sub_p {w : World} {E : Nat → Addr} (hE : Errs w E) {A B : Option Addr} {n c m d v u : Nat} (h1 : Num w A n c v) (h2 : Num w B m d u) (m1 : n ≤ 1000000000) :
    Calls Tryd.prog 34 #[.slice A n c, .slice B m d] w fun e w' => ProgNE w E (v - u) (subT v u) e w' := by
  unfold subT
  split
  · rename_i h
    rw [Nat.sub_eq_zero_of_le (Nat.le_of_lt h)]
    exact (subErr_n hE h1 h2 h).mono fun _ _ h => ProgNE.bad h
  · exact (sub_n h1 h2 m1 (by omega) rfl).mono fun _ _ h => ProgNE.good h
theorem sub_r {w : World} {A B : Option Addr} {n c m d v u : Nat} (h1 : Num w A n c v) (h2 : Num w B m d u) (m1 : n ≤ 1000000000) (m2 : m ≤ 1000000000) :
    Calls Tryd.prog 35 #[.slice A n c, .slice B m d] w fun e w' => RefNE w (v - u) (subT v u) e w' := by
  unfold subT
  split
  · rename_i h
    rw [Nat.sub_eq_zero_of_le (Nat.le_of_lt h)]
    exact refSub_bad h1 h2 m1 m2 h
  · exact refSub_ok h1 h2 m1 m2 (by omega)
def powV (k : Nat) (n : Int) : Nat := if n < 0 ∨ 1024 < n then 0 else k ^ n.toNat
def powT (n : Int) : Option Tale := if n < 0 ∨ 1024 < n then some (if n < 0 then 3 else 4, [(sNat, 0)]) else none
theorem powT_ok (n : Int) : TaleOk (powT n) := by
  intro x hx
  unfold powT at hx
  split at hx <;> cases hx
  constructor <;> (dsimp only; split <;> omega)
theorem pow_p (w : World) (E : Nat → Addr) (hE : Errs w E) (k : Nat) (n : Int) (hk : k < W32) :
    Calls Tryd.prog 39 #[.int .u32 (k : Int), .int .i64 n] w fun e w' => ProgNE w E (powV k n) (powT n) e w' := by
  unfold powT powV
  split
  · rename_i h
    exact (powErr_n w E hE (k : Int) n h).mono fun _ _ h => ProgNE.bad h
  · obtain ⟨m, rfl⟩ : ∃ m : Nat, n = (m : Int) := ⟨n.toNat, by omega⟩
    exact (pow_n w k m hk (by omega) rfl).mono fun _ _ h => ProgNE.good h
theorem pow_r (w : World) (k : Nat) (n : Int) (hk : k < W32) :
    Calls Tryd.prog 40 #[.int .u32 (k : Int), .int .i64 n] w fun e w' => RefNE w (powV k n) (powT n) e w' := by
  unfold powT powV
  split
  · rename_i h
    exact refPow_bad w k n h
  · obtain ⟨m, rfl⟩ : ∃ m : Nat, n = (m : Int) := ⟨n.toNat, by omega⟩
    refine (refPow_ok w k m hk (by omega)).mono ?_
    rintro e w' ⟨C, cc, rfl, _, ho, hb⟩
    exact RefNE.ok ho hb
theorem parse_p (w : World) (E : Nat → Addr) (hE : Errs w E) (l : List UInt8) :
    Calls Tryd.prog 26 #[.string ⟨l.toArray⟩] w fun e w' => ProgNE w E (pNum l) (pTale l) e w' := by
  refine (parse_c w E hE l).mono fun e w' h => ?_
  unfold ParsePost at h
  unfold pNum pTale
  split at h
  · rename_i v hv
    rw [hv]
    exact ProgNE.good (New2.of h)
  · rename_i i n hv
    rw [hv]
    exact ProgNE.bad (Bad2.of h)
theorem parse_r (w : World) (l : List UInt8) :
    Calls Tryd.prog 42 #[.string ⟨l.toArray⟩] w fun e w' => RefNE w (pNum l) (pTale l) e w' := refParse_c w l
def overT (d : Nat) : Option Tale := if d = 0 then some (3, [(sNat, 0)]) else none
def overR (v d : Nat) : Nat := if d = 0 then 0 else v % d
theorem overT_ok (d : Nat) : TaleOk (overT d) := by intro x hx; unfold overT at hx; split at hx <;> cases hx; exact ⟨by decide, by decide⟩
theorem over_p {w : World} {E : Nat → Addr} (hE : Errs w E) {A : Option Addr} {n c v d : Nat} (h1 : Num w A n c v) (hd : d < W32) (m1 : n ≤ 1000000000) :
    Calls Tryd.prog 37 #[.slice A n c, .int .u32 (d : Int)] w fun e w' => ∃ (C : Option Addr) (cc : Nat) (u : Value), e = .returned (.tuple #[.slice C (limbs (v / d)).length cc, .int .u32 ((overR v d : Nat) : Int), u]) ∧
      w'.ownsRow w.heap.size 27 1 (.slice C (limbs (v / d)).length cc) (limbs (v / d)).length ((limbs (v / d)).map wv) ∧ ErrV w' E (overT d) u ∧ Below w.heap.size w w' := by
  unfold overT overR
  rcases Nat.eq_zero_or_pos d with rfl | h0
  · rw [if_pos rfl, if_pos rfl, Nat.div_zero]
    refine (over0_n hE A n c).mono ?_
    rintro e w' ⟨b, rfl, he, hb⟩
    exact ⟨none, 0, _, rfl, ⟨rfl, .inl ⟨rfl, rfl⟩⟩, he, hb⟩
  · rw [if_neg (by omega), if_neg (by omega)]
    refine (over_n h1 h0 hd m1).mono ?_
    rintro e w' ⟨B, c', rfl, ho, hb⟩
    exact ⟨B, c', _, rfl, ho, rfl, hb⟩
theorem over_r {w : World} {A : Option Addr} {n c v d : Nat} (h1 : Num w A n c v) (hd : d < W32) (m1 : n ≤ 1000000000) :
    Calls Tryd.prog 38 #[.slice A n c, .int .u32 (d : Int)] w fun e w' => ∃ (C : Option Addr) (cc N : Nat) (A1 : Option Addr) (n1 c1 : Nat) (A2 : Option Addr) (n2 c2 : Nat), e = .returned (.tuple #[.slice C (limbs (v / d)).length cc, .int .u32 ((overR v d : Nat) : Int), .agg #[.int .i64 (N : Int), .slice A1 n1 c1, .slice A2 n2 c2]]) ∧
      w'.ownsRow w.heap.size 27 1 (.slice C (limbs (v / d)).length cc) (limbs (v / d)).length ((limbs (v / d)).map wv) ∧ WantB w' w.heap.size (overT d) (.agg #[.int .i64 (N : Int), .slice A1 n1 c1, .slice A2 n2 c2]) ∧ Below w.heap.size w w' := by
  unfold overT overR
  rcases Nat.eq_zero_or_pos d with rfl | h0
  · rw [if_pos rfl, if_pos rfl, Nat.div_zero]
    refine (refOver_bad w A n c).mono ?_
    rintro e w' ⟨A1, n1, c1, A2, n2, c2, rfl, hu, hb⟩
    exact ⟨none, 0, 3, A1, n1, c1, A2, n2, c2, rfl, ⟨rfl, .inl ⟨rfl, rfl⟩⟩, hu, hb⟩
  · rw [if_neg (by omega), if_neg (by omega)]
    refine (refOver_ok h1 h0 hd m1).mono ?_
    rintro e w' ⟨C, cc, rfl, _, ho, hb⟩
    exact ⟨C, cc, 0, none, 0, 0, none, 0, 0, rfl, ho, WantB.zero _ _, hb⟩

/-- The block holds a call's eight fields. -/
def OpAt (w : World) (g : Nat) (c0 c1 c2 c3 c4 c5 c6 c7 : Value) : Prop := w.heap[g]? = some (.cells #[c0, c1, c2, c3, c4, c5, c6, c7] 30 (0, 0))
namespace OpAt
variable {w w' : World} {g : Nat} {c0 c1 c2 c3 c4 c5 c6 c7 : Value}
theorem facts (h : OpAt w g c0 c1 c2 c3 c4 c5 c6 c7) : w.cell? ⟨g, 0, none⟩ = some c0 ∧ w.cell? ⟨g, 1, none⟩ = some c1 ∧ w.cell? ⟨g, 2, none⟩ = some c2 ∧ w.cell? ⟨g, 3, none⟩ = some c3 ∧
    w.cell? ⟨g, 4, none⟩ = some c4 ∧ w.cell? ⟨g, 5, none⟩ = some c5 ∧ w.cell? ⟨g, 6, none⟩ = some c6 ∧ w.cell? ⟨g, 7, none⟩ = some c7 := by
  refine ⟨?_, ?_, ?_, ?_, ?_, ?_, ?_, ?_⟩ <;> rw [cell_of_row w g _ _ _ _ h] <;> rfl
theorem below {B : Nat} (h : OpAt w g c0 c1 c2 c3 c4 c5 c6 c7) (hb : Below B w w') (hg : g < B) : OpAt w' g c0 c1 c2 c3 c4 c5 c6 c7 := (hb.block g hg).trans h
theorem new (w : World) (c0 c1 c2 c3 c4 c5 c6 c7 : Value) : OpAt (w.alloc (.cells #[c0, c1, c2, c3, c4, c5, c6, c7] 30)) w.heap.size c0 c1 c2 c3 c4 c5 c6 c7 := heap_new _ _
theorem lt (h : OpAt w g c0 c1 c2 c3 c4 c5 c6 c7) : g < w.heap.size := (Array.getElem?_eq_some_iff.1 h).1
end OpAt
/-- A call: its fields, and what they stand for. -/
structure OpD where
  K : Int
  A : Option Addr
  na : Nat
  ca : Nat
  a : Nat
  B : Option Addr
  nb : Nat
  cb : Nat
  b : Nat
  X : Nat
  D : Nat
  N : Int
  S : List UInt8
  LA : Option Addr
  ln : Nat
  lc : Nat
  R : List ((Option Addr × Nat × Nat) × Nat)
def opV (K : Int) (A : Option Addr) (na ca : Nat) (B : Option Addr) (nb cb X D : Nat) (N : Int) (S : List UInt8) (LA : Option Addr) (ln lc : Nat) : Value :=
  .agg #[.int .i64 K, .slice A na ca, .slice B nb cb, .int .u64 (X : Int), .int .u32 (D : Int), .int .i64 N, .string ⟨S.toArray⟩, .slice LA ln lc]
theorem tmod9 (x : Int) : -8 ≤ x.tmod 9 ∧ x.tmod 9 ≤ 8 ∧ (x.tmod 9 + 9) % 9 = x % 9 := by
  rcases Int.lt_or_le x 0 with h | h
  · have : x.tmod 9 = -((-x) % 9) := by
      rw [← Int.tmod_eq_emod_of_nonneg (by omega : 0 ≤ -x), Int.neg_tmod, Int.neg_neg]
    omega
  · rw [Int.tmod_eq_emod_of_nonneg h]; omega

set_option maxRecDepth 100000 in
set_option maxHeartbeats 4000000 in
theorem plays_0 (w : World) (E : Nat → Addr) (hE : Errs w E) (hT : ErrT w) (K : Int) (A : Option Addr) (na ca : Nat) (B : Option Addr) (nb cb X D : Nat) (N : Int) (S : List UInt8) (LA : Option Addr) (ln lc : Nat) (hk : K % 9 = 0) (hX : X < 18446744073709551616) :
    Calls Tryd.prog 8 #[opV K A na ca B nb cb X D N S LA ln lc] w fun e w' => e = .returned (.bool true) ∧ Below w.heap.size w w' := by
  obtain ⟨t1, t2, t3⟩ := tmod9 K
  rw [hk] at t3
  have hb0 := (Below.refl w.heap.size w).alloc (Nat.le_refl _) (.cells #[.int .i64 K, .slice A na ca, .slice B nb cb, .int .u64 (X : Int), .int .u32 (D : Int), .int .i64 N, .string ⟨S.toArray⟩, .slice LA ln lc] 30)
  have hx0 := OpAt.new w (.int .i64 K) (.slice A na ca) (.slice B nb cb) (.int .u64 (X : Int)) (.int .u32 (D : Int)) (.int .i64 N) (.string ⟨S.toArray⟩) (.slice LA ln lc)
  obtain ⟨wB, hwB⟩ : ∃ wB, w.alloc (.cells #[.int .i64 K, .slice A na ca, .slice B nb cb, .int .u64 (X : Int), .int .u32 (D : Int), .int .i64 N, .string ⟨S.toArray⟩, .slice LA ln lc] 30) = wB := ⟨_, rfl⟩
  have HWB := Lib.hid hwB
  rw [hwB] at hb0 hx0
  have HF := Lib.hid (fun (wz : World) (hz : Below wB.heap.size wB wz) => (hx0.below hz hx0.lt).facts)
  have hE0 := hE.below hb0
  have hT0 := hT.below hb0
  have HP := Lib.hid (fun (wz : World) (hz : Below wB.heap.size wB wz) => (from_c wz X hX).mono fun _ _ h => New.of h)
  have HR := Lib.hid (fun (wz : World) (hz : Below wB.heap.size wB wz) => refFrom_c wz X hX)
  have HB0 := Lib.hid hb0
  unfold opV
  clear hk hwB hx0 hE hT hb0
  go_enter Tryd.func8, Tryd.ntmps8
  go_wp2_with fail
  rw [HWB.out]
  go_region_held3 (fun wz => wz.cell? ⟨w.heap.size, 3, none⟩ = some (.int .u64 (X : Int)))
    (first | exact (HF.out _ ((Below.refl _ _).drew)).2.2.2.1 | exact (HF.out _ hb1).2.2.2.1 | exact (HF.out _ hb2).2.2.2.1 | exact (HF.out _ hb3).2.2.2.1)
    (first
      | (go_simp
         go_at_call 27
         refine (nats_n o1 o2 h2).mono ?_
         rintro e w3 ⟨rfl, h3⟩
         have hb3 : Below wB.heap.size wB w3 := hb2.trans (h3.mono hb2.size)
         dsimp only)
      | (go_simp
         go_at_call 31
         refine (HR.out _ hb1).mono ?_
         rintro e w2 ⟨A2, c2, rfl, _, o2, h2⟩
         have hb2 : Below wB.heap.size wB w2 := hb1.trans (h2.mono hb1.size)
         dsimp only)
      | (go_simp
         go_at_call 30
         refine (HP.out _ ((Below.refl _ _).drew)).mono ?_
         rintro e w1 ⟨A1, c1, rfl, _, o1, h1⟩
         have hb1 : Below wB.heap.size wB w1 := ((Below.refl wB.heap.size wB).drew).trans h1
         dsimp only))
  have HBE := Lib.hid (HB0.out.trans (hb3.mono HB0.out.size))
  clear hb1 hb2 hb3 o1 o2 h1 h2 h3
  go_wp2_with fail
  go_ret
  exact ⟨rfl, HBE.out⟩

set_option maxRecDepth 100000 in
set_option maxHeartbeats 4000000 in
theorem plays_1 (w : World) (E : Nat → Addr) (hE : Errs w E) (hT : ErrT w) (K : Int) (A : Option Addr) (na ca : Nat) (B : Option Addr) (nb cb X D : Nat) (N : Int) (S : List UInt8) (LA : Option Addr) (ln lc : Nat) (hk : K % 9 = 1) {a b : Nat} (hA : Num w A na ca a) (hB : Num w B nb cb b) (ma : na ≤ 1000000) (mb : nb ≤ 1000000) :
    Calls Tryd.prog 8 #[opV K A na ca B nb cb X D N S LA ln lc] w fun e w' => e = .returned (.bool true) ∧ Below w.heap.size w w' := by
  obtain ⟨t1, t2, t3⟩ := tmod9 K
  rw [hk] at t3
  have hb0 := (Below.refl w.heap.size w).alloc (Nat.le_refl _) (.cells #[.int .i64 K, .slice A na ca, .slice B nb cb, .int .u64 (X : Int), .int .u32 (D : Int), .int .i64 N, .string ⟨S.toArray⟩, .slice LA ln lc] 30)
  have hx0 := OpAt.new w (.int .i64 K) (.slice A na ca) (.slice B nb cb) (.int .u64 (X : Int)) (.int .u32 (D : Int)) (.int .i64 N) (.string ⟨S.toArray⟩) (.slice LA ln lc)
  obtain ⟨wB, hwB⟩ : ∃ wB, w.alloc (.cells #[.int .i64 K, .slice A na ca, .slice B nb cb, .int .u64 (X : Int), .int .u32 (D : Int), .int .i64 N, .string ⟨S.toArray⟩, .slice LA ln lc] 30) = wB := ⟨_, rfl⟩
  have HWB := Lib.hid hwB
  rw [hwB] at hb0 hx0
  have HF := Lib.hid (fun (wz : World) (hz : Below wB.heap.size wB wz) => (hx0.below hz hx0.lt).facts)
  have hE0 := hE.below hb0
  have hT0 := hT.below hb0
  have hA0 := hA.below hb0
  have hB0 := hB.below hb0
  have HP := Lib.hid (fun (wz : World) (hz : Below wB.heap.size wB wz) => add_n (hA0.below hz) (hB0.below hz) (by omega) (by omega) (r := a + b) rfl)
  have HR := Lib.hid (fun (wz : World) (hz : Below wB.heap.size wB wz) => refAdd_n (hA0.below hz) (hB0.below hz) (by omega) (by omega) (r := a + b) rfl)
  have HB0 := Lib.hid hb0
  unfold opV
  clear hk hwB hx0 hE hT hb0
  go_enter Tryd.func8, Tryd.ntmps8
  go_wp2_with fail
  rw [HWB.out]
  go_region_held3 (fun wz => wz.cell? ⟨w.heap.size, 1, none⟩ = some (.slice A na ca) ∧ wz.cell? ⟨w.heap.size, 2, none⟩ = some (.slice B nb cb))
    (first | exact ⟨(HF.out _ ((Below.refl _ _).drew)).2.1, (HF.out _ ((Below.refl _ _).drew)).2.2.1⟩ | exact ⟨(HF.out _ hb1).2.1, (HF.out _ hb1).2.2.1⟩ | exact ⟨(HF.out _ hb2).2.1, (HF.out _ hb2).2.2.1⟩ | exact ⟨(HF.out _ hb3).2.1, (HF.out _ hb3).2.2.1⟩)
    (first
      | (go_simp
         go_at_call 27
         refine (nats_n o1 o2 h2).mono ?_
         rintro e w3 ⟨rfl, h3⟩
         have hb3 : Below wB.heap.size wB w3 := hb2.trans (h3.mono hb2.size)
         dsimp only)
      | (go_simp
         go_at_call 33
         refine (HR.out _ hb1).mono ?_
         rintro e w2 ⟨A2, c2, rfl, _, o2, h2⟩
         have hb2 : Below wB.heap.size wB w2 := hb1.trans (h2.mono hb1.size)
         dsimp only)
      | (go_simp
         go_at_call 32
         refine (HP.out _ ((Below.refl _ _).drew)).mono ?_
         rintro e w1 ⟨A1, c1, rfl, _, o1, h1⟩
         have hb1 : Below wB.heap.size wB w1 := ((Below.refl wB.heap.size wB).drew).trans h1
         dsimp only))
  have HBE := Lib.hid (HB0.out.trans (hb3.mono HB0.out.size))
  clear hb1 hb2 hb3 o1 o2 h1 h2 h3
  go_wp2_with fail
  go_ret
  exact ⟨rfl, HBE.out⟩

set_option maxRecDepth 100000 in
set_option maxHeartbeats 4000000 in
theorem plays_3 (w : World) (E : Nat → Addr) (hE : Errs w E) (hT : ErrT w) (K : Int) (A : Option Addr) (na ca : Nat) (B : Option Addr) (nb cb X D : Nat) (N : Int) (S : List UInt8) (LA : Option Addr) (ln lc : Nat) (hk : K % 9 = 3) {a b : Nat} (hA : Num w A na ca a) (hB : Num w B nb cb b) (ma : na ≤ 1000000) (mb : nb ≤ 1000000) :
    Calls Tryd.prog 8 #[opV K A na ca B nb cb X D N S LA ln lc] w fun e w' => e = .returned (.bool true) ∧ Below w.heap.size w w' := by
  obtain ⟨t1, t2, t3⟩ := tmod9 K
  rw [hk] at t3
  have hb0 := (Below.refl w.heap.size w).alloc (Nat.le_refl _) (.cells #[.int .i64 K, .slice A na ca, .slice B nb cb, .int .u64 (X : Int), .int .u32 (D : Int), .int .i64 N, .string ⟨S.toArray⟩, .slice LA ln lc] 30)
  have hx0 := OpAt.new w (.int .i64 K) (.slice A na ca) (.slice B nb cb) (.int .u64 (X : Int)) (.int .u32 (D : Int)) (.int .i64 N) (.string ⟨S.toArray⟩) (.slice LA ln lc)
  obtain ⟨wB, hwB⟩ : ∃ wB, w.alloc (.cells #[.int .i64 K, .slice A na ca, .slice B nb cb, .int .u64 (X : Int), .int .u32 (D : Int), .int .i64 N, .string ⟨S.toArray⟩, .slice LA ln lc] 30) = wB := ⟨_, rfl⟩
  have HWB := Lib.hid hwB
  rw [hwB] at hb0 hx0
  have HF := Lib.hid (fun (wz : World) (hz : Below wB.heap.size wB wz) => (hx0.below hz hx0.lt).facts)
  have hE0 := hE.below hb0
  have hT0 := hT.below hb0
  have hA0 := hA.below hb0
  have hB0 := hB.below hb0
  have HP := Lib.hid (fun (wz : World) (hz : Below wB.heap.size wB wz) => mul_n (hA0.below hz) (hB0.below hz) (by omega) (by omega) (r := a * b) rfl)
  have HR := Lib.hid (fun (wz : World) (hz : Below wB.heap.size wB wz) => refMul_n (hA0.below hz) (hB0.below hz) (by omega) (by omega) (r := a * b) rfl)
  have HB0 := Lib.hid hb0
  unfold opV
  clear hk hwB hx0 hE hT hb0
  go_enter Tryd.func8, Tryd.ntmps8
  go_wp2_with fail
  rw [HWB.out]
  go_region_held3 (fun wz => wz.cell? ⟨w.heap.size, 1, none⟩ = some (.slice A na ca) ∧ wz.cell? ⟨w.heap.size, 2, none⟩ = some (.slice B nb cb))
    (first | exact ⟨(HF.out _ ((Below.refl _ _).drew)).2.1, (HF.out _ ((Below.refl _ _).drew)).2.2.1⟩ | exact ⟨(HF.out _ hb1).2.1, (HF.out _ hb1).2.2.1⟩ | exact ⟨(HF.out _ hb2).2.1, (HF.out _ hb2).2.2.1⟩ | exact ⟨(HF.out _ hb3).2.1, (HF.out _ hb3).2.2.1⟩)
    (first
      | (go_simp
         go_at_call 27
         refine (nats_n o1 o2 h2).mono ?_
         rintro e w3 ⟨rfl, h3⟩
         have hb3 : Below wB.heap.size wB w3 := hb2.trans (h3.mono hb2.size)
         dsimp only)
      | (go_simp
         go_at_call 36
         refine (HR.out _ hb1).mono ?_
         rintro e w2 ⟨A2, c2, rfl, _, o2, h2⟩
         have hb2 : Below wB.heap.size wB w2 := hb1.trans (h2.mono hb1.size)
         dsimp only)
      | (go_simp
         go_at_call 29
         refine (HP.out _ ((Below.refl _ _).drew)).mono ?_
         rintro e w1 ⟨A1, c1, rfl, _, o1, h1⟩
         have hb1 : Below wB.heap.size wB w1 := ((Below.refl wB.heap.size wB).drew).trans h1
         dsimp only))
  have HBE := Lib.hid (HB0.out.trans (hb3.mono HB0.out.size))
  clear hb1 hb2 hb3 o1 o2 h1 h2 h3
  go_wp2_with fail
  go_ret
  exact ⟨rfl, HBE.out⟩

set_option maxRecDepth 100000 in
set_option maxHeartbeats 4000000 in
theorem plays_6 (w : World) (E : Nat → Addr) (hE : Errs w E) (hT : ErrT w) (K : Int) (A : Option Addr) (na ca : Nat) (B : Option Addr) (nb cb X D : Nat) (N : Int) (S : List UInt8) (LA : Option Addr) (ln lc : Nat) (hk : K % 9 = 6) {a : Nat} (hA : Num w A na ca a) (ma : na ≤ 1000000) :
    Calls Tryd.prog 8 #[opV K A na ca B nb cb X D N S LA ln lc] w fun e w' => e = .returned (.bool true) ∧ Below w.heap.size w w' := by
  obtain ⟨t1, t2, t3⟩ := tmod9 K
  rw [hk] at t3
  have hb0 := (Below.refl w.heap.size w).alloc (Nat.le_refl _) (.cells #[.int .i64 K, .slice A na ca, .slice B nb cb, .int .u64 (X : Int), .int .u32 (D : Int), .int .i64 N, .string ⟨S.toArray⟩, .slice LA ln lc] 30)
  have hx0 := OpAt.new w (.int .i64 K) (.slice A na ca) (.slice B nb cb) (.int .u64 (X : Int)) (.int .u32 (D : Int)) (.int .i64 N) (.string ⟨S.toArray⟩) (.slice LA ln lc)
  obtain ⟨wB, hwB⟩ : ∃ wB, w.alloc (.cells #[.int .i64 K, .slice A na ca, .slice B nb cb, .int .u64 (X : Int), .int .u32 (D : Int), .int .i64 N, .string ⟨S.toArray⟩, .slice LA ln lc] 30) = wB := ⟨_, rfl⟩
  have HWB := Lib.hid hwB
  rw [hwB] at hb0 hx0
  have HF := Lib.hid (fun (wz : World) (hz : Below wB.heap.size wB wz) => (hx0.below hz hx0.lt).facts)
  have hE0 := hE.below hb0
  have hT0 := hT.below hb0
  have hA0 := hA.below hb0
  have HP := Lib.hid (fun (wz : World) (hz : Below wB.heap.size wB wz) => text_n (hA0.below hz) (by omega))
  have HR := Lib.hid (fun (wz : World) (hz : Below wB.heap.size wB wz) => refText_n wz (hA0.below hz) (by omega))
  have HB0 := Lib.hid hb0
  unfold opV
  clear hk hwB hx0 hE hT hb0
  go_enter Tryd.func8, Tryd.ntmps8
  go_wp2_with fail
  rw [HWB.out]
  go_region_held3 (fun wz => wz.cell? ⟨w.heap.size, 1, none⟩ = some (.slice A na ca))
    (first | exact (HF.out _ ((Below.refl _ _).drew)).2.1 | exact (HF.out _ hb1).2.1 | exact (HF.out _ hb2).2.1 | exact (HF.out _ hb3).2.1)
    (first
      | (go_simp
         go_at_call 41
         refine (HR.out _ hb1).mono ?_
         rintro e w2 ⟨rfl, h2⟩
         have hb2 : Below wB.heap.size wB w2 := hb1.trans (h2.mono hb1.size)
         dsimp only)
      | (go_simp
         go_at_call 28
         refine (HP.out _ ((Below.refl _ _).drew)).mono ?_
         rintro e w1 ⟨rfl, h1⟩
         have hb1 : Below wB.heap.size wB w1 := ((Below.refl wB.heap.size wB).drew).trans h1
         dsimp only))
  have HBE := Lib.hid (HB0.out.trans (hb2.mono HB0.out.size))
  clear hb1 hb2 h1 h2
  go_wp2_with fail
  go_ret
  exact ⟨rfl, HBE.out⟩

set_option maxRecDepth 100000 in
set_option maxHeartbeats 4000000 in
theorem plays_8 (w : World) (E : Nat → Addr) (hE : Errs w E) (hT : ErrT w) (K : Int) (A : Option Addr) (na ca : Nat) (B : Option Addr) (nb cb X D : Nat) (N : Int) (S : List UInt8) (LA : Option Addr) (ln lc : Nat) (hk : K % 9 = 8) (R : List ((Option Addr × Nat × Nat) × Nat)) (hL : Sl w LA ln (R.map fun x => slv x.1)) (hln : ln ≤ 1000) (hR : ∀ x ∈ R, Num w x.1.1 x.1.2.1 x.1.2.2 x.2 ∧ x.1.2.1 ≤ 1000000) :
    Calls Tryd.prog 8 #[opV K A na ca B nb cb X D N S LA ln lc] w fun e w' => e = .returned (.bool true) ∧ Below w.heap.size w w' := by
  obtain ⟨t1, t2, t3⟩ := tmod9 K
  rw [hk] at t3
  have hb0 := (Below.refl w.heap.size w).alloc (Nat.le_refl _) (.cells #[.int .i64 K, .slice A na ca, .slice B nb cb, .int .u64 (X : Int), .int .u32 (D : Int), .int .i64 N, .string ⟨S.toArray⟩, .slice LA ln lc] 30)
  have hx0 := OpAt.new w (.int .i64 K) (.slice A na ca) (.slice B nb cb) (.int .u64 (X : Int)) (.int .u32 (D : Int)) (.int .i64 N) (.string ⟨S.toArray⟩) (.slice LA ln lc)
  obtain ⟨wB, hwB⟩ : ∃ wB, w.alloc (.cells #[.int .i64 K, .slice A na ca, .slice B nb cb, .int .u64 (X : Int), .int .u32 (D : Int), .int .i64 N, .string ⟨S.toArray⟩, .slice LA ln lc] 30) = wB := ⟨_, rfl⟩
  have HWB := Lib.hid hwB
  rw [hwB] at hb0 hx0
  have HF := Lib.hid (fun (wz : World) (hz : Below wB.heap.size wB wz) => (hx0.below hz hx0.lt).facts)
  have hE0 := hE.below hb0
  have hT0 := hT.below hb0
  have hL0 := hL.below hb0
  have hR0 : ∀ x ∈ R, Num wB x.1.1 x.1.2.1 x.1.2.2 x.2 ∧ x.1.2.1 ≤ 1000000 := fun x hx => ⟨(hR x hx).1.below hb0, (hR x hx).2⟩
  have HP := Lib.hid (fun (wz : World) (hz : Below wB.heap.size wB wz) => sum_c wz LA ln lc R (hL0.below hz) hln (fun x hx => ⟨(hR0 x hx).1.below hz, (hR0 x hx).2⟩))
  have HR := Lib.hid (fun (wz : World) (hz : Below wB.heap.size wB wz) => refSum_c wz LA ln lc R (hL0.below hz) hln (fun x hx => ⟨(hR0 x hx).1.below hz, (hR0 x hx).2⟩))
  have HB0 := Lib.hid hb0
  unfold opV
  clear hk hwB hx0 hE hT hb0
  go_enter Tryd.func8, Tryd.ntmps8
  go_wp2_with fail
  rw [HWB.out]
  go_region_held3 (fun wz => wz.cell? ⟨w.heap.size, 7, none⟩ = some (.slice LA ln lc))
    (first | exact (HF.out _ ((Below.refl _ _).drew)).2.2.2.2.2.2.2 | exact (HF.out _ hb1).2.2.2.2.2.2.2 | exact (HF.out _ hb2).2.2.2.2.2.2.2 | exact (HF.out _ hb3).2.2.2.2.2.2.2)
    (first
      | (go_simp
         go_at_call 27
         refine (nats_n o1 o2 h2).mono ?_
         rintro e w3 ⟨rfl, h3⟩
         have hb3 : Below wB.heap.size wB w3 := hb2.trans (h3.mono hb2.size)
         dsimp only)
      | (go_simp
         go_at_call 44
         refine (HR.out _ hb1).mono ?_
         rintro e w2 ⟨A2, c2, rfl, _, o2, h2⟩
         have hb2 : Below wB.heap.size wB w2 := hb1.trans (h2.mono hb1.size)
         dsimp only)
      | (go_simp
         go_at_call 43
         refine (HP.out _ ((Below.refl _ _).drew)).mono ?_
         rintro e w1 ⟨A1, c1, rfl, _, o1, h1⟩
         have hb1 : Below wB.heap.size wB w1 := ((Below.refl wB.heap.size wB).drew).trans h1
         dsimp only))
  have HBE := Lib.hid (HB0.out.trans (hb3.mono HB0.out.size))
  clear hb1 hb2 hb3 o1 o2 h1 h2 h3
  go_wp2_with fail
  go_ret
  exact ⟨rfl, HBE.out⟩

set_option maxRecDepth 100000 in
set_option maxHeartbeats 4000000 in
theorem plays_2 (w : World) (E : Nat → Addr) (hE : Errs w E) (hT : ErrT w) (K : Int) (A : Option Addr) (na ca : Nat) (B : Option Addr) (nb cb X D : Nat) (N : Int) (S : List UInt8) (LA : Option Addr) (ln lc : Nat) (hk : K % 9 = 2) {a b : Nat} (hA : Num w A na ca a) (hB : Num w B nb cb b) (ma : na ≤ 1000000) (mb : nb ≤ 1000000) :
    Calls Tryd.prog 8 #[opV K A na ca B nb cb X D N S LA ln lc] w fun e w' => e = .returned (.bool true) ∧ Below w.heap.size w w' := by
  obtain ⟨t1, t2, t3⟩ := tmod9 K
  rw [hk] at t3
  have hb0 := (Below.refl w.heap.size w).alloc (Nat.le_refl _) (.cells #[.int .i64 K, .slice A na ca, .slice B nb cb, .int .u64 (X : Int), .int .u32 (D : Int), .int .i64 N, .string ⟨S.toArray⟩, .slice LA ln lc] 30)
  have hx0 := OpAt.new w (.int .i64 K) (.slice A na ca) (.slice B nb cb) (.int .u64 (X : Int)) (.int .u32 (D : Int)) (.int .i64 N) (.string ⟨S.toArray⟩) (.slice LA ln lc)
  obtain ⟨wB, hwB⟩ : ∃ wB, w.alloc (.cells #[.int .i64 K, .slice A na ca, .slice B nb cb, .int .u64 (X : Int), .int .u32 (D : Int), .int .i64 N, .string ⟨S.toArray⟩, .slice LA ln lc] 30) = wB := ⟨_, rfl⟩
  have HWB := Lib.hid hwB
  rw [hwB] at hb0 hx0
  have HF := Lib.hid (fun (wz : World) (hz : Below wB.heap.size wB wz) => (hx0.below hz hx0.lt).facts)
  have hE0 := hE.below hb0
  have hT0 := hT.below hb0
  have hA0 := hA.below hb0
  have hB0 := hB.below hb0
  have HP := Lib.hid (fun (wz : World) (hz : Below wB.heap.size wB wz) => sub_p (hE0.below hz) (hA0.below hz) (hB0.below hz) (by omega))
  have HR := Lib.hid (fun (wz : World) (hz : Below wB.heap.size wB wz) => sub_r (hA0.below hz) (hB0.below hz) (by omega) (by omega))
  have HIS := Lib.hid (fun (wz : World) (hz : Below wB.heap.size wB wz) (v u : Value) (hv : ErrV wz E (subT a b) v) (hu : WantV wz (subT a b) u) => rawIs_c wz E (hE0.below hz) (hT0.below hz) (subT a b) (subT_ok a b) v u hv hu)
  have HB0 := Lib.hid hb0
  unfold opV
  clear hk hwB hx0 hE hT hb0
  go_enter Tryd.func8, Tryd.ntmps8
  go_wp2_with fail
  rw [HWB.out]
  have q0 := Below.refl wB.heap.size wB
  refine (HP.out wB q0).mono ?_
  rintro e w1 ⟨A1, c1, v1, rfl, o1, he1, h1⟩
  have q1 := q0.trans h1
  obtain ⟨x0, x1, x2, x3, x4, x5, x6, x7⟩ := HF.out w1 q1
  go_wp2_with fail
  refine (HR.out w1 q1).mono ?_
  rintro e w2 ⟨A2, c2, N2, B1, n1, d1, B2, n2, d2, rfl, o2, hu2, h2⟩
  have q2 := q1.trans (h2.mono q1.size)
  have hw3 := WantAt.new w2 (.int .i64 (N2 : Int)) (.slice B1 n1 d1) (.slice B2 n2 d2)
  have b3 := (Below.refl w2.heap.size w2).alloc (Nat.le_refl _) (.cells #[.int .i64 (N2 : Int), .slice B1 n1 d1, .slice B2 n2 d2] 50)
  obtain ⟨w3, hw3'⟩ : ∃ w3, w2.alloc (.cells #[.int .i64 (N2 : Int), .slice B1 n1 d1, .slice B2 n2 d2] 50) = w3 := ⟨_, rfl⟩
  have HW3 := Lib.hid hw3'
  rw [hw3'] at hw3 b3
  have q3 := q2.trans (b3.mono q2.size)
  have HNT := Lib.hid (nats_n o1 (own_below o2 b3) (h2.trans (b3.mono h2.size)))
  have hu3 := hu2.below b3
  have he3 := (he1.below h2).below b3
  clear x0 x1 x2 x3 x4 x5 x6 x7 o1 o2 h1 h2 he1 hu2 b3 hw3' q0 q1 q2 HP HR
  go_wp2_with fail
  rw [HW3.out]
  refine (HNT.out).mono ?_
  rintro e w4 ⟨rfl, h4⟩
  have q4 := q3.trans (h4.mono q3.size)
  obtain ⟨d0, d1', d2', _⟩ := (hw3.below h4 hw3.lt).facts
  have HI := Lib.hid (HIS.out w4 q4 v1 _ (he3.below h4) (hu3.below h4).want)
  clear hw3 h4 q3 he3 hu3 HNT HIS
  go_wp2_with fail
  refine (HI.out).mono ?_
  rintro e w5 ⟨rfl, h5⟩
  have HBE := Lib.hid (HB0.out.trans ((q4.trans (h5.mono q4.size)).mono HB0.out.size))
  clear h5 q4
  go_wp2_with fail
  go_ret
  exact ⟨rfl, HBE.out⟩

set_option maxRecDepth 100000 in
set_option maxHeartbeats 4000000 in
theorem plays_4 (w : World) (E : Nat → Addr) (hE : Errs w E) (hT : ErrT w) (K : Int) (A : Option Addr) (na ca : Nat) (B : Option Addr) (nb cb X D : Nat) (N : Int) (S : List UInt8) (LA : Option Addr) (ln lc : Nat) (hk : K % 9 = 4) {a : Nat} (hA : Num w A na ca a) (ma : na ≤ 1000000) (hD : D < W32) :
    Calls Tryd.prog 8 #[opV K A na ca B nb cb X D N S LA ln lc] w fun e w' => e = .returned (.bool true) ∧ Below w.heap.size w w' := by
  obtain ⟨t1, t2, t3⟩ := tmod9 K
  rw [hk] at t3
  have hb0 := (Below.refl w.heap.size w).alloc (Nat.le_refl _) (.cells #[.int .i64 K, .slice A na ca, .slice B nb cb, .int .u64 (X : Int), .int .u32 (D : Int), .int .i64 N, .string ⟨S.toArray⟩, .slice LA ln lc] 30)
  have hx0 := OpAt.new w (.int .i64 K) (.slice A na ca) (.slice B nb cb) (.int .u64 (X : Int)) (.int .u32 (D : Int)) (.int .i64 N) (.string ⟨S.toArray⟩) (.slice LA ln lc)
  obtain ⟨wB, hwB⟩ : ∃ wB, w.alloc (.cells #[.int .i64 K, .slice A na ca, .slice B nb cb, .int .u64 (X : Int), .int .u32 (D : Int), .int .i64 N, .string ⟨S.toArray⟩, .slice LA ln lc] 30) = wB := ⟨_, rfl⟩
  have HWB := Lib.hid hwB
  rw [hwB] at hb0 hx0
  have HF := Lib.hid (fun (wz : World) (hz : Below wB.heap.size wB wz) => (hx0.below hz hx0.lt).facts)
  have hE0 := hE.below hb0
  have hT0 := hT.below hb0
  have hA0 := hA.below hb0
  have HP := Lib.hid (fun (wz : World) (hz : Below wB.heap.size wB wz) => over_p (hE0.below hz) (hA0.below hz) hD (by omega))
  have HR := Lib.hid (fun (wz : World) (hz : Below wB.heap.size wB wz) => over_r (hA0.below hz) hD (by omega))
  have HIS := Lib.hid (fun (wz : World) (hz : Below wB.heap.size wB wz) (v u : Value) (hv : ErrV wz E (overT D) v) (hu : WantV wz (overT D) u) => rawIs_c wz E (hE0.below hz) (hT0.below hz) (overT D) (overT_ok D) v u hv hu)
  have HB0 := Lib.hid hb0
  unfold opV
  clear hk hwB hx0 hE hT hb0
  go_enter Tryd.func8, Tryd.ntmps8
  go_wp2_with fail
  rw [HWB.out]
  have q0 := Below.refl wB.heap.size wB
  refine (HP.out wB q0).mono ?_
  rintro e w1 ⟨A1, c1, v1, rfl, o1, he1, h1⟩
  have q1 := q0.trans h1
  obtain ⟨x0, x1, x2, x3, x4, x5, x6, x7⟩ := HF.out w1 q1
  go_wp2_with fail
  refine (HR.out w1 q1).mono ?_
  rintro e w2 ⟨A2, c2, N2, B1, n1, d1, B2, n2, d2, rfl, o2, hu2, h2⟩
  have q2 := q1.trans (h2.mono q1.size)
  have hw3 := WantAt.new w2 (.int .i64 (N2 : Int)) (.slice B1 n1 d1) (.slice B2 n2 d2)
  have b3 := (Below.refl w2.heap.size w2).alloc (Nat.le_refl _) (.cells #[.int .i64 (N2 : Int), .slice B1 n1 d1, .slice B2 n2 d2] 50)
  obtain ⟨w3, hw3'⟩ : ∃ w3, w2.alloc (.cells #[.int .i64 (N2 : Int), .slice B1 n1 d1, .slice B2 n2 d2] 50) = w3 := ⟨_, rfl⟩
  have HW3 := Lib.hid hw3'
  rw [hw3'] at hw3 b3
  have q3 := q2.trans (b3.mono q2.size)
  have HNT := Lib.hid (nats_n o1 (own_below o2 b3) (h2.trans (b3.mono h2.size)))
  have hu3 := hu2.below b3
  have he3 := (he1.below h2).below b3
  clear x0 x1 x2 x3 x4 x5 x6 x7 o1 o2 h1 h2 he1 hu2 b3 hw3' q0 q1 q2 HP HR
  go_wp2_with fail
  rw [HW3.out]
  refine (HNT.out).mono ?_
  rintro e w4 ⟨rfl, h4⟩
  have q4 := q3.trans (h4.mono q3.size)
  obtain ⟨d0, d1', d2', _⟩ := (hw3.below h4 hw3.lt).facts
  have HI := Lib.hid (HIS.out w4 q4 v1 _ (he3.below h4) (hu3.below h4).want)
  clear hw3 h4 q3 he3 hu3 HNT HIS
  go_wp2_with fail
  refine (HI.out).mono ?_
  rintro e w5 ⟨rfl, h5⟩
  have HBE := Lib.hid (HB0.out.trans ((q4.trans (h5.mono q4.size)).mono HB0.out.size))
  clear h5 q4
  go_wp2_with fail
  go_ret
  exact ⟨rfl, HBE.out⟩

set_option maxRecDepth 100000 in
set_option maxHeartbeats 4000000 in
theorem plays_5 (w : World) (E : Nat → Addr) (hE : Errs w E) (hT : ErrT w) (K : Int) (A : Option Addr) (na ca : Nat) (B : Option Addr) (nb cb X D : Nat) (N : Int) (S : List UInt8) (LA : Option Addr) (ln lc : Nat) (hk : K % 9 = 5) (hD : D < W32) :
    Calls Tryd.prog 8 #[opV K A na ca B nb cb X D N S LA ln lc] w fun e w' => e = .returned (.bool true) ∧ Below w.heap.size w w' := by
  obtain ⟨t1, t2, t3⟩ := tmod9 K
  rw [hk] at t3
  have hb0 := (Below.refl w.heap.size w).alloc (Nat.le_refl _) (.cells #[.int .i64 K, .slice A na ca, .slice B nb cb, .int .u64 (X : Int), .int .u32 (D : Int), .int .i64 N, .string ⟨S.toArray⟩, .slice LA ln lc] 30)
  have hx0 := OpAt.new w (.int .i64 K) (.slice A na ca) (.slice B nb cb) (.int .u64 (X : Int)) (.int .u32 (D : Int)) (.int .i64 N) (.string ⟨S.toArray⟩) (.slice LA ln lc)
  obtain ⟨wB, hwB⟩ : ∃ wB, w.alloc (.cells #[.int .i64 K, .slice A na ca, .slice B nb cb, .int .u64 (X : Int), .int .u32 (D : Int), .int .i64 N, .string ⟨S.toArray⟩, .slice LA ln lc] 30) = wB := ⟨_, rfl⟩
  have HWB := Lib.hid hwB
  rw [hwB] at hb0 hx0
  have HF := Lib.hid (fun (wz : World) (hz : Below wB.heap.size wB wz) => (hx0.below hz hx0.lt).facts)
  have hE0 := hE.below hb0
  have hT0 := hT.below hb0
  have HP := Lib.hid (fun (wz : World) (hz : Below wB.heap.size wB wz) => pow_p wz E (hE0.below hz) D N hD)
  have HR := Lib.hid (fun (wz : World) (hz : Below wB.heap.size wB wz) => pow_r wz D N hD)
  have HIS := Lib.hid (fun (wz : World) (hz : Below wB.heap.size wB wz) (v u : Value) (hv : ErrV wz E (powT N) v) (hu : WantV wz (powT N) u) => rawIs_c wz E (hE0.below hz) (hT0.below hz) (powT N) (powT_ok N) v u hv hu)
  have HB0 := Lib.hid hb0
  unfold opV
  clear hk hwB hx0 hE hT hb0
  go_enter Tryd.func8, Tryd.ntmps8
  go_wp2_with fail
  rw [HWB.out]
  have q0 := Below.refl wB.heap.size wB
  refine (HP.out wB q0).mono ?_
  rintro e w1 ⟨A1, c1, v1, rfl, o1, he1, h1⟩
  have q1 := q0.trans h1
  obtain ⟨x0, x1, x2, x3, x4, x5, x6, x7⟩ := HF.out w1 q1
  go_wp2_with fail
  refine (HR.out w1 q1).mono ?_
  rintro e w2 ⟨A2, c2, N2, B1, n1, d1, B2, n2, d2, rfl, o2, hu2, h2⟩
  have q2 := q1.trans (h2.mono q1.size)
  have hw3 := WantAt.new w2 (.int .i64 (N2 : Int)) (.slice B1 n1 d1) (.slice B2 n2 d2)
  have b3 := (Below.refl w2.heap.size w2).alloc (Nat.le_refl _) (.cells #[.int .i64 (N2 : Int), .slice B1 n1 d1, .slice B2 n2 d2] 50)
  obtain ⟨w3, hw3'⟩ : ∃ w3, w2.alloc (.cells #[.int .i64 (N2 : Int), .slice B1 n1 d1, .slice B2 n2 d2] 50) = w3 := ⟨_, rfl⟩
  have HW3 := Lib.hid hw3'
  rw [hw3'] at hw3 b3
  have q3 := q2.trans (b3.mono q2.size)
  have HNT := Lib.hid (nats_n o1 (own_below o2 b3) (h2.trans (b3.mono h2.size)))
  have hu3 := hu2.below b3
  have he3 := (he1.below h2).below b3
  clear x0 x1 x2 x3 x4 x5 x6 x7 o1 o2 h1 h2 he1 hu2 b3 hw3' q0 q1 q2 HP HR
  go_wp2_with fail
  rw [HW3.out]
  refine (HNT.out).mono ?_
  rintro e w4 ⟨rfl, h4⟩
  have q4 := q3.trans (h4.mono q3.size)
  obtain ⟨d0, d1', d2', _⟩ := (hw3.below h4 hw3.lt).facts
  have HI := Lib.hid (HIS.out w4 q4 v1 _ (he3.below h4) (hu3.below h4).want)
  clear hw3 h4 q3 he3 hu3 HNT HIS
  go_wp2_with fail
  refine (HI.out).mono ?_
  rintro e w5 ⟨rfl, h5⟩
  have HBE := Lib.hid (HB0.out.trans ((q4.trans (h5.mono q4.size)).mono HB0.out.size))
  clear h5 q4
  go_wp2_with fail
  go_ret
  exact ⟨rfl, HBE.out⟩

set_option maxRecDepth 100000 in
set_option maxHeartbeats 4000000 in
theorem plays_7 (w : World) (E : Nat → Addr) (hE : Errs w E) (hT : ErrT w) (K : Int) (A : Option Addr) (na ca : Nat) (B : Option Addr) (nb cb X D : Nat) (N : Int) (S : List UInt8) (LA : Option Addr) (ln lc : Nat) (hk : K % 9 = 7) :
    Calls Tryd.prog 8 #[opV K A na ca B nb cb X D N S LA ln lc] w fun e w' => e = .returned (.bool true) ∧ Below w.heap.size w w' := by
  obtain ⟨t1, t2, t3⟩ := tmod9 K
  rw [hk] at t3
  have hb0 := (Below.refl w.heap.size w).alloc (Nat.le_refl _) (.cells #[.int .i64 K, .slice A na ca, .slice B nb cb, .int .u64 (X : Int), .int .u32 (D : Int), .int .i64 N, .string ⟨S.toArray⟩, .slice LA ln lc] 30)
  have hx0 := OpAt.new w (.int .i64 K) (.slice A na ca) (.slice B nb cb) (.int .u64 (X : Int)) (.int .u32 (D : Int)) (.int .i64 N) (.string ⟨S.toArray⟩) (.slice LA ln lc)
  obtain ⟨wB, hwB⟩ : ∃ wB, w.alloc (.cells #[.int .i64 K, .slice A na ca, .slice B nb cb, .int .u64 (X : Int), .int .u32 (D : Int), .int .i64 N, .string ⟨S.toArray⟩, .slice LA ln lc] 30) = wB := ⟨_, rfl⟩
  have HWB := Lib.hid hwB
  rw [hwB] at hb0 hx0
  have HF := Lib.hid (fun (wz : World) (hz : Below wB.heap.size wB wz) => (hx0.below hz hx0.lt).facts)
  have hE0 := hE.below hb0
  have hT0 := hT.below hb0
  have HP := Lib.hid (fun (wz : World) (hz : Below wB.heap.size wB wz) => parse_p wz E (hE0.below hz) S)
  have HR := Lib.hid (fun (wz : World) (hz : Below wB.heap.size wB wz) => parse_r wz S)
  have HIS := Lib.hid (fun (wz : World) (hz : Below wB.heap.size wB wz) (v u : Value) (hv : ErrV wz E (pTale S) v) (hu : WantV wz (pTale S) u) => rawIs_c wz E (hE0.below hz) (hT0.below hz) (pTale S) (pTale_ok S) v u hv hu)
  have HB0 := Lib.hid hb0
  unfold opV
  clear hk hwB hx0 hE hT hb0
  go_enter Tryd.func8, Tryd.ntmps8
  go_wp2_with fail
  rw [HWB.out]
  have q0 := Below.refl wB.heap.size wB
  refine (HP.out wB q0).mono ?_
  rintro e w1 ⟨A1, c1, v1, rfl, o1, he1, h1⟩
  have q1 := q0.trans h1
  obtain ⟨x0, x1, x2, x3, x4, x5, x6, x7⟩ := HF.out w1 q1
  go_wp2_with fail
  refine (HR.out w1 q1).mono ?_
  rintro e w2 ⟨A2, c2, N2, B1, n1, d1, B2, n2, d2, rfl, o2, hu2, h2⟩
  have q2 := q1.trans (h2.mono q1.size)
  have hw3 := WantAt.new w2 (.int .i64 (N2 : Int)) (.slice B1 n1 d1) (.slice B2 n2 d2)
  have b3 := (Below.refl w2.heap.size w2).alloc (Nat.le_refl _) (.cells #[.int .i64 (N2 : Int), .slice B1 n1 d1, .slice B2 n2 d2] 50)
  obtain ⟨w3, hw3'⟩ : ∃ w3, w2.alloc (.cells #[.int .i64 (N2 : Int), .slice B1 n1 d1, .slice B2 n2 d2] 50) = w3 := ⟨_, rfl⟩
  have HW3 := Lib.hid hw3'
  rw [hw3'] at hw3 b3
  have q3 := q2.trans (b3.mono q2.size)
  have HNT := Lib.hid (nats_n o1 (own_below o2 b3) (h2.trans (b3.mono h2.size)))
  have hu3 := hu2.below b3
  have he3 := (he1.below h2).below b3
  clear x0 x1 x2 x3 x4 x5 x6 x7 o1 o2 h1 h2 he1 hu2 b3 hw3' q0 q1 q2 HP HR
  go_wp2_with fail
  rw [HW3.out]
  refine (HNT.out).mono ?_
  rintro e w4 ⟨rfl, h4⟩
  have q4 := q3.trans (h4.mono q3.size)
  obtain ⟨d0, d1', d2', _⟩ := (hw3.below h4 hw3.lt).facts
  have HI := Lib.hid (HIS.out w4 q4 v1 _ (he3.below h4) (hu3.below h4).want)
  clear hw3 h4 q3 he3 hu3 HNT HIS
  go_wp2_with fail
  refine (HI.out).mono ?_
  rintro e w5 ⟨rfl, h5⟩
  have HBE := Lib.hid (HB0.out.trans ((q4.trans (h5.mono q4.size)).mono HB0.out.size))
  clear h5 q4
  go_wp2_with fail
  go_ret
  exact ⟨rfl, HBE.out⟩

end Go.Proofs.YtkghilmdoabodaaDoor
