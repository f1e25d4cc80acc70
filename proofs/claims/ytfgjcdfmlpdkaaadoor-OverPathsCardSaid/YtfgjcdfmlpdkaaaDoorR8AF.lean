/- The document's overlap: edenref08.Fault, WordFault, Count, Nodes. Condition: the lists read from memory. A word's fault: edenref08.WordFault. Condition: the word reads from memory. -/
import Derived.Test.YtfgjcdfmlpdkaaaDoorRawU
import Derived.Test.YtfgjcdfmlpdkaaaDoorRefR
import Derived.Test.YtfgjcdfmlpdkaaaDoorOverFG
namespace Go.Proofs.YtfgjcdfmlpdkaaaDoor
open Go.RowKit RuleP

theorem check_len {K R : Int} {T : List Int} {x : Tale} (h : check K R T = some x) : x.2.length = 1 := by
  unfold check at h
  split at h
  · cases h; rfl
  split at h
  · cases h; rfl
  split at h
  · cases h; rfl
  split at h
  · cases h; rfl
  · cases h
theorem small_len {K R : Int} {T : List Int} {x : Tale} (h : small K R T = some x) : x.2.length = 1 := by
  unfold small at h
  split at h
  · rename_i t ht
    cases h
    exact check_len ht
  · split at h
    · cases h; rfl
    · cases h

/-- A value that asks for an error is stored in a result's box. -/
theorem want_boxed {w0 w1 : World} {t : Option Tale} {N : Nat} {A1 A2 : Option Addr} {n1 c1 n2 c2 g : Nat} (hu : WantB w1 w0.heap.size t (.agg #[.int .i64 (N : Int), .slice A1 n1 c1, .slice A2 n2 c2])) {base : Nat} (hg : g < w0.heap.size) (hbase : base ≤ g) {w : World} (hb : Below base w w1) :
    WantB (((w1.setCell ⟨g, 0, none⟩ (.int .i64 (N : Int))).setCell ⟨g, 1, none⟩ (.slice A1 n1 c1)).setCell ⟨g, 2, none⟩ (.slice A2 n2 c2)) base t (.agg #[.int .i64 (N : Int), .slice A1 n1 c1, .slice A2 n2 c2]) ∧
      Below base w (((w1.setCell ⟨g, 0, none⟩ (.int .i64 (N : Int))).setCell ⟨g, 1, none⟩ (.slice A1 n1 c1)).setCell ⟨g, 2, none⟩ (.slice A2 n2 c2)) :=
  ⟨(hu.set3 hg _ _ _).base (by omega), below_set3 hb hbase _ _ _⟩

set_option maxRecDepth 100000 in
set_option maxHeartbeats 2000000 in
theorem refFault_c (w : World) (op : ByteArray) (K R : Int) (A : Option Addr) (n c : Nat) (T : List Int) (hT : Sl w A n (T.map (Value.int .i64))) (hm : n ≤ 9223372036854775807) :
    Calls Tryd.prog 73 #[.string op, ruleV K R A n c] w fun e w' => ∃ (N : Nat) (A1 : Option Addr) (n1 c1 : Nat) (A2 : Option Addr) (n2 c2 : Nat), e = .returned (.agg #[.int .i64 (N : Int), .slice A1 n1 c1, .slice A2 n2 c2]) ∧
      WantB w' w.heap.size (under op 0 (small K R T)) (.agg #[.int .i64 (N : Int), .slice A1 n1 c1, .slice A2 n2 c2]) ∧ Below w.heap.size w w' := by
  have hr0 := (RuleAt.new w (.int .i64 K) (.int .i64 R) (.slice A n c)).alloc (.cells #[.int .i64 0, .slice none 0 0, .slice none 0 0] 60)
  have hw0 := WantAt.new (w.alloc (.cells #[.int .i64 K, .int .i64 R, .slice A n c] 24)) (.int .i64 0) (.slice none 0 0) (.slice none 0 0)
  rw [World.size_alloc] at hw0
  have hb0 := ((Below.refl w.heap.size w).alloc (Nat.le_refl _) (.cells #[.int .i64 K, .int .i64 R, .slice A n c] 24)).alloc (by simp) (.cells #[.int .i64 0, .slice none 0 0, .slice none 0 0] 60)
  have hT0 := (hT.alloc (.cells #[.int .i64 K, .int .i64 R, .slice A n c] 24)).alloc (.cells #[.int .i64 0, .slice none 0 0, .slice none 0 0] 60)
  obtain ⟨wx, hwx⟩ : ∃ wx, (w.alloc (.cells #[.int .i64 K, .int .i64 R, .slice A n c] 24)).alloc (.cells #[.int .i64 0, .slice none 0 0, .slice none 0 0] 60) = wx := ⟨_, rfl⟩
  have hsx : wx.heap.size = w.heap.size + 2 := by rw [← hwx]; simp
  have HWX := Lib.hid hwx
  rw [hwx] at hr0 hw0 hb0 hT0
  have HC := Lib.hid (refSmall_c wx K R A n c T hT0 hm)
  have HW0 := Lib.hid hw0
  have HB0 := Lib.hid hb0
  obtain ⟨r0, r1, r2, _⟩ := hr0.facts
  clear hw0 hb0 hT hT0 hr0 hwx
  unfold ruleV at *
  go_enter Tryd.func73, Tryd.ntmps73
  go_wp2_with fail
  rw [HWX.out]
  refine (HC.out).mono ?_
  rintro e w1 ⟨N, A1, n1, c1, A2, n2, c2, rfl, hu, hb1⟩
  have hs1 := hb1.size
  have HU := Lib.hid (rawUnder_c w1 op 0 wx.heap.size _ N A1 n1 c1 A2 n2 c2 hu (small_ok K R T) (fun x hx => by rw [small_len hx]; decide))
  have HW1 := Lib.hid (HW0.out.below hb1 (by omega))
  have HB1 := Lib.hid (HB0.out.trans (hb1.mono HB0.out.size))
  clear hu hb1 r0 r1 r2
  go_wp2_with fail
  refine (HU.out).mono ?_
  rintro e w2 ⟨N2, A3, n3, c3, A4, n4, c4, rfl, hu, hb2⟩
  obtain ⟨d0, d1, d2, f0, f1, f2⟩ := (HW1.out.below hb2 (by omega)).facts
  obtain ⟨hwb, hbb⟩ := want_boxed (g := w.heap.size + 1) (base := w.heap.size) hu (by omega) (Nat.le_succ _) (HB1.out.trans (hb2.mono HB1.out.size))
  have HWB := Lib.hid hwb
  have HBB := Lib.hid hbb
  clear hu hb2 hwb hbb
  go_wp2_with fail
  exact bodyPost_ret (v := .agg #[.int .i64 (N2 : Int), .slice A3 n3 c3, .slice A4 n4 c4]) (by simp [results, Tryd.results73, go_sem, d0, d1, d2]) rfl ⟨N2, A3, n3, c3, A4, n4, c4, rfl, HWB.out, HBB.out⟩

theorem count_c (w : World) (k r : Nat) (A : Option Addr) (n c : Nat) (h1 : 1 ≤ k) (h2 : k ≤ 4) (h3 : r ≤ 3) :
    Calls Tryd.prog 78 #[ruleV k r A n c] w fun e w' => e = .returned (.int .i64 ((k ^ (2 * r) : Nat) : Int)) ∧ Below w.heap.size w w' := by
  have hb0 := (Below.refl w.heap.size w).alloc (Nat.le_refl _) (.cells #[.int .i64 (k : Int), .int .i64 (r : Int), .slice A n c] 24)
  have hp := fun wz => power_c wz k (2 * r) h1 h2 (by omega)
  rw [show ((2 * r : Nat) : Int) = 2 * (r : Int) from by simp] at hp
  have HP := Lib.hid hp
  have HB := Lib.hid hb0
  obtain ⟨r0, r1, r2, _⟩ := (RuleAt.new w (.int .i64 (k : Int)) (.int .i64 (r : Int)) (.slice A n c)).facts
  clear hp hb0
  unfold ruleV
  go_enter Tryd.func78, Tryd.ntmps78
  go_wp2_with fail
  refine (HP.out _).mono ?_
  rintro e w1 ⟨rfl, rfl⟩
  go_wp2_with fail
  go_ret
  exact ⟨rfl, HB.out⟩
end Go.Proofs.YtfgjcdfmlpdkaaaDoor

namespace Go.Proofs.YtfgjcdfmlpdkaaaDoor
open Go.RowKit RuleP

/-- What is told of a word. -/
def wordT (op : ByteArray) (K : Int) (W : List Int) (most : Nat) : Option Tale :=
  if most < W.length then some (4, [(op, 1)]) else match odd K W with
    | some i => some (2, [(op, (i : Int))])
    | none => none
theorem checkO_word (K R : Int) (T W : List Int) (most : Nat) : checkO K R T W most = match smallO K R T with
    | some t => some t
    | none => wordT sOver K W most := rfl
theorem wordT_ok (op : ByteArray) (K : Int) (W : List Int) (most : Nat) : TaleOk (wordT op K W most) := by
  intro x h
  unfold wordT at h
  split at h
  · cases h; exact ⟨by simp, by simp⟩
  split at h
  · cases h; exact ⟨by simp, by simp⟩
  · cases h

set_option maxRecDepth 100000 in
set_option maxHeartbeats 2000000 in
theorem wordFault_c (w : World) (op : ByteArray) (K : Int) (B : Option Addr) (m d : Nat) (W : List Int) (most : Nat) (hW : Sl w B m (W.map (Value.int .i64))) (hm : m ≤ 9223372036854775807) (hmost : most ≤ 1000000) :
    Calls Tryd.prog 75 #[.string op, .int .i64 K, .slice B m d, .int .i64 (most : Int)] w fun e w' => ∃ (N : Nat) (A1 : Option Addr) (n1 c1 : Nat) (A2 : Option Addr) (n2 c2 : Nat), e = .returned (.agg #[.int .i64 (N : Int), .slice A1 n1 c1, .slice A2 n2 c2]) ∧
      WantB w' w.heap.size (wordT op K W most) (.agg #[.int .i64 (N : Int), .slice A1 n1 c1, .slice A2 n2 c2]) ∧ Below w.heap.size w w' := by
  have hl : W.length = m := by simpa using hW.1
  have hw0 := WantAt.new w (.int .i64 0) (.slice none 0 0) (.slice none 0 0)
  have hb0 := (Below.refl w.heap.size w).alloc (Nat.le_refl _) (.cells #[.int .i64 0, .slice none 0 0, .slice none 0 0] 60)
  have hW0 := hW.alloc (.cells #[.int .i64 0, .slice none 0 0, .slice none 0 0] 60)
  obtain ⟨wx, hwx⟩ : ∃ wx, w.alloc (.cells #[.int .i64 0, .slice none 0 0, .slice none 0 0] 60) = wx := ⟨_, rfl⟩
  have hsx : wx.heap.size = w.heap.size + 1 := by rw [← hwx]; simp
  have HWX := Lib.hid hwx
  rw [hwx] at hw0 hb0 hW0
  have HW0 := Lib.hid hw0
  have HB0 := Lib.hid hb0
  have HOD := Lib.hid (fun q => bad_c (wx.drewN q) K B m d W (hW0.drewN q) hm)
  by_cases hlong : most < m
  · have hc : Hid (wordT op K W most = some (4, [(op, 1)])) := Lib.hid (by unfold wordT; rw [if_pos (by omega)])
    have hd : decide ((most : Int) < (m : Int)) = true := decide_eq_true (by omega)
    clear hw0 hb0 hW0 hW hwx hl
    go_enter Tryd.func75, Tryd.ntmps75
    go_wp2_with fail
    rw [HWX.out]
    refine (newB_c wx op 1 4).mono ?_
    rintro e w1 ⟨A1, n1, c1, A2, n2, c2, rfl, hu, hb1⟩
    obtain ⟨d0, d1, d2, f0, f1, f2⟩ := (HW0.out.below hb1 (by omega)).facts
    obtain ⟨hwb, hbb⟩ := want_boxed (g := w.heap.size) (base := w.heap.size) hu (by omega) (Nat.le_refl _) (HB0.out.trans (hb1.mono HB0.out.size))
    have HWB := Lib.hid hwb
    have HBB := Lib.hid hbb
    clear hu hb1 hwb hbb
    go_wp2_with fail
    exact bodyPost_ret (v := .agg #[.int .i64 4, .slice A1 n1 c1, .slice A2 n2 c2]) (by simp [results, Tryd.results75, go_sem, d0, d1, d2]) rfl ⟨4, A1, n1, c1, A2, n2, c2, rfl, by rw [hc.out]; exact HWB.out, HBB.out⟩
  · have hd : decide ((most : Int) < (m : Int)) = false := decide_eq_false (by omega)
    have hd2 : ¬ most < m := hlong
    have hw : wordT op K W most = match odd K W with
        | some i => some (2, [(op, (i : Int))])
        | none => none := by unfold wordT; rw [if_neg (by omega)]
    clear hw0 hb0 hW0 hwx hW
    cases ho : odd K W with
    | some i =>
      rw [ho] at hw HOD
      have HC := Lib.hid hw
      have hi : i < m := by have := odd_some ho; omega
      have hpl : place (some i) = (i : Int) := rfl
      rw [hpl] at HOD
      clear hw ho hpl hl
      go_enter Tryd.func75, Tryd.ntmps75
      go_wp2_with fail
      rw [HWX.out]
      refine (HOD.out 0).mono ?_
      rintro e w3 ⟨rfl, q3, rfl⟩
      go_wp2_with fail
      refine (newB_c _ op (i : Int) 2).mono ?_
      rintro e w1 ⟨A1, n1, c1, A2, n2, c2, rfl, hu, hb1⟩
      obtain ⟨d0, d1, d2, f0, f1, f2⟩ := ((HW0.out.below (pure_drewN _ _) (by omega)).below hb1 (by simp; omega)).facts
      have hz := below_drewN HB0.out q3
      obtain ⟨hwb, hbb⟩ := want_boxed (g := w.heap.size) (base := w.heap.size) hu (by simp; omega) (Nat.le_refl _) (hz.trans (hb1.mono hz.size))
      have HWB := Lib.hid hwb
      have HBB := Lib.hid hbb
      clear hu hb1 hwb hbb hz
      go_wp2_with fail
      exact bodyPost_ret (v := .agg #[.int .i64 2, .slice A1 n1 c1, .slice A2 n2 c2]) (by simp [results, Tryd.results75, go_sem, d0, d1, d2]) rfl ⟨2, A1, n1, c1, A2, n2, c2, rfl, by rw [HC.out]; exact HWB.out, HBB.out⟩
    | none =>
      rw [ho] at hw HOD
      have HC := Lib.hid hw
      have hpl : place none = -1 := rfl
      rw [hpl] at HOD
      obtain ⟨d0, d1, d2, f0, f1, f2⟩ := HW0.out.facts
      clear hw ho hpl hl
      go_enter Tryd.func75, Tryd.ntmps75
      go_wp2_with fail
      rw [HWX.out]
      refine (HOD.out 0).mono ?_
      rintro e w3 ⟨rfl, q3, rfl⟩
      go_wp2_with fail
      exact bodyPost_ret (v := .agg #[.int .i64 0, .slice none 0 0, .slice none 0 0]) (by simp [results, Tryd.results75, go_sem, d0, d1, d2]) rfl ⟨0, none, 0, 0, none, 0, 0, rfl, by rw [HC.out]; exact WantB.zero _ _, below_set3 (below_drewN HB0.out _) (Nat.le_refl _) _ _ _⟩
end Go.Proofs.YtfgjcdfmlpdkaaaDoor
