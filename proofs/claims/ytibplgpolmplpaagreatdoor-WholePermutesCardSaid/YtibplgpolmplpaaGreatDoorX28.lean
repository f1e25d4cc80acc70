/- slices.Grow of nil, slices.Concat of two lists; permut.check, permut.Sides. Condition: the lists read from memory; the error variables hold what E says. permut.Right. Condition: the lists read from memory; the error variables hold what E says. -/
import Derived.Lib.AppendZeros
import Derived.Test.YtibplgpolmplpaaGreatDoorX3
import Derived.Test.YtibplgpolmplpaaGreatDoorX15
import Derived.Test.YtibplgpolmplpaaGreatDoorX27
namespace Go.Proofs.YtibplgpolmplpaaGreatDoor
open Go.RowKit RuleP

set_option maxRecDepth 100000 in
theorem growNil_c (w : World) (n : Nat) (hn : n ≤ 100000) :
    Calls Tryz.prog 132 #[.slice none 0 0, .int .i64 (n : Int)] w fun e w' => ∃ C c, e = .returned (.slice C 0 c) ∧ w'.ownsRow w.heap.size 3 1 (.slice C 0 c) 0 [] ∧ Below w.heap.size w w' := by
  have h1 : ¬ ((n : Int) < 0) := by omega
  have h3 : IntKind.i64.wrap (n : Int) = (n : Int) := IntWalk.i64_in _ (by omega)
  by_cases h0 : n = 0
  · subst h0
    go_enter Tryz.func132, Tryz.ntmps132
    go_wp2_with fail
    go_ret
    exact ⟨_, _, rfl, World.ownsRow_nil _ _ _ _, Below.refl _ _⟩
  · have h0' : (0 : Int) < (n : Int) := by omega
    obtain ⟨i0, hi, hz0, hz1, hz2⟩ := info_parts tInts.info
    have hr := Lib.run_append_nil_zeros (P := Tryz.prog) w 22 3 22 3 i0 (.int .i64 0) .i64 .i64 tInts.und Tryz.underlying3 hi hz0 n (by omega) (by rw [hz1]; omega) (by omega) (by rw [hz2]; omega)
    have hge := grownCap_ge w n 0 3
    have hle := grownCap_le_maxLen w n 0 3 (by simp only [maxLen]; omega)
    obtain ⟨C, hC⟩ : ∃ C, grownCap w n 0 3 = C := ⟨_, rfl⟩
    rw [hC] at hr hge hle
    have hown := World.ownsRow_made (base := w.heap.size) (e := 3) (size := 1) w.drew (Builtin.zeroCells (Value.int .i64 0).cells n ++ Builtin.zeroCells (Value.int .i64 0).cells (C - n)) C (Nat.le_refl _) hle (by
      rw [Array.size_append, size_zeroCells, size_zeroCells]
      show n * 1 + (C - n) * 1 = C * 1
      omega)
    have hb := (Below.refl w.heap.size w).drew.alloc (Nat.le_refl _) (.cells (Builtin.zeroCells (Value.int .i64 0).cells n ++ Builtin.zeroCells (Value.int .i64 0).cells (C - n)) 3)
    obtain ⟨w2, hw2⟩ : ∃ w2, w.drew.alloc (.cells (Builtin.zeroCells (Value.int .i64 0).cells n ++ Builtin.zeroCells (Value.int .i64 0).cells (C - n)) 3) = w2 := ⟨_, rfl⟩
    rw [hw2] at hr hown hb
    have HR := Lib.hid hr
    have HO := Lib.hid hown
    have HB := Lib.hid hb
    have hC0 : (0 : Int) ≤ (C : Int) := by omega
    have hC1 : (n : Int) ≤ (C : Int) := by omega
    clear hr hown hb hw2 hC
    go_enter Tryz.func132, Tryz.ntmps132
    go_wp2_with (at_builtin; refine Lib.wpList_append_run _ rfl _ _ _ _ rfl _ _ rfl rfl _ _ HR.out ?_)
    go_ret
    exact ⟨_, _, rfl, HO.out, HB.out⟩

set_option maxRecDepth 100000 in
set_option maxHeartbeats 2000000 in
theorem concat2_c (w : World) (g : Nat) (A B : Option Addr) (n c m d : Nat) (X Y : List Int) (h0 : w.cell? ⟨g, 0, none⟩ = some (.slice A n c)) (h1 : w.cell? ⟨g, 1, none⟩ = some (.slice B m d))
    (hX : Sl w A n (X.map (Value.int .i64))) (hY : Sl w B m (Y.map (Value.int .i64))) (hn : n ≤ 4096) (hm : m ≤ 4096) :
    Calls Tryz.prog 113 #[.slice (some ⟨g, 0, none⟩) 2 2] w fun e w' => ∃ C c, e = .returned (.slice C (n + m) c) ∧ w'.ownsRow w.heap.size 3 1 (.slice C (n + m) c) (n + m) ((X ++ Y).map (Value.int .i64)) ∧ Below w.heap.size w w' := by
  obtain ⟨q, hq⟩ : ∃ q, n + m = q := ⟨_, rfl⟩
  rw [hq]
  have e1 : IntKind.i64.wrap (n : Int) = (n : Int) := IntWalk.i64_in _ (by omega)
  have e2 : IntKind.i64.wrap ((n : Int) + (m : Int)) = (q : Int) := by rw [← Int.natCast_add, hq]; exact IntWalk.i64_in _ (by omega)
  have e3 : ¬ ((n : Int) < 0) := by omega
  have e4 : ¬ ((q : Int) < 0) := by omega
  have HXY := Lib.hid (And.intro hX hY)
  have HQ := Lib.hid hq
  have HH := Lib.hid (And.intro h0 h1)
  have HGR := Lib.hid (growNil_c w q (by omega))
  clear hX hY hq
  go_enter Tryz.func113, Tryz.ntmps113
  go_wp2_with fail
  go_loop [3, 11] (fun sv jv => (jv = .int .i64 0 ∧ sv = .int .i64 0) ∨ (jv = .int .i64 1 ∧ sv = .int .i64 (n : Int)) ∨ (jv = .int .i64 2 ∧ sv = .int .i64 (q : Int))) (fun _ jv => 2 - (intOf jv).toNat)
  case atStart => exact .inl ⟨rfl, rfl⟩
  case round =>
    rcases hrel with ⟨rfl, rfl⟩ | ⟨rfl, rfl⟩ | ⟨rfl, rfl⟩
    · go_wp2_with fail
      exact ⟨.inr (.inl ⟨rfl, rfl⟩), by decide⟩
    · go_wp2_with fail
      exact ⟨.inr (.inr ⟨rfl, rfl⟩), by decide⟩
    · go_wp2_with fail
      refine (HGR.out).mono ?_
      rintro e w1 ⟨C, cc, rfl, ho, hb⟩
      have HB1 := Lib.hid hb
      have HO := Lib.hid ho
      clear ho hb h0 h1
      go_wp2_with fail
      go_loopw [6, 27] (fun sv jv wl => ∃ (C : Option Addr) (l cc : Nat) (Z : List Int), sv = .slice C l cc ∧ Hid (wl.ownsRow w.heap.size 3 1 (.slice C l cc) l (Z.map (Value.int .i64))) ∧ Hid (Below w.heap.size w wl) ∧
        ((jv = .int .i64 0 ∧ l = 0 ∧ Z = []) ∨ (jv = .int .i64 1 ∧ l = n ∧ Z = X) ∨ (jv = .int .i64 2 ∧ l = q ∧ Z = X ++ Y))) (fun _ jv _ => 2 - (intOf jv).toNat)
      case atStart => exact ⟨C, 0, cc, [], rfl, HO, HB1, .inl ⟨rfl, rfl, rfl⟩⟩
      case round =>
        obtain ⟨C, l, cc, Z, rfl, HO, HB, hor⟩ := hrel
        have h0 := cell_later HB.out HH.out.1
        have h1 := cell_later HB.out HH.out.2
        have hbz := HB.out.size
        rcases hor with ⟨rfl, rfl, rfl⟩ | ⟨rfl, rfl, rfl⟩ | ⟨rfl, rfl, rfl⟩
        · obtain ⟨v', w', hr, ho, hg, hbl⟩ := run_cat (P := Tryz.prog) wr 22 22 tInts HO.out (HXY.out.1.below HB.out) (c := c) (ints_one (q := .i64) X) (by simp only [maxLen]; omega) (by omega) hbz
          obtain ⟨C', c', rfl, _, _⟩ := own_slice ho
          have HB' := Lib.hid (HB.out.grown hg hbz (fun k e => (HO.out.lt k e).1))
          have HO' := Lib.hid ho
          have HR := Lib.hid hr
          rw [Nat.zero_add, List.map_nil, List.nil_append] at HO'
          clear hr ho hg hbl
          go_wp2_with (at_builtin; refine Lib.wpList_append_run _ rfl _ _ _ _ rfl _ _ rfl rfl _ _ HR.out ?_)
          exact ⟨⟨C', n, c', X, by first | rfl | rw [Nat.zero_add], HO', HB', .inr (.inl ⟨rfl, rfl, rfl⟩)⟩, by decide⟩
        · obtain ⟨v', w', hr, ho, hg, hbl⟩ := run_cat (P := Tryz.prog) wr 22 22 tInts HO.out (HXY.out.2.below HB.out) (c := d) (ints_one (q := .i64) Y) (by simp only [maxLen]; omega) (by omega) hbz
          obtain ⟨C', c', rfl, _, _⟩ := own_slice ho
          have HB' := Lib.hid (HB.out.grown hg hbz (fun k e => (HO.out.lt k e).1))
          have HO' := Lib.hid (show w'.ownsRow w.heap.size 3 1 (.slice C' (l + m) c') (l + m) ((Z ++ Y).map (Value.int .i64)) by rw [List.map_append]; exact ho)
          have HR := Lib.hid hr
          clear hr ho hg hbl
          go_wp2_with (at_builtin; refine Lib.wpList_append_run _ rfl _ _ _ _ rfl _ _ rfl rfl _ _ HR.out ?_)
          exact ⟨⟨C', l + m, c', _, rfl, HO', HB', .inr (.inr ⟨rfl, HQ.out, rfl⟩)⟩, by decide⟩
        · go_wp2_with fail
          go_ret
          exact ⟨_, _, rfl, HO.out, HB.out⟩

theorem odd_of {k : Int} {ws : List Int} (h : ∀ y ∈ ws, 0 ≤ y ∧ y < k) : odd k ws = none := by
  refine List.findIdx?_eq_none_iff.2 fun x hx => ?_
  have := h x hx
  simp; omega
theorem permOddF_c (w : World) (x k : Int) (b : Nat) (hb : w.cell? ⟨b, 0, none⟩ = some (.int .i64 k)) :
    Calls Tryz.prog 114 #[.int .i64 x, .pointer (some ⟨b, 0, none⟩)] w fun e w' => e = .returned (.bool (decide (x < 0 ∨ k ≤ x))) ∧ w = w' := by
  by_cases h : x < 0
  · have h1 : decide (x < 0) = true := decide_eq_true h
    have hd : Hid (decide (x < 0 ∨ k ≤ x) = true) := Lib.hid (decide_eq_true (.inl h))
    go_enter Tryz.func114, Tryz.ntmps114
    go_wp2_with fail
    go_ret
    exact ⟨by first | rfl | (rw [hd.out]; rfl), rfl⟩
  · have h1 : decide (x < 0) = false := decide_eq_false h
    have hd : Hid (decide (x < 0 ∨ k ≤ x) = decide (k ≤ x)) := Lib.hid (by simp [h])
    go_enter Tryz.func114, Tryz.ntmps114
    go_wp2_with fail
    go_ret
    exact ⟨by first | rfl | (rw [hd.out]; rfl), rfl⟩

set_option maxRecDepth 100000 in
set_option maxHeartbeats 2000000 in
theorem permCheck_c (w : World) (E : Nat → Addr) (hE : Errs w E) (k r n c : Nat) (A : Option Addr) (hr3 : r ≤ 3) (B : Option Addr) (m d : Nat) (X : List Int) (hX : Sl w B m (X.map (Value.int .i64))) (hm : m ≤ 9223372036854775807)
    (C : Option Addr) (l q : Nat) (Y : List Int) (hY : Sl w C l (Y.map (Value.int .i64))) (hl : l ≤ 9223372036854775807) :
    Calls Tryz.prog 74 #[ruleV (k : Int) (r : Int) A n c, .slice B m d, .slice C l q] w fun e w' => ∃ v, e = .returned v ∧ Below w.heap.size w w' ∧
      ((∃ u p, v = .iface u p) ∨ (v = .nilIface ∧ m ≤ 4096 ∧ l = 2 * r ∧ ∃ x y, X = ints x ∧ Y = ints y ∧ (∀ s ∈ x, s < k) ∧ (∀ s ∈ y, s < k))) := by
  have hb1 := (Below.refl w.heap.size w).alloc (Nat.le_refl _) (.cells #[.int .i64 (k : Int), .int .i64 (r : Int), .slice A n c] 24)
  have hr1 := RuleAt.new w (.int .i64 (k : Int)) (.int .i64 (r : Int)) (.slice A n c)
  obtain ⟨r0, r1, r2, _⟩ := hr1.facts
  obtain ⟨w1, hw1⟩ : ∃ w1, w.alloc (.cells #[.int .i64 (k : Int), .int .i64 (r : Int), .slice A n c] 24) = w1 := ⟨_, rfl⟩
  rw [hw1] at hb1 hr1
  have hsz1 : w1.heap.size = w.heap.size + 1 := by rw [← hw1]; simp
  have HW1 := Lib.hid hw1
  have HB1 := Lib.hid hb1
  have HR1 := Lib.hid hr1
  have HE := Lib.hid (fun (wz : World) (hz : Below w1.heap.size w1 wz) => hE.below (hb1.trans (hz.mono hb1.size)))
  have HX := Lib.hid (hX.below hb1)
  have HY := Lib.hid (hY.below hb1)
  clear hw1 hb1 hr1 hE hX hY
  have e1 : IntKind.i64.wrap (2 * (r : Int)) = 2 * (r : Int) := IntWalk.i64_in _ (by omega)
  unfold ruleV
  by_cases hbig : 4096 < m
  · have hbig' : (4096 : Int) < (m : Int) := by omega
    have HWR := Lib.hid (permWrong_c w1 E (HE.out w1 (Below.refl _ _)) 1 4 (by decide) (by decide))
    go_enter Tryz.func74, Tryz.ntmps74
    go_wp2_with fail
    rw [HW1.out]
    refine (HWR.out).mono ?_
    rintro e w2 ⟨rfl, he, hb⟩
    have HB2 := Lib.hid (HB1.out.trans (hb.mono HB1.out.size))
    clear he hb
    go_wp2_with fail
    go_ret
    exact ⟨_, rfl, HB2.out, .inl ⟨_, _, rfl⟩⟩
  have hbig' : ¬ (4096 : Int) < (m : Int) := by omega
  by_cases hl2 : l = 2 * r
  · subst hl2
    have hb2 := (Below.refl w1.heap.size w1).alloc (Nat.le_refl _) (.cells #[.slice B m d, .slice C (2 * r) q] 22)
    have hc0 : (w1.alloc (.cells #[.slice B m d, .slice C (2 * r) q] 22)).cell? ⟨w1.heap.size, 0, none⟩ = some (.slice B m d) := by rw [cell_of_row _ _ _ _ _ _ (heap_new _ _)]; rfl
    have hc1 : (w1.alloc (.cells #[.slice B m d, .slice C (2 * r) q] 22)).cell? ⟨w1.heap.size, 1, none⟩ = some (.slice C (2 * r) q) := by rw [cell_of_row _ _ _ _ _ _ (heap_new _ _)]; rfl
    obtain ⟨w2, hw2⟩ : ∃ w2, w1.alloc (.cells #[.slice B m d, .slice C (2 * r) q] 22) = w2 := ⟨_, rfl⟩
    rw [hw2] at hb2 hc0 hc1
    rw [hsz1] at hc0 hc1
    have HCC := Lib.hid (concat2_c w2 (w.heap.size + 1) B C m d (2 * r) q X Y hc0 hc1 (HX.out.below hb2) (HY.out.below hb2) (by omega) (by omega))
    have HW2 := Lib.hid hw2
    have HB2 := Lib.hid hb2
    clear hb2 hc0 hc1 hw2 hsz1
    go_enter Tryz.func74, Tryz.ntmps74
    go_wp2_with fail
    rw [HW1.out, HW2.out]
    refine (HCC.out).mono ?_
    rintro e w3 ⟨D, dc, rfl, ho, hb⟩
    have hb3 := HB2.out.trans (hb.mono HB2.out.size)
    have hk3 := (HR1.out.below hb3 HR1.out.lt).facts.1
    have hi := indexFunc_c w3 114 ⟨w.heap.size, 0, none⟩ (fun x => decide (x < 0 ∨ (k : Int) ≤ x)) D (m + 2 * r) dc (X ++ Y) (Sl.of_own ho) (by omega)
      (fun x wz => run_enter Tryz.func114 (by kernel_rfl) (by kernel_rfl) _ _) (fun x => permOddF_c _ x (k : Int) _ hk3)
    change Calls _ _ _ _ (fun e w' => e = .returned (.int .i64 (place (odd (k : Int) (X ++ Y)))) ∧ _ = w') at hi
    have HI := Lib.hid hi
    have HB3 := Lib.hid hb3
    clear hi hb3 hk3 ho hb
    go_wp2_with fail
    refine (HI.out).mono ?_
    rintro e w4 ⟨rfl, rfl⟩
    cases hod : odd (k : Int) (X ++ Y) with
    | none =>
      have HOD := Lib.hid hod
      have hpl : place none = -1 := rfl
      rw [hpl]
      clear hod hpl
      go_wp2_with fail
      go_ret
      refine ⟨_, rfl, HB1.out.trans (HB3.out.mono HB1.out.size), .inr ⟨rfl, by omega, by first | rfl | trivial, ?_⟩⟩
      have h := odd_none HOD.out
      obtain ⟨x, hx, hxk⟩ := odd_nat (k := k) (w := X) (odd_of fun z hz => h z (List.mem_append_left _ hz))
      obtain ⟨y, hy, hyk⟩ := odd_nat (k := k) (w := Y) (odd_of fun z hz => h z (List.mem_append_right _ hz))
      exact ⟨x, y, hx, hy, hxk, hyk⟩
    | some i =>
      have hpl : place (some i) = (i : Int) := rfl
      have hi0 : (0 : Int) ≤ (i : Int) := by omega
      rw [hpl]
      clear hod hpl
      have HWR := Lib.hid (permWrong_c _ E (HE.out _ HB3.out) (i : Int) 2 (by decide) (by decide))
      go_wp2_with fail
      refine (HWR.out).mono ?_
      rintro e w5 ⟨rfl, he, hb⟩
      have HB5 := Lib.hid (HB3.out.trans (hb.mono HB3.out.size))
      clear he hb
      go_wp2_with fail
      go_ret
      exact ⟨_, rfl, HB1.out.trans (HB5.out.mono HB1.out.size), .inl ⟨_, _, rfl⟩⟩
  · have hl2' : ¬ (l : Int) = 2 * (r : Int) := by omega
    have HWR := Lib.hid (permWrong_c w1 E (HE.out w1 (Below.refl _ _)) 2 3 (by decide) (by decide))
    go_enter Tryz.func74, Tryz.ntmps74
    go_wp2_with fail
    rw [HW1.out]
    refine (HWR.out).mono ?_
    rintro e w2 ⟨rfl, he, hb⟩
    have HB2 := Lib.hid (HB1.out.trans (hb.mono HB1.out.size))
    clear he hb
    go_wp2_with fail
    go_ret
    exact ⟨_, rfl, HB2.out, .inl ⟨_, _, rfl⟩⟩

theorem hin_one {k N n i : Nat} (hk : 1 ≤ k) (hn : n = N * k) (hi : i < n) (h : i / 1 % k = 0) : ∀ s, s < k → i + s * 1 < n := fun s hs => by
  rw [Nat.div_one] at h
  rw [Nat.mul_one]
  have h1 := Nat.div_add_mod i k
  have h2 : i / k < N := Nat.div_lt_of_lt_mul (by rw [Nat.mul_comm]; omega)
  have h3 : k * (i / k) + k ≤ N * k := by
    rw [← Nat.mul_succ, Nat.mul_comm]
    exact Nat.mul_le_mul_right _ h2
  omega
theorem hin_all {k N n i : Nat} (hk : 1 ≤ k) (hN : 0 < N) (hn : n = N * k) (hi : i < n) (h : i / N % k = 0) : ∀ s, s < k → i + s * N < n := fun s hs => by
  have h1 : i / N < k := Nat.div_lt_of_lt_mul (by omega)
  rw [Nat.mod_eq_of_lt h1] at h
  have h2 : i < N := by
    rcases Nat.div_eq_zero_iff.1 h with h3 | h3
    · omega
    · exact h3
  have h3 : (s + 1) * N ≤ k * N := Nat.mul_le_mul_right _ hs
  rw [Nat.add_mul, Nat.one_mul, Nat.mul_comm k N] at h3
  omega
/-- What Sides answers. -/
def SidesPost (w : World) (K R : Int) (T : List Int) (e : Ending) (w' : World) : Prop :=
  ∃ (a b : Bool) (v : Value), e = .returned (.tuple #[.bool a, .bool b, v]) ∧ Below w.heap.size w w' ∧
    ((∃ u p, v = .iface u p) ∨ (v = .nilIface ∧ ∃ (k r : Nat) (t : List Nat), K = (k : Int) ∧ R = (r : Int) ∧ T = ints t ∧ IsRule k r t ∧ a = permU k t (k ^ (2 * r)) ∧ b = permU k t 1))

set_option maxRecDepth 100000 in
set_option maxHeartbeats 2000000 in
theorem sides_c (w : World) (E : Nat → Addr) (hE : Errs w E) (K R : Int) (A : Option Addr) (n c : Nat) (T : List Int) (hT : Sl w A n (T.map (Value.int .i64))) (hm : n ≤ 9223372036854775807) :
    Calls Tryz.prog 25 #[ruleV K R A n c] w (SidesPost w K R T) := by
  have hb1 := (Below.refl w.heap.size w).alloc (Nat.le_refl _) (.cells #[.int .i64 K, .int .i64 R, .slice A n c] 24)
  have hr1 := RuleAt.new w (.int .i64 K) (.int .i64 R) (.slice A n c)
  obtain ⟨r0, r1, r2, _⟩ := hr1.facts
  obtain ⟨w1, hw1⟩ : ∃ w1, w.alloc (.cells #[.int .i64 K, .int .i64 R, .slice A n c] 24) = w1 := ⟨_, rfl⟩
  rw [hw1] at hb1 hr1
  have hck := check_c w1 E (hE.below hb1) K R A n c T (hT.below hb1) hm
  have HW1 := Lib.hid hw1
  have HB1 := Lib.hid hb1
  have HR1 := Lib.hid hr1
  have HT := Lib.hid (fun (wz : World) (hz : Below w.heap.size w wz) => hT.below hz)
  unfold ruleV at hck ⊢
  have HCK := Lib.hid hck
  have HE := Lib.hid (fun (wz : World) (hz : Below w.heap.size w wz) => hE.below hz)
  clear hw1 hb1 hr1 hT hck hE
  go_enter Tryz.func25, Tryz.ntmps25
  go_wp2_with fail
  rw [HW1.out]
  refine (HCK.out).mono ?_
  rintro e w2 ⟨v, rfl, he, hb⟩
  have hb2 := HB1.out.trans (hb.mono HB1.out.size)
  cases hc : check K R T with
  | some tl =>
    rw [hc] at he
    have HU := Lib.hid (under_c w2 E sPermut 0 _ v he)
    have hv := he
    obtain ⟨u, p, rfl⟩ := ErrIs.iface (show ErrIs w2 E tl.1 tl.2 v from hv)
    have HB2 := Lib.hid hb2
    clear he hb hb2 hc hv r0 r1 r2
    go_wp2_with fail
    refine (HU.out).mono ?_
    rintro e w3 ⟨v', rfl, he, hb⟩
    obtain ⟨u', p', rfl⟩ : ∃ u p, v' = .iface u p := ErrIs.iface (show ErrIs w3 E tl.1 _ v' from he)
    have HB3 := Lib.hid (HB2.out.trans (hb.mono HB2.out.size))
    clear he hb
    go_wp2_with fail
    go_ret3
    exact ⟨_, _, _, rfl, HB3.out, .inl ⟨_, _, rfl⟩⟩
  | none =>
    rw [hc] at he
    obtain rfl : v = .nilIface := he
    obtain ⟨k, r, t, rfl, rfl, rfl, hr⟩ := check_none hc
    obtain ⟨hdv, hln⟩ := nodes_div hr
    have htn : t.length = n := by have := (HT.out w2 hb2).1; simpa [ints] using this
    rw [htn] at hdv hln
    have hk1 := hr.k1
    have hN0 : 0 < k ^ (2 * r) := Nat.pow_pos hk1
    have hn16 : n ≤ 16384 := by
      have h1 : k ^ (2 * r + 1) ≤ 4 ^ 7 := Nat.le_trans (Nat.pow_le_pow_left hr.k4 _) (Nat.pow_le_pow_right (by decide) (by have := hr.r3; omega))
      rw [← htn, hr.len]
      exact Nat.le_trans h1 (by decide)
    have hNn : k ^ (2 * r) ≤ 16384 := by
      have := Nat.le_mul_of_pos_right (k ^ (2 * r)) hk1
      omega
    have HRU := Lib.hid hr
    obtain ⟨N, hN⟩ : ∃ N, k ^ (2 * r) = N := ⟨_, rfl⟩
    rw [hN] at hdv hln hN0 hNn
    have HNN := Lib.hid hN
    have e1 : (n : Int).tdiv (k : Int) = (N : Int) := by rw [← hdv]; rfl
    have e1' : (n : Int) / (k : Int) = (N : Int) := by rw [← hdv]; rfl
    have e2 : IntKind.i64.wrap (N : Int) = (N : Int) := IntWalk.i64_in _ (by omega)
    have hk0 : ¬ ((k : Int) = 0) := by omega
    have hk0n : ¬ k = 0 := by omega
    have hr2 := HR1.out.below hb HR1.out.lt
    obtain ⟨r0, r1, r2, _⟩ := hr2.facts
    have hu1 := unlike_c w2.drew k r n c N A t hr (HT.out w2.drew hb2.drew) hn16 hN0 hNn (fun i hi h => hin_all hk1 hN0 hln hi h)
    have hu2 := fun (wz : World) (hz : Below w2.heap.size w2 wz) => unlike_c wz k r n c 1 A t hr (HT.out wz (hb2.trans (hz.mono hb2.size))) hn16 (by decide) (by decide) (fun i hi h => hin_one hk1 hln hi h)
    unfold ruleV at hu1 hu2
    simp only [show ((1 : Nat) : Int) = 1 from rfl] at hu2
    have HU1 := Lib.hid hu1
    have HU2 := Lib.hid hu2
    have HB2 := Lib.hid hb2
    clear hb hb2 hc hr hdv hln htn hN hr2 hu1 hu2
    go_wp2_with fail
    go_region_held3 (fun w' => w'.cell? ⟨w.heap.size, 0, none⟩ = some (.int .i64 (k : Int)) ∧ w'.cell? ⟨w.heap.size, 1, none⟩ = some (.int .i64 (r : Int)) ∧ w'.cell? ⟨w.heap.size, 2, none⟩ = some (.slice A n c))
      (first | go_keep)
      (first
        | (go_at_call 72
           with_reducible refine (HU2.out w4 hb4').mono ?_
           rintro e w5 ⟨rfl, hb5⟩
           have y0 := cell_later hb5 x0
           have y1 := cell_later hb5 x1
           have y2 := cell_later hb5 x2)
        | (go_at_call 72
           with_reducible refine (HU1.out).mono ?_
           rintro e w4 ⟨rfl, hb4⟩
           have x0 := cell_later hb4 r0
           have x1 := cell_later hb4 r1
           have x2 := cell_later hb4 r2
           have hb4' : Below w2.heap.size w2 w4 := (Below.refl _ _).drew.trans hb4)
        | fail)
    go_wp2_with fail
    go_ret3
    exact ⟨_, _, _, rfl, HB2.out.trans ((hb4'.trans (hb5.mono hb4'.size)).mono HB2.out.size), .inr ⟨rfl, k, r, t, rfl, rfl, rfl, HRU.out, by rw [HNN.out], rfl⟩⟩
end Go.Proofs.YtibplgpolmplpaaGreatDoor

namespace Go.Proofs.YtibplgpolmplpaaGreatDoor
open Go.RowKit RuleP

/-- What Right and Left answer to a good rule: an error, or the list that F says. -/
def EndPost (w : World) (k r : Nat) (X Y : List Int) (F : List Nat → List Nat → List Nat) (e : Ending) (w' : World) : Prop :=
  ∃ (C : Option Addr) (l c : Nat) (v : Value), e = .returned (.tuple #[.slice C l c, v]) ∧ Below w.heap.size w w' ∧
    ((∃ u p, v = .iface u p) ∨ (v = .nilIface ∧ ∃ x y, X = ints x ∧ Y = ints y ∧ (∀ s ∈ x, s < k) ∧ (∀ s ∈ y, s < k) ∧ y.length = 2 * r ∧ l ≤ 5000 ∧ Sl w' C l ((ints (F x y)).map (Value.int .i64))))
theorem pow6 {k r : Nat} (hk : k ≤ 4) (hr : r ≤ 3) : k ^ (2 * r) ≤ 4096 :=
  Nat.le_trans (Nat.pow_le_pow_left hk _) (Nat.le_trans (Nat.pow_le_pow_right (by decide) (show 2 * r ≤ 6 by omega)) (by decide))
theorem wval_take {k : Nat} {y : List Nat} {i x : Nat} (hx : y[i]? = some x) : wval k (y.take (i + 1)) = wval k (y.take i) * k + x := by
  rw [List.take_add_one, hx]
  exact wval_snoc _ _ _
theorem wval_take_lt {k : Nat} {y : List Nat} (hy : ∀ s ∈ y, s < k) (h4 : k ≤ 4) (hk : 1 ≤ k) (h6 : y.length ≤ 6) (i : Nat) : wval k (y.take i) < 4096 := by
  have h1 := wval_lt (k := k) (w := y.take i) (fun s hs => hy s (List.mem_of_mem_take hs))
  have h2 : k ^ (y.take i).length ≤ 4 ^ 6 := Nat.le_trans (Nat.pow_le_pow_left h4 _) (Nat.pow_le_pow_right (by decide) (by rw [List.length_take]; omega))
  have h3 : (4 : Nat) ^ 6 = 4096 := by decide
  omega

set_option maxRecDepth 100000 in
set_option maxHeartbeats 4000000 in
theorem right_c (w : World) (E : Nat → Addr) (hE : Errs w E) (k r n c : Nat) (A : Option Addr) (t : List Nat) (hr : IsRule k r t) (hT : Sl w A n ((ints t).map (Value.int .i64))) (B : Option Addr) (m d : Nat) (X : List Int) (hX : Sl w B m (X.map (Value.int .i64))) (hm : m ≤ 9223372036854775807)
    (D : Option Addr) (l q : Nat) (Y : List Int) (hY : Sl w D l (Y.map (Value.int .i64))) (hl : l ≤ 9223372036854775807) :
    Calls Tryz.prog 26 #[ruleV (k : Int) (r : Int) A n c, .slice B m d, .slice D l q] w (EndPost w k r X Y (rightF k (k ^ (2 * r)) t)) := by
  have htn : t.length = n := by simpa [ints] using hT.1
  obtain ⟨hdv, hln⟩ := nodes_div hr
  rw [htn] at hdv hln
  have hk1 := hr.k1
  have hk4 := hr.k4
  have hr3 := hr.r3
  have hN0 : 0 < k ^ (2 * r) := Nat.pow_pos hk1
  have hN4 : k ^ (2 * r) ≤ 4096 := pow6 hk4 hr3
  obtain ⟨N, hN⟩ : ∃ N, k ^ (2 * r) = N := ⟨_, rfl⟩
  rw [hN] at hdv hln hN0 hN4 ⊢
  have hn16 : n ≤ 16384 := by
    have := Nat.mul_le_mul hN4 hk4
    omega
  have hb1 := (Below.refl w.heap.size w).alloc (Nat.le_refl _) (.cells #[.int .i64 (k : Int), .int .i64 (r : Int), .slice A n c] 24)
  have hr1 := RuleAt.new w (.int .i64 (k : Int)) (.int .i64 (r : Int)) (.slice A n c)
  obtain ⟨r0, r1, r2, _⟩ := hr1.facts
  obtain ⟨w1, hw1⟩ : ∃ w1, w.alloc (.cells #[.int .i64 (k : Int), .int .i64 (r : Int), .slice A n c] 24) = w1 := ⟨_, rfl⟩
  rw [hw1] at hb1 hr1
  have HER := Lib.hid (fun (wz : World) (hz : Below w.heap.size w wz) => (⟨hE.below hz, hT.below hz, hX.below hz, hY.below hz⟩ : _ ∧ _ ∧ _ ∧ _))
  have hsd := sides_c w1 E (HER.out w1 hb1).1 (k : Int) (r : Int) A n c (ints t) (HER.out w1 hb1).2.1 (by omega)
  have HW1 := Lib.hid hw1
  have HB1 := Lib.hid hb1
  have HR1 := Lib.hid hr1
  have HRU := Lib.hid hr
  have HNN := Lib.hid (And.intro hdv hln)
  have HLL := Lib.hid (And.intro hm hl)
  have HNP := Lib.hid hN
  unfold ruleV at hsd ⊢
  have HSD := Lib.hid hsd
  clear hw1 hb1 hr1 hr hE hT hX hY hsd htn hdv hln hN hm hl
  have hk0 : ¬ ((k : Int) = 0) := by omega
  have hk0n : ¬ k = 0 := by omega
  go_enter Tryz.func26, Tryz.ntmps26
  go_wp2_with fail
  rw [HW1.out]
  refine (HSD.out).mono ?_
  rintro e w2 ⟨la, ri, v, rfl, hb, hor⟩
  have hb2 := HB1.out.trans (hb.mono HB1.out.size)
  have hr2 := HR1.out.below hb HR1.out.lt
  rcases hor with ⟨u, p, rfl⟩ | ⟨rfl, _⟩
  · have HB2 := Lib.hid hb2
    clear hb hb2 hr2 r0 r1 r2
    go_wp2_with fail
    go_ret2
    exact ⟨_, _, _, _, rfl, HB2.out, .inl ⟨_, _, rfl⟩⟩
  cases ri with
  | false =>
    have HWR := Lib.hid (permWrong_c w2 E (HER.out w2 hb2).1 0 3 (by decide) (by decide))
    have HB2 := Lib.hid hb2
    clear hb hb2 hr2 r0 r1 r2
    go_wp2_with fail
    refine (HWR.out).mono ?_
    rintro e w3 ⟨rfl, he, hb⟩
    have HB3 := Lib.hid (HB2.out.trans (hb.mono HB2.out.size))
    clear he hb
    go_wp2_with fail
    go_ret2
    exact ⟨_, _, _, _, rfl, HB3.out, .inl ⟨_, _, rfl⟩⟩
  | true =>
    have hpc := permCheck_c w2 E (HER.out w2 hb2).1 k r n c A hr3 B m d X (HER.out w2 hb2).2.2.1 HLL.out.1 D l q Y (HER.out w2 hb2).2.2.2 HLL.out.2
    unfold ruleV at hpc
    have HPC := Lib.hid hpc
    have HB2 := Lib.hid hb2
    have HR2 := Lib.hid hr2
    clear r0 r1 r2
    obtain ⟨r0, r1, r2, _⟩ := hr2.facts
    clear hb hb2 hr2 hpc
    go_wp2_with fail
    refine (HPC.out).mono ?_
    rintro e w3 ⟨v, rfl, hb, hor⟩
    have hb3 := HB2.out.trans (hb.mono HB2.out.size)
    have hr3 := HR2.out.below hb HR2.out.lt
    rcases hor with ⟨u, p, rfl⟩ | ⟨rfl, hm4, rfl, x, y, rfl, rfl, hxk, hyk⟩
    · have HB3 := Lib.hid hb3
      clear hb hb3 hr3 r0 r1 r2
      go_wp2_with fail
      go_ret2
      exact ⟨_, _, _, _, rfl, HB3.out, .inl ⟨_, _, rfl⟩⟩
    have hxl : x.length = m := by have := (HER.out w3 hb3).2.2.1.1; simpa [ints] using this
    have hyl : y.length = 2 * r := by have := (HER.out w3 hb3).2.2.2.1; simpa [ints] using this
    obtain ⟨L, hL⟩ : ∃ L, 2 * r = L := ⟨_, rfl⟩
    rw [hL] at hyl HER ⊢
    have hL6 : L ≤ 6 := by omega
    have HCL := Lib.hid (clone_c w3 D L q ((ints y).map (Value.int .i64)) (ints_one (q := .i64) (ints y)) (by omega) (HER.out w3 hb3).2.2.2)
    have HXY := Lib.hid (And.intro hxk (And.intro hyk (And.intro hxl hyl)))
    have HB3 := Lib.hid hb3
    have HR3 := Lib.hid hr3
    have HL := Lib.hid hL
    have HW0 := Lib.hid hb3.size
    clear r0 r1 r2
    obtain ⟨r0, r1, r2, _⟩ := hr3.facts
    clear hb hb3 hr3 hxk hyk hxl hyl hL
    go_wp2_with fail
    refine (HCL.out).mono ?_
    rintro e w4 ⟨C, cc, rfl, ho4, hb4⟩
    have HO4 := Lib.hid ho4
    have HB34 := Lib.hid hb4
    have HB4 := Lib.hid (HB3.out.trans (hb4.mono HB3.out.size))
    have HR4 := Lib.hid (HR3.out.below hb4 HR3.out.lt)
    clear r0 r1 r2 ho4 hb4
    go_wp2_with fail
    go_loopw [13, 42] (fun nv iv wl => ∃ i : Nat, iv = .int .i64 (i : Int) ∧ i ≤ L ∧ nv = .int .i64 ((wval k (y.take i) : Nat) : Int) ∧ Hid (Below w4.heap.size w4 wl)) (fun _ iv _ => L - (intOf iv).toNat)
    case atStart => exact ⟨0, rfl, Nat.zero_le _, by rw [List.take_zero, wval_nil]; rfl, Lib.hid (Below.refl _ _)⟩
    case round =>
      obtain ⟨i, rfl, hi, rfl, hwe⟩ := hrel
      obtain ⟨v0, rfl⟩ : ∃ v0, v0 = wr := ⟨_, rfl⟩
      obtain ⟨r0, r1, r2, _⟩ := (HR4.out.below hwe.out HR4.out.lt).facts
      have HBv := Lib.hid (HB4.out.trans (hwe.out.mono HB4.out.size))
      have hnl := wval_take_lt HXY.out.2.1 hk4 hk1 (by rw [HXY.out.2.2.2]; exact hL6) i
      by_cases hiL : i < L
      · have hiL' : (i : Int) < (L : Int) := by omega
        have hi0 : (0 : Int) ≤ (i : Int) := by omega
        obtain ⟨ad, s, rfl, hs, hcs⟩ := perm_at (HER.out v0 HBv.out).2.2.2 hiL
        have hnx := wval_take (k := k) hs
        have hnl2 := wval_take_lt HXY.out.2.1 hk4 hk1 (by rw [HXY.out.2.2.2]; exact hL6) (i + 1)
        obtain ⟨a, ha⟩ : ∃ a, wval k (y.take i) = a := ⟨_, rfl⟩
        obtain ⟨b, hb⟩ : ∃ b, wval k (y.take (i + 1)) = b := ⟨_, rfl⟩
        rw [ha, hb] at hnx
        rw [hb] at hnl2
        rw [ha] at hnl ⊢
        obtain ⟨p, hp⟩ : ∃ p, a * k = p := ⟨_, rfl⟩
        rw [hp] at hnx
        have d1 : IntKind.i64.wrap ((a : Int) * (k : Int)) = (p : Int) := by rw [← Int.natCast_mul, hp]; exact IntWalk.i64_in _ (by omega)
        have d2 : IntKind.i64.wrap ((p : Int) + (s : Int)) = (b : Int) := by rw [← Int.natCast_add, ← hnx]; exact IntWalk.i64_in _ (by omega)
        have HBB := Lib.hid hb
        clear ha hb hnx hp hs
        go_wp2_with fail
        exact ⟨⟨i + 1, by go_num, by omega, by rw [HBB.out], hwe⟩, by simp [intOf]; omega⟩
      · obtain rfl : i = L := by omega
        have hiL' : ¬ (i : Int) < (i : Int) := by omega
        have hyt : y.take i = y := List.take_of_length_le (by rw [HXY.out.2.2.2]; exact Nat.le_refl _)
        rw [hyt] at hnl ⊢
        have hnN : wval k y < N := by
          have h1 := wval_lt HXY.out.2.1
          rw [HXY.out.2.2.2, ← HL.out, HNP.out] at h1
          exact h1
        have HO5 := Lib.hid (own_below HO4.out hwe.out)
        have HB35 := Lib.hid (HB34.out.trans (hwe.out.mono HB34.out.size))
        have HNN0 := Lib.hid hnN
        clear hyt hnl hnN HO4 HR4 HB4 hwe
        obtain ⟨nd, hnd⟩ : ∃ nd, wval k y = nd := ⟨_, rfl⟩
        rw [hnd] at HNN0 ⊢
        have HND := Lib.hid hnd
        clear hnd
        go_wp2_with fail
        clear r0 r1 r2
        go_loopw [12, 13, 55] (fun ov nv jv wl => ∃ (j l cc u : Nat) (C : Option Addr), jv = .int .i64 (j : Int) ∧ j ≤ m ∧ ov = .slice C l cc ∧ nv = .int .i64 (u : Int) ∧ Hid (u = rightN k N t (x.take j) nd) ∧ u < N ∧ Hid (l = i + j) ∧ Hid (wl.ownsRow w3.heap.size 3 1 (.slice C l cc) l ((ints (y ++ rightT k N t (x.take j) nd)).map (Value.int .i64))) ∧ Hid (Below w3.heap.size w3 wl)) (fun _ _ jv _ => m - (intOf jv).toNat)
        case atStart => exact ⟨0, i, cc, nd, C, rfl, Nat.zero_le _, rfl, rfl, Lib.hid rfl, HNN0.out, Lib.hid rfl, Lib.hid (by simpa [rightT] using HO5.out), HB35⟩
        case round =>
          obtain ⟨j, l, cc, u, C, rfl, hj, rfl, rfl, HU, huN, HLJ, HO, HB⟩ := hrel
          obtain ⟨v1, rfl⟩ : ∃ v1, v1 = wr := ⟨_, rfl⟩
          have hr6 := HR3.out.below HB.out HR3.out.lt
          obtain ⟨r0, r1, r2, _⟩ := hr6.facts
          have HB6 := Lib.hid (HB3.out.trans (HB.out.mono HB3.out.size))
          by_cases hjm : j < m
          · have hjm' : (j : Int) < (m : Int) := by omega
            have hj0 : (0 : Int) ≤ (j : Int) := by omega
            obtain ⟨ad, z, rfl, hz, hcz⟩ := perm_at (HER.out v1 HB6.out).2.2.1 hjm
            obtain ⟨p, hp⟩ : ∃ p, u * k = p := ⟨_, rfl⟩
            have hpk : p + k ≤ n := by
              have h1 : (u + 1) * k ≤ N * k := Nat.mul_le_mul_right _ huN
              rw [Nat.add_mul, Nat.one_mul, hp, ← HNN.out.2] at h1
              exact h1
            have hft := permFits_c v1 k r n c p 1 z A t HRU.out (HER.out v1 HB6.out).2.1 hn16 (fun s hs => by rw [Nat.mul_one]; omega)
            obtain ⟨σ, hσ⟩ : ∃ σ, fitU k t p 1 z = σ := ⟨_, rfl⟩
            have hσk : σ < k := by rw [← hσ]; exact fitU_lt hk1 t p 1 z
            rw [hσ] at hft
            simp only [show ((1 : Nat) : Int) = 1 from rfl] at hft
            unfold ruleV at hft
            have HFT := Lib.hid hft
            obtain ⟨b, hb⟩ : ∃ b, p + σ = b := ⟨_, rfl⟩
            obtain ⟨u', hu'⟩ : ∃ u', b % N = u' := ⟨_, rfl⟩
            have hu'N : u' < N := by rw [← hu']; exact Nat.mod_lt _ hN0
            have d1 : IntKind.i64.wrap ((u : Int) * (k : Int)) = (p : Int) := by rw [← Int.natCast_mul, hp]; exact IntWalk.i64_in _ (by omega)
            have d2 : IntKind.i64.wrap ((p : Int) + (σ : Int)) = (b : Int) := by rw [← Int.natCast_add, hb]; exact IntWalk.i64_in _ (by omega)
            have d3 : (n : Int).tdiv (k : Int) = (N : Int) := by rw [← HNN.out.1]; rfl
            have d3' : (n : Int) / (k : Int) = (N : Int) := by rw [← HNN.out.1]; rfl
            have d4 : (b : Int).tmod (N : Int) = (u' : Int) := by rw [← hu']; rfl
            have d4' : (b : Int) % (N : Int) = (u' : Int) := by rw [← hu']; rfl
            have d5 : IntKind.i64.wrap (N : Int) = (N : Int) := IntWalk.i64_in _ (by omega)
            have d6 : IntKind.i64.wrap (u' : Int) = (u' : Int) := IntWalk.i64_in _ (by omega)
            have hNz : ¬ (N : Int) = 0 := by omega
            have hNzn : ¬ N = 0 := by omega
            have htk : x.take (j + 1) = x.take j ++ [z] := by rw [List.take_add_one, hz]; rfl
            have hrt : rightT k N t (x.take (j + 1)) nd = rightT k N t (x.take j) nd ++ [σ] := by rw [htk, rightT_snoc, ← HU.out, hp, hσ]
            have hrn : u' = rightN k N t (x.take (j + 1)) nd := by rw [htk, rightN_snoc, ← HU.out, hp, hσ, hb, hu']
            have HRT := Lib.hid (And.intro hrt hrn)
            have HR6 := Lib.hid hr6
            clear hz hp hσ hft hb hu' htk hrt hrn hr6
            go_wp2_with fail
            refine (HFT.out).mono ?_
            rintro e v2 ⟨rfl, hb2⟩
            have hO := own_below HO.out hb2
            have hsz : w3.heap.size ≤ v2.heap.size := Nat.le_trans HB.out.size hb2.size
            have hlj : l ≤ 5000 := by have := HLJ.out; omega
            have HR7 := Lib.hid (fun (wz : World) (hz : Below w3.heap.size v2 wz) => (HR3.out.below (HB.out.trans ((hb2.mono HB.out.size).trans hz)) HR3.out.lt).facts)
            have HB7 := Lib.hid (HB.out.trans (hb2.mono HB.out.size))
            clear r0 r1 r2 hcz hb2
            obtain ⟨r0, r1, r2, _⟩ := HR7.out v2 (Below.refl _ _)
            go_wp2_with (first
              | (at_builtin; refine wpList_push2 rfl _ _ _ rfl tInts hO rfl (.int .i64 (σ : Int)) 0 rfl rfl rfl (by simp only [maxLen]; omega) (by omega) hsz ?_; intro g5 cap5 w5 hown5 hor5 hlt5; have hb5 := push_below (Below.refl w3.heap.size v2) hO hor5 hsz; clear r0 r1 r2; obtain ⟨r0, r1, r2, _⟩ := HR7.out w5 hb5)
              | (go_quiet (fail)))
            have HO5' : Hid (w5.ownsRow w3.heap.size 3 1 (.slice (some ⟨g5, 0, none⟩) (l + 1) cap5) (l + 1) ((ints (y ++ rightT k N t (x.take (j + 1)) nd)).map (Value.int .i64))) := Lib.hid (by
              rw [HRT.out.1, ← List.append_assoc, ints_push]
              exact hown5)
            have HB5 := Lib.hid (HB7.out.trans hb5)
            exact ⟨⟨j + 1, l + 1, cap5, u', _, by go_num, by omega, rfl, rfl, Lib.hid HRT.out.2, hu'N, Lib.hid (by have := HLJ.out; omega), HO5', Lib.hid (below_drewN HB5.out _)⟩, by simp [intOf]; omega⟩
          · obtain rfl : j = m := by omega
            have hjm' : ¬ (j : Int) < (j : Int) := by omega
            have hxt : x.take j = x := List.take_of_length_le (by rw [HXY.out.2.2.1]; exact Nat.le_refl _)
            have hl5 : l ≤ 5000 := by have := HLJ.out; omega
            have HFN : Hid (Sl v1 C l ((ints (rightF k N t x y)).map (Value.int .i64))) := Lib.hid (by
              have h := Sl.of_own HO.out
              rw [hxt, ← HND.out] at h
              exact h)
            clear hxt hr6
            go_wp2_with fail
            go_ret2
            exact ⟨_, _, _, _, rfl, HB6.out, .inr ⟨rfl, x, y, rfl, rfl, HXY.out.1, HXY.out.2.1, by rw [HXY.out.2.2.2]; exact HL.out.symm, hl5, HFN.out⟩⟩
end Go.Proofs.YtibplgpolmplpaaGreatDoor
