/- How many preimages a word has: count.words, count.Words. Condition: the lists read from memory; the error variables hold what E says. How many preimages a word has, how many a ring, how many rings stay: count.Words, rings, Rings, Fixed. Condition: the lists read from memory; the error variables hold what E says. The tops' own checks: counts of edentop, and the fair share. Condition: the error variables hold what E says. Words of any lengths compared: word.Cmp. Condition: the words read from memory. The words of a length in order, and word.Next along them. Condition: the word reads from memory. -/
import Derived.Test.YtibplgpolmplpaaGreatDoorW3
import Derived.Test.YtibplgpolmplpaaGreatDoorW7
import Derived.Test.YtibplgpolmplpaaGreatDoorW21
namespace Go.Proofs.YtibplgpolmplpaaGreatDoor
open Go.RowKit RuleP NatP

/-- The fill of noughts by ones. -/
theorem one_le (N i : Nat) (hi : i ≤ N) : ∀ u, (fillTo (List.replicate N 1) N 0 i).getD u 0 ≤ 1 := by
  intro u
  unfold fillTo
  rw [List.getD_eq_getElem?_getD]
  cases h : (List.take i (List.replicate N 1) ++ List.replicate (N - i) 0)[u]? with
  | none => exact Nat.zero_le _
  | some v =>
    have hm := List.mem_of_getElem? h
    rw [List.mem_append] at hm
    rcases hm with hm | hm
    · have := List.eq_of_mem_replicate (List.mem_of_mem_take hm)
      simp [this]
    · have := List.eq_of_mem_replicate hm
      simp [this]

theorem node_facts {n k N : Nat} (h : n / k = N) (hN : N ≤ 256) : (n : Int).tdiv (k : Int) = (N : Int) ∧ (n : Int) / (k : Int) = (N : Int) ∧ wrap64 (N : Int) = (N : Int) ∧ IntKind.i64.wrap (N : Int) = (N : Int) :=
  ⟨by rw [← h]; rfl, by rw [← h]; rfl, IntWalk.wrap64_in _ (by omega), IntWalk.i64_in _ (by omega)⟩
theorem box_cell (w : World) (o : Obj) (v : Value) (t : TypeId) : ((w.alloc o).alloc (.cells #[v] t)).cell? ⟨w.heap.size + 1, 0, none⟩ = some v := by
  have h := heap_new (w.alloc o) (.cells #[v] t)
  rw [World.size_alloc] at h
  rw [cell_of_row _ _ _ _ _ _ h]
  rfl
set_option maxRecDepth 100000 in
set_option maxHeartbeats 4000000 in
theorem cwords_c (w : World) (k r n c m d : Nat) (A B : Option Addr) (t x : List Nat) (hT : Sl w A n ((ints t).map (Value.int .i64))) (hr : IsRule k r t) (h256 : t.length ≤ 256) (hX : Sl w B m ((ints x).map (Value.int .i64))) (hm : m ≤ 256) :
    Calls Tryz.prog 40 #[ruleV (k : Int) (r : Int) A n c, .slice B m d] w fun e w' => New w (preL k r t x).length e w' := by
  have hn : t.length = n := by simpa [ints] using hT.1
  have hxm : x.length = m := by simpa [ints] using hX.1
  have hb1 := (Below.refl w.heap.size w).alloc (Nat.le_refl _) (.cells #[.int .i64 (k : Int), .int .i64 (r : Int), .slice A n c] 24)
  have hb2 := hb1.alloc (by simp) (.cells #[.slice B m d] 22)
  have hr2 := (RuleAt.new w (.int .i64 (k : Int)) (.int .i64 (r : Int)) (.slice A n c)).alloc (.cells #[.slice B m d] 22)
  have hc2 : ((w.alloc (.cells #[.int .i64 (k : Int), .int .i64 (r : Int), .slice A n c] 24)).alloc (.cells #[.slice B m d] 22)).cell? ⟨w.heap.size + 1, 0, none⟩ = some (.slice B m d) := box_cell _ _ _ _
  obtain ⟨r0, r1, r2, _⟩ := hr2.facts
  obtain ⟨w2, hw2⟩ : ∃ w2, (w.alloc (.cells #[.int .i64 (k : Int), .int .i64 (r : Int), .slice A n c] 24)).alloc (.cells #[.slice B m d] 22) = w2 := ⟨_, rfl⟩
  have hz2 : w2.heap.size = w.heap.size + 2 := by rw [← hw2]; simp
  obtain ⟨N, hN⟩ : ∃ N, k ^ (2 * r) = N := ⟨_, rfl⟩
  obtain ⟨hdv, hln⟩ := nodes_div hr
  rw [hN, hn] at hdv hln
  have hk1 := hr.k1
  have hk4 := hr.k4
  have hN0 : 0 < N := by rw [← hN]; exact Nat.pow_pos hk1
  have hN4 : N ≤ 256 := by
    have := Nat.le_mul_of_pos_right N hk1
    omega
  have HEE := Lib.hid (node_facts hdv hN4)
  have hk0 : ¬ ((k : Int) = 0) := by omega
  have hk0n : ¬ k = 0 := by omega
  have hmk := run_make_row' (P := Tryz.prog) 149 38 (.slice none 0 0) 24 tNats.und tNats.info rfl .i64 .i64 N (by omega) (by omega)
  have hmd := NatsAt.made w2 N (by simp only [maxLen]; omega)
  have hb3 := (Below.refl w2.heap.size w2).alloc (Nat.le_refl _) (.cells (madeCells #[.slice none 0 0] N) 38)
  obtain ⟨w3, hw3⟩ : ∃ w3, w2.alloc (.cells (madeCells #[.slice none 0 0] N) 38) = w3 := ⟨_, rfl⟩
  rw [hw3] at hmd hb3
  rw [hw2] at hb2 hr2 hc2
  obtain ⟨g, hg⟩ : ∃ g, w2.heap.size = g := ⟨_, rfl⟩
  rw [hg] at hmd
  have hwg : w.heap.size ≤ g := by omega
  have hfl : NatsAt w3 w.heap.size g (List.replicate N (none, 0, 0)) (fillTo (List.replicate N 1) N 0 0) := by
    have h := hmd.base hwg
    unfold fillTo
    simpa using h
  have HW2 := Lib.hid hw2
  have HW3 := Lib.hid hw3
  have HG := Lib.hid hg
  have HFL := Lib.hid hfl
  have HB23 := Lib.hid hb3
  have HB3 := Lib.hid hb2
  have HR3 := Lib.hid hr2
  have HC3 := Lib.hid hc2
  have HGW : Hid (w2.heap.size ≤ g) := Lib.hid (by omega)
  have HT := Lib.hid (fun (wz : World) (hz : Below w.heap.size w wz) => hT.below hz)
  have HX := Lib.hid (fun (wz : World) (hz : Below w.heap.size w wz) => hX.below hz)
  have HNK := Lib.hid (And.intro hN hln)
  have HXM := Lib.hid hxm
  have HK := Lib.hid (And.intro hk1 hk4)
  have HWB := Lib.hid (ways_before (k := k) (r := r) (t := t) (w := x) hk1)
  have HGG : Hid (w.heap.size + 1 + 1 = g) := Lib.hid (by omega)
  clear hw2 hw3 hg hmd hfl hb1 hb2 hb3 hr2 hT hX hN hln hdv hxm hr hn
  obtain ⟨e1, e2, e3, e4⟩ := HEE.out
  unfold ruleV
  go_enter Tryz.func40, Tryz.ntmps40
  go_wp2_with fail
  rw [HW2.out, HW3.out, HGG.out]
  clear hmk r0 r1 r2 e1 e2 e3 e4
  go_loopw [16] (fun iv wl => ∃ (i : Nat) (Q : List (Option Addr × Nat × Nat)), iv = .int .i64 (i : Int) ∧ i ≤ N ∧ Hid (NatsAt wl w.heap.size g Q (fillTo (List.replicate N 1) N 0 i)) ∧ Hid (Below w2.heap.size w2 wl)) (fun iv _ => N - (intOf iv).toNat)
  case atStart => exact ⟨0, _, rfl, Nat.zero_le _, HFL, HB23⟩
  case round =>
    obtain ⟨i, Q, rfl, hi, hV, hB⟩ := hrel
    clear HFL
    obtain ⟨v0, rfl⟩ : ∃ v0, v0 = wr := ⟨_, rfl⟩
    by_cases hiN : i < N
    · have hiN' : (i : Int) < (N : Int) := by omega
      have hi0 : (0 : Int) ≤ (i : Int) := by omega
      have HFR : Hid (Calls Tryz.prog 42 #[.int .u64 1] v0 fun e w' => New v0 1 e w') := Lib.hid (fromL_n v0 1 (by decide))
      have hl1 : (fillTo (List.replicate N 1) N 0 i).length = N := fillTo_len hi (by simp)
      have HL1 := Lib.hid hl1
      have hwv : w.heap.size ≤ v0.heap.size := (HB3.out.trans (hB.out.mono HB3.out.size)).size
      clear hl1
      go_wp2_with fail
      refine (HFR.out).mono ?_
      rintro e v1 ⟨A1, c1, rfl, _, ho1, hb1⟩
      have hN1 := hV.out.below hb1
      obtain ⟨_, _, _, _, q1, p1⟩ := hN1.at_ (i := i) (by rw [HL1.out]; exact hiN)
      have hput := hN1.put (j := i) (own_base ho1 hwv)
      rw [fillTo_set hiN (by rw [List.getElem?_replicate, if_pos hiN])] at hput
      have HPUT := Lib.hid hput
      have HBX := Lib.hid ((hB.out.trans (hb1.mono hB.out.size)).setCell (p := ⟨g, i, none⟩) (HGW.out) (.slice A1 (limbs 1).length c1))
      clear hput ho1 hb1 hN1
      go_wp2_with fail
      exact ⟨⟨i + 1, _, by go_num, by omega, HPUT, HBX⟩, by simp [intOf]; omega⟩
    · obtain rfl : i = N := by omega
      have hiN' : ¬ (i : Int) < (i : Int) := by omega
      have hb0 := HB3.out.trans (hB.out.mono HB3.out.size)
      have hr0 := HR3.out.below hB.out HR3.out.lt
      have hc0 := cell_later hB.out HC3.out
      obtain ⟨r0, r1, r2, _⟩ := hr0.facts
      have hV2 := hV.out
      rw [fillTo_all _ (by simp)] at hV2
      have hwy := ways_c v0 k (r : Int) A n c i m w.heap.size g Q (List.replicate i 1) 91 (.pointer (some ⟨w.heap.size, 0, none⟩)) (.pointer (some ⟨w.heap.size + 1, 0, none⟩)) (fitP t x) HK.out.1 HK.out.2 hN0 (by omega) HNK.out.2 hm hV2 (by simp) (fun u => by
          have := one_le i i (Nat.le_refl _) u
          rwa [fillTo_all _ (by simp)] at this) hb0.size (fun v1 v2 wz => run_enter Tryz.func91 (by kernel_rfl) (by kernel_rfl) _ _)
        (fun wz hz p q hp hq => fitsW_c wz w.heap.size (w.heap.size + 1) k r n c m d A B t x (hr0.below hz hr0.lt) (cell_later hz hc0) (HT.out wz (hb0.trans (hz.mono hb0.size))) (HX.out wz (hb0.trans (hz.mono hb0.size))) p q hp hq)
      unfold ruleV at hwy
      have HWY := Lib.hid hwy
      have HB0 := Lib.hid hb0
      clear hwy hV2 hr0 hb0 hV hB
      go_wp2_with fail
      refine (HWY.out).mono ?_
      rintro e v1 ⟨g1, Q1, rfl, hN1, hb1⟩
      obtain ⟨V, hV⟩ : ∃ V, waysW k i (fitP t x) m (List.replicate i 1) m = V := ⟨_, rfl⟩
      have hVl : V.length = i := by rw [← hV]; exact waysW_len _ _ (by simp) _
      have hVb : ∀ u, (limbs (V.getD u 0)).length ≤ 1000000 := fun u => by
        rw [← hV]
        exact Nat.le_trans (small17 HK.out.2 (by omega) (waysW_le HK.out.1 (fitP t x) m (fun u => by
          have := one_le i i (Nat.le_refl _) u
          rwa [fillTo_all _ (by simp)] at this) m u)) (by omega)
      have hVs : V.sum = (preL k r t x).length := by
        rw [← hV, ← before_pre HK.out.1, ← HWB.out, HNK.out.1, HXM.out]
        rfl
      rw [hV] at hN1
      have hsm := sum_nats (c := i) hN1 (by omega) hVb
      rw [hVs, hVl] at hsm
      have HSM := Lib.hid hsm
      have HB1 := Lib.hid (HB0.out.trans (hb1.mono HB0.out.size))
      clear hsm hN1 hb1 hV hVl hVb hVs HWY
      go_wp2_with fail
      refine (HSM.out).mono ?_
      rintro e v2 ⟨A2, c2, rfl, hl2, ho2, hb2⟩
      go_wp2_with fail
      go_ret
      exact ⟨A2, c2, rfl, hl2, own_base ho2 HB1.out.size, HB1.out.trans (hb2.mono HB1.out.size)⟩
end Go.Proofs.YtibplgpolmplpaaGreatDoor

namespace Go.Proofs.YtibplgpolmplpaaGreatDoor
open Go.RowKit RuleP NatP

def natL (l : List Int) : List Nat := l.map Int.toNat
theorem natL_ints (t : List Nat) : natL (ints t) = t := by unfold natL ints; rw [List.map_map]; exact (List.map_congr_left fun x _ => by simp).trans (List.map_id _)
/-- A number, and an error or none. -/
def CNum (w : World) (E : Nat → Addr) (x : Nat) (t : Option Tale) (e : Ending) (w' : World) : Prop :=
  ∃ (C : Option Addr) (cc : Nat) (v : Value), e = .returned (.tuple #[.slice C (limbs x).length cc, v]) ∧ w'.ownsRow w.heap.size 64 1 (.slice C (limbs x).length cc) (limbs x).length ((limbs x).map wv) ∧ ErrV w' E t v ∧ Below w.heap.size w w'
theorem CNum.bad {w w' : World} {E : Nat → Addr} {t : Tale} {v : Value} (he : ErrV w' E (some t) v) (hb : Below w.heap.size w w') : CNum w E 0 (some t) (.returned (.tuple #[.slice none 0 0, v])) w' :=
  ⟨none, 0, v, rfl, World.ownsRow_nil _ _ _ _, he, hb⟩
def wordsV (K R : Int) (T X : List Int) : Nat × Option Tale :=
  match smallC K R T with
  | some t => (0, some t)
  | none => match symT K X 256 with
    | some t => (0, some t)
    | none => ((preL K.toNat R.toNat (natL T) (natL X)).length, none)
theorem wordsV_good {k r : Nat} {t x : List Nat} (hr : IsRule k r t) (h : t.length ≤ 256) (hx : ∀ s ∈ x, s < k) (hl : x.length ≤ 256) : wordsV k r (ints t) (ints x) = ((preL k r t x).length, none) := by
  unfold wordsV
  rw [smallC_rule hr h]
  simp only
  rw [symT_good hx hl]
  simp only [natL_ints, Int.toNat_natCast]

set_option maxRecDepth 100000 in
set_option maxHeartbeats 2000000 in
theorem cWords_c (w : World) (E : Nat → Addr) (hE : Errs w E) (K R : Int) (A : Option Addr) (n c : Nat) (T : List Int) (hT : Sl w A n (T.map (Value.int .i64))) (hm : n ≤ 9223372036854775807) (B : Option Addr) (m d : Nat) (X : List Int) (hX : Sl w B m (X.map (Value.int .i64))) (hm2 : m ≤ 9223372036854775807) :
    Calls Tryz.prog 13 #[ruleV K R A n c, .slice B m d] w (CNum w E (wordsV K R T X).1 (wordsV K R T X).2) := by
  have hb0 := (Below.refl w.heap.size w).alloc (Nat.le_refl _) (.cells #[.int .i64 K, .int .i64 R, .slice A n c] 24)
  have hr0 := RuleAt.new w (.int .i64 K) (.int .i64 R) (.slice A n c)
  obtain ⟨w1, hw1⟩ : ∃ w1, w.alloc (.cells #[.int .i64 K, .int .i64 R, .slice A n c] 24) = w1 := ⟨_, rfl⟩
  have hr00 := hr0.facts
  rw [hw1] at hb0 hr0
  have HS := Lib.hid (cntSmall_c w1 E (hE.below hb0) K R A n c T (hT.below hb0) hm)
  have HW1 := Lib.hid hw1
  have HB0 := Lib.hid hb0
  have HR0 := Lib.hid hr0
  have HE := Lib.hid (fun (wz : World) (hz : Below w.heap.size w wz) => hE.below hz)
  have HT := Lib.hid (fun (wz : World) (hz : Below w.heap.size w wz) => hT.below hz)
  have HX := Lib.hid (fun (wz : World) (hz : Below w.heap.size w wz) => hX.below hz)
  obtain ⟨p, hp⟩ : ∃ p, wordsV K R T X = p := ⟨_, rfl⟩
  rw [hp]
  have HP := Lib.hid hp
  clear hw1 hb0 hr0 hE hT hX hp
  unfold wordsV at HP
  unfold ruleV at HS ⊢
  obtain ⟨r0, r1, r2, _⟩ := hr00
  cases hs : smallC K R T with
  | some tl =>
    rw [hs] at HP HS
    obtain rfl := HP.out
    clear hs HP
    go_enter Tryz.func13, Tryz.ntmps13
    go_wp2_with fail
    rw [HW1.out]
    refine (HS.out).mono ?_
    rintro e w2 ⟨v, rfl, he, hb⟩
    obtain ⟨u, p, rfl⟩ := ErrIs.iface (show ErrIs w2 E tl.1 tl.2 v from he)
    have HV := Lib.hid he
    have HB := Lib.hid (HB0.out.trans (hb.mono HB0.out.size))
    clear he hb
    go_wp2_with fail
    go_ret2
    exact CNum.bad HV.out HB.out
  | none =>
    rw [hs] at HP HS
    obtain ⟨k, r, t, rfl, rfl, rfl, hr, hl⟩ := smallC_none hs
    clear hs
    go_enter Tryz.func13, Tryz.ntmps13
    go_wp2_with fail
    rw [HW1.out]
    refine (HS.out).mono ?_
    rintro e w2 ⟨v, rfl, rfl, hb⟩
    have hb2 := HB0.out.trans (hb.mono HB0.out.size)
    have hr2 := HR0.out.below hb HR0.out.lt
    have HSY := Lib.hid (cntSymbols_c w2 E (HE.out w2 hb2) (k : Int) B m d 256 X (HX.out w2 hb2) hm2 (by decide))
    obtain ⟨r0, r1, r2, _⟩ := hr2.facts
    have HR2 := Lib.hid hr2
    have HB2 := Lib.hid hb2
    clear hb hb2 hr2 HS
    go_wp2_with fail
    refine (HSY.out).mono ?_
    rintro e w3 ⟨v, rfl, he, hb⟩
    have hb3 := HB2.out.trans (hb.mono HB2.out.size)
    have hr3 := HR2.out.below hb HR2.out.lt
    obtain ⟨r0, r1, r2, _⟩ := hr3.facts
    cases hs : symT (k : Int) X 256 with
    | some tl =>
      rw [hs] at HP he
      obtain rfl := HP.out
      obtain ⟨u, p, rfl⟩ := ErrIs.iface (show ErrIs w3 E tl.1 tl.2 v from he)
      have HV := Lib.hid he
      have HB := Lib.hid hb3
      clear he hb hb3 hs HP hr3 HSY
      go_wp2_with fail
      go_ret2
      exact CNum.bad HV.out HB.out
    | none =>
      rw [hs] at HP he
      obtain rfl : v = .nilIface := he
      obtain ⟨x, rfl, hxl, hxs⟩ := symT_none hs
      have hxm : x.length = m := by have := (HX.out w3 hb3).1; simpa [ints] using this
      have hcw := cwords_c w3 k r n c m d A B t x (HT.out w3 hb3) hr hl (HX.out w3 hb3) (by omega)
      simp only [natL_ints, Int.toNat_natCast] at HP
      obtain rfl := HP.out
      unfold ruleV at hcw
      have HC := Lib.hid hcw
      have HB := Lib.hid hb3
      clear hb hb3 hs HP hr3 HSY hcw hxl hxs hxm hr hl
      go_wp2_with fail
      refine (HC.out).mono ?_
      rintro e w4 ⟨A4, c4, rfl, _, ho4, hb4⟩
      go_wp2_with fail
      go_ret2
      exact ⟨A4, c4, _, rfl, own_base ho4 HB.out.size, rfl, HB.out.trans (hb4.mono HB.out.size)⟩


end Go.Proofs.YtibplgpolmplpaaGreatDoor

namespace Go.Proofs.YtibplgpolmplpaaGreatDoor
open Go.RowKit RuleP

theorem small_parts {K R : Int} {T : List Int} (h : small K R T = none) : ∃ (k r : Nat) (t : List Nat), K = (k : Int) ∧ R = (r : Int) ∧ T = ints t ∧ IsRule k r t ∧ t.length ≤ 256 := by
  unfold small at h
  split at h
  · cases h
  · rename_i hc
    split at h
    · cases h
    · rename_i h2
      obtain ⟨k, r, t, rfl, rfl, rfl, hr⟩ := check_none hc
      exact ⟨k, r, t, rfl, rfl, rfl, hr, by rw [ints_len] at h2; omega⟩
theorem eca_pre3 : (preL 2 1 [0, 1, 1, 1, 0, 1, 1, 0] [0]).length = 3 := by decide +kernel
theorem eca_pre0 : (preL 2 1 [0, 1, 1, 1, 0, 1, 1, 0] [0, 1, 0, 1, 0]).length = 0 := by decide +kernel
theorem eca_words3 : wordsV 2 1 (ints (ecaT 110 8)) [0] = (3, none) := by
  rw [ecaT_110]
  exact (wordsV_good eca_rule110 (by decide) (x := [0]) (by decide) (by decide)).trans (by rw [eca_pre3])
theorem eca_words0 : wordsV 2 1 (ints (ecaT 110 8)) [0, 1, 0, 1, 0] = (0, none) := by
  rw [ecaT_110]
  exact (wordsV_good eca_rule110 (by decide) (x := [0, 1, 0, 1, 0]) (by decide) (by decide)).trans (by rw [eca_pre0])
theorem limbs_3 : limbs 3 = [3] := by decide
theorem limbs_0 : limbs 0 = [] := by decide

set_option maxRecDepth 100000 in
theorem count3_c (w : World) (E : Nat → Addr) (hE : ErrW w E) (A : Option Addr) (c : Nat) (hT : Sl w A 8 ((ints (ecaT 110 8)).map (Value.int .i64))) (B : Option Addr) (d : Nat) (hX : Sl w B 1 (([0] : List Int).map (Value.int .i64))) :
    Calls Tryz.prog 13 #[ruleV 2 1 A 8 c, .slice B 1 d] w fun e w' => ∃ (C : Option Addr) (cc : Nat), e = .returned (.tuple #[.slice C 1 cc, .nilIface]) ∧ Sl w' C 1 (([3] : List Nat).map wv) ∧ Below w.heap.size w w' := by
  have h := cWords_c w E hE.1 2 1 A 8 c _ hT (by decide) B 1 d _ hX (by decide)
  rw [eca_words3] at h
  refine h.mono fun _ _ h => ?_
  obtain ⟨C, cc, v, rfl, ho, hv, hb⟩ := h
  obtain rfl : v = .nilIface := hv
  rw [limbs_3] at ho ⊢
  exact ⟨C, cc, rfl, Sl.of_own ho, hb⟩
theorem count0_c (w : World) (E : Nat → Addr) (hE : ErrW w E) (A : Option Addr) (c : Nat) (hT : Sl w A 8 ((ints (ecaT 110 8)).map (Value.int .i64))) (B : Option Addr) (d : Nat) (hX : Sl w B 5 (([0, 1, 0, 1, 0] : List Int).map (Value.int .i64))) :
    Calls Tryz.prog 13 #[ruleV 2 1 A 8 c, .slice B 5 d] w fun e w' => ∃ (C : Option Addr) (cc : Nat), e = .returned (.tuple #[.slice C 0 cc, .nilIface]) ∧ Below w.heap.size w w' := by
  have h := cWords_c w E hE.1 2 1 A 8 c _ hT (by decide) B 5 d _ hX (by decide)
  rw [eca_words0] at h
  refine h.mono fun _ _ h => ?_
  obtain ⟨C, cc, v, rfl, _, hv, hb⟩ := h
  obtain rfl : v = .nilIface := hv
  rw [limbs_0]
  exact ⟨C, cc, rfl, hb⟩

set_option maxRecDepth 100000 in
set_option maxHeartbeats 2000000 in
theorem counts_c (w : World) (E : Nat → Addr) (hE : ErrW w E) : Calls Tryz.prog 8 #[] w fun e w' => e = .returned (.bool true) ∧ Below w.heap.size w w' := by
  have HE := Lib.hid (fun (wz : World) (hz : Below w.heap.size w wz) => hE.below hz)
  clear hE
  go_enter Tryz.func8, Tryz.ntmps8
  have HC1 := Lib.hid (eca_c w 110 (by decide))
  go_wp2_with fail
  refine (HC1.out).mono ?_
  rintro e w1 ⟨A1, c1, rfl, hT1, hb1⟩
  have hl := lit_ints w1 [0] 1 rfl (by decide) 3
  have b2 := (Below.refl w1.heap.size w1).alloc (Nat.le_refl _) (.cells #[.int .i64 0] 3)
  obtain ⟨w2, hw2⟩ : ∃ w2, w1.alloc (.cells #[.int .i64 0] 3) = w2 := ⟨_, rfl⟩
  change Sl (w1.alloc (.cells #[.int .i64 0] 3)) _ _ _ at hl
  rw [hw2] at hl b2
  have hb02 := hb1.trans (b2.mono hb1.size)
  have HO1 := count3_c w2 E (HE.out w2 hb02) A1 c1 (hT1.below b2) (some ⟨w1.heap.size, 0, none⟩) 1 hl
  unfold ruleV at HO1
  have HO1 := Lib.hid HO1
  have HB2 := Lib.hid hb02
  have HW2 := Lib.hid hw2
  clear hT1 hb1 HC1 hl b2 hw2 hb02
  go_wp2_with fail
  rw [HW2.out]
  refine (HO1.out).mono ?_
  rintro e w3 ⟨C3, c3, rfl, hs3, hb3⟩
  have HB3 := Lib.hid (HB2.out.trans (hb3.mono HB2.out.size))
  have HS3 := Lib.hid (fun (wz : World) (hz : Below w3.heap.size w3 wz) => hs3.below hz)
  have HC3 := Lib.hid (eca_c w3 110 (by decide))
  clear hb3 hs3 HO1
  go_wp2_with fail
  refine (HC3.out).mono ?_
  rintro e w4 ⟨A4, c4, rfl, hT4, hb4⟩
  have hl := lit_ints w4 [0, 1, 0, 1, 0] 5 rfl (by decide) 3
  have b5 := (Below.refl w4.heap.size w4).alloc (Nat.le_refl _) (.cells #[.int .i64 0, .int .i64 1, .int .i64 0, .int .i64 1, .int .i64 0] 3)
  obtain ⟨w5, hw5⟩ : ∃ w5, w4.alloc (.cells #[.int .i64 0, .int .i64 1, .int .i64 0, .int .i64 1, .int .i64 0] 3) = w5 := ⟨_, rfl⟩
  change Sl (w4.alloc (.cells #[.int .i64 0, .int .i64 1, .int .i64 0, .int .i64 1, .int .i64 0] 3)) _ _ _ at hl
  rw [hw5] at hl b5
  have hb35 := hb4.trans (b5.mono hb4.size)
  have hb05 := HB3.out.trans (hb35.mono HB3.out.size)
  have HO4 := count0_c w5 E (HE.out w5 hb05) A4 c4 (hT4.below b5) (some ⟨w4.heap.size, 0, none⟩) 5 hl
  unfold ruleV at HO4
  have HO4 := Lib.hid HO4
  have HB5 := Lib.hid (And.intro hb35 hb05)
  have HW5 := Lib.hid hw5
  clear hT4 hb4 HC3 hl b5 hw5 hb35 hb05
  go_wp2_with fail
  rw [HW5.out]
  refine (HO4.out).mono ?_
  rintro e w6 ⟨C6, c6, rfl, hb6⟩
  have hb36 := HB5.out.1.trans (hb6.mono HB5.out.1.size)
  have hb06 := HB5.out.2.trans (hb6.mono HB5.out.2.size)
  have HD := Lib.hid (decides_c w6 E (HE.out w6 hb06))
  have HB6 := Lib.hid (And.intro hb36 hb06)
  clear hb6 hb36 hb06 HO4
  go_wp2_with fail
  refine (HD.out).mono ?_
  rintro e w7 ⟨rfl, hb7⟩
  have hb37 := HB6.out.1.trans (hb7.mono HB6.out.1.size)
  have hb07 := HB6.out.2.trans (hb7.mono HB6.out.2.size)
  have b8 := (Below.refl w7.heap.size w7).alloc (Nat.le_refl _) (.cells #[.int .u32 3] 64)
  have hl8 : Sl (w7.alloc (.cells #[.int .u32 3] 64)) (some ⟨w7.heap.size, 0, none⟩) 1 (([3] : List Nat).map wv) := by
    refine ⟨rfl, fun j v hv => ⟨_, rfl, ?_⟩⟩
    match j, hv with
    | 0, hv =>
      have : v = .int .u32 3 := by simpa [wv] using hv.symm
      subst this
      simp [Addr.add]
  obtain ⟨w8, hw8⟩ : ∃ w8, w7.alloc (.cells #[.int .u32 3] 64) = w8 := ⟨_, rfl⟩
  rw [hw8] at b8 hl8
  have hb38 := hb37.trans (b8.mono hb37.size)
  have hb08 := hb07.trans (b8.mono hb07.size)
  have HN := Lib.hid (nats_b w8 C3 (some ⟨w7.heap.size, 0, none⟩) 1 1 c3 1 [3] [3] (HS3.out w8 hb38) hl8 (by decide))
  rw [decide_eq_true rfl] at HN
  have HB8 := Lib.hid hb08
  have HW8 := Lib.hid hw8
  clear hb37 hb07 b8 hl8 hw8 hb38 hb08 hb7 HD
  go_wp2_with fail
  rw [HW8.out]
  refine (HN.out).mono ?_
  rintro e w9 ⟨rfl, hb9⟩
  have HB9 := Lib.hid (HB8.out.trans (hb9.mono HB8.out.size))
  clear hb9 HN
  go_wp2_with fail
  go_ret
  exact ⟨rfl, HB9.out⟩

set_option maxRecDepth 100000 in
set_option maxHeartbeats 1000000 in
theorem share_c (w : World) (E : Nat → Addr) (hE : Errs w E) (k r n c : Nat) (A : Option Addr) (t : List Nat) (hT : Sl w A n ((ints t).map (Value.int .i64))) (hr : IsRule k r t) (h256 : t.length ≤ 256) :
    Calls Tryz.prog 15 #[ruleV (k : Int) (r : Int) A n c] w fun e w' => New w (k ^ (2 * r)) e w' := by
  have hn : t.length = n := by simpa [ints] using hT.1
  have hb1 := (Below.refl w.heap.size w).alloc (Nat.le_refl _) (.cells #[.int .i64 (k : Int), .int .i64 (r : Int), .slice A n c] 24)
  have hr1 := RuleAt.new w (.int .i64 (k : Int)) (.int .i64 (r : Int)) (.slice A n c)
  obtain ⟨r0, r1, r2, _⟩ := hr1.facts
  obtain ⟨w1, hw1⟩ : ∃ w1, w.alloc (.cells #[.int .i64 (k : Int), .int .i64 (r : Int), .slice A n c] 24) = w1 := ⟨_, rfl⟩
  rw [hw1] at hb1
  have hN4 : k ^ (2 * r) ≤ 256 := by
    obtain ⟨_, hln⟩ := nodes_div hr
    have := Nat.le_mul_of_pos_right (k ^ (2 * r)) hr.k1
    omega
  have hso : smallO (k : Int) (r : Int) (ints t) = none := by
    unfold smallO
    rw [small_rule hr h256]
    rfl
  have hno := overNodes_c w1 E (hE.below hb1) (k : Int) (r : Int) A n c (ints t) (hT.below hb1) (by omega)
  rw [hso, if_pos rfl, show nodesN (k : Int) (r : Int) = k ^ (2 * r) from rfl] at hno
  obtain ⟨N, hN⟩ : ∃ N, k ^ (2 * r) = N := ⟨_, rfl⟩
  rw [hN] at hno hN4 ⊢
  unfold ruleV at hno ⊢
  have HNO := Lib.hid hno
  have HW1 := Lib.hid hw1
  have HB1 := Lib.hid hb1
  clear hno hw1 hb1 hr1 hE hT hso hN
  go_enter Tryz.func15, Tryz.ntmps15
  go_wp2_with fail
  rw [HW1.out]
  refine (HNO.out).mono ?_
  rintro e w2 ⟨v, rfl, _, hb2⟩
  have HB2 := Lib.hid (HB1.out.trans (hb2.mono HB1.out.size))
  have HFR := Lib.hid (fromL_n w2 N (by omega))
  have hNu : IntKind.u64.wrap (N : Int) = (N : Int) := IntWalk.u64_in _ (by omega)
  clear hb2 HNO
  go_wp2_with fail
  refine (HFR.out).mono ?_
  rintro e w3 ⟨C, c3, rfl, hn3, ho3, hb3⟩
  have HX : Hid (New w N (.returned (.slice C (limbs N).length c3)) w3) := Lib.hid ⟨C, c3, rfl, hn3, own_base ho3 HB2.out.size, HB2.out.trans (hb3.mono HB2.out.size)⟩
  clear hn3 ho3 hb3 HFR
  go_wp2_with fail
  go_ret
  exact HX.out
end Go.Proofs.YtibplgpolmplpaaGreatDoor

namespace Go.Proofs.YtibplgpolmplpaaGreatDoor
open Go.RowKit RuleP

def SomeNum (w : World) (e : Ending) (w' : World) : Prop := (∃ x : Int, e = .returned (.int .i64 x)) ∧ w = w'

set_option maxRecDepth 100000 in
theorem cmpS_any (w : World) (A B : Option Addr) (n m c d : Nat) (a b : List Nat) (hA : Sl w A n ((ints a).map (Value.int .i64))) (hB : Sl w B m ((ints b).map (Value.int .i64))) (hn : n ≤ 9223372036854775807) (hm : m ≤ 9223372036854775807) :
    Calls Tryz.prog 45 #[.slice A n c, .slice B m d] w (SomeNum w) := by
  rw [ints_map] at hA hB
  have HA := Lib.hid hA
  have HB := Lib.hid hB
  clear hA hB
  go_enter Tryz.func45, Tryz.ntmps45
  go_wp2_with fail
  go_loop [11] (fun i => ∃ j : Nat, j ≤ n ∧ i = .int .i64 (j : Int)) (fun i => n - (intOf i).toNat)
  case atStart => exact ⟨0, Nat.zero_le _, rfl⟩
  case round =>
    obtain ⟨j, hj, rfl⟩ := hrel
    by_cases hlt : j < n
    · by_cases hlm : j < m
      · obtain ⟨ad, x, rfl, _, hc⟩ := HA.out.word_ hlt
        obtain ⟨ad2, y, rfl, _, hc2⟩ := HB.out.word_ hlm
        have HC := Lib.hid (cmpI_c w x y)
        have hnj : decide ((m : Int) ≤ (j : Int)) = false := decide_eq_false (by omega)
        rcases Nat.lt_trichotomy x y with h | h | h
        · rw [if_pos h] at HC
          clear h
          go_wp2_with fail
          refine (HC.out).mono ?_
          rintro e w' ⟨rfl, rfl⟩
          go_wp2_with fail
          go_ret
          exact ⟨⟨_, rfl⟩, rfl⟩
        · subst h
          rw [if_neg (Nat.lt_irrefl _), if_neg (Nat.lt_irrefl _)] at HC
          go_wp2_with fail
          refine (HC.out).mono ?_
          rintro e w' ⟨rfl, rfl⟩
          go_wp2_with fail
          exact ⟨⟨j + 1, by omega, by go_num⟩, by simp [intOf]; omega⟩
        · rw [if_neg (by omega), if_pos h] at HC
          clear h
          go_wp2_with fail
          refine (HC.out).mono ?_
          rintro e w' ⟨rfl, rfl⟩
          go_wp2_with fail
          go_ret
          exact ⟨⟨_, rfl⟩, rfl⟩
      · obtain ⟨ad, x, rfl, _, hc⟩ := HA.out.word_ hlt
        have hnj : decide ((m : Int) ≤ (j : Int)) = true := decide_eq_true (by omega)
        go_wp2_with fail
        go_ret
        exact ⟨⟨_, rfl⟩, rfl⟩
    · obtain rfl : j = n := by omega
      by_cases hlm : j < m
      · go_wp2_with fail
        go_ret
        exact ⟨⟨_, rfl⟩, rfl⟩
      · go_wp2_with fail
        go_ret
        exact ⟨⟨_, rfl⟩, rfl⟩

set_option maxRecDepth 100000 in
theorem or_first (w : World) (g : Nat) (x : Int) (h0 : w.cell? ⟨g, 0, none⟩ = some (.int .i64 x)) (hx0 : (x != 0) = true) :
    Calls Tryz.prog 43 #[.slice (some ⟨g, 0, none⟩) 2 2] w fun e w' => e = .returned (.int .i64 x) ∧ w = w' := by
  go_enter Tryz.func43, Tryz.ntmps43
  go_wp2_with fail
  go_loop [8] (fun i => i = .int .i64 ((0 : Nat) : Int)) (fun i => 2 - (intOf i).toNat)
  case atStart => rfl
  case round =>
    subst hrel
    go_wp2_with fail
    go_ret
    exact ⟨rfl, rfl⟩

/-- The shorter first, then by the first place that differs. -/
def cmpW (a b : List Nat) : Int := if a.length < b.length then -1 else if b.length < a.length then 1 else cmpL a b

set_option maxRecDepth 100000 in
theorem wordCmp_g (w : World) (A B : Option Addr) (n m c d : Nat) (a b : List Nat) (hA : Sl w A n ((ints a).map (Value.int .i64))) (hB : Sl w B m ((ints b).map (Value.int .i64))) (hn : n ≤ 9223372036854775807) (hm : m ≤ 9223372036854775807) :
    Calls Tryz.prog 16 #[.slice A n c, .slice B m d] w fun e w' => e = .returned (.int .i64 (cmpW a b)) ∧ Below w.heap.size w w' := by
  have hla : a.length = n := by simpa [ints] using hA.1
  have hlb : b.length = m := by simpa [ints] using hB.1
  by_cases he : n = m
  · subst he
    have e1 : cmpW a b = cmpL a b := by unfold cmpW; rw [if_neg (by omega), if_neg (by omega)]
    rw [e1]
    exact wordCmp_c w A B n c d a b hA hB hn
  · obtain ⟨x, hx⟩ : ∃ x, cmpW a b = x := ⟨_, rfl⟩
    have hx2 : (if n < m then (-1 : Int) else if m < n then 1 else 0) = x := by
      rw [← hx]
      unfold cmpW
      rw [hla, hlb]
      by_cases h1 : n < m
      · rw [if_pos h1, if_pos h1]
      · rw [if_neg h1, if_neg h1, if_pos (by omega), if_pos (by omega)]
    have hx0 : (x != 0) = true := by
      rw [← hx2]
      by_cases h1 : n < m
      · rw [if_pos h1]; rfl
      · rw [if_neg h1, if_pos (by omega)]; rfl
    have h1 := cmpI_c w n m
    rw [hx2] at h1
    rw [hx]
    have H1 := Lib.hid h1
    have H2 := Lib.hid (cmpS_any w A B n m c d a b hA hB hn hm)
    have H3 := Lib.hid (fun (y : Int) => or_first (w.alloc (.cells #[.int .i64 x, .int .i64 y] 3)) w.heap.size x ((cell_of_row _ w.heap.size 0 _ _ _ (heap_new w (.cells #[.int .i64 x, .int .i64 y] 3))).trans rfl) hx0)
    have HB := Lib.hid (fun (y : Int) => (Below.refl w.heap.size w).alloc (Nat.le_refl _) (.cells #[.int .i64 x, .int .i64 y] 3))
    clear h1 hx hx2 hx0 hA hB hla hlb he
    go_enter Tryz.func16, Tryz.ntmps16
    go_wp2_with fail
    refine (H1.out).mono ?_
    rintro e w1 ⟨rfl, rfl⟩
    go_wp2_with fail
    refine (H2.out).mono ?_
    rintro e w1 ⟨⟨y, rfl⟩, rfl⟩
    go_wp2_with fail
    refine (H3.out y).mono ?_
    rintro e w1 ⟨rfl, rfl⟩
    go_wp2_with fail
    go_ret
    exact ⟨rfl, HB.out y⟩
end Go.Proofs.YtibplgpolmplpaaGreatDoor

namespace Go.Proofs.YtibplgpolmplpaaGreatDoor
open Go.RowKit RuleP NatP

set_option maxRecDepth 100000 in
set_option maxHeartbeats 1000000 in
/-- The word behind the empty one. -/
theorem next0_c (w : World) (k : Nat) (A : Option Addr) (c : Nat) (h1 : 1 ≤ k) (h2 : k ≤ 4) (h : Sl w A 0 ((ints []).map (Value.int .i64))) :
    Calls Tryz.prog 59 #[.int .i64 (k : Int), .slice A 0 c] w fun e w' => ∃ C cc, e = .returned (.tuple #[.slice C 1 cc, .nilIface]) ∧ w'.ownsRow w.heap.size 3 1 (.slice C 1 cc) 1 ((ints [0]).map (Value.int .i64)) ∧ Below w.heap.size w w' := by
  have HC := Lib.hid (wordCheck_ok w k A 0 c [] h1 h2 (fun y hy => by simp at hy) h (by omega))
  have HH := Lib.hid h
  clear h
  go_enter Tryz.func59, Tryz.ntmps59
  go_wp2_with fail
  refine (HC.out).mono ?_
  rintro e w1 ⟨rfl, hb1⟩
  go_wp2_with fail
  refine (clone_c w1 A 0 c _ (ints_one _) (by omega) (HH.out.below hb1)).mono ?_
  rintro e w2 ⟨C, cc, rfl, _, hb2⟩
  have hbw := hb1.trans (hb2.mono hb1.size)
  have HBW := Lib.hid hbw
  clear hb1 hb2 hbw HC
  go_wp2_with fail
  go_loopw [8] (fun p wr => ∃ z : Int, p = .int .i64 z ∧ z = -1 ∧ Hid (Below w.heap.size w wr)) (fun _ _ => 0)
  case atStart => exact ⟨-1, rfl, rfl, HBW⟩
  case round =>
    obtain ⟨z, rfl, hz, hb⟩ := hrel
    subst hz
    have hge : decide ((0 : Int) ≤ -1) = false := by decide
    have hmk := run_make_row' (P := Tryz.prog) 22 3 (.int .i64 0) 8 tInts.und tInts.info rfl .i64 .i64 1 (by omega) (by omega)
    have hmk' : ∀ wz : World, (Instr.makeSlice 22 (.int .i64 1) (.int .i64 1)).run Tryz.prog wz = .ok (.slice (some ⟨wz.heap.size, 0, none⟩) 1 1) (wz.alloc (.cells (madeCells #[.int .i64 0] 1) 3)) := hmk
    clear hmk
    have hown0 := make_ints wr 1 (by simp only [maxLen]; omega)
    have HO := Lib.hid (own_base hown0 hb.out.size)
    have HB := Lib.hid (hb.out.alloc hb.out.size (.cells (madeCells #[.int .i64 0] 1) 3))
    clear hown0 HBW
    go_wp2_with fail
    go_ret2
    exact ⟨_, _, rfl, HO.out, HB.out⟩
theorem wordNext_c (w : World) (k : Nat) (A : Option Addr) (n c : Nat) (x : List Nat) (h1 : 1 ≤ k) (h2 : k ≤ 4) (hs : ∀ y ∈ x, y < k) (hxn : x.length = n) (h : Sl w A n ((ints x).map (Value.int .i64))) (hn : n ≤ 4000) :
    Calls Tryz.prog 59 #[.int .i64 (k : Int), .slice A n c] w fun e w' => ∃ C cc, e = .returned (.tuple #[.slice C (nextB k x).length cc, .nilIface]) ∧ w'.ownsRow w.heap.size 3 1 (.slice C (nextB k x).length cc) (nextB k x).length ((ints (nextB k x)).map (Value.int .i64)) ∧ Below w.heap.size w w' := by
  cases n with
  | zero =>
    obtain rfl := List.length_eq_zero_iff.1 hxn
    have e : nextB k [] = [0] := by unfold nextB; rw [if_neg (by simp [wval])]; rfl
    rw [e]
    exact next0_c w k A c h1 h2 h
  | succ n => exact next_c w k A (n + 1) c x h1 h2 hs hxn h hn (by omega)
theorem digB_zeros (k : Nat) : ∀ n, digB k n 0 = List.replicate n 0
  | 0 => rfl
  | n + 1 => by rw [digB, Nat.zero_div, digB_zeros k n, Nat.zero_mod, List.replicate_succ']
/-- The words of q symbols in order; behind the last of them a longer one. -/
def wordQ (k q i : Nat) : List Nat := if i < k ^ q then digB k q i else List.replicate (q + 1) 0
theorem wordQ_next {k q i : Nat} (hk : 1 ≤ k) (hi : i < k ^ q) : nextB k (wordQ k q i) = wordQ k q (i + 1) ∧ cmpW (wordQ k q i) (wordQ k q (i + 1)) = -1 := by
  unfold wordQ
  rw [if_pos hi]
  unfold nextB cmpW
  rw [digB_len, wval_digB hk hi]
  by_cases h : i + 1 < k ^ q
  · rw [if_pos h]
    refine ⟨rfl, ?_⟩
    rw [digB_len, if_neg (Nat.lt_irrefl _), if_neg (Nat.lt_irrefl _)]
    exact cmpL_lt (by rw [digB_len, digB_len]) (digB_sym hk q i) (digB_sym hk q (i + 1)) (by rw [wval_digB hk hi, wval_digB hk h]; omega)
  · rw [if_neg h]
    exact ⟨rfl, by rw [List.length_replicate, if_pos (by omega)]⟩
theorem wordQ_in {k q i : Nat} (hk : 1 ≤ k) (hi : i < k ^ q) : (wordQ k q i).length = q ∧ (∀ y ∈ wordQ k q i, y < k) ∧ wordQ k q i = digB k q i := by
  unfold wordQ
  rw [if_pos hi]
  exact ⟨digB_len _ _ _, digB_sym hk q i, rfl⟩
end Go.Proofs.YtibplgpolmplpaaGreatDoor
