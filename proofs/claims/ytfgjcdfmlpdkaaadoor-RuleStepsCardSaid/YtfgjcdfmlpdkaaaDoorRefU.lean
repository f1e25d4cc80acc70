/- The document's symbol of a window: edenref04.Local. Condition: lists read from memory. -/
import Derived.Test.YtfgjcdfmlpdkaaaDoorRefT
namespace Go.Proofs.YtfgjcdfmlpdkaaaDoor
open Go.RowKit RuleP
 
def intOr : Except Tale Int → Int
  | .ok x => x
  | .error _ => 0

set_option maxRecDepth 100000 in
set_option maxHeartbeats 2000000 in
theorem refLocal_c (w : World) (K R : Int) (A B : Option Addr) (n c m d : Nat) (T W : List Int) (hT : Sl w A n (T.map (Value.int .i64))) (hm : n ≤ 9223372036854775807) (hW : Sl w B m (W.map (Value.int .i64))) (hm2 : m ≤ 9223372036854775807) :
    Calls Tryd.prog 49 #[ruleV K R A n c, .slice B m d] w fun e w' => ∃ (N : Nat) (A1 : Option Addr) (n1 c1 : Nat) (A2 : Option Addr) (n2 c2 : Nat), e = .returned (.tuple #[.int .i64 (intOr (RuleP.local' K R T W)), .agg #[.int .i64 (N : Int), .slice A1 n1 c1, .slice A2 n2 c2]]) ∧
      WantB w' w.heap.size (wantOf (RuleP.local' K R T W)) (.agg #[.int .i64 (N : Int), .slice A1 n1 c1, .slice A2 n2 c2]) ∧ Below w.heap.size w w' := by
  have hl : W.length = m := by simpa using hW.1
  have HL := Lib.hid hl
  clear hl
  have hr0 := (RuleAt.new w (.int .i64 K) (.int .i64 R) (.slice A n c)).alloc (.cells #[.int .i64 0, .slice none 0 0, .slice none 0 0] 60)
  have hw0 := WantAt.new (w.alloc (.cells #[.int .i64 K, .int .i64 R, .slice A n c] 24)) (.int .i64 0) (.slice none 0 0) (.slice none 0 0)
  rw [World.size_alloc] at hw0
  have hb0 := ((Below.refl w.heap.size w).alloc (Nat.le_refl _) (.cells #[.int .i64 K, .int .i64 R, .slice A n c] 24)).alloc (by simp) (.cells #[.int .i64 0, .slice none 0 0, .slice none 0 0] 60)
  have hT0 := (hT.alloc (.cells #[.int .i64 K, .int .i64 R, .slice A n c] 24)).alloc (.cells #[.int .i64 0, .slice none 0 0, .slice none 0 0] 60)
  obtain ⟨wx, hwx⟩ : ∃ wx, (w.alloc (.cells #[.int .i64 K, .int .i64 R, .slice A n c] 24)).alloc (.cells #[.int .i64 0, .slice none 0 0, .slice none 0 0] 60) = wx := ⟨_, rfl⟩
  have hsx : wx.heap.size = w.heap.size + 2 := by rw [← hwx]; simp
  have HWX := Lib.hid hwx
  rw [hwx] at hr0 hw0 hb0 hT0
  have HC := Lib.hid (refCheck_c wx K R A n c T hT0 hm)
  have HW0 := Lib.hid hw0
  have HB0 := Lib.hid hb0
  have HR0 := Lib.hid hr0
  have HT := Lib.hid hT
  have HWW := Lib.hid hW
  obtain ⟨r0, r1, r2, _⟩ := hr0.facts
  clear hw0 hb0 hT hT0 hr0 hwx hW
  unfold ruleV at *
  go_enter Tryd.func49, Tryd.ntmps49
  go_wp2_with fail
  rw [HWX.out]
  refine (HC.out).mono ?_
  rintro e w1 ⟨N, A1, n1, c1, A2, n2, c2, rfl, hu, hb1⟩
  have hw1 := HW0.out.below hb1 (by omega)
  have hr1 := HR0.out.below hb1 (by omega)
  have hw2 := hw1.alloc (.cells #[.int .i64 (N : Int), .slice A1 n1 c1, .slice A2 n2 c2] 60)
  have hr2 := hr1.alloc (.cells #[.int .i64 (N : Int), .slice A1 n1 c1, .slice A2 n2 c2] 60)
  have hv2 := WantAt.new w1 (.int .i64 (N : Int)) (.slice A1 n1 c1) (.slice A2 n2 c2)
  have hb2 := (HB0.out.trans (hb1.mono HB0.out.size)).alloc (by have := HB0.out.size; have := hb1.size; omega) (.cells #[.int .i64 (N : Int), .slice A1 n1 c1, .slice A2 n2 c2] 60)
  have hu2 := hu.below ((Below.refl w1.heap.size w1).alloc (Nat.le_refl _) (.cells #[.int .i64 (N : Int), .slice A1 n1 c1, .slice A2 n2 c2] 60))
  obtain ⟨wy, hwy⟩ : ∃ wy, w1.alloc (.cells #[.int .i64 (N : Int), .slice A1 n1 c1, .slice A2 n2 c2] 60) = wy := ⟨_, rfl⟩
  have HWY := Lib.hid hwy
  have hsy : w1.heap.size < wy.heap.size := by rw [← hwy]; simp
  have hs1 := hb1.size
  rw [hwy] at hw2 hr2 hv2 hb2 hu2
  have HBAD := Lib.hid (errBad_c wy N A1 n1 c1 A2 n2 c2)
  have HW2 := Lib.hid hw2
  have HR2 := Lib.hid hr2
  have HV2 := Lib.hid hv2
  have HB2 := Lib.hid hb2
  have HU2 := Lib.hid hu2
  obtain ⟨v0, v1, v2, _⟩ := hv2.facts
  clear hw1 hr1 hw2 hr2 hv2 hb2 hu2 hu hb1 hwy r0 r1 r2
  have hN := HU2.out.num
  cases ho : check K R T with
  | some t =>
    have hs : Hid (RuleP.local' K R T W = .error t) := Lib.hid (by unfold RuleP.local'; rw [ho])
    rw [ho] at hN HU2
    have ht := (check_ok K R T t ho).1
    have hNz : decide (N ≠ 0) = true := decide_eq_true (by simp only [tnum] at hN; omega)
    rw [hNz] at HBAD
    clear ho hN ht hNz
    go_wp2_with fail
    rw [HWY.out]
    refine (HBAD.out).mono ?_
    rintro e w3 ⟨rfl, hb3⟩
    have g0 := cell_later hb3 v0
    have g1 := cell_later hb3 v1
    have g2 := cell_later hb3 v2
    obtain ⟨d0, d1, d2, f0, f1, f2⟩ := (HW2.out.below hb3 (by omega)).facts
    have HU := Lib.hid (((HU2.out.below hb3.drew).set3 (g := w.heap.size + 1) (by omega) (.int .i64 (N : Int)) (.slice A1 n1 c1) (.slice A2 n2 c2)).base (base' := w.heap.size) (by omega))
    have HB := Lib.hid (below_set3 (HB2.out.trans (hb3.drew.mono HB2.out.size)) (Nat.le_succ _) (.int .i64 (N : Int)) (.slice A1 n1 c1) (.slice A2 n2 c2))
    clear v0 v1 v2 hb3
    go_wp2_with fail
    go_still_tail 2, (by kernel_rfl)
    change wpList _ _ _ _ _ (World.drew w3)
    go_wp2_with fail
    exact bodyPost_ret (v := .tuple #[.int .i64 0, .agg #[.int .i64 (N : Int), .slice A1 n1 c1, .slice A2 n2 c2]]) (by simp [results, Tryd.results49, go_sem, d0, d1, d2]) rfl ⟨N, A1, n1, c1, A2, n2, c2, by rw [hs.out]; rfl, by rw [hs.out]; exact HU.out, HB.out⟩
  | none =>
    rw [ho] at hN
    obtain rfl : N = 0 := hN
    obtain ⟨rfl, rfl, rfl, rfl, rfl, rfl⟩ : A1 = none ∧ n1 = 0 ∧ c1 = 0 ∧ A2 = none ∧ n2 = 0 ∧ c2 = 0 := by
      have := HU2.out
      rw [ho] at this
      have e := this.none_eq
      simp at e
      obtain ⟨⟨q1, q2, q3⟩, q4, q5, q6⟩ := e
      exact ⟨q1, q2, q3, q4, q5, q6⟩
    rw [show decide ((0 : Nat) ≠ 0) = false from rfl, show ((0 : Nat) : Int) = 0 from rfl] at HBAD
    rw [show ((0 : Nat) : Int) = 0 from rfl] at HWY v0
    have HCN := Lib.hid ho
    obtain ⟨k, r, t, rfl, rfl, rfl, hru⟩ := check_none HCN.out
    have hr3 := hru.r3
    by_cases hbig : (m : Int) ≠ 2 * (r : Int) + 1
    · have hne : ((m : Int) != 2 * (r : Int) + 1) = true := by simpa using hbig
      have hs : Hid (RuleP.local' k r (ints t) W = .error (3, [(sRule, 0)])) := Lib.hid (by unfold RuleP.local'; rw [ho]; simp only; rw [if_pos (by rw [HL.out]; exact hbig)])
      clear ho
      go_wp2_with fail
      rw [HWY.out]
      refine (HBAD.out).mono ?_
      rintro e w3 ⟨rfl, hb3⟩
      have HW3 := Lib.hid (HW2.out.below hb3 (by omega))
      obtain ⟨r0, r1, r2, _⟩ := (HR2.out.below hb3 (by omega)).facts
      have HB3 := Lib.hid (HB2.out.trans (hb3.mono HB2.out.size))
      clear v0 v1 v2
      go_wp2_with fail
      refine (newB_c w3 sRule 0 3).mono ?_
      rintro e w4 ⟨A1, n1, c1, A2, n2, c2, rfl, hu, hb4⟩
      obtain ⟨d0, d1, d2, f0, f1, f2⟩ := (HW3.out.below hb4 (by have := hb3.size; omega)).facts
      have HU := Lib.hid ((hu.set3 (g := w.heap.size + 1) (by have := hb3.size; omega) (.int .i64 3) (.slice A1 n1 c1) (.slice A2 n2 c2)).base (base' := w.heap.size) (by have := hb3.size; omega))
      have HB := Lib.hid (below_set3 (HB3.out.trans (hb4.mono HB3.out.size)) (Nat.le_succ _) (.int .i64 3) (.slice A1 n1 c1) (.slice A2 n2 c2))
      clear hu hb3 hb4
      go_wp2_with fail
      exact bodyPost_ret (v := .tuple #[.int .i64 0, .agg #[.int .i64 3, .slice A1 n1 c1, .slice A2 n2 c2]]) (by simp [results, Tryd.results49, go_sem, d0, d1, d2]) rfl ⟨3, A1, n1, c1, A2, n2, c2, by rw [hs.out]; rfl, by rw [hs.out]; exact HU.out, HB.out⟩
    · have hne : ((m : Int) != 2 * (r : Int) + 1) = false := by simp; omega
      cases hod : odd (k : Int) W with
      | some i =>
        have hs : Hid (RuleP.local' k r (ints t) W = .error (2, [(sRule, (i : Int))])) := Lib.hid (by unfold RuleP.local'; rw [ho]; simp only; rw [if_neg (by rw [HL.out]; exact hbig), hod])
        have HOD := Lib.hid (fun (wz : World) (hz : Sl wz B m (W.map (Value.int .i64))) => bad_c wz k B m d W hz (by omega))
        rw [hod] at HOD
        have hpl : place (some i) = (i : Int) := rfl
        rw [hpl] at HOD
        clear ho hod hpl
        go_wp2_with fail
        rw [HWY.out]
        refine (HBAD.out).mono ?_
        rintro e w3 ⟨rfl, hb3⟩
        obtain ⟨r0, r1, r2, _⟩ := (HR2.out.below hb3 (by omega)).facts
        have HW3 := Lib.hid (HW2.out.below hb3 (by omega))
        have HB3 := Lib.hid (HB2.out.trans (hb3.mono HB2.out.size))
        clear v0 v1 v2
        go_wp2_with fail
        refine (HOD.out _ (HWW.out.below HB3.out)).mono ?_
        rintro e w3' ⟨rfl, q3, rfl⟩
        go_wp2_with fail
        refine (newB_c (w3.drewN q3) sRule (i : Int) 2).mono ?_
        rintro e w4 ⟨A1, n1, c1, A2, n2, c2, rfl, hu, hb4⟩
        have hd3 : (w3.drewN q3).heap.size = w3.heap.size := rfl
        obtain ⟨d0, d1, d2, f0, f1, f2⟩ := ((HW3.out.below (pure_drewN w3 q3) HW3.out.lt).below hb4 (by have := hb3.size; omega)).facts
        have HU := Lib.hid ((hu.set3 (g := w.heap.size + 1) (by have := hb3.size; omega) (.int .i64 2) (.slice A1 n1 c1) (.slice A2 n2 c2)).base (base' := w.heap.size) (by have := hb3.size; omega))
        have HB := Lib.hid (below_set3 ((below_drewN HB3.out q3).trans (hb4.mono HB3.out.size)) (Nat.le_succ _) (.int .i64 2) (.slice A1 n1 c1) (.slice A2 n2 c2))
        clear hu hb3 hb4 r0 r1 r2
        go_wp2_with fail
        exact bodyPost_ret (v := .tuple #[.int .i64 0, .agg #[.int .i64 2, .slice A1 n1 c1, .slice A2 n2 c2]]) (by simp [results, Tryd.results49, go_sem, d0, d1, d2]) rfl ⟨2, A1, n1, c1, A2, n2, c2, by rw [hs.out]; rfl, by rw [hs.out]; exact HU.out, HB.out⟩
      | none =>
        obtain ⟨v, rfl, hv⟩ := odd_nat hod
        have hlv : v.length = m := by have := HL.out; rwa [ints_len] at this
        have hs : Hid (RuleP.local' k r (ints t) (ints v) = .ok ((t.getD (wval k v) 0 : Nat) : Int)) := Lib.hid (by unfold RuleP.local'; rw [HCN.out]; simp only; rw [if_neg (by rw [ints_len, hlv]; exact hbig), hod]; simp [nats_ints])
        have HOD := Lib.hid (fun (wz : World) (hz : Sl wz B m ((ints v).map (Value.int .i64))) => bad_c wz k B m d (ints v) hz (by omega))
        rw [hod] at HOD
        have hpl : place none = -1 := rfl
        rw [hpl] at HOD
        have hm' : m = 2 * r + 1 := by omega
        have hk1 := hru.k1
        have hk4 := hru.k4
        have hTw := HT.out
        rw [ints_map] at hTw
        have hnt : t.length = n := by simpa [ints] using HT.out.1
        have hwl : wval k v < n := by
          have := wval_lt hv
          rw [hlv, hm', ← hru.len, hnt] at this
          exact this
        obtain ⟨adt, y, rfl, hyt, hcy⟩ := hTw.word_ hwl
        have hadt := World.block_lt_of_cell? _ _ hcy
        have hget : t.getD (wval k v) 0 = y := by rw [List.getD_eq_getElem?_getD, hyt]; rfl
        rw [hget] at hs
        have HVAL := Lib.hid (fun (wz : World) (hz : Below w.heap.size w wz) => value_c wz k B m d v hk1 hk4 hv (HWW.out.below hz) (by omega))
        obtain ⟨σ, hσ⟩ : ∃ σ, wval k v = σ := ⟨_, rfl⟩
        rw [hσ] at hwl hcy HVAL hadt
        have hnl := hru.le
        rw [hnt] at hnl
        clear hyt hget hσ hTw hnt hm'
        clear ho hod hpl
        go_wp2_with fail
        rw [HWY.out]
        refine (HBAD.out).mono ?_
        rintro e w3 ⟨rfl, hb3⟩
        have hr3 := HR2.out.below hb3 (by omega)
        obtain ⟨r0, r1, r2, _⟩ := hr3.facts
        have HW3 := Lib.hid (HW2.out.below hb3 (by omega))
        have HB3 := Lib.hid (HB2.out.trans (hb3.mono HB2.out.size))
        clear v0 v1 v2 hr3
        go_wp2_with fail
        refine (HOD.out _ (HWW.out.below HB3.out)).mono ?_
        rintro e w3' ⟨rfl, q3, rfl⟩
        go_wp2_with fail
        have hsd : (w3.drewN q3).heap.size = w3.heap.size := rfl
        have hbz := below_drewN HB3.out q3
        obtain ⟨d0, d1, d2, f0, f1, f2⟩ := HW3.out.facts
        have hcy2 := cell_later HB3.out hcy
        obtain ⟨rr0, rr1, rr2⟩ : w3.cell? ⟨w.heap.size, 0, none⟩ = some (.int .i64 (k : Int)) ∧ w3.cell? ⟨w.heap.size, 1, none⟩ = some (.int .i64 (r : Int)) ∧ w3.cell? ⟨w.heap.size, 2, none⟩ = some (.slice (some adt) n c) := ⟨r0, r1, r2⟩
        have HVAL2 := Lib.hid (HVAL.out ((w3.drewN q3).drew) hbz.drew)
        have HB := Lib.hid (below_set3 hbz.drew (Nat.le_succ _) (.int .i64 0) (.slice none 0 0) (.slice none 0 0))
        have hcy3 := (keeps_set3 (w3.drewN q3).drew (w.heap.size + 1) (.int .i64 0) (.slice none 0 0) (.slice none 0 0)).cell (v := .int .i64 (y : Int)) (a := adt.add σ) hcy2 (by omega)
        have t1 : (σ : Int) < (n : Int) := by omega
        have HCY := Lib.hid hcy3
        clear hb3 hcy HVAL hbz hcy3
        go_region_held3 (fun w' => w'.cell? ⟨w.heap.size, 0, none⟩ = some (.int .i64 (k : Int)) ∧ w'.cell? ⟨w.heap.size, 1, none⟩ = some (.int .i64 (r : Int)) ∧ w'.cell? ⟨w.heap.size, 2, none⟩ = some (.slice (some adt) n c) ∧ w'.cell? (adt.add σ) = some (.int .i64 (y : Int)))
          (first | ((try dsimp only); (repeat' apply And.intro) <;> first | exact HCY.out | go_keep))
          (first
            | (go_simp
               go_at_call 84
               refine (HVAL2.out).mono ?_
               rintro e w4 ⟨rfl, rfl⟩
               dsimp only))
        go_wp2_with fail
        exact bodyPost_ret (v := .tuple #[.int .i64 (y : Int), .agg #[.int .i64 0, .slice none 0 0, .slice none 0 0]]) (by simp [results, Tryd.results49, go_sem, d0, d1, d2]) rfl ⟨0, none, 0, 0, none, 0, 0, by rw [hs.out]; rfl, by rw [hs.out]; exact WantB.zero _ _, HB.out⟩
end Go.Proofs.YtfgjcdfmlpdkaaaDoor
