/- The document's number of a rule: edenref04.Code. Condition: the table reads from memory. The document's rule of a number: edenref04.From. Condition: the limbs read from memory. The document's rule of a number, the rule's size in reach: edenref04.From. Condition: the limbs read from memory. The document's rule of a number, a number too great: edenref04.From. Condition: the limbs read from memory. The document's rule of a number, the good way: edenref04.From. Condition: the limbs read from memory. -/
import Derived.Test.YtfgjcdfmlpdkaaaGreatDoorRefR
import Derived.Test.YtfgjcdfmlpdkaaaGreatDoorRef2D
import Derived.Test.YtfgjcdfmlpdkaaaGreatDoorRuleC
import Derived.StillTailTactics
import Derived.Deep.RegionHeld3
import Derived.Test.YtfgjcdfmlpdkaaaGreatDoorRuleD
namespace Go.Proofs.YtfgjcdfmlpdkaaaGreatDoor
open Go.RowKit RuleP NatP

/-- A rule's number, as limbs; nothing of what is no small rule. -/
def codeL (K R : Int) (T : List Int) : List Nat := match small K R T with
  | none => limbs (valB K.toNat (nats T))
  | some _ => []

set_option maxRecDepth 100000 in
set_option maxHeartbeats 4000000 in
theorem refCode_c (w : World) (K R : Int) (A : Option Addr) (n c : Nat) (T : List Int) (hT : Sl w A n (T.map (Value.int .i64))) (hm : n ≤ 9223372036854775807) :
    Calls Tryz.prog 16 #[ruleV K R A n c] w fun e w' => ∃ (C : Option Addr) (M cc N : Nat) (A1 : Option Addr) (n1 c1 : Nat) (A2 : Option Addr) (n2 c2 : Nat), e = .returned (.tuple #[.slice C M cc, .agg #[.int .i64 (N : Int), .slice A1 n1 c1, .slice A2 n2 c2]]) ∧
      w'.ownsRow w.heap.size 83 1 (.slice C M cc) M ((codeL K R T).map wv) ∧ WantB w' w.heap.size (small K R T) (.agg #[.int .i64 (N : Int), .slice A1 n1 c1, .slice A2 n2 c2]) ∧ Below w.heap.size w w' := by
  have hl : T.length = n := by simpa using hT.1
  have HL := Lib.hid hl
  clear hl
  have hr0 := (RuleAt.new w (.int .i64 K) (.int .i64 R) (.slice A n c)).alloc (.cells #[.int .i64 0, .slice none 0 0, .slice none 0 0] 32)
  have hw0 := WantAt.new (w.alloc (.cells #[.int .i64 K, .int .i64 R, .slice A n c] 24)) (.int .i64 0) (.slice none 0 0) (.slice none 0 0)
  rw [World.size_alloc] at hw0
  have hb0 := ((Below.refl w.heap.size w).alloc (Nat.le_refl _) (.cells #[.int .i64 K, .int .i64 R, .slice A n c] 24)).alloc (by simp) (.cells #[.int .i64 0, .slice none 0 0, .slice none 0 0] 32)
  have hT0 := (hT.alloc (.cells #[.int .i64 K, .int .i64 R, .slice A n c] 24)).alloc (.cells #[.int .i64 0, .slice none 0 0, .slice none 0 0] 32)
  obtain ⟨wx, hwx⟩ : ∃ wx, (w.alloc (.cells #[.int .i64 K, .int .i64 R, .slice A n c] 24)).alloc (.cells #[.int .i64 0, .slice none 0 0, .slice none 0 0] 32) = wx := ⟨_, rfl⟩
  have hsx : wx.heap.size = w.heap.size + 2 := by rw [← hwx]; simp
  have HWX := Lib.hid hwx
  rw [hwx] at hr0 hw0 hb0 hT0
  have HC := Lib.hid (refSmall_c wx K R A n c T hT0 hm)
  have HW0 := Lib.hid hw0
  have HB0 := Lib.hid hb0
  have HR0 := Lib.hid hr0
  have HT := Lib.hid hT
  obtain ⟨r0, r1, r2, _⟩ := hr0.facts
  clear hw0 hb0 hT hT0 hr0 hwx
  unfold ruleV at *
  go_enter Tryz.func16, Tryz.ntmps16
  go_wp2_with fail
  rw [HWX.out]
  refine (HC.out).mono ?_
  rintro e w1 ⟨N, A1, n1, c1, A2, n2, c2, rfl, hu, hb1⟩
  have hw1 := HW0.out.below hb1 (by omega)
  have hr1 := HR0.out.below hb1 (by omega)
  have hw2 := hw1.alloc (.cells #[.int .i64 (N : Int), .slice A1 n1 c1, .slice A2 n2 c2] 32)
  have hr2 := hr1.alloc (.cells #[.int .i64 (N : Int), .slice A1 n1 c1, .slice A2 n2 c2] 32)
  have hv2 := WantAt.new w1 (.int .i64 (N : Int)) (.slice A1 n1 c1) (.slice A2 n2 c2)
  have hb2 := (HB0.out.trans (hb1.mono HB0.out.size)).alloc (by have := HB0.out.size; have := hb1.size; omega) (.cells #[.int .i64 (N : Int), .slice A1 n1 c1, .slice A2 n2 c2] 32)
  have hu2 := hu.below ((Below.refl w1.heap.size w1).alloc (Nat.le_refl _) (.cells #[.int .i64 (N : Int), .slice A1 n1 c1, .slice A2 n2 c2] 32))
  obtain ⟨wy, hwy⟩ : ∃ wy, w1.alloc (.cells #[.int .i64 (N : Int), .slice A1 n1 c1, .slice A2 n2 c2] 32) = wy := ⟨_, rfl⟩
  have HWY := Lib.hid hwy
  have hsy : w1.heap.size < wy.heap.size := by rw [← hwy]; simp
  have hs1 := hb1.size
  rw [hwy] at hw2 hr2 hv2 hb2 hu2
  have HBAD := Lib.hid (errBad_c wy N A1 n1 c1 A2 n2 c2)
  have HW2 := Lib.hid hw2
  have HR2 := Lib.hid hr2
  have HV2 := Lib.hid hv2
  have HB2 := Lib.hid hb2
  have HU2 := Lib.hid hu2
  obtain ⟨v0, v1, v2, _⟩ := hv2.facts
  clear hw1 hr1 hw2 hr2 hv2 hb2 hu2 hu hb1 hwy r0 r1 r2
  have hN := HU2.out.num
  cases ho : small K R T with
  | some t =>
    have hs : Hid (codeL K R T = []) := Lib.hid (by unfold codeL; rw [ho])
    rw [ho] at hN
    have ht := (small_ok K R T t ho).1
    have hNz : decide (N ≠ 0) = true := decide_eq_true (by simp only [tnum] at hN; omega)
    rw [hNz] at HBAD
    clear ho hN ht hNz
    go_wp2_with fail
    rw [HWY.out]
    refine (HBAD.out).mono ?_
    rintro e w3 ⟨rfl, hb3⟩
    have g0 := cell_later hb3 v0
    have g1 := cell_later hb3 v1
    have g2 := cell_later hb3 v2
    obtain ⟨d0, d1, d2, f0, f1, f2⟩ := (HW2.out.below hb3 (by omega)).facts
    have HU := Lib.hid (((HU2.out.below hb3.drew).set3 (g := w.heap.size + 1) (by omega) (.int .i64 (N : Int)) (.slice A1 n1 c1) (.slice A2 n2 c2)).base (base' := w.heap.size) (by omega))
    have HB := Lib.hid (below_set3 (HB2.out.trans (hb3.drew.mono HB2.out.size)) (Nat.le_succ _) (.int .i64 (N : Int)) (.slice A1 n1 c1) (.slice A2 n2 c2))
    clear v0 v1 v2 hb3
    go_wp2_with fail
    go_still_tail 2, (by kernel_rfl)
    change wpList _ _ _ _ _ (World.drew w3)
    go_wp2_with fail
    exact bodyPost_ret (v := .tuple #[.slice none 0 0, .agg #[.int .i64 (N : Int), .slice A1 n1 c1, .slice A2 n2 c2]]) (by simp [results, Tryz.results16, go_sem, d0, d1, d2]) rfl ⟨none, 0, 0, N, A1, n1, c1, A2, n2, c2, rfl, by rw [hs.out]; exact ⟨rfl, .inl ⟨rfl, rfl⟩⟩, HU.out, HB.out⟩
  | none =>
    rw [ho] at hN
    obtain rfl : N = 0 := hN
    obtain ⟨rfl, rfl, rfl, rfl, rfl, rfl⟩ : A1 = none ∧ n1 = 0 ∧ c1 = 0 ∧ A2 = none ∧ n2 = 0 ∧ c2 = 0 := by
      have := HU2.out
      rw [ho] at this
      have e := this.none_eq
      simp at e
      obtain ⟨⟨q1, q2, q3⟩, q4, q5, q6⟩ := e
      exact ⟨q1, q2, q3, q4, q5, q6⟩
    rw [show decide ((0 : Nat) ≠ 0) = false from rfl, show ((0 : Nat) : Int) = 0 from rfl] at HBAD
    rw [show ((0 : Nat) : Int) = 0 from rfl] at HWY v0
    obtain ⟨k, r, t, rfl, rfl, rfl, hru, hsm⟩ : ∃ (k r : Nat) (t : List Nat), K = (k : Int) ∧ R = (r : Int) ∧ T = ints t ∧ IsRule k r t ∧ t.length ≤ 256 := by
      unfold small at ho
      split at ho
      · cases ho
      · rename_i hc
        obtain ⟨k, r, t, rfl, rfl, rfl, hr⟩ := check_none hc
        split at ho
        · cases ho
        · rename_i h; rw [ints_len] at h; exact ⟨k, r, t, rfl, rfl, rfl, hr, by omega⟩
    have htn : t.length = n := by have := HL.out; rwa [ints_len] at this
    have hcl : Hid (codeL k r (ints t) = limbs (valB k t)) := Lib.hid (by unfold codeL; rw [ho]; simp [nats_ints])
    rw [htn] at hsm
    have HS0 := Lib.hid ho
    have hk1 := hru.k1
    have hk4 := hru.k4
    have HSY := Lib.hid hru.sym
    have HTN := Lib.hid htn
    clear ho hru htn
    go_wp2_with fail
    rw [HWY.out]
    refine (HBAD.out).mono ?_
    rintro e w3 ⟨rfl, hb3⟩
    have hr3 := HR2.out.below hb3 (by omega)
    obtain ⟨r0, r1, r2, _⟩ := hr3.facts
    have hw3 := HW2.out.below hb3 (by omega)
    have hbw3 := HB2.out.trans (hb3.mono HB2.out.size)
    have hs3 := hb3.size
    clear v0 v1 v2
    go_wp2_with fail
    go_loopw [5, 6] (fun nv iv wr => ∃ (mm M : Nat) (z : Int) (C : Option Addr) (cc : Nat), mm ≤ n ∧ iv = .int .i64 z ∧ Hid (z = (mm : Int) - 1) ∧ nv = .slice C M cc ∧ Hid (M = (limbs (valB k (t.drop mm))).length) ∧ M ≤ n - mm ∧
      wr.ownsRow w.heap.size 83 1 (.slice C M cc) M ((limbs (valB k (t.drop mm))).map wv) ∧ RuleAt wr w.heap.size (.int .i64 (k : Int)) (.int .i64 (r : Int)) (.slice A n c) ∧ WantAt wr (w.heap.size + 1) (.int .i64 0) (.slice none 0 0) (.slice none 0 0) ∧ Below w.heap.size w wr) (fun _ iv _ => (intOf iv + 1).toNat)
    case atStart => exact ⟨n, 0, _, none, 0, Nat.le_refl _, rfl, Lib.hid rfl, rfl, Lib.hid (by rw [List.drop_of_length_le (by rw [HTN.out]; exact Nat.le_refl _)]; rfl), Nat.zero_le _, by rw [List.drop_of_length_le (by rw [HTN.out]; exact Nat.le_refl _)]; exact ⟨rfl, .inl ⟨rfl, rfl⟩⟩, hr3, hw3, hbw3⟩
    case round =>
      clear r0 r1 r2 hr3 hw3 hbw3 hs3 hb3
      obtain ⟨mm, M, z, C, cc, hmm, rfl, hz, rfl, hM, hMl, hown, hrr, hww, hb⟩ := hrel
      obtain ⟨r0, r1, r2, _⟩ := hrr.facts
      cases mm with
      | zero =>
        obtain rfl : z = -1 := by have := hz.out; omega
        obtain ⟨d0, d1, d2, f0, f1, f2⟩ := hww.facts
        rw [List.drop_zero, ← hcl.out] at hown
        have HO := Lib.hid (own_setW hown hww (by decide) (.int .i64 0) (.slice none 0 0) (.slice none 0 0))
        have HB := Lib.hid (below_set3 hb (Nat.le_succ _) (.int .i64 0) (.slice none 0 0) (.slice none 0 0))
        have hge : decide ((0 : Int) ≤ -1) = false := by decide
        clear hz hown hb hww hrr
        go_wp2_with fail
        exact bodyPost_ret (v := .tuple #[.slice C M cc, .agg #[.int .i64 0, .slice none 0 0, .slice none 0 0]]) (by simp [results, Tryz.results16, go_sem, d0, d1, d2]) rfl ⟨C, M, cc, 0, none, 0, 0, none, 0, 0, rfl, HO.out, by rw [HS0.out]; exact WantB.zero _ _, HB.out⟩
      | succ q =>
        obtain rfl : z = (q : Int) := by have := hz.out; omega
        clear hz
        have hT0 := HT.out
        rw [ints_map] at hT0
        obtain ⟨ad, x, rfl, hxq, hcx0⟩ := hT0.word_ (show q < n by omega)
        have hcx := cell_later hb hcx0
        have hx4 : x < 4 := Nat.lt_of_lt_of_le (HSY.out x (List.mem_of_getElem? hxq)) hk4
        have hval : valB k (t.drop q) = valB k (t.drop (q + 1)) * k + x := by
          rw [drop_val t q, List.getD_eq_getElem?_getD, hxq, Nat.mul_comm]; simp; omega
        obtain ⟨V, hV⟩ : ∃ V, valB k (t.drop (q + 1)) = V := ⟨_, rfl⟩
        rw [hV] at hval hM hown
        have HVAL := Lib.hid hval
        have hMo := hM.out
        have hown' := hown
        rw [hMo] at hown'
        have hnum := num_own hown'
        rw [← hMo] at hnum
        have hbl : (limbs (V * k + x)).length ≤ n - q := by
          have h1 : valB k (t.drop q) < 4 ^ (t.drop q).length := by
            have h2 : ∀ l : List Nat, (∀ y ∈ l, y < k) → valB k l < 4 ^ l.length := by
              intro l
              induction l with
              | nil => intro _; simp [valB]
              | cons y l ih =>
                intro h
                have hy := h y (by simp)
                have := ih (fun z hz => h z (by simp [hz]))
                have h3 : k * (valB k l + 1) ≤ 4 * 4 ^ l.length := Nat.mul_le_mul hk4 this
                simp only [valB, List.length_cons, Nat.pow_succ]
                rw [Nat.mul_add, Nat.mul_one] at h3
                omega
            exact h2 _ (fun y hy => HSY.out y (List.mem_of_mem_drop hy))
          rw [← hval]
          refine limbs_len_of_lt _ _ (Nat.lt_of_lt_of_le h1 ?_)
          rw [List.length_drop, HTN.out]
          exact Nat.pow_le_pow_left (by decide) _
        have HVM := Lib.hid (fun (wz : World) (h : Below wr.heap.size wr wz) (D : Option Addr) (m' d' : Nat) (h2 : Num wz D m' d' k) (h3 : m' ≤ 1000) => refMul_n (hnum.below h) h2 (by omega) (by omega) (r := V * k) rfl)
        have HF1 := Lib.hid (fun (wz : World) => refFrom_c wz k (by omega))
        have HF2 := Lib.hid (fun (wz : World) => refFrom_c wz x (by omega))
        have g1 : IntKind.u64.wrap (k : Int) = (k : Int) := IntWalk.u64_in _ (by omega)
        have g2 : IntKind.u64.wrap (x : Int) = (x : Int) := IntWalk.u64_in _ (by omega)
        have HFA := Lib.hid (fun (wz : World) (h : Below wr.heap.size wr wz) => (⟨cell_later h r0, cell_later h r1, cell_later h r2, cell_later h hcx⟩ : wz.cell? ⟨w.heap.size, 0, none⟩ = some (.int .i64 (k : Int)) ∧ wz.cell? ⟨w.heap.size, 1, none⟩ = some (.int .i64 (r : Int)) ∧ wz.cell? ⟨w.heap.size, 2, none⟩ = some (.slice (some ad) n c) ∧ wz.cell? (ad.add q) = some (.int .i64 (x : Int))))
        have hlk : (limbs k).length ≤ 1 := limbs_len_of_lt 1 k (by rw [Nat.pow_one]; unfold W32; omega)
        have hlx : (limbs x).length ≤ 1 := limbs_len_of_lt 1 x (by rw [Nat.pow_one]; unfold W32; omega)
        have hlvk : (limbs (V * k)).length ≤ M + 1 := limbs_mul V k M 1 (by rw [← hMo]; exact Nat.le_refl _) hlk
        have HRR := Lib.hid hrr
        have HWW := Lib.hid hww
        have HB := Lib.hid hb
        have t1 : (q : Int) < (n : Int) := by omega
        clear hval hV hMo hown' hnum hxq hown hT0 hrr hww hb hM
        go_wp2_with fail
        go_region_held3 (fun w' => w'.cell? ⟨w.heap.size, 0, none⟩ = some (.int .i64 (k : Int)) ∧ w'.cell? ⟨w.heap.size, 1, none⟩ = some (.int .i64 (r : Int)) ∧ w'.cell? ⟨w.heap.size, 2, none⟩ = some (.slice (some ad) n c) ∧ w'.cell? (ad.add q) = some (.int .i64 (x : Int)))
    (first | exact HFA _ ((Below.refl wr.heap.size wr).drew) | exact HFA _ hb5 | exact HFA _ hb6 | exact HFA _ hb7 | exact HFA _ hb8)
    (first
      | (go_simp
         go_at_call 43
         refine (refAdd_n (h6n.below b7) h7n (by omega) (by omega) (r := V * k + x) rfl).mono ?_
         rintro e w8 ⟨C8, c8, rfl, h8n, h8o, b8⟩
         have hb8 : Below wr.heap.size wr w8 := hb7.trans (b8.mono hb7.size)
         dsimp only)
      | (go_simp
         go_at_call 45
         refine (HF2.out w6).mono ?_
         rintro e w7 ⟨C7, c7, rfl, h7n, _, b7⟩
         have hb7 : Below wr.heap.size wr w7 := hb6.trans (b7.mono hb6.size)
         dsimp only)
      | (go_simp
         go_at_call 44
         refine (HVM.out w5 hb5 _ _ _ h5n (by omega)).mono ?_
         rintro e w6 ⟨C6, c6, rfl, h6n, _, b6⟩
         have hb6 : Below wr.heap.size wr w6 := hb5.trans (b6.mono hb5.size)
         dsimp only)
      | (go_simp
         go_at_call 45
         refine (HF1.out _).mono ?_
         rintro e w5 ⟨C5, c5, rfl, h5n, _, b5⟩
         have hb5 : Below wr.heap.size wr w5 := ((Below.refl wr.heap.size wr).drew).trans (b5.mono (Nat.le_refl _))
         dsimp only))
        have hrr8 := HRR.out.below hb8 HRR.out.lt
        have hww8 := HWW.out.below hb8 HWW.out.lt
        have hbw8 := HB.out.trans (hb8.mono HB.out.size)
        have ho8 := own_base h8o (base' := w.heap.size) (by have := hb7.size; have := HB.out.size; omega)
        have hbl2 : Hid ((limbs (V * k + x)).length ≤ n - q) := Lib.hid hbl
        clear hbl h8o h8n h7n h6n h5n b5 b6 b7 b8
        go_wp2_with fail
        exact ⟨⟨q, _, _, C8, c8, by omega, rfl, Lib.hid rfl, rfl, Lib.hid (by rw [HVAL.out]), hbl2.out, by rw [HVAL.out]; exact ho8, hrr8, hww8, hbw8⟩, by simp [intOf]⟩
end Go.Proofs.YtfgjcdfmlpdkaaaGreatDoor

namespace Go.Proofs.YtfgjcdfmlpdkaaaGreatDoor
open Go.RowKit RuleP NatP

/-- What From answers, of a refusal too: the rule's numbers and table. -/
def fromT (k r : Int) (v : Nat) : Int × Int × List Nat := match fromN k r v with
  | .ok t => (k, r, t)
  | .error _ => (0, 0, [])
theorem fromT_err {k r : Int} {v : Nat} {t : Tale} (h : fromN k r v = .error t) : fromT k r v = (0, 0, []) := by unfold fromT; rw [h]
theorem fromT_ok {k r : Int} {v : Nat} {t : List Nat} (h : fromN k r v = .ok t) : fromT k r v = (k, r, t) := by unfold fromT; rw [h]
theorem from_taleOk (k r : Int) (v : Nat) : TaleOk (wantOf (fromN k r v)) := by
  intro t ht
  unfold fromN at ht
  split at ht
  · cases ht; exact ⟨by simp, by simp⟩
  · split at ht
    · cases ht; exact ⟨by simp, by simp⟩
    · split at ht
      · cases ht; exact ⟨by simp, by simp⟩
      · cases ht

/-- The answer of edenref04.From. -/
def FromRef (w : World) (k r : Int) (v : Nat) (e : Ending) (w' : World) : Prop :=
  ∃ (C : Option Addr) (cc N : Nat) (A1 : Option Addr) (n1 c1 : Nat) (A2 : Option Addr) (n2 c2 : Nat), e = .returned (.tuple #[ruleV (fromT k r v).1 (fromT k r v).2.1 C (fromT k r v).2.2.length cc, .agg #[.int .i64 (N : Int), .slice A1 n1 c1, .slice A2 n2 c2]]) ∧
    w'.ownsRow w.heap.size 3 1 (.slice C (fromT k r v).2.2.length cc) (fromT k r v).2.2.length ((ints (fromT k r v).2.2).map (Value.int .i64)) ∧ WantB w' w.heap.size (wantOf (fromN k r v)) (.agg #[.int .i64 (N : Int), .slice A1 n1 c1, .slice A2 n2 c2]) ∧ Below w.heap.size w w'
theorem FromRef.err {w w' : World} {k r : Int} {v N : Nat} {tl : Tale} {A1 A2 : Option Addr} {n1 c1 n2 c2 : Nat} (h : fromN k r v = .error tl) (hu : WantB w' w.heap.size (some tl) (.agg #[.int .i64 (N : Int), .slice A1 n1 c1, .slice A2 n2 c2])) (hb : Below w.heap.size w w') :
    FromRef w k r v (.returned (.tuple #[.agg #[.int .i64 0, .int .i64 0, .slice none 0 0], .agg #[.int .i64 (N : Int), .slice A1 n1 c1, .slice A2 n2 c2]])) w' := by
  refine ⟨none, 0, N, A1, n1, c1, A2, n2, c2, by rw [fromT_err h]; rfl, by rw [fromT_err h]; exact ⟨rfl, .inl ⟨rfl, rfl⟩⟩, by rw [h]; exact hu, hb⟩
theorem keeps_set33 (w : World) (g h : Nat) (u0 u1 u2 x0 x1 x2 : Value) : Keeps (fun b => b = g ∨ b = h) w ((((((w.setCell ⟨g, 0, none⟩ u0).setCell ⟨g, 1, none⟩ u1).setCell ⟨g, 2, none⟩ u2).setCell ⟨h, 0, none⟩ x0).setCell ⟨h, 1, none⟩ x1).setCell ⟨h, 2, none⟩ x2) :=
  ((keeps_set3 w g u0 u1 u2).mono (fun _ _ h => .inl h)).trans ((keeps_set3 _ h x0 x1 x2).mono (O' := fun b => b = g ∨ b = h) (fun _ _ h => .inr h)) (fun _ _ h => h)

set_option maxRecDepth 100000 in
set_option maxHeartbeats 4000000 in
theorem refFrom_size (w : World) (k r : Int) {A : Value} {v : Nat} (h : k < 1 ∨ 4 < k ∨ r < 0 ∨ 3 < r) :
    Calls Tryz.prog 29 #[.int .i64 k, .int .i64 r, A] w fun e w' => FromRef w k r v e w' := by
  have hf : Hid (fromN k r v = .error (3, [(sRule, 0)])) := Lib.hid (by unfold fromN; rw [if_pos h])
  have hsz : size k r = .error (3, [(sRule, 0)]) := by unfold size; rw [if_pos h]
  have hr0 := (RuleAt.new w (.int .i64 0) (.int .i64 0) (.slice none 0 0)).alloc (.cells #[.int .i64 0, .slice none 0 0, .slice none 0 0] 32)
  have hw0 := WantAt.new (w.alloc (.cells #[.int .i64 0, .int .i64 0, .slice none 0 0] 24)) (.int .i64 0) (.slice none 0 0) (.slice none 0 0)
  rw [World.size_alloc] at hw0
  have hb0 := ((Below.refl w.heap.size w).alloc (Nat.le_refl _) (.cells #[.int .i64 0, .int .i64 0, .slice none 0 0] 24)).alloc (by simp) (.cells #[.int .i64 0, .slice none 0 0, .slice none 0 0] 32)
  obtain ⟨wx, hwx⟩ : ∃ wx, (w.alloc (.cells #[.int .i64 0, .int .i64 0, .slice none 0 0] 24)).alloc (.cells #[.int .i64 0, .slice none 0 0, .slice none 0 0] 32) = wx := ⟨_, rfl⟩
  have hsx : wx.heap.size = w.heap.size + 2 := by rw [← hwx]; simp
  have HWX := Lib.hid hwx
  rw [hwx] at hr0 hw0 hb0
  have hrs := refSize_c wx k r
  rw [hsz] at hrs
  have HS := Lib.hid hrs
  clear hrs hwx h hsz
  go_enter Tryz.func29, Tryz.ntmps29
  go_wp2_with fail
  rw [HWX.out]
  refine (HS.out).mono ?_
  rintro e w1 ⟨N, A1, n1, c1, A2, n2, c2, rfl, hu, hb1⟩
  have hN : N ≠ 0 := by have : N = 3 := hu.num; omega
  have hb2 : Below w1.heap.size w1 (w1.alloc (.cells #[.int .i64 (N : Int), .slice A1 n1 c1, .slice A2 n2 c2] 32)) := (Below.refl _ _).alloc (Nat.le_refl _) _
  have hv2 := WantAt.new w1 (.int .i64 (N : Int)) (.slice A1 n1 c1) (.slice A2 n2 c2)
  obtain ⟨wy, hwy⟩ : ∃ wy, w1.alloc (.cells #[.int .i64 (N : Int), .slice A1 n1 c1, .slice A2 n2 c2] 32) = wy := ⟨_, rfl⟩
  have HWY := Lib.hid hwy
  rw [hwy] at hb2 hv2
  have hr2 := (hr0.below hb1 (by omega)).below hb2 (by have := hb1.size; omega)
  have hw2 := (hw0.below hb1 (by omega)).below hb2 (by have := hb1.size; omega)
  have hu2 := hu.below hb2
  have hbad := errBad_c wy N A1 n1 c1 A2 n2 c2
  rw [decide_eq_true hN] at hbad
  have HBAD := Lib.hid hbad
  clear hbad hN
  have hbw := hb0.trans ((hb1.trans (hb2.mono hb1.size)).mono (by omega))
  have HR2 := Lib.hid hr2
  have HW2 := Lib.hid hw2
  have HV2 := Lib.hid hv2
  have HU2 := Lib.hid hu2
  have HBW := Lib.hid hbw
  have hsz1 := hb1.size
  have hsz2 := hb2.size
  clear hr0 hw0 hb0 hu hb1 hb2 hr2 hw2 hv2 hu2 hbw hwy
  obtain ⟨v0, v1, v2, _⟩ := HV2.out.facts
  go_wp2_with fail
  rw [HWY.out]
  refine (HBAD.out).mono ?_
  rintro e w3 ⟨rfl, hb3⟩
  have g0 := cell_later hb3 v0
  have g1 := cell_later hb3 v1
  have g2 := cell_later hb3 v2
  obtain ⟨d0, d1, d2, f0, f1, f2⟩ := (HW2.out.below hb3 (by omega)).facts
  obtain ⟨r0, r1, r2, q0, q1, q2⟩ := (HR2.out.below hb3 (by omega)).facts
  have hk3 := keeps_set33 w3 w.heap.size (w.heap.size + 1) (.int .i64 0) (.int .i64 0) (.slice none 0 0) (.int .i64 (N : Int)) (.slice A1 n1 c1) (.slice A2 n2 c2)
  have HU := Lib.hid ((((HU2.out.below hb3).keeps hk3 (by omega)).base (base' := w.heap.size) (by omega)).below ((Below.refl _ _).drew))
  have HB := Lib.hid (((HBW.out.trans (hb3.mono HBW.out.size)).trans (hk3.below (by have := hb3.size; omega) (by omega))).drew)
  clear hk3
  clear v0 v1 v2 hb3
  go_wp2_with fail
  go_region
  go_wp2_with fail
  exact bodyPost_ret (v := .tuple #[.agg #[.int .i64 0, .int .i64 0, .slice none 0 0], .agg #[.int .i64 (N : Int), .slice A1 n1 c1, .slice A2 n2 c2]]) (by simp [results, Tryz.results29, go_sem, d0, d1, d2, r0, r1, r2]) rfl (FromRef.err hf.out HU.out HB.out)
end Go.Proofs.YtfgjcdfmlpdkaaaGreatDoor

namespace Go.Proofs.YtfgjcdfmlpdkaaaGreatDoor
open Go.RowKit RuleP NatP

theorem refSize_ok (w : World) (k r : Nat) (h1 : 1 ≤ k) (h2 : k ≤ 4) (h3 : r ≤ 3) :
    Calls Tryz.prog 26 #[.int .i64 (k : Int), .int .i64 (r : Int)] w fun e w' => e = .returned (.tuple #[.int .i64 ((k ^ (2 * r + 1) : Nat) : Int), .agg #[.int .i64 0, .slice none 0 0, .slice none 0 0]]) ∧ Below w.heap.size w w' := by
  have hc : ¬ ((k : Int) < 1 ∨ 4 < (k : Int) ∨ (r : Int) < 0 ∨ 3 < (r : Int)) := by omega
  have q1 : sizeN k r = ((k ^ (2 * r + 1) : Nat) : Int) := by unfold sizeN size; rw [if_neg hc]; rfl
  have q2 : wantOf (size (k : Int) (r : Int)) = none := by unfold size; rw [if_neg hc]; rfl
  refine (refSize_c w k r).mono ?_
  rintro e w' ⟨N, A1, n1, c1, A2, n2, c2, rfl, hu, hb⟩
  rw [q2] at hu
  rw [q1, hu.none_eq]
  exact ⟨rfl, hb⟩
theorem errBad_zero (w : World) : Calls Tryz.prog 17 #[.agg #[.int .i64 0, .slice none 0 0, .slice none 0 0]] w fun e w' => e = .returned (.bool false) ∧ Below w.heap.size w w' :=
  errBad_c w 0 none 0 0 none 0 0

set_option maxRecDepth 100000 in
set_option maxHeartbeats 4000000 in
theorem refFrom_big (w : World) (k r : Nat) (h1 : 1 ≤ k) (h2 : k ≤ 4) (h3 : r ≤ 3) {A : Value} {v : Nat} (h : 256 < k ^ (2 * r + 1)) :
    Calls Tryz.prog 29 #[.int .i64 (k : Int), .int .i64 (r : Int), A] w fun e w' => FromRef w k r v e w' := by
  have hf : Hid (fromN (k : Int) (r : Int) v = .error (4, [(sRule, 0)])) := Lib.hid (by unfold fromN; rw [if_neg (by omega), if_pos (by simpa using h)])
  have hr0 := (RuleAt.new w (.int .i64 0) (.int .i64 0) (.slice none 0 0)).alloc (.cells #[.int .i64 0, .slice none 0 0, .slice none 0 0] 32)
  have hw0 := WantAt.new (w.alloc (.cells #[.int .i64 0, .int .i64 0, .slice none 0 0] 24)) (.int .i64 0) (.slice none 0 0) (.slice none 0 0)
  rw [World.size_alloc] at hw0
  have hb0 := ((Below.refl w.heap.size w).alloc (Nat.le_refl _) (.cells #[.int .i64 0, .int .i64 0, .slice none 0 0] 24)).alloc (by simp) (.cells #[.int .i64 0, .slice none 0 0, .slice none 0 0] 32)
  obtain ⟨wx, hwx⟩ : ∃ wx, (w.alloc (.cells #[.int .i64 0, .int .i64 0, .slice none 0 0] 24)).alloc (.cells #[.int .i64 0, .slice none 0 0, .slice none 0 0] 32) = wx := ⟨_, rfl⟩
  have hsx : wx.heap.size = w.heap.size + 2 := by rw [← hwx]; simp
  have HWX := Lib.hid hwx
  rw [hwx] at hr0 hw0 hb0
  have hrs := refSize_ok wx k r h1 h2 h3
  obtain ⟨L, hL⟩ : ∃ L, k ^ (2 * r + 1) = L := ⟨_, rfl⟩
  rw [hL] at hrs h
  have HS := Lib.hid hrs
  clear hrs hwx hL
  go_enter Tryz.func29, Tryz.ntmps29
  go_wp2_with fail
  rw [HWX.out]
  refine (HS.out).mono ?_
  rintro e w1 ⟨rfl, hb1⟩
  have hb2 : Below w1.heap.size w1 (w1.alloc (.cells #[.int .i64 0, .slice none 0 0, .slice none 0 0] 32)) := (Below.refl _ _).alloc (Nat.le_refl _) _
  have HBAD := Lib.hid (errBad_zero (w1.alloc (.cells #[.int .i64 0, .slice none 0 0, .slice none 0 0] 32)))
  have HR2 := Lib.hid ((hr0.below hb1 (by omega)).below hb2 (by have := hb1.size; omega))
  have HW2 := Lib.hid ((hw0.below hb1 (by omega)).below hb2 (by have := hb1.size; omega))
  have HBW := Lib.hid (hb0.trans ((hb1.trans (hb2.mono hb1.size)).mono (by omega)))
  have hsz1 := hb1.size
  have hsz2 := hb2.size
  clear hr0 hw0 hb0 hb1 hb2
  go_wp2_with fail
  refine (HBAD.out).mono ?_
  rintro e w3 ⟨rfl, hb3⟩
  have hr3 := HR2.out.below hb3 (by omega)
  have hw3 := HW2.out.below hb3 (by omega)
  have hb3' := HBW.out.trans (hb3.mono HBW.out.size)
  have hsz3 := hb3.size
  clear HR2 HW2 HBW HBAD hb3
  go_wp2_with fail
  refine (newB_c w3 sRule 0 4).mono ?_
  rintro e w4 ⟨A1, n1, c1, A2, n2, c2, rfl, hu, hb4⟩
  obtain ⟨r0, r1, r2, q0, q1, q2⟩ := (hr3.below hb4 (by omega)).facts
  obtain ⟨d0, d1, d2, f0, f1, f2⟩ := (hw3.below hb4 (by omega)).facts
  have hk3 := keeps_set33 w4 w.heap.size (w.heap.size + 1) (.int .i64 0) (.int .i64 0) (.slice none 0 0) (.int .i64 4) (.slice A1 n1 c1) (.slice A2 n2 c2)
  have HU := Lib.hid ((hu.keeps hk3 (by omega)).base (base' := w.heap.size) (by omega))
  have HB := Lib.hid ((hb3'.trans (hb4.mono hb3'.size)).trans (hk3.below (by have := hb4.size; omega) (by omega)))
  clear hk3 hu hb4 hb3' hr3 hw3
  go_wp2_with fail
  exact bodyPost_ret (v := .tuple #[.agg #[.int .i64 0, .int .i64 0, .slice none 0 0], .agg #[.int .i64 4, .slice A1 n1 c1, .slice A2 n2 c2]]) (by simp [results, Tryz.results29, go_sem, d0, d1, d2, r0, r1, r2]) rfl (FromRef.err (N := 4) hf.out HU.out HB.out)
end Go.Proofs.YtfgjcdfmlpdkaaaGreatDoor

namespace Go.Proofs.YtfgjcdfmlpdkaaaGreatDoor
open Go.RowKit RuleP NatP

set_option maxRecDepth 100000 in
set_option maxHeartbeats 4000000 in
theorem refFrom_over (w : World) (k r : Nat) (h1 : 1 ≤ k) (h2 : k ≤ 4) (h3 : r ≤ 3) {A : Option Addr} {n c v : Nat} (hN : Num w A n c v) (hn : n ≤ 1000000000) (h : k ^ (2 * r + 1) ≤ 256) (hv : k ^ k ^ (2 * r + 1) ≤ v) :
    Calls Tryz.prog 29 #[.int .i64 (k : Int), .int .i64 (r : Int), .slice A n c] w fun e w' => FromRef w k r v e w' := by
  have hkp : ∀ m, 0 < k ^ m := fun m => Nat.pow_pos (by omega)
  have hf : Hid (fromN (k : Int) (r : Int) v = .error (3, [(sRule, 1)])) := Lib.hid (by unfold fromN; rw [if_neg (by omega), if_neg (by simpa using h), if_pos (by simpa using Nat.div_pos hv (hkp _))])
  have hr0 := (RuleAt.new w (.int .i64 0) (.int .i64 0) (.slice none 0 0)).alloc (.cells #[.int .i64 0, .slice none 0 0, .slice none 0 0] 32)
  have hw0 := WantAt.new (w.alloc (.cells #[.int .i64 0, .int .i64 0, .slice none 0 0] 24)) (.int .i64 0) (.slice none 0 0) (.slice none 0 0)
  rw [World.size_alloc] at hw0
  have hb0 := ((Below.refl w.heap.size w).alloc (Nat.le_refl _) (.cells #[.int .i64 0, .int .i64 0, .slice none 0 0] 24)).alloc (by simp) (.cells #[.int .i64 0, .slice none 0 0, .slice none 0 0] 32)
  obtain ⟨wx, hwx⟩ : ∃ wx, (w.alloc (.cells #[.int .i64 0, .int .i64 0, .slice none 0 0] 24)).alloc (.cells #[.int .i64 0, .slice none 0 0, .slice none 0 0] 32) = wx := ⟨_, rfl⟩
  have hsx : wx.heap.size = w.heap.size + 2 := by rw [← hwx]; simp
  have HWX := Lib.hid hwx
  rw [hwx] at hr0 hw0 hb0
  have hrs := refSize_ok wx k r h1 h2 h3
  obtain ⟨L, hL⟩ : ∃ L, k ^ (2 * r + 1) = L := ⟨_, rfl⟩
  rw [hL] at hrs h hv
  have hL0 : 0 < L := by rw [← hL]; exact hkp _
  have hlim : (limbs (k ^ L)).length ≤ 1000000000 := by
    have h5 := limbs_len_of_lt L (k ^ L) (Nat.pow_lt_pow_left (by unfold W32; omega) (by omega))
    omega
  have g1 : IntKind.u32.wrap (k : Int) = (k : Int) := IntWalk.u32_in _ (by omega)
  have hN1 := hN.below hb0
  have HPW := Lib.hid (fun wz => refPow_ok wz k L (by unfold W32; omega) (by omega))
  have HS := Lib.hid hrs
  have hcm : ∃ rc : Int, cmpN v (k ^ L) = rc ∧ (rc = 0 ∨ rc = 1) := by
    unfold cmpN
    rw [if_neg (by omega)]
    split
    · exact ⟨_, rfl, .inr rfl⟩
    · exact ⟨_, rfl, .inl rfl⟩
  obtain ⟨rc, hrc, hr01⟩ := hcm
  have HRC := Lib.hid hrc
  clear hrs hwx hL hkp hrc hN
  rcases hr01 with rfl | rfl
  all_goals
    go_enter Tryz.func29, Tryz.ntmps29
    go_wp2_with fail
    rw [HWX.out]
    refine (HS.out).mono ?_
    rintro e w1 ⟨rfl, hb1⟩
    have hb2 : Below w1.heap.size w1 (w1.alloc (.cells #[.int .i64 0, .slice none 0 0, .slice none 0 0] 32)) := (Below.refl _ _).alloc (Nat.le_refl _) _
    have HBAD := Lib.hid (errBad_zero (w1.alloc (.cells #[.int .i64 0, .slice none 0 0, .slice none 0 0] 32)))
    have hN2 := (hN1.below hb1).below hb2
    have HR2 := Lib.hid ((hr0.below hb1 (by omega)).below hb2 (by have := hb1.size; omega))
    have HW2 := Lib.hid ((hw0.below hb1 (by omega)).below hb2 (by have := hb1.size; omega))
    have HBW := Lib.hid (hb0.trans ((hb1.trans (hb2.mono hb1.size)).mono (by omega)))
    have hsz1 := hb1.size
    have hsz2 := hb2.size
    clear hr0 hw0 hb0 hb1 hb2
    go_wp2_with fail
    refine (HBAD.out).mono ?_
    rintro e w3 ⟨rfl, hb3⟩
    have hr3 := HR2.out.below hb3 (by omega)
    have hw3 := HW2.out.below hb3 (by omega)
    have hb3' := HBW.out.trans (hb3.mono HBW.out.size)
    have hsz3 := hb3.size
    have hN3 := hN2.below hb3
    clear HR2 HW2 HBW HBAD hb3 hN2
    go_wp2_with fail
    refine (HPW.out w3).mono ?_
    rintro e w4 ⟨P, pc, rfl, hp4, _, hb4⟩
    have hb5 : Below w4.heap.size w4 (w4.alloc (.cells #[.int .i64 0, .slice none 0 0, .slice none 0 0] 32)) := (Below.refl _ _).alloc (Nat.le_refl _) _
    have hsz4 := hb4.size
    have hsz5 := hb5.size
    have hb5' := hb3'.trans ((hb4.trans (hb5.mono hb4.size)).mono hb3'.size)
    have HCM := Lib.hid (refCmp_n ((hN3.below hb4).below hb5) (hp4.below hb5) hn hlim HRC.out)
    have hr5 := (hr3.below hb4 (by omega)).below hb5 (by omega)
    have hw5 := (hw3.below hb4 (by omega)).below hb5 (by omega)
    clear hr3 hw3 hb4 hb5 hp4 hN3 hb3'
    go_wp2_with fail
    refine (HCM.out).mono ?_
    rintro e w6 ⟨rfl, hb6⟩
    have hr6 := hr5.below hb6 (by omega)
    have hw6 := hw5.below hb6 (by omega)
    have hb6' := hb5'.trans (hb6.mono hb5'.size)
    have hsz6 := hb6.size
    clear hr5 hw5 hb6 hb5' HCM
    go_wp2_with fail
    refine (newB_c w6 sRule 1 3).mono ?_
    rintro e w7 ⟨A1, n1, c1, A2, n2, c2, rfl, hu, hb7⟩
    obtain ⟨r0, r1, r2, q0, q1, q2⟩ := (hr6.below hb7 (by omega)).facts
    obtain ⟨d0, d1, d2, f0, f1, f2⟩ := (hw6.below hb7 (by omega)).facts
    have hk3 := keeps_set33 w7 w.heap.size (w.heap.size + 1) (.int .i64 0) (.int .i64 0) (.slice none 0 0) (.int .i64 3) (.slice A1 n1 c1) (.slice A2 n2 c2)
    have HU := Lib.hid ((hu.keeps hk3 (by omega)).base (base' := w.heap.size) (by omega))
    have HB := Lib.hid ((hb6'.trans (hb7.mono hb6'.size)).trans (hk3.below (by have := hb7.size; omega) (by omega)))
    clear hk3 hu hb7 hb6' hr6 hw6
    go_wp2_with fail
    exact bodyPost_ret (v := .tuple #[.agg #[.int .i64 0, .int .i64 0, .slice none 0 0], .agg #[.int .i64 3, .slice A1 n1 c1, .slice A2 n2 c2]]) (by simp [results, Tryz.results29, go_sem, d0, d1, d2, r0, r1, r2]) rfl (FromRef.err (N := 3) hf.out HU.out HB.out)
end Go.Proofs.YtfgjcdfmlpdkaaaGreatDoor

namespace Go.Proofs.YtfgjcdfmlpdkaaaGreatDoor
open Go.RowKit RuleP NatP

theorem FromRef.ok {w w' : World} {k r : Int} {v : Nat} {t : List Nat} {C : Option Addr} {cc : Nat} (h : fromN k r v = .ok t) (ho : w'.ownsRow w.heap.size 3 1 (.slice C t.length cc) t.length ((ints t).map (Value.int .i64))) (hb : Below w.heap.size w w') :
    FromRef w k r v (.returned (.tuple #[.agg #[.int .i64 k, .int .i64 r, .slice C t.length cc], .agg #[.int .i64 0, .slice none 0 0, .slice none 0 0]])) w' :=
  ⟨C, cc, 0, none, 0, 0, none, 0, 0, by rw [fromT_ok h]; rfl, by rw [fromT_ok h]; exact ho, by rw [h]; exact WantB.zero _ _, hb⟩

set_option maxRecDepth 100000 in
set_option maxHeartbeats 4000000 in
theorem refFrom_good (w : World) (k r : Nat) (h1 : 1 ≤ k) (h2 : k ≤ 4) (h3 : r ≤ 3) {A : Option Addr} {n c v : Nat} (hN : Num w A n c v) (hn : n ≤ 1000000000) (h : k ^ (2 * r + 1) ≤ 256) (hv : v < k ^ k ^ (2 * r + 1)) :
    Calls Tryz.prog 29 #[.int .i64 (k : Int), .int .i64 (r : Int), .slice A n c] w fun e w' => FromRef w k r v e w' := by
  have hkp : ∀ m, 0 < k ^ m := fun m => Nat.pow_pos (by omega)
  have hf0 : fromN (k : Int) (r : Int) v = .ok (digN k (k ^ (2 * r + 1)) v) := by unfold fromN; rw [if_neg (by omega), if_neg (by simpa using h), if_neg (by simp only [Int.toNat_natCast]; rw [Nat.div_eq_of_lt hv]; exact Nat.lt_irrefl 0)]; rfl
  have hr0 := (RuleAt.new w (.int .i64 0) (.int .i64 0) (.slice none 0 0)).alloc (.cells #[.int .i64 0, .slice none 0 0, .slice none 0 0] 32)
  have hw0 := WantAt.new (w.alloc (.cells #[.int .i64 0, .int .i64 0, .slice none 0 0] 24)) (.int .i64 0) (.slice none 0 0) (.slice none 0 0)
  rw [World.size_alloc] at hw0
  have hb0 := ((Below.refl w.heap.size w).alloc (Nat.le_refl _) (.cells #[.int .i64 0, .int .i64 0, .slice none 0 0] 24)).alloc (by simp) (.cells #[.int .i64 0, .slice none 0 0, .slice none 0 0] 32)
  obtain ⟨wx, hwx⟩ : ∃ wx, (w.alloc (.cells #[.int .i64 0, .int .i64 0, .slice none 0 0] 24)).alloc (.cells #[.int .i64 0, .slice none 0 0, .slice none 0 0] 32) = wx := ⟨_, rfl⟩
  have hsx : wx.heap.size = w.heap.size + 2 := by rw [← hwx]; simp
  have HWX := Lib.hid hwx
  rw [hwx] at hr0 hw0 hb0
  have hrs := refSize_ok wx k r h1 h2 h3
  obtain ⟨L, hL⟩ : ∃ L, k ^ (2 * r + 1) = L := ⟨_, rfl⟩
  rw [hL] at hrs h hv hf0
  have hf := Lib.hid hf0
  clear hf0
  have hL0 : 0 < L := by rw [← hL]; exact hkp _
  have hlim : (limbs (k ^ L)).length ≤ 1000000000 := by
    have h5 := limbs_len_of_lt L (k ^ L) (Nat.pow_lt_pow_left (by unfold W32; omega) (by omega))
    omega
  have g1 : IntKind.u32.wrap (k : Int) = (k : Int) := IntWalk.u32_in _ (by omega)
  have hN1 := hN.below hb0
  have HPW := Lib.hid (fun wz => refPow_ok wz k L (by unfold W32; omega) (by omega))
  have HS := Lib.hid hrs
  have HRC : Hid (cmpN v (k ^ L) = -1) := Lib.hid (by unfold cmpN; rw [if_pos hv])
  have hmk := run_make_row' (P := Tryz.prog) 22 3 (.int .i64 0) 8 tInts.und tInts.info rfl .i64 .i64 L (by omega) (by omega)
  clear hrs hwx hL hkp
  go_enter Tryz.func29, Tryz.ntmps29
  go_wp2_with fail
  rw [HWX.out]
  refine (HS.out).mono ?_
  rintro e w1 ⟨rfl, hb1⟩
  have hb2 : Below w1.heap.size w1 (w1.alloc (.cells #[.int .i64 0, .slice none 0 0, .slice none 0 0] 32)) := (Below.refl _ _).alloc (Nat.le_refl _) _
  have HBAD := Lib.hid (errBad_zero (w1.alloc (.cells #[.int .i64 0, .slice none 0 0, .slice none 0 0] 32)))
  have hN2 := (hN1.below hb1).below hb2
  have HR2 := Lib.hid ((hr0.below hb1 (by omega)).below hb2 (by have := hb1.size; omega))
  have HW2 := Lib.hid ((hw0.below hb1 (by omega)).below hb2 (by have := hb1.size; omega))
  have HBW := Lib.hid (hb0.trans ((hb1.trans (hb2.mono hb1.size)).mono (by omega)))
  have hsz1 := hb1.size
  have hsz2 := hb2.size
  clear hr0 hw0 hb0 hb1 hb2
  go_wp2_with fail
  refine (HBAD.out).mono ?_
  rintro e w3 ⟨rfl, hb3⟩
  have hr3 := HR2.out.below hb3 (by omega)
  have hw3 := HW2.out.below hb3 (by omega)
  have hb3' := HBW.out.trans (hb3.mono HBW.out.size)
  have hsz3 := hb3.size
  have hN3 := hN2.below hb3
  clear HR2 HW2 HBW HBAD hb3 hN2
  go_wp2_with fail
  refine (HPW.out w3).mono ?_
  rintro e w4 ⟨P, pc, rfl, hp4, _, hb4⟩
  have hb5 : Below w4.heap.size w4 (w4.alloc (.cells #[.int .i64 0, .slice none 0 0, .slice none 0 0] 32)) := (Below.refl _ _).alloc (Nat.le_refl _) _
  have hsz4 := hb4.size
  have hsz5 := hb5.size
  have hb5' := hb3'.trans ((hb4.trans (hb5.mono hb4.size)).mono hb3'.size)
  have hN5 := (hN3.below hb4).below hb5
  have HCM := Lib.hid (refCmp_n ((hN3.below hb4).below hb5) (hp4.below hb5) hn hlim HRC.out)
  have hr5 := (hr3.below hb4 (by omega)).below hb5 (by omega)
  have hw5 := (hw3.below hb4 (by omega)).below hb5 (by omega)
  clear hr3 hw3 hb4 hb5 hp4 hN3 hb3'
  go_wp2_with fail
  refine (HCM.out).mono ?_
  rintro e w6 ⟨rfl, hb6⟩
  have hr6 := hr5.below hb6 (by omega)
  have hw6 := hw5.below hb6 (by omega)
  have hb6' := hb5'.trans (hb6.mono hb5'.size)
  have hsz6 := hb6.size
  clear hr5 hw5 HCM
  have hN6 := hN5.below hb6
  have hown0 := make_ints w6 L (by simp only [maxLen]; omega)
  have hb7 : Below w6.heap.size w6 ((w6.alloc (.cells (madeCells #[.int .i64 0] L) 3)).alloc (.cells #[.int .i64 (k : Int), .int .i64 (r : Int), .slice (some ⟨w6.heap.size, 0, none⟩) L L] 24)) := ((Below.refl _ _).alloc (Nat.le_refl _) _).alloc (by simp) _
  have hx7 := RuleAt.new (w6.alloc (.cells (madeCells #[.int .i64 0] L) 3)) (.int .i64 (k : Int)) (.int .i64 (r : Int)) (.slice (some ⟨w6.heap.size, 0, none⟩) L L)
  rw [World.size_alloc] at hx7
  have hown7 := hown0.alloc (.cells #[.int .i64 (k : Int), .int .i64 (r : Int), .slice (some ⟨w6.heap.size, 0, none⟩) L L] 24)
  have hr7 := hr6.below hb7 (by omega)
  have hw7 := hw6.below hb7 (by omega)
  have hN7 := hN6.below hb7
  have hb7' := hb6'.trans (hb7.mono hb6'.size)
  clear hown0 hr6 hw6 hN6 hb7 hb6 hb5' hb6'
  obtain ⟨w7, hw7e⟩ : ∃ w7, (w6.alloc (.cells (madeCells #[.int .i64 0] L) 3)).alloc (.cells #[.int .i64 (k : Int), .int .i64 (r : Int), .slice (some ⟨w6.heap.size, 0, none⟩) L L] 24) = w7 := ⟨_, rfl⟩
  have HW7 := Lib.hid hw7e
  have hs7 : w7.heap.size = w6.heap.size + 2 := by rw [← hw7e]; simp
  have HS7 := Lib.hid hs7
  rw [hw7e] at hx7 hown7 hr7 hw7 hN7 hb7'
  have HNM := Lib.hid (refNorm_n hN7 hn)
  clear hN7 hw7e
  go_wp2_with fail
  rw [HW7.out]
  refine (HNM.out).mono ?_
  rintro e w8 ⟨C8, c8, rfl, hn8, ho8, hb8⟩
  have hr8 := hr7.below hb8 (by omega)
  have hw8 := hw7.below hb8 (by omega)
  have hx8 := hx7.below hb8 (by omega)
  have hown8 := own_below hown7 hb8
  have hb8' := hb7'.trans (hb8.mono hb7'.size)
  have hlim8 : (limbs v).length ≤ 1000000000 := by have := hN.len; omega
  clear hr7 hw7 hx7 hown7 hb7' hb8 ho8 hmk HNM hs7
  go_wp2_with fail
  go_loopw [13, 14] (fun xv iv wr => ∃ (j n' c' : Nat) (A' : Option Addr), j ≤ L ∧ iv = .int .i64 (j : Int) ∧ xv = .slice A' n' c' ∧ Hid (Num wr A' n' c' (v / k ^ j)) ∧ n' ≤ 1000000000 ∧ wr.ownsRow w6.heap.size 3 1 (.slice (some ⟨w6.heap.size, 0, none⟩) L L) L ((ints (digT k L v j)).map (Value.int .i64)) ∧
      Hid (RuleAt wr w.heap.size (.int .i64 0) (.int .i64 0) (.slice none 0 0)) ∧ Hid (WantAt wr (w.heap.size + 1) (.int .i64 0) (.slice none 0 0) (.slice none 0 0)) ∧ Hid (RuleAt wr (w6.heap.size + 1) (.int .i64 (k : Int)) (.int .i64 (r : Int)) (.slice (some ⟨w6.heap.size, 0, none⟩) L L)) ∧ Below w.heap.size w wr) (fun _ iv _ => L - (intOf iv).toNat)
  case atStart =>
    refine ⟨0, _, c8, C8, Nat.zero_le _, rfl, rfl, Lib.hid ?_, hlim8, ?_, Lib.hid hr8, Lib.hid hw8, Lib.hid hx8, hb8'⟩
    · simpa using hn8
    · rw [digT_zero]; exact hown8
  case round =>
    clear hn8 hlim8 hr8 hw8 hx8 hown8 hb8'
    obtain ⟨j, n', c', A', hj, rfl, rfl, hNr, hn', hown, hr0, hw0, hx0, hb⟩ := hrel
    have hlen := digT_len (k := k) (v := v) hj
    by_cases hlt : j < L
    · have hover := refOver_ok hNr.out (d := k) (by omega) (by unfold W32; omega) hn'
      have hdd : v / k ^ j / k = v / k ^ (j + 1) := by rw [Nat.div_div_eq_div_mul, Nat.pow_succ]
      have hmk : v / k ^ j % k < k := Nat.mod_lt _ h1
      have hset := digT_set (k := k) (v := v) hlt
      have hle2 : (limbs (v / k ^ (j + 1))).length ≤ 1000000000 := by
        have h5 := hNr.out.len
        have h6 := limbs_div_le (v / k ^ j) k
        rw [hdd] at h6
        omega
      rw [hdd] at hover
      obtain ⟨q, hq⟩ : ∃ q, v / k ^ (j + 1) = q := ⟨_, rfl⟩
      obtain ⟨ρ, hρ⟩ : ∃ ρ, v / k ^ j % k = ρ := ⟨_, rfl⟩
      rw [hq] at hover hle2
      rw [hρ] at hover hmk hset
      have HOV := Lib.hid hover
      have HQ := Lib.hid hq
      have HSET := Lib.hid hset
      clear hover hdd hset hq hρ hNr
      go_wp2_with fail
      refine (HOV.out).mono ?_
      rintro e w2 ⟨B, c2, rfl, hn2, ho2, hb2⟩
      have hrx := hx0.out.below hb2 hx0.out.lt
      obtain ⟨c0, c1, c2', f0, f1, f2⟩ := hrx.facts
      have hl1 := hrx.lt
      have hl2 : w6.heap.size < w2.heap.size := by omega
      have hown2 := own_below hown hb2
      obtain ⟨z, hz⟩ : ∃ z, (digT k L v j)[j]? = some z := ⟨_, List.getElem?_eq_getElem (by omega)⟩
      have hcell : w2.cell? ⟨w6.heap.size, j, none⟩ = some (.int .i64 (z : Int)) := by rw [hown2.cellAt j (by omega), ints_map, List.getElem?_map, hz]; rfl
      have hba : Below (w2.setCell ⟨w6.heap.size, j, none⟩ (.int .i64 (ρ : Int))).heap.size (w2.setCell ⟨w6.heap.size, j, none⟩ (.int .i64 (ρ : Int))) ((w2.setCell ⟨w6.heap.size, j, none⟩ (.int .i64 (ρ : Int))).alloc (.cells #[.int .i64 0, .slice none 0 0, .slice none 0 0] 32)) := (Below.refl _ _).alloc (Nat.le_refl _) _
      have hsz2 : (w2.setCell ⟨w6.heap.size, j, none⟩ (.int .i64 (ρ : Int))).heap.size = w2.heap.size := by simp [World.setCell]
      have hfr := hown2.frozenAt j
      have hst := (hown2.stored j (.int .i64 (ρ : Int))).1
      rw [← List.map_set, ints_set, HSET.out] at hst
      have hst := own_below hst hba
      have hk := Keeps.of_setCell w2 ⟨w6.heap.size, j, none⟩ (.int .i64 (ρ : Int))
      have hr0s := (hr0.out.below hb2 hr0.out.lt).keeps hk (by simp; omega)
      have hw0s := (hw0.out.below hb2 hw0.out.lt).keeps hk (by simp; omega)
      have hx0s := (hx0.out.below hb2 hx0.out.lt).keeps hk (by simp)
      have hr0n := Lib.hid (hr0s.below hba hr0s.lt)
      have hw0n := Lib.hid (hw0s.below hba hw0s.lt)
      have hx0n := Lib.hid (hx0s.below hba hx0s.lt)
      have ho3 := own_keeps ho2 hk (fun g hg e => own_ne_own hown2 ho2 (by decide) (g := g) (by rw [e]; rfl) hg)
      have hN2 := num_own (own_below ho3 hba)
      have HN2 : Hid (Num ((w2.setCell ⟨w6.heap.size, j, none⟩ (.int .i64 (ρ : Int))).alloc (.cells #[.int .i64 0, .slice none 0 0, .slice none 0 0] 32)) B (limbs q).length c2 (v / k ^ (j + 1))) := Lib.hid (by rw [HQ.out]; exact hN2)
      have hbn0 := (hb.trans (hb2.mono hb.size)).setCell (p := ⟨w6.heap.size, j, none⟩) (by simp; omega) (.int .i64 (ρ : Int))
      have hbn := hbn0.trans (hba.mono hbn0.size)
      clear hown hown2 ho2 ho3 hr0 hw0 hx0 hb hb2 hz hN2 hk hrx hba hn2 hr0s hw0s hx0s hbn0
      go_wp2_with fail
      exact ⟨⟨j + 1, _, _, B, by omega, by go_num, rfl, HN2, hle2, hst, hr0n, hw0n, hx0n, hbn⟩, by simp [intOf]; omega⟩
    · obtain rfl : j = L := by omega
      rw [digT_all] at hown hlen
      have hlj : (digN k j v).length = j := digN_len _ _ _
      obtain ⟨r0, r1, r2, q0, q1, q2⟩ := hr0.out.facts
      obtain ⟨d0, d1, d2, f0, f1, f2⟩ := hw0.out.facts
      obtain ⟨x0, x1, x2, _⟩ := hx0.out.facts
      have hk3 := keeps_set33 wr w.heap.size (w.heap.size + 1) (.int .i64 (k : Int)) (.int .i64 (r : Int)) (.slice (some ⟨w6.heap.size, 0, none⟩) j j) (.int .i64 0) (.slice none 0 0) (.slice none 0 0)
      have HO := Lib.hid (own_base (own_keeps hown hk3 (fun g hg hO => by have := (hown.lt g hg).1; rcases hO with h | h <;> omega)) (base' := w.heap.size) (by omega))
      have hB := hb.trans (hk3.below (B := w.heap.size) (by have := hb.size; omega) (by omega))
      have hfin := fun (wz : World) (C : Option Addr) (ho : wz.ownsRow w.heap.size 3 1 (.slice C (digN k j v).length j) (digN k j v).length ((ints (digN k j v)).map (Value.int .i64))) (hb : Below w.heap.size w wz) => FromRef.ok hf.out ho hb
      rw [hlj] at hfin
      have HF := Lib.hid (hfin _ _ HO.out hB)
      clear hown hb hk3 hB hfin HO hlt hr0 hw0 hx0 hNr
      go_wp2_with fail
      exact bodyPost_ret (v := .tuple #[.agg #[.int .i64 (k : Int), .int .i64 (r : Int), .slice (some ⟨w6.heap.size, 0, none⟩) j j], .agg #[.int .i64 0, .slice none 0 0, .slice none 0 0]]) (by simp [results, Tryz.results29, go_sem, d0, d1, d2, r0, r1, r2]) rfl HF.out

theorem ref4From_c (w : World) (k r : Int) {A : Option Addr} {n c v : Nat} (hN : Num w A n c v) (hn : n ≤ 1000000000) :
    Calls Tryz.prog 29 #[.int .i64 k, .int .i64 r, .slice A n c] w fun e w' => FromRef w k r v e w' := by
  by_cases h : k < 1 ∨ 4 < k ∨ r < 0 ∨ 3 < r
  · exact refFrom_size w k r h
  · obtain ⟨a, rfl⟩ : ∃ a : Nat, k = (a : Int) := ⟨k.toNat, by omega⟩
    obtain ⟨b, rfl⟩ : ∃ b : Nat, r = (b : Int) := ⟨r.toNat, by omega⟩
    by_cases hbig : 256 < a ^ (2 * b + 1)
    · exact refFrom_big w a b (by omega) (by omega) (by omega) hbig
    · by_cases hv : a ^ a ^ (2 * b + 1) ≤ v
      · exact refFrom_over w a b (by omega) (by omega) (by omega) hN hn (by omega) hv
      · exact refFrom_good w a b (by omega) (by omega) (by omega) hN hn (by omega) (by omega)
end Go.Proofs.YtfgjcdfmlpdkaaaGreatDoor
