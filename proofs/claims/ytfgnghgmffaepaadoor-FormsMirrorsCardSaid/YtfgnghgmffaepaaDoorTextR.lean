/- A rule's text: rule.Text. Condition: the table reads from memory; the error variables hold what E says. -/
import Derived.Test.YtfgnghgmffaepaaDoorCodeAB
import Derived.Test.YtfgnghgmffaepaaDoorText
import Derived.Deep.RegionHeld3
import Derived.Deep.RegionLaw
namespace Go.Proofs.YtfgnghgmffaepaaDoor
open Go.RowKit RuleP NatP

namespace RuleP
/-- The bytes ahead of the number. -/
def headT (k r : Nat) : List UInt8 := [UInt8.ofNat (48 + k), 46, UInt8.ofNat (48 + r), 46]
/-- A small rule's text. -/
def textR (k r : Nat) (t : List Nat) : List UInt8 := headT k r ++ textB (valB k t)
end RuleP

set_option maxRecDepth 100000 in
set_option maxHeartbeats 1000000 in
theorem ruleText_bad (w : World) (E : Nat → Addr) (hE : Errs w E) (K R : Int) (A : Option Addr) (n c : Nat) (T : List Int) (hT : Sl w A n (T.map (Value.int .i64))) (hm : n ≤ 9223372036854775807) (t : Tale) (hbad : small K R T = some t) :
    Calls Tryd.prog 22 #[ruleV K R A n c] w fun e w' => ∃ v, e = .returned (.tuple #[.string ⟨#[]⟩, v]) ∧ ErrIs w' E t.1 t.2 v ∧ Below w.heap.size w w' := by
  have hb0 := (Below.refl w.heap.size w).alloc (Nat.le_refl _) (.cells #[.int .i64 K, .int .i64 R, .slice A n c] 24)
  have HSM := Lib.hid (code_bad _ E (hE.below hb0) K R A n c T (hT.below hb0) hm t hbad)
  clear hE hT hb0 hbad
  unfold ruleV at *
  go_enter Tryd.func22, Tryd.ntmps22
  go_wp2_with fail
  refine (HSM.out).mono ?_
  rintro e w1 ⟨v, rfl, he, hb⟩
  obtain ⟨u, p, rfl⟩ := he.iface
  have HP := Lib.hid he
  have HB := Lib.hid (below_box hb)
  clear he hb
  go_wp2_with fail
  go_ret2
  exact ⟨_, rfl, HP.out, HB.out⟩

theorem u8_in (x : Int) (h1 : 0 ≤ x) (h2 : x < 256) : IntKind.u8.wrap x = x := by
  simp [IntKind.wrap, IntKind.bits, IntKind.signed]
  omega
theorem bv_dig {k : Nat} (h : k ≤ 9) : bv (UInt8.ofNat (48 + k)) = .int .u8 (48 + (k : Int)) := by
  unfold bv
  have : (UInt8.ofNat (48 + k)).toNat = 48 + k := by simp [UInt8.toNat_ofNat]; omega
  rw [this]
  simp
theorem head_own (w : World) (k r : Nat) (hk : k ≤ 4) (hr : r ≤ 3) : (w.alloc (.cells #[.int .u8 (48 + (k : Int)), .int .u8 46, .int .u8 (48 + (r : Int)), .int .u8 46] 5)).ownsRow 0 5 1 (.slice (some ⟨w.heap.size, 0, none⟩) 4 4) 4 ((headT k r).map bv) := by
  have h := World.ownsRow_lit (base := 0) (e := 5) (size := 1) w #[.int .u8 (48 + (k : Int)), .int .u8 46, .int .u8 (48 + (r : Int)), .int .u8 46] 4 (Nat.zero_le _) (by decide) rfl
  have e : (headT k r).map bv = #[Value.int .u8 (48 + (k : Int)), .int .u8 46, .int .u8 (48 + (r : Int)), .int .u8 46].toList := by
    simp only [headT, List.map_cons, List.map_nil, bv_dig (show k ≤ 9 by omega), bv_dig (show r ≤ 9 by omega)]
    rfl
  rw [e]
  exact h
theorem bytes_cat (a b : List UInt8) : (⟨a.toArray⟩ : ByteArray) ++ ⟨b.toArray⟩ = ⟨(a ++ b).toArray⟩ := by
  apply ByteArray.ext
  simp [ByteArray.data_append]
theorem text_len {k r : Nat} {t : List Nat} (h : IsRule k r t) (hs : t.length ≤ 256) : (textB (valB k t)).length ≤ 256 := by
  obtain ⟨_, e2⟩ := digN_val h.k1 h.sym
  refine textB_len (Nat.lt_of_lt_of_le e2 (Nat.le_trans (Nat.pow_le_pow_left (show k ≤ 10 by have := h.k4; omega) _) (Nat.pow_le_pow_right (by decide) hs))) (by decide)
theorem limbs_small {k r : Nat} {t : List Nat} (h : IsRule k r t) (hs : t.length ≤ 256) : (limbs (valB k t)).length ≤ 256 ∧ OkB W32 (limbs (valB k t)) ∧ val (limbs (valB k t)) = valB k t := by
  obtain ⟨_, e2⟩ := digN_val h.k1 h.sym
  have h1 : valB k t < W32 ^ 256 := by
    refine Nat.lt_of_lt_of_le e2 (Nat.le_trans (Nat.pow_le_pow_left (show k ≤ W32 by have := h.k4; unfold W32; omega) _) (Nat.pow_le_pow_right (by decide) hs))
  have := limbs_len_of_lt _ _ h1
  exact ⟨by omega, ok_limbs _, val_limbs _⟩

set_option maxRecDepth 100000 in
set_option maxHeartbeats 1000000 in
theorem ruleText_good (w : World) (E : Nat → Addr) (hE : Errs w E) (k r : Nat) (A : Option Addr) (n c : Nat) (t : List Nat) (hr : IsRule k r t) (hs : t.length ≤ 256) (hT : Sl w A n ((ints t).map (Value.int .i64))) :
    Calls Tryd.prog 22 #[ruleV k r A n c] w fun e w' => e = .returned (.tuple #[.string ⟨(textR k r t).toArray⟩, .nilIface]) ∧ Below w.heap.size w w' := by
  have hk1 := hr.k1
  have hk4 := hr.k4
  have hr3 := hr.r3
  have hb0 := (Below.refl w.heap.size w).alloc (Nat.le_refl _) (.cells #[.int .i64 (k : Int), .int .i64 (r : Int), .slice A n c] 24)
  have hr0 := RuleAt.new w (.int .i64 (k : Int)) (.int .i64 (r : Int)) (.slice A n c)
  have HC := Lib.hid (code_good _ E (hE.below hb0) k r A n c t hr hs (hT.below hb0))
  obtain ⟨hv1, hv2, hv3⟩ := limbs_small hr hs
  have htl := text_len hr hs
  have s5 : ¬ (9223372036854775807 < (headT k r).length + (textB (valB k t)).length) := by
    rw [show (headT k r).length = 4 from rfl]
    omega
  have HR0 := Lib.hid hr0
  have HV2 := Lib.hid hv2
  have HV3 := Lib.hid hv3
  obtain ⟨r0, r1, r2, _⟩ := hr0.facts
  have hcat : (⟨(headT k r).toArray⟩ : ByteArray) ++ ⟨(textB (valB k t)).toArray⟩ = ⟨(textR k r t).toArray⟩ := bytes_cat _ _
  clear hr0 hE hT hb0 hr hv2 hv3
  unfold ruleV at *
  go_enter Tryd.func22, Tryd.ntmps22
  go_wp2_with fail
  refine (HC.out).mono ?_
  rintro e w1 ⟨C, cc, rfl, ho, hb⟩
  obtain ⟨_, _, e1, e2, e3⟩ := own_slice ho
  cases e1
  have HTX := Lib.hid (fun (wz : World) (hz : Below w1.heap.size w1 wz) => (by
    have h1 := text_c wz C (limbs (valB k t)).length cc (limbs (valB k t)) ((Sl.of_own ho).below hz) HV2.out e2 e3 (by omega)
    rw [HV3.out] at h1
    exact h1 : Calls Tryd.prog 51 #[.slice C (limbs (valB k t)).length cc] wz fun e w' => e = .returned (.string ⟨(textB (valB k t)).toArray⟩) ∧ Below wz.heap.size wz w'))
  obtain ⟨q0, q1, q2, _⟩ := (HR0.out.below hb (by simp)).facts
  have HB1 := Lib.hid (below_box hb)
  have s1 : IntKind.i64.wrap (48 + (k : Int)) = 48 + (k : Int) := IntWalk.i64_in _ (by omega)
  have s2 : IntKind.i64.wrap (48 + (r : Int)) = 48 + (r : Int) := IntWalk.i64_in _ (by omega)
  have s3 : IntKind.u8.wrap (48 + (k : Int)) = 48 + (k : Int) := u8_in _ (by omega) (by omega)
  have s4 : IntKind.u8.wrap (48 + (r : Int)) = 48 + (r : Int) := u8_in _ (by omega) (by omega)
  have HNW := Lib.hid (fun (wz : World) => head_own wz k r hk4 hr3)
  have HCV := Lib.hid (fun (wz : World) (g : Nat) (ho : wz.ownsRow 0 5 1 (.slice (some ⟨g, 0, none⟩) 4 4) 4 ((headT k r).map bv)) => run_own_string (P := Tryd.prog) wz 87 9 5 tBytes.und Tryd.underlying5 Tryd.underlying9 ho)
  have cA := HCV.out ((w1.alloc (.cells #[.int .u8 (48 + (k : Int)), .int .u8 46, .int .u8 (48 + (r : Int)), .int .u8 46] 5)).drew) w1.heap.size (HNW.out w1)
  have HWB2 := Lib.hid (fun (w2 : World) (hb2 : Below (w1.alloc (.cells #[.int .u8 (48 + (k : Int)), .int .u8 46, .int .u8 (48 + (r : Int)), .int .u8 46] 5)).heap.size ((w1.alloc (.cells #[.int .u8 (48 + (k : Int)), .int .u8 46, .int .u8 (48 + (r : Int)), .int .u8 46] 5)).drew) w2) =>
    (⟨HCV.out w2 w1.heap.size (own_below (w := (w1.alloc (.cells #[.int .u8 (48 + (k : Int)), .int .u8 46, .int .u8 (48 + (r : Int)), .int .u8 46] 5)).drew) (HNW.out w1) hb2), (((Below.refl w1.heap.size w1).alloc (Nat.le_refl _) _).drew).trans (hb2.mono (by simp))⟩ : _ ∧ Below w1.heap.size w1 w2))
  clear ho hb r0 r1 r2
  go_wp2_with fail
  go_region_law (first
      | (go_simp
         go_at_call 51
         first
           | ((with_reducible refine (HTX.out _ (Below.refl _ _).drew).mono ?_)
              rintro e2 w2 ⟨rfl, hb2⟩
              have hb3 := (Below.refl w1.heap.size w1).drew.trans hb2
              have cB := HCV.out _ _ (HNW.out w2)
              have y0 := cell_later hb3 q0
              have y1 := cell_later hb3 q1
              have yl := hb3.size
              dsimp only)
           | ((with_reducible refine (HTX.out _ (((Below.refl _ _).alloc (Nat.le_refl _) _).drew)).mono ?_)
              rintro e2 w2 ⟨rfl, hb2⟩
              obtain ⟨cB, hb3⟩ := HWB2.out w2 hb2
              have y0 := cell_later hb3 q0
              have y1 := cell_later hb3 q1
              have yl := hb3.size
              dsimp only))
      | fail)
  all_goals
    have HB3 := Lib.hid hb3
    clear y0 y1 yl hb2 hb3 cB cA q0 q1 q2
    go_wp2_with fail
    go_ret2
    first
      | (with_reducible exact ⟨rfl, HB1.out.trans (HB3.out.mono HB1.out.size)⟩)
      | (with_reducible exact ⟨rfl, HB1.out.trans ((HB3.out.alloc HB3.out.size _).mono HB1.out.size)⟩)
      | (with_reducible exact ⟨rfl, HB1.out.trans ((HB3.out.alloc HB3.out.size _).drew.mono HB1.out.size)⟩)
end Go.Proofs.YtfgnghgmffaepaaDoor
