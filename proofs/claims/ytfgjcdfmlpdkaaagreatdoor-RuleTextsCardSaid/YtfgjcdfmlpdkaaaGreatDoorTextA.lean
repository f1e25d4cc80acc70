/- A rule's text: rule.Text. Condition: the table reads from memory; the error variables hold what E says. A number's text by the document: edenref02.Text. Condition: the number reads from memory. A rule's text by the document: edenref04.Text. Condition: the table reads from memory. -/
import Derived.Test.YtfgjcdfmlpdkaaaGreatDoorCodeAB
import Derived.Test.YtfgjcdfmlpdkaaaGreatDoorText
import Derived.Deep.RegionHeld3
import Derived.Deep.RegionLaw
import Derived.Test.YtfgjcdfmlpdkaaaGreatDoorRef2A
import Derived.Test.YtfgjcdfmlpdkaaaGreatDoorRefG
namespace Go.Proofs.YtfgjcdfmlpdkaaaGreatDoor
open Go.RowKit RuleP NatP

namespace RuleP
/-- The bytes ahead of the number. -/
def headT (k r : Nat) : List UInt8 := [UInt8.ofNat (48 + k), 46, UInt8.ofNat (48 + r), 46]
/-- A small rule's text. -/
def textR (k r : Nat) (t : List Nat) : List UInt8 := headT k r ++ textB (valB k t)
end RuleP

set_option maxRecDepth 100000 in
set_option maxHeartbeats 1000000 in
theorem ruleText_bad (w : World) (E : Nat → Addr) (hE : Errs w E) (K R : Int) (A : Option Addr) (n c : Nat) (T : List Int) (hT : Sl w A n (T.map (Value.int .i64))) (hm : n ≤ 9223372036854775807) (t : Tale) (hbad : small K R T = some t) :
    Calls Tryz.prog 5 #[ruleV K R A n c] w fun e w' => ∃ v, e = .returned (.tuple #[.string ⟨#[]⟩, v]) ∧ ErrIs w' E t.1 t.2 v ∧ Below w.heap.size w w' := by
  have hb0 := (Below.refl w.heap.size w).alloc (Nat.le_refl _) (.cells #[.int .i64 K, .int .i64 R, .slice A n c] 24)
  have HSM := Lib.hid (code_bad _ E (hE.below hb0) K R A n c T (hT.below hb0) hm t hbad)
  clear hE hT hb0 hbad
  unfold ruleV at *
  go_enter Tryz.func5, Tryz.ntmps5
  go_wp2_with fail
  refine (HSM.out).mono ?_
  rintro e w1 ⟨v, rfl, he, hb⟩
  obtain ⟨u, p, rfl⟩ := he.iface
  have HP := Lib.hid he
  have HB := Lib.hid (below_box hb)
  clear he hb
  go_wp2_with fail
  go_ret2
  exact ⟨_, rfl, HP.out, HB.out⟩

theorem u8_in (x : Int) (h1 : 0 ≤ x) (h2 : x < 256) : IntKind.u8.wrap x = x := by
  simp [IntKind.wrap, IntKind.bits, IntKind.signed]
  omega
theorem bv_dig {k : Nat} (h : k ≤ 9) : bv (UInt8.ofNat (48 + k)) = .int .u8 (48 + (k : Int)) := by
  unfold bv
  have : (UInt8.ofNat (48 + k)).toNat = 48 + k := by simp [UInt8.toNat_ofNat]; omega
  rw [this]
  simp
theorem head_own (w : World) (k r : Nat) (hk : k ≤ 4) (hr : r ≤ 3) : (w.alloc (.cells #[.int .u8 (48 + (k : Int)), .int .u8 46, .int .u8 (48 + (r : Int)), .int .u8 46] 5)).ownsRow 0 5 1 (.slice (some ⟨w.heap.size, 0, none⟩) 4 4) 4 ((headT k r).map bv) := by
  have h := World.ownsRow_lit (base := 0) (e := 5) (size := 1) w #[.int .u8 (48 + (k : Int)), .int .u8 46, .int .u8 (48 + (r : Int)), .int .u8 46] 4 (Nat.zero_le _) (by decide) rfl
  have e : (headT k r).map bv = #[Value.int .u8 (48 + (k : Int)), .int .u8 46, .int .u8 (48 + (r : Int)), .int .u8 46].toList := by
    simp only [headT, List.map_cons, List.map_nil, bv_dig (show k ≤ 9 by omega), bv_dig (show r ≤ 9 by omega)]
    rfl
  rw [e]
  exact h
theorem bytes_cat (a b : List UInt8) : (⟨a.toArray⟩ : ByteArray) ++ ⟨b.toArray⟩ = ⟨(a ++ b).toArray⟩ := by
  apply ByteArray.ext
  simp [ByteArray.data_append]
theorem text_len {k r : Nat} {t : List Nat} (h : IsRule k r t) (hs : t.length ≤ 256) : (textB (valB k t)).length ≤ 256 := by
  obtain ⟨_, e2⟩ := digN_val h.k1 h.sym
  refine textB_len (Nat.lt_of_lt_of_le e2 (Nat.le_trans (Nat.pow_le_pow_left (show k ≤ 10 by have := h.k4; omega) _) (Nat.pow_le_pow_right (by decide) hs))) (by decide)
theorem limbs_small {k r : Nat} {t : List Nat} (h : IsRule k r t) (hs : t.length ≤ 256) : (limbs (valB k t)).length ≤ 256 ∧ OkB W32 (limbs (valB k t)) ∧ val (limbs (valB k t)) = valB k t := by
  obtain ⟨_, e2⟩ := digN_val h.k1 h.sym
  have h1 : valB k t < W32 ^ 256 := by
    refine Nat.lt_of_lt_of_le e2 (Nat.le_trans (Nat.pow_le_pow_left (show k ≤ W32 by have := h.k4; unfold W32; omega) _) (Nat.pow_le_pow_right (by decide) hs))
  have := limbs_len_of_lt _ _ h1
  exact ⟨by omega, ok_limbs _, val_limbs _⟩

set_option maxRecDepth 100000 in
set_option maxHeartbeats 1000000 in
theorem ruleText_good (w : World) (E : Nat → Addr) (hE : Errs w E) (k r : Nat) (A : Option Addr) (n c : Nat) (t : List Nat) (hr : IsRule k r t) (hs : t.length ≤ 256) (hT : Sl w A n ((ints t).map (Value.int .i64))) :
    Calls Tryz.prog 5 #[ruleV k r A n c] w fun e w' => e = .returned (.tuple #[.string ⟨(textR k r t).toArray⟩, .nilIface]) ∧ Below w.heap.size w w' := by
  have hk1 := hr.k1
  have hk4 := hr.k4
  have hr3 := hr.r3
  have hb0 := (Below.refl w.heap.size w).alloc (Nat.le_refl _) (.cells #[.int .i64 (k : Int), .int .i64 (r : Int), .slice A n c] 24)
  have hr0 := RuleAt.new w (.int .i64 (k : Int)) (.int .i64 (r : Int)) (.slice A n c)
  have HC := Lib.hid (code_good _ E (hE.below hb0) k r A n c t hr hs (hT.below hb0))
  obtain ⟨hv1, hv2, hv3⟩ := limbs_small hr hs
  have htl := text_len hr hs
  have s5 : ¬ (9223372036854775807 < (headT k r).length + (textB (valB k t)).length) := by
    rw [show (headT k r).length = 4 from rfl]
    omega
  have HR0 := Lib.hid hr0
  have HV2 := Lib.hid hv2
  have HV3 := Lib.hid hv3
  obtain ⟨r0, r1, r2, _⟩ := hr0.facts
  have hcat : (⟨(headT k r).toArray⟩ : ByteArray) ++ ⟨(textB (valB k t)).toArray⟩ = ⟨(textR k r t).toArray⟩ := bytes_cat _ _
  clear hr0 hE hT hb0 hr hv2 hv3
  unfold ruleV at *
  go_enter Tryz.func5, Tryz.ntmps5
  go_wp2_with fail
  refine (HC.out).mono ?_
  rintro e w1 ⟨C, cc, rfl, ho, hb⟩
  obtain ⟨_, _, e1, e2, e3⟩ := own_slice ho
  cases e1
  have HTX := Lib.hid (fun (wz : World) (hz : Below w1.heap.size w1 wz) => (by
    have h1 := text_c wz C (limbs (valB k t)).length cc (limbs (valB k t)) ((Sl.of_own ho).below hz) HV2.out e2 e3 (by omega)
    rw [HV3.out] at h1
    exact h1 : Calls Tryz.prog 15 #[.slice C (limbs (valB k t)).length cc] wz fun e w' => e = .returned (.string ⟨(textB (valB k t)).toArray⟩) ∧ Below wz.heap.size wz w'))
  obtain ⟨q0, q1, q2, _⟩ := (HR0.out.below hb (by simp)).facts
  have HB1 := Lib.hid (below_box hb)
  have s1 : IntKind.i64.wrap (48 + (k : Int)) = 48 + (k : Int) := IntWalk.i64_in _ (by omega)
  have s2 : IntKind.i64.wrap (48 + (r : Int)) = 48 + (r : Int) := IntWalk.i64_in _ (by omega)
  have s3 : IntKind.u8.wrap (48 + (k : Int)) = 48 + (k : Int) := u8_in _ (by omega) (by omega)
  have s4 : IntKind.u8.wrap (48 + (r : Int)) = 48 + (r : Int) := u8_in _ (by omega) (by omega)
  have HNW := Lib.hid (fun (wz : World) => head_own wz k r hk4 hr3)
  have HCV := Lib.hid (fun (wz : World) (g : Nat) (ho : wz.ownsRow 0 5 1 (.slice (some ⟨g, 0, none⟩) 4 4) 4 ((headT k r).map bv)) => run_own_string (P := Tryz.prog) wz 50 9 5 tBytes.und Tryz.underlying5 Tryz.underlying9 ho)
  have cA := HCV.out ((w1.alloc (.cells #[.int .u8 (48 + (k : Int)), .int .u8 46, .int .u8 (48 + (r : Int)), .int .u8 46] 5)).drew) w1.heap.size (HNW.out w1)
  have HWB2 := Lib.hid (fun (w2 : World) (hb2 : Below (w1.alloc (.cells #[.int .u8 (48 + (k : Int)), .int .u8 46, .int .u8 (48 + (r : Int)), .int .u8 46] 5)).heap.size ((w1.alloc (.cells #[.int .u8 (48 + (k : Int)), .int .u8 46, .int .u8 (48 + (r : Int)), .int .u8 46] 5)).drew) w2) =>
    (⟨HCV.out w2 w1.heap.size (own_below (w := (w1.alloc (.cells #[.int .u8 (48 + (k : Int)), .int .u8 46, .int .u8 (48 + (r : Int)), .int .u8 46] 5)).drew) (HNW.out w1) hb2), (((Below.refl w1.heap.size w1).alloc (Nat.le_refl _) _).drew).trans (hb2.mono (by simp))⟩ : _ ∧ Below w1.heap.size w1 w2))
  clear ho hb r0 r1 r2
  go_wp2_with fail
  go_region_law (first
      | (go_simp
         go_at_call 15
         first
           | ((with_reducible refine (HTX.out _ (Below.refl _ _).drew).mono ?_)
              rintro e2 w2 ⟨rfl, hb2⟩
              have hb3 := (Below.refl w1.heap.size w1).drew.trans hb2
              have cB := HCV.out _ _ (HNW.out w2)
              have y0 := cell_later hb3 q0
              have y1 := cell_later hb3 q1
              have yl := hb3.size
              dsimp only)
           | ((with_reducible refine (HTX.out _ (((Below.refl _ _).alloc (Nat.le_refl _) _).drew)).mono ?_)
              rintro e2 w2 ⟨rfl, hb2⟩
              obtain ⟨cB, hb3⟩ := HWB2.out w2 hb2
              have y0 := cell_later hb3 q0
              have y1 := cell_later hb3 q1
              have yl := hb3.size
              dsimp only))
      | fail)
  all_goals
    have HB3 := Lib.hid hb3
    clear y0 y1 yl hb2 hb3 cB cA q0 q1 q2
    go_wp2_with fail
    go_ret2
    first
      | (with_reducible exact ⟨rfl, HB1.out.trans (HB3.out.mono HB1.out.size)⟩)
      | (with_reducible exact ⟨rfl, HB1.out.trans ((HB3.out.alloc HB3.out.size _).mono HB1.out.size)⟩)
      | (with_reducible exact ⟨rfl, HB1.out.trans ((HB3.out.alloc HB3.out.size _).drew.mono HB1.out.size)⟩)
end Go.Proofs.YtfgjcdfmlpdkaaaGreatDoor

namespace Go.Proofs.YtfgjcdfmlpdkaaaGreatDoor
open Go.RowKit NatP

/-- The four digits of a group, the lowest first. -/
def fours (g : Nat) : List Nat := [g % 10, g / 10 % 10, g / 100 % 10, g / 1000]
theorem fours_ok {g : Nat} (h : g < 10000) : OkB 10 (fours g) := by
  intro x hx
  simp only [fours, List.mem_cons, List.not_mem_nil, or_false] at hx
  omega
theorem fours_val {g : Nat} (l : List Nat) : valB 10 (fours g ++ l) = g + 10000 * valB 10 l := by
  simp only [fours, List.cons_append, List.nil_append, valB]
  omega
theorem fours_all : ∀ {G : List Nat}, OkB 10000 G → OkB 10 (G.flatMap fours) ∧ valB 10 (G.flatMap fours) = valB 10000 G
  | [], _ => ⟨fun x hx => by simp at hx, rfl⟩
  | g :: G, h => by
    obtain ⟨h1, h2⟩ := fours_all (G := G) (fun x hx => h x (by simp [hx]))
    rw [List.flatMap_cons]
    refine ⟨ok_append (fours_ok (h g (by simp))) h1, ?_⟩
    rw [fours_val, h2]
    rfl
/-- The groups told so far, and what is left. -/
structure TextG (V : Nat) (G : List Nat) (u : Nat) : Prop where
  ok : OkB 10000 G
  eq : valB 10000 G + 10000 ^ G.length * u = V
theorem TextG.step {V u : Nat} {G : List Nat} (h : TextG V G u) : TextG V (G ++ [u % 10000]) (u / 10000) := by
  refine ⟨ok_append h.ok (fun x hx => by simp at hx; subst hx; exact Nat.mod_lt _ (by decide)), ?_⟩
  rw [val_snoc, List.length_append, List.length_singleton, Nat.pow_succ]
  have e1 := h.eq
  have e2 := Nat.mod_add_div u 10000
  have e3 : 10000 ^ G.length * u = 10000 ^ G.length * (u % 10000) + 10000 ^ G.length * 10000 * (u / 10000) := by
    conv => lhs; rw [← e2]
    rw [Nat.mul_add, Nat.mul_assoc]
  omega
theorem TextG.len {V n u : Nat} {G : List Nat} (h : TextG V G u) (hV : V < W32 ^ n) (hu : 0 < u) : G.length < 32 * n + 1 := by
  refine pow_le_pow2 (V := V) ?_ hV
  have h1 : 10 ^ G.length ≤ 10000 ^ G.length := Nat.pow_le_pow_left (by decide) _
  have h2 : 10000 ^ G.length * 1 ≤ 10000 ^ G.length * u := Nat.mul_le_mul (Nat.le_refl _) hu
  have := h.eq
  omega
/-- The characters of the groups from m on. -/
def charsG (G : List Nat) (m : Nat) : List UInt8 := (((G.drop m).flatMap fours).map dch).reverse
/-- A group's four characters. -/
def fourC (g : Nat) : List UInt8 := [dch (g / 1000), dch (g / 100 % 10), dch (g / 10 % 10), dch (g % 10)]
theorem charsG_all (G : List Nat) : charsG G G.length = [] := by simp [charsG]
theorem charsG_step {G : List Nat} {m : Nat} (h : m < G.length) : charsG G m = charsG G (m + 1) ++ fourC G[m] := by
  unfold charsG
  rw [List.drop_eq_getElem_cons h, List.flatMap_cons, List.map_append, List.reverse_append]
  rfl
/-- Without noughts ahead. -/
def noZero (l : List UInt8) : List UInt8 := l.dropWhile (fun b => b == 48)
theorem noZero_push {P : List UInt8} {c : UInt8} (h : noZero P ≠ [] ∨ c ≠ 48) : noZero (P ++ [c]) = noZero P ++ [c] := by
  unfold noZero at *
  induction P with
  | nil =>
    rcases h with h | h
    · simp at h
    · simp [List.dropWhile_cons, h]
  | cons x P ih =>
    rw [List.cons_append, List.dropWhile_cons, List.dropWhile_cons]
    rw [List.dropWhile_cons] at h
    split
    · rename_i hx
      rw [if_pos hx] at h
      exact ih h
    · rfl
theorem noZero_skip {P : List UInt8} (h : noZero P = []) : noZero (P ++ [48]) = [] := by
  unfold noZero at *
  induction P with
  | nil => simp
  | cons x P ih =>
    rw [List.cons_append, List.dropWhile_cons]
    rw [List.dropWhile_cons] at h
    split
    · rename_i hx
      rw [if_pos hx] at h
      exact ih h
    · rename_i hx
      rw [if_neg hx] at h
      cases h
/-- The whole text. -/
theorem noZero_text {V : Nat} {G : List Nat} (h : TextG V G 0) : noZero (charsG G 0) = if V = 0 then [] else textB V := by
  obtain ⟨h1, h2⟩ := fours_all h.ok
  have e := h.eq
  rw [Nat.mul_zero, Nat.add_zero] at e
  have := text_trim h1
  rw [h2, e] at this
  exact this
theorem textG_pos {V : Nat} {G : List Nat} (h : TextG V G 0) (hV : V ≠ 0) : G ≠ [] := by
  intro e
  subst e
  have := h.eq
  simp [valB] at this
  omega
theorem fourC_at {g k : Nat} (hk : k < 4) (hg : g < 10000) : ∃ b, (fourC g)[k]? = some b ∧ b.toNat < 256 := by
  have : k < (fourC g).length := by simpa [fourC] using hk
  exact ⟨_, List.getElem?_eq_getElem this, UInt8.toNat_lt _⟩
theorem noText {V : Nat} (hV : V ≠ 0) : textB V ≠ [] := textB_ne V

theorem push2_keeps {w w' : World} {v : Value} {g : Nat} (hor : (v.ownBlock = some g ∧ w.grownBy w' (some g)) ∨ (w.heap.size < g ∧ w.grownBy w' none)) : Keeps (fun k => v.ownBlock = some k) w w' ∧ (v.ownBlock = some g ∨ w.heap.size < g) := by
  rcases hor with ⟨h1, h⟩ | ⟨h1, h⟩
  · exact ⟨(Keeps.of_grown h).mono (fun b _ e => by cases e; exact h1), .inl h1⟩
  · exact ⟨(Keeps.of_grown h).mono (fun b _ e => by cases e), .inr h1⟩
theorem bv_dch {d : Nat} (h : d < 10) : bv (dch d) = .int .u8 (48 + (d : Int)) := by
  unfold bv
  rw [dch_toNat h]
  congr 1
theorem four_own (w : World) {g : Nat} (hg : g < 10000) : (w.alloc (.cells #[.int .u8 (48 + (g : Int) / 1000), .int .u8 (48 + (g : Int) / 100 % 10), .int .u8 (48 + (g : Int) / 10 % 10), .int .u8 (48 + (g : Int) % 10)] 5)).ownsRow 0 5 1 (.slice (some ⟨w.heap.size, 0, none⟩) 4 4) 4 ((fourC g).map bv) := by
  have h := World.ownsRow_lit (base := 0) (e := 5) (size := 1) w #[.int .u8 (48 + (g : Int) / 1000), .int .u8 (48 + (g : Int) / 100 % 10), .int .u8 (48 + (g : Int) / 10 % 10), .int .u8 (48 + (g : Int) % 10)] 4 (Nat.zero_le _) (by decide) rfl
  have e : (fourC g).map bv = #[Value.int .u8 (48 + (g : Int) / 1000), .int .u8 (48 + (g : Int) / 100 % 10), .int .u8 (48 + (g : Int) / 10 % 10), .int .u8 (48 + (g : Int) % 10)].toList := by
    simp only [fourC, List.map_cons, List.map_nil, bv_dch (show g / 1000 < 10 by omega), bv_dch (show g / 100 % 10 < 10 by omega), bv_dch (show g / 10 % 10 < 10 by omega), bv_dch (show g % 10 < 10 by omega)]
    rfl
  rw [e]
  exact h
theorem map_snoc_bv (O : List UInt8) (b : UInt8) : O.map bv ++ [Value.int .u8 (b.toNat : Int)] = (O ++ [b]).map bv := by simp [bv]
theorem map_snoc_wv (G : List Nat) (g : Nat) : G.map wv ++ [Value.int .u32 (g : Int)] = (G ++ [g]).map wv := by simp [wv]

set_option maxRecDepth 100000 in
set_option maxHeartbeats 4000000 in
theorem refText_n (w : World) {A : Option Addr} {n c V : Nat} (hN : Num w A n c V) (m1 : n ≤ 100000000) :
    Calls Tryz.prog 18 #[.slice A n c] w fun e w' => e = .returned (.string ⟨(textB V).toArray⟩) ∧ Below w.heap.size w w' := by
  have hV := hN.lt
  have HNM := Lib.hid (refNorm_n hN (by omega))
  have HV := Lib.hid hV
  have hst : TextG V [] V := ⟨fun x hx => by simp at hx, by simp [valB]⟩
  have hln := hN.len
  clear hN hV
  go_enter Tryz.func18, Tryz.ntmps18
  go_wp2_with fail
  refine (HNM.out).mono ?_
  rintro e w1 ⟨B1, c1, rfl, hN1, ho1, hb1⟩
  go_wp2_with fail
  go_loopw [3, 4] (fun a s wr => ∃ (v m cc : Nat) (B : Option Addr) (G : List Nat) (C : Option Addr) (gc : Nat), a = .slice B m cc ∧ s = .slice C G.length gc ∧ m = (limbs v).length ∧ m ≤ n ∧ G.length ≤ 32 * n + 2 ∧ Num wr B m cc v ∧ Hid (TextG V G v ∧ (G.length = 0 ∨ 0 < V)) ∧ wr.ownsRow w.heap.size 83 1 (.slice C G.length gc) G.length (G.map wv) ∧ Below w.heap.size w wr) (fun _ s _ => 40000000000 - slLen s)
  case atStart => exact ⟨V, _, c1, B1, [], none, 0, rfl, rfl, rfl, hln, by simp, hN1, Lib.hid ⟨hst, Or.inl rfl⟩, ⟨rfl, .inl ⟨rfl, rfl⟩⟩, hb1⟩
  case round =>
    clear hN1 ho1 hb1 hst hln
    obtain ⟨v, m, cc, B, G, C, gc, rfl, rfl, hmv, hmn, hGl, hNv, hT, hown, hb⟩ := hrel
    rcases Nat.eq_zero_or_pos m with h0 | h0
    · subst h0
      have hv := limbs_zero hmv.symm
      subst hv
      have HG := Lib.hid hT.out
      clear hT hmv hmn hNv
      rcases Nat.eq_zero_or_pos G.length with hg0 | hg0
      · have hG : G = [] := List.eq_nil_of_length_eq_zero hg0
        have hV0 : V = 0 := by
          have h := HG.out.1.eq
          rw [hG] at h
          exact h.symm
        have HV0 := Lib.hid hV0
        have HBB := Lib.hid hb
        rw [hg0]
        clear hg0 hG hV0 hown hb hGl
        go_wp2_with fail
        go_ret
        exact ⟨by rw [HV0.out]; rfl, HBB.out⟩
      · have hVp : 0 < V := by
          rcases HG.out.2 with h | h
          · omega
          · exact h
        have hng : ¬ G.length = 0 := by omega
        have hng2 : ((G.length : Int) == 0) = false := beq_eq_false_iff_ne.2 (by omega)
        have HVP := Lib.hid hVp
        have HBB := Lib.hid hb
        have HSG := Lib.hid (fun (wz : World) (hz : Below wr.heap.size wr wz) => (Sl.of_own hown).below hz)
        obtain ⟨L, hL⟩ : ∃ L, G.length = L := ⟨_, rfl⟩
        rw [hL] at HSG hGl hng hng2 hg0 ⊢
        have HL := Lib.hid hL
        clear hb hown hVp hL
        go_wp2_with fail
        obtain ⟨wo, rfl⟩ : ∃ wo : World, wo = wr := ⟨_, rfl⟩
        go_loopw [6, 7] (fun ov iv wr => ∃ (m : Nat) (z : Int) (O : List UInt8) (OA : Option Addr) (oc : Nat), m ≤ L ∧ iv = .int .i64 z ∧ Hid (z = (m : Int) - 1) ∧ ov = .slice OA O.length oc ∧ Hid (O = noZero (charsG G m)) ∧ O.length ≤ 4 * (L - m) ∧ wr.ownsRow wo.heap.size 5 1 (.slice OA O.length oc) O.length (O.map bv) ∧ Below wo.heap.size wo wr) (fun _ iv _ => (intOf iv + 1).toNat)
        case atStart => exact ⟨L, _, [], none, 0, Nat.le_refl _, rfl, Lib.hid rfl, rfl, Lib.hid (by rw [← HL.out, charsG_all]; rfl), by simp, ⟨rfl, .inl ⟨rfl, rfl⟩⟩, Below.refl _ _⟩
        case round =>
          obtain ⟨m, z, O, OA, oc, hm, rfl, hz, rfl, hO, hOl, hown, hb⟩ := hrel
          cases m with
          | zero =>
            obtain rfl : z = -1 := by have := hz.out; simpa using this
            have htx := noZero_text HG.out.1
            rw [if_neg (by have := HVP.out; omega), ← hO.out] at htx
            have hconv := run_own_string (P := Tryz.prog) wr 50 9 5 tBytes.und Tryz.underlying5 Tryz.underlying9 hown
            have HTX := Lib.hid htx
            have HB2 := Lib.hid (HBB.out.trans (hb.mono HBB.out.size))
            clear hO hz hown hb htx
            go_wp2_with fail
            go_ret
            exact ⟨by rw [← HTX.out]; rfl, HB2.out⟩
          | succ m =>
            obtain rfl : z = (m : Int) := by have := hz.out; omega
            have hlt : m < G.length := by rw [HL.out]; omega
            have hstep := charsG_step hlt
            have hsl := HSG.out wr hb
            obtain ⟨gad, gv, rfl, hgm, hgc⟩ := hsl.at_ (show m < L by omega)
            rw [List.getElem?_map, List.getElem?_eq_getElem hlt] at hgm
            obtain rfl : gv = wv G[m] := (Option.some.inj hgm).symm
            have hg4 := HG.out.1.ok G[m] (List.getElem_mem hlt)
            obtain ⟨g, hg⟩ : ∃ g, G[m] = g := ⟨_, rfl⟩
            rw [hg] at hstep hgc hg4
            unfold wv at hgc
            have HST := Lib.hid hstep
            have HOO := Lib.hid hO.out
            clear hstep hsl hgm hO hz hlt hg
            go_wp2_with fail
            have HF4 := Lib.hid (four_own wr hg4)
            have hgl : ∀ q, (Value.slice OA O.length oc).ownBlock = some q → q < wr.heap.size := fun q hq => (hown.lt q hq).2
            have hba := hb.alloc hb.size (.cells #[.int .u8 (48 + (g : Int) / 1000), .int .u8 (48 + (g : Int) / 100 % 10), .int .u8 (48 + (g : Int) / 10 % 10), .int .u8 (48 + (g : Int) % 10)] 5)
            have hoa := hown.alloc (.cells #[.int .u8 (48 + (g : Int) / 1000), .int .u8 (48 + (g : Int) / 100 % 10), .int .u8 (48 + (g : Int) / 10 % 10), .int .u8 (48 + (g : Int) % 10)] 5)
            have HD0 : Hid (∀ q, (Value.slice OA O.length oc).ownBlock = some q → q ≠ wr.heap.size) := Lib.hid (fun q hq e => by have := hgl q hq; omega)
            obtain ⟨g4, hg4'⟩ : ∃ g4, wr.heap.size = g4 := ⟨_, rfl⟩
            obtain ⟨wb, hwb⟩ : ∃ wb, (wr.alloc (.cells #[.int .u8 (48 + (g : Int) / 1000), .int .u8 (48 + (g : Int) / 100 % 10), .int .u8 (48 + (g : Int) / 10 % 10), .int .u8 (48 + (g : Int) % 10)] 5)) = wb := ⟨_, rfl⟩
            rw [hwb] at hba hoa HF4 ⊢
            rw [hg4'] at HF4 HD0 ⊢
            have HG4 := Lib.hid hg4
            clear hgl hown hb hgc hg4' hwb hg4
            go_loopw [6, 10] (fun ov kv wk => ∃ (k : Nat) (O2 : List UInt8) (OA2 : Option Addr) (oc2 : Nat), k ≤ 4 ∧ kv = .int .i64 (k : Int) ∧ ov = .slice OA2 O2.length oc2 ∧ Hid (O2 = noZero (charsG G (m + 1) ++ (fourC g).take k)) ∧ O2.length ≤ 4 * (L - (m + 1)) + k ∧ wk.ownsRow wo.heap.size 5 1 (.slice OA2 O2.length oc2) O2.length (O2.map bv) ∧
                Hid (wk.ownsRow 0 5 1 (.slice (some ⟨g4, 0, none⟩) 4 4) 4 ((fourC g).map bv)) ∧ Hid (∀ q, (Value.slice OA2 O2.length oc2).ownBlock = some q → q ≠ g4) ∧ Below wo.heap.size wo wk) (fun _ kv _ => 4 - (intOf kv).toNat)
            case atStart => exact ⟨0, O, OA, oc, by omega, rfl, rfl, Lib.hid (by rw [HOO.out]; simp), by omega, hoa, HF4, HD0, hba⟩
            case round =>
              clear hoa hba HF4 HD0
              obtain ⟨k, O2, OA2, oc2, hk4, rfl, rfl, hO2, hOl2, hown2, HF4, HD, hb2⟩ := hrel
              by_cases hkl : k < 4
              · obtain ⟨b, hbk, hb256⟩ := fourC_at (g := g) hkl HG4.out
                have hcell := HF4.out.cellAt k (by omega)
                rw [List.getElem?_map, hbk] at hcell
                change wr.cell? ⟨g4, k, none⟩ = some (.int .u8 (b.toNat : Int)) at hcell
                have htk : (fourC g).take (k + 1) = (fourC g).take k ++ [b] := by rw [List.take_add_one, hbk]; rfl
                have hpush : (noZero (charsG G (m + 1) ++ (fourC g).take k) ≠ [] ∨ b ≠ 48) → O2 ++ [b] = noZero (charsG G (m + 1) ++ (fourC g).take (k + 1)) := fun h => by
                  rw [htk, ← List.append_assoc, noZero_push h, ← hO2.out]
                have hskip : noZero (charsG G (m + 1) ++ (fourC g).take k) = [] → b = 48 → [] = noZero (charsG G (m + 1) ++ (fourC g).take (k + 1)) := fun h1 h2 => by
                  rw [htk, ← List.append_assoc, h2, noZero_skip h1]
                rw [← hO2.out] at hpush hskip
                clear hbk htk hO2
                by_cases hn : O2.length = 0
                · have hO2 : O2 = [] := List.eq_nil_of_length_eq_zero hn
                  by_cases hz : b = 48
                  · have HSK := Lib.hid (hskip hO2 hz)
                    have hz1 : ((b.toNat : Int) != 48) = false := by rw [hz]; rfl
                    have HO3 := Lib.hid hown2
                    have HB3 := Lib.hid hb2
                    have HN := Lib.hid hO2
                    have hd0 : decide (0 < O2.length) = false := decide_eq_false (by omega)
                    obtain ⟨l2, hl2⟩ : ∃ l2, O2.length = l2 := ⟨_, rfl⟩
                    have HL2 := Lib.hid hl2
                    rw [hl2] at hd0 hn hOl2 ⊢
                    subst hn
                    clear hpush hskip hO2 hz hown2 hb2 hl2
                    go_wp2_with fail
                    exact ⟨⟨k + 1, O2, OA2, oc2, by omega, by go_num, by rw [HL2.out], Lib.hid (by rw [HN.out]; exact HSK.out), by rw [HL2.out]; omega, HO3.out, HF4, HD, HB3.out⟩, by simp [intOf]; omega⟩
                  · have HPU := Lib.hid (hpush (Or.inr hz))
                    have hz1 : ((b.toNat : Int) != 48) = true := by
                      simp only [bne_iff_ne]
                      intro e
                      exact hz (UInt8.toNat_inj.1 (by have : (48 : UInt8).toNat = 48 := rfl; omega))
                    have hd0 : decide (0 < O2.length) = false := decide_eq_false (by omega)
                    have hd1 : ¬ 0 < O2.length := by omega
                    clear hpush hskip hO2 hz hn
                    go_wp2_with (at_builtin; refine wpList_push2 rfl _ _ _ rfl tBytes hown2 rfl _ 0 rfl rfl rfl (by simp only [maxLen]; omega) (by omega) hb2.size ?_; intro g3 cap w3 hown3 hor hlt3)
                    obtain ⟨hk, hg3⟩ := push2_keeps hor
                    have hb3 : Below wo.heap.size wo w3 := hb2.trans (hk.below hb2.size (fun b hb => (hown2.lt b hb).1))
                    have HF3 := Lib.hid (own_keeps HF4.out hk (fun q hq hO => HD.out q hO (by simpa [Value.ownBlock] using hq.symm)))
                    have HD3 : Hid (∀ q, (Value.slice (some ⟨g3, 0, none⟩) (O2.length + 1) cap).ownBlock = some q → q ≠ g4) := Lib.hid (fun q hq e => by
                      have e1 : g3 = q := by simpa [Value.ownBlock] using hq
                      rcases hg3 with h | h
                      · exact HD.out g3 h (by omega)
                      · have := (HF4.out.lt g4 rfl).2; omega)
                    rw [map_snoc_bv] at hown3
                    have hl : (O2 ++ [b]).length = O2.length + 1 := by simp
                    have HB3 := Lib.hid hb3
                    have HO3 := Lib.hid hown3
                    clear hk hor hown2 hb2 hb3 hown3 hg3 hcell
                    go_wp2_with fail
                    exact ⟨⟨k + 1, O2 ++ [b], some ⟨g3, 0, none⟩, cap, by omega, by go_num, by rw [hl], HPU, by rw [hl]; omega, by rw [hl]; exact HO3.out, HF3, by rw [hl]; exact HD3, HB3.out⟩, by simp [intOf]; omega⟩
                · have HPU := Lib.hid (hpush (Or.inl (fun e => hn (by rw [e]; rfl))))
                  have hd0 : decide (0 < O2.length) = true := decide_eq_true (by omega)
                  have hd1 : 0 < O2.length := by omega
                  clear hpush hskip hn
                  go_wp2_with (at_builtin; refine wpList_push2 rfl _ _ _ rfl tBytes hown2 rfl _ 0 rfl rfl rfl (by simp only [maxLen]; omega) (by omega) hb2.size ?_; intro g3 cap w3 hown3 hor hlt3)
                  obtain ⟨hk, hg3⟩ := push2_keeps hor
                  have hb3 : Below wo.heap.size wo w3 := hb2.trans (hk.below hb2.size (fun b hb => (hown2.lt b hb).1))
                  have HF3 := Lib.hid (own_keeps HF4.out hk (fun q hq hO => HD.out q hO (by simpa [Value.ownBlock] using hq.symm)))
                  have HD3 : Hid (∀ q, (Value.slice (some ⟨g3, 0, none⟩) (O2.length + 1) cap).ownBlock = some q → q ≠ g4) := Lib.hid (fun q hq e => by
                    have e1 : g3 = q := by simpa [Value.ownBlock] using hq
                    rcases hg3 with h | h
                    · exact HD.out g3 h (by omega)
                    · have := (HF4.out.lt g4 rfl).2; omega)
                  rw [map_snoc_bv] at hown3
                  have hl : (O2 ++ [b]).length = O2.length + 1 := by simp
                  have HB3 := Lib.hid hb3
                  have HO3 := Lib.hid hown3
                  clear hk hor hown2 hb2 hb3 hown3 hg3 hcell
                  go_wp2_with fail
                  exact ⟨⟨k + 1, O2 ++ [b], some ⟨g3, 0, none⟩, cap, by omega, by go_num, by rw [hl], HPU, by rw [hl]; omega, by rw [hl]; exact HO3.out, HF3, by rw [hl]; exact HD3, HB3.out⟩, by simp [intOf]; omega⟩
              · obtain rfl : k = 4 := by omega
                have HO3 := Lib.hid hown2
                have HB3 := Lib.hid hb2
                have HE : Hid (O2 = noZero (charsG G m)) := Lib.hid (by rw [HST.out, hO2.out]; rfl)
                clear hO2 hown2 hb2
                go_wp2_with fail
                exact ⟨⟨m, _, O2, OA2, oc2, by omega, rfl, Lib.hid rfl, rfl, HE, by omega, HO3.out, HB3.out⟩, by simp [intOf] <;> omega⟩
    · have hv : 0 < v := by
        rcases Nat.eq_zero_or_pos v with hv | hv
        · subst hv; simp [limbs, digs_zero] at hmv; omega
        · exact hv
      have hG := hT.out.1.len HV.out hv
      have hstep := hT.out.1.step
      have hVp : 0 < V := by
        have h1 := hT.out.1.eq
        have h2 : 0 < 10000 ^ G.length * v := Nat.mul_pos (Nat.pow_pos (by decide)) hv
        omega
      have HO := Lib.hid (refOver_ok hNv (d := 10000) (by decide) (by decide) (by omega))
      have hle := limbs_div_le v 10000
      rw [← hmv] at hle
      have hlt := Nat.mod_lt v (show 0 < 10000 by decide)
      have hcast : ((10000 : Nat) : Int) = 10000 := rfl
      rw [hcast] at HO
      have HST := Lib.hid (And.intro hstep (Or.inr hVp : (G ++ [v % 10000]).length = 0 ∨ 0 < V))
      clear hT hv hmv hstep hcast hVp
      generalize v / 10000 = v2 at HO HST hle
      generalize v % 10000 = g at HO HST hlt
      go_wp2_with fail
      refine (HO.out).mono ?_
      rintro e w2 ⟨B2, c2, rfl, hN2, ho2, hb2⟩
      have hown2 := own_below hown hb2
      have hbw := hb.trans (hb2.mono hb.size)
      have hz2 := hb.size
      have HGL := Lib.hid (fun (q : Nat) (hq : (Value.slice C G.length gc).ownBlock = some q) => (hown.lt q hq).2)
      clear HO hown hb2 hb hNv
      go_wp2_with (at_builtin; refine wpList_push2 rfl _ _ _ rfl tWords hown2 rfl _ 0 rfl rfl rfl (by simp only [maxLen]; omega) (by omega) hbw.size ?_; intro g3 cap w3 hown3 hor hlt3)
      obtain ⟨hk, hg3⟩ := push2_keeps hor
      have hb3 : Below w.heap.size w w3 := hbw.trans (hk.below hbw.size (fun b hb => (hown2.lt b hb).1))
      have hN3 : Num w3 B2 (limbs v2).length c2 v2 := num_own (own_keeps ho2 hk (fun b hb hO => by
        have h1 := (ho2.lt b hb).1
        have h2 := HGL.out b hO
        omega))
      rw [map_snoc_wv] at hown3
      have hl : (G ++ [g]).length = G.length + 1 := by simp
      have HN3 := Lib.hid hN3
      have HB3 := Lib.hid hb3
      have HO3 := Lib.hid hown3
      clear hk hor hown2 hbw ho2 hN2 hb3 hN3 hown3 hg3
      go_wp2_with fail
      exact ⟨⟨v2, _, c2, B2, G ++ [g], some ⟨g3, 0, none⟩, cap, rfl, by rw [hl], rfl, by omega, by rw [hl]; omega, HN3.out, HST, by rw [hl]; exact HO3.out, HB3.out⟩, by simp [slLen_slice]; omega⟩
end Go.Proofs.YtfgjcdfmlpdkaaaGreatDoor

namespace Go.Proofs.YtfgjcdfmlpdkaaaGreatDoor
open Go.RowKit RuleP NatP

/-- A rule's text; none where it is no small rule. -/
def textU (K R : Int) (T : List Int) : List UInt8 := match small K R T with
  | some _ => []
  | none => textR K.toNat R.toNat (nats T)
theorem textU_bad {K R : Int} {T : List Int} {t : Tale} (h : small K R T = some t) : textU K R T = [] := by unfold textU; rw [h]
theorem textU_good {k r : Nat} {t : List Nat} (h : small k r (ints t) = none) : textU k r (ints t) = textR k r t := by unfold textU; rw [h]; simp [nats_ints]

theorem small_none {K R : Int} {T : List Int} (h : small K R T = none) : ∃ (k r : Nat) (t : List Nat), K = (k : Int) ∧ R = (r : Int) ∧ T = ints t ∧ IsRule k r t ∧ t.length ≤ 256 := by
  unfold small at h
  split at h
  · cases h
  · rename_i hc
    split at h
    · cases h
    · rename_i h2
      obtain ⟨k, r, t, rfl, rfl, rfl, hr⟩ := check_none hc
      exact ⟨k, r, t, rfl, rfl, rfl, hr, by rw [ints_len] at h2; omega⟩

set_option maxRecDepth 100000 in
set_option maxHeartbeats 4000000 in
theorem ref4Text_c (w : World) (K R : Int) (A : Option Addr) (n c : Nat) (T : List Int) (hT : Sl w A n (T.map (Value.int .i64))) (hm : n ≤ 9223372036854775807) :
    Calls Tryz.prog 6 #[ruleV K R A n c] w fun e w' => ∃ (N : Nat) (A1 : Option Addr) (n1 c1 : Nat) (A2 : Option Addr) (n2 c2 : Nat), e = .returned (.tuple #[.string ⟨(textU K R T).toArray⟩, .agg #[.int .i64 (N : Int), .slice A1 n1 c1, .slice A2 n2 c2]]) ∧
      WantB w' w.heap.size (small K R T) (.agg #[.int .i64 (N : Int), .slice A1 n1 c1, .slice A2 n2 c2]) ∧ Below w.heap.size w w' := by
  have hr0 := (RuleAt.new w (.int .i64 K) (.int .i64 R) (.slice A n c)).alloc (.cells #[.int .i64 0, .slice none 0 0, .slice none 0 0] 32)
  have hw0 := WantAt.new (w.alloc (.cells #[.int .i64 K, .int .i64 R, .slice A n c] 24)) (.int .i64 0) (.slice none 0 0) (.slice none 0 0)
  rw [World.size_alloc] at hw0
  have hb0 := ((Below.refl w.heap.size w).alloc (Nat.le_refl _) (.cells #[.int .i64 K, .int .i64 R, .slice A n c] 24)).alloc (by simp) (.cells #[.int .i64 0, .slice none 0 0, .slice none 0 0] 32)
  have hT0 := hT.below hb0
  obtain ⟨wx, hwx⟩ : ∃ wx, (w.alloc (.cells #[.int .i64 K, .int .i64 R, .slice A n c] 24)).alloc (.cells #[.int .i64 0, .slice none 0 0, .slice none 0 0] 32) = wx := ⟨_, rfl⟩
  have hsx : wx.heap.size = w.heap.size + 2 := by rw [← hwx]; simp
  have HWX := Lib.hid hwx
  rw [hwx] at hr0 hw0 hb0 hT0
  have HC := Lib.hid (refCode_c wx K R A n c T hT0 hm)
  have HW0 := Lib.hid hw0
  have HB0 := Lib.hid hb0
  have HR0 := Lib.hid hr0
  obtain ⟨r0, r1, r2, _⟩ := hr0.facts
  clear hw0 hb0 hT hT0 hr0 hwx
  obtain ⟨TX, hTX⟩ : ∃ TX, textU K R T = TX := ⟨_, rfl⟩
  rw [hTX]
  have HTX := Lib.hid hTX
  clear hTX
  unfold ruleV at *
  go_enter Tryz.func6, Tryz.ntmps6
  go_wp2_with fail
  rw [HWX.out]
  refine (HC.out).mono ?_
  rintro e w1 ⟨C, M, cc, N, A1, n1, c1, A2, n2, c2, rfl, hown, hu, hb1⟩
  have hw1 := HW0.out.below hb1 (by omega)
  have hr1 := HR0.out.below hb1 (by omega)
  have hw2 := hw1.alloc (.cells #[.int .i64 (N : Int), .slice A1 n1 c1, .slice A2 n2 c2] 32)
  have hr2 := hr1.alloc (.cells #[.int .i64 (N : Int), .slice A1 n1 c1, .slice A2 n2 c2] 32)
  have ho2 := hown.alloc (.cells #[.int .i64 (N : Int), .slice A1 n1 c1, .slice A2 n2 c2] 32)
  have hv2 := WantAt.new w1 (.int .i64 (N : Int)) (.slice A1 n1 c1) (.slice A2 n2 c2)
  have hb2 := (HB0.out.trans (hb1.mono HB0.out.size)).alloc (by have := HB0.out.size; have := hb1.size; omega) (.cells #[.int .i64 (N : Int), .slice A1 n1 c1, .slice A2 n2 c2] 32)
  have hu2 := hu.below ((Below.refl w1.heap.size w1).alloc (Nat.le_refl _) (.cells #[.int .i64 (N : Int), .slice A1 n1 c1, .slice A2 n2 c2] 32))
  obtain ⟨wy, hwy⟩ : ∃ wy, w1.alloc (.cells #[.int .i64 (N : Int), .slice A1 n1 c1, .slice A2 n2 c2] 32) = wy := ⟨_, rfl⟩
  have HWY := Lib.hid hwy
  have hsy : w1.heap.size < wy.heap.size := by rw [← hwy]; simp
  have hs1 := hb1.size
  rw [hwy] at hw2 hr2 hv2 hb2 hu2 ho2
  have HBAD := Lib.hid (errBad_c wy N A1 n1 c1 A2 n2 c2)
  have HW2 := Lib.hid hw2
  have HR2 := Lib.hid hr2
  have HV2 := Lib.hid hv2
  have HB2 := Lib.hid hb2
  have HU2 := Lib.hid hu2
  have HO2 := Lib.hid ho2
  obtain ⟨v0, v1, v2, _⟩ := hv2.facts
  clear hw1 hr1 hw2 hr2 hv2 hb2 hu2 hu ho2 hown hb1 hwy r0 r1 r2
  have hN := HU2.out.num
  cases ho : small K R T with
  | some t =>
    rw [ho] at hN HU2
    have ht := (small_ok K R T t ho).1
    have hNz : decide (N ≠ 0) = true := decide_eq_true (by simp only [tnum] at hN; omega)
    rw [hNz] at HBAD
    have HTB := Lib.hid (textU_bad ho)
    have HO := Lib.hid ho
    clear ho hN ht hNz
    go_wp2_with fail
    rw [HWY.out]
    refine (HBAD.out).mono ?_
    rintro e w3 ⟨rfl, hb3⟩
    have g0 := cell_later hb3 v0
    have g1 := cell_later hb3 v1
    have g2 := cell_later hb3 v2
    obtain ⟨d0, d1, d2, f0, f1, f2⟩ := (HW2.out.below hb3 (by omega)).facts
    have HU := Lib.hid (((HU2.out.below hb3.drew).set3 (g := w.heap.size + 1) (by omega) (.int .i64 (N : Int)) (.slice A1 n1 c1) (.slice A2 n2 c2)).base (base' := w.heap.size) (by omega))
    have HB := Lib.hid (below_set3 (HB2.out.trans (hb3.drew.mono HB2.out.size)) (Nat.le_succ _) (.int .i64 (N : Int)) (.slice A1 n1 c1) (.slice A2 n2 c2))
    clear v0 v1 v2 hb3
    go_wp2_with fail
    go_still_tail 2, (by kernel_rfl)
    change wpList _ _ _ _ _ (World.drew w3)
    go_wp2_with fail
    exact bodyPost_ret (v := .tuple #[.string ⟨#[]⟩, .agg #[.int .i64 (N : Int), .slice A1 n1 c1, .slice A2 n2 c2]]) (by simp [results, Tryz.results6, go_sem, d0, d1, d2]) rfl ⟨N, A1, n1, c1, A2, n2, c2, by rw [← HTX.out, HTB.out], by rw [HO.out]; exact HU.out, HB.out⟩
  | none =>
    rw [ho] at hN
    obtain rfl : N = 0 := hN
    obtain ⟨rfl, rfl, rfl, rfl, rfl, rfl⟩ : A1 = none ∧ n1 = 0 ∧ c1 = 0 ∧ A2 = none ∧ n2 = 0 ∧ c2 = 0 := by
      have := HU2.out
      rw [ho] at this
      have e := this.none_eq
      simp at e
      obtain ⟨⟨q1, q2, q3⟩, q4, q5, q6⟩ := e
      exact ⟨q1, q2, q3, q4, q5, q6⟩
    rw [show decide ((0 : Nat) ≠ 0) = false from rfl, show ((0 : Nat) : Int) = 0 from rfl] at HBAD
    rw [show ((0 : Nat) : Int) = 0 from rfl] at HWY v0
    obtain ⟨k, r, t, rfl, rfl, rfl, hr, hs⟩ := small_none ho
    have hk1 := hr.k1
    have hk4 := hr.k4
    have hr3 := hr.r3
    have hcl : codeL k r (ints t) = limbs (valB k t) := by unfold codeL; rw [ho]; simp [nats_ints]
    rw [hcl] at HO2
    obtain ⟨hv1, hv2, hv3⟩ := limbs_small hr hs
    have hM : M = (limbs (valB k t)).length := by have := HO2.out.1; simp at this; exact this.symm
    subst hM
    have htl := text_len hr hs
    have s5 : ¬ (9223372036854775807 < (headT k r).length + (textB (valB k t)).length) := by
      rw [show (headT k r).length = 4 from rfl]
      omega
    have hcat : (⟨(headT k r).toArray⟩ : ByteArray) ++ ⟨(textB (valB k t)).toArray⟩ = ⟨(textR k r t).toArray⟩ := bytes_cat _ _
    have HTG := Lib.hid (show TX = textR k r t by rw [← HTX.out, textU_good ho])
    have HO := Lib.hid ho
    clear ho hcl hv2 hv3 hr
    go_wp2_with fail
    rw [HWY.out]
    refine (HBAD.out).mono ?_
    rintro e w3 ⟨rfl, hb3⟩
    obtain ⟨r0, r1, r2, _⟩ := (HR2.out.below hb3 (by omega)).facts
    have HW3 := Lib.hid (HW2.out.below hb3 (by omega))
    have HB3 := Lib.hid (HB2.out.trans (hb3.mono HB2.out.size))
    have hnm := num_own (own_below HO2.out hb3)
    have HTN := Lib.hid (fun (wz : World) (hz : Below w3.heap.size w3 wz) => refText_n wz (hnm.below hz) (by omega))
    have hs3 := hb3.size
    have s1 : IntKind.i64.wrap (48 + (k : Int)) = 48 + (k : Int) := IntWalk.i64_in _ (by omega)
    have s2 : IntKind.i64.wrap (48 + (r : Int)) = 48 + (r : Int) := IntWalk.i64_in _ (by omega)
    have s3 : IntKind.u8.wrap (48 + (k : Int)) = 48 + (k : Int) := u8_in _ (by omega) (by omega)
    have s4 : IntKind.u8.wrap (48 + (r : Int)) = 48 + (r : Int) := u8_in _ (by omega) (by omega)
    have HNW := Lib.hid (fun (wz : World) => head_own wz k r hk4 hr3)
    have HCV := Lib.hid (fun (wz : World) (g : Nat) (ho : wz.ownsRow 0 5 1 (.slice (some ⟨g, 0, none⟩) 4 4) 4 ((headT k r).map bv)) => run_own_string (P := Tryz.prog) wz 50 9 5 tBytes.und Tryz.underlying5 Tryz.underlying9 ho)
    have cA := HCV.out ((w3.alloc (.cells #[.int .u8 (48 + (k : Int)), .int .u8 46, .int .u8 (48 + (r : Int)), .int .u8 46] 5)).drew) w3.heap.size (HNW.out w3)
    have z1 : w.heap.size + 1 < w3.heap.size := by omega
    have HFA := Lib.hid (fun (wz : World) (hz : Below w3.heap.size w3 wz) => (⟨cell_later hz r0, cell_later hz r1, (HW3.out.below hz z1).facts, hz.size, hz⟩ : _ ∧ _ ∧ _ ∧ _ ∧ Below w3.heap.size w3 wz))
    have HWB2 := Lib.hid (fun (w2 : World) (hb2 : Below (w3.alloc (.cells #[.int .u8 (48 + (k : Int)), .int .u8 46, .int .u8 (48 + (r : Int)), .int .u8 46] 5)).heap.size ((w3.alloc (.cells #[.int .u8 (48 + (k : Int)), .int .u8 46, .int .u8 (48 + (r : Int)), .int .u8 46] 5)).drew) w2) =>
      (⟨HCV.out w2 w3.heap.size (own_below (w := (w3.alloc (.cells #[.int .u8 (48 + (k : Int)), .int .u8 46, .int .u8 (48 + (r : Int)), .int .u8 46] 5)).drew) (HNW.out w3) hb2), (((Below.refl w3.heap.size w3).alloc (Nat.le_refl _) _).drew).trans (hb2.mono (by simp))⟩ : _ ∧ Below w3.heap.size w3 w2))
    obtain ⟨_, _, ⟨d0, d1, d2, f0, f1, f2⟩, _, _⟩ := HFA.out w3 (Below.refl _ _)
    have z2 : w.heap.size < w3.heap.size := by omega
    clear v0 v1 v2 hb3 hnm
    go_wp2_with fail
    go_region_law (first
      | (go_simp
         go_at_call 18
         first
           | ((with_reducible refine (HTN.out _ (Below.refl _ _).drew).mono ?_)
              rintro e2 w4 ⟨rfl, hb4⟩
              have hb5 := (Below.refl w3.heap.size w3).drew.trans hb4
              have cB := HCV.out _ _ (HNW.out w4)
              obtain ⟨y0, y1, ⟨y2, y3, y4, y5, y6, y7⟩, yl, hb6⟩ := HFA.out w4 hb5
              have yl2 := Nat.lt_of_lt_of_le z1 yl
              dsimp only)
           | ((with_reducible refine (HTN.out _ (((Below.refl _ _).alloc (Nat.le_refl _) _).drew)).mono ?_)
              rintro e2 w4 ⟨rfl, hb4⟩
              obtain ⟨cB, hb5⟩ := HWB2.out w4 hb4
              obtain ⟨y0, y1, ⟨y2, y3, y4, y5, y6, y7⟩, yl, hb6⟩ := HFA.out w4 hb5
              have yl2 := Nat.lt_of_lt_of_le z1 yl
              dsimp only))
      | fail)
    all_goals
      have HB6 := Lib.hid (below_set3 (HB3.out.trans (hb6.mono HB3.out.size)) (Nat.le_succ _) (.int .i64 0) (.slice none 0 0) (.slice none 0 0))
      have HB7 := Lib.hid (fun (o : Obj) => HB6.out.alloc HB6.out.size o)
      clear hb6 hb5 hb4 cA cB r0 r1 r2 d0 d1 d2 f0 f1 f2
      go_wp2_with fail
      first
        | exact bodyPost_ret (v := .tuple #[.string ⟨(textR k r t).toArray⟩, .agg #[.int .i64 0, .slice none 0 0, .slice none 0 0]]) (by simp [results, Tryz.results6, go_sem, y2, y3, y4]) rfl ⟨0, none, 0, 0, none, 0, 0, by rw [HTG.out]; rfl, by rw [HO.out]; exact WantB.zero _ _, HB6.out⟩
        | exact bodyPost_ret (v := .tuple #[.string ⟨(textR k r t).toArray⟩, .agg #[.int .i64 0, .slice none 0 0, .slice none 0 0]]) (by simp [results, Tryz.results6, go_sem, y2, y3, y4, yl2]) rfl ⟨0, none, 0, 0, none, 0, 0, by rw [HTG.out]; rfl, by rw [HO.out]; exact WantB.zero _ _, HB7.out _⟩
        | exact bodyPost_ret (v := .tuple #[.string ⟨(textR k r t).toArray⟩, .agg #[.int .i64 0, .slice none 0 0, .slice none 0 0]]) (by simp [results, Tryz.results6, go_sem, y2, y3, y4, yl2]) rfl ⟨0, none, 0, 0, none, 0, 0, by rw [HTG.out]; rfl, by rw [HO.out]; exact WantB.zero _ _, (HB7.out _).drew⟩
end Go.Proofs.YtfgjcdfmlpdkaaaGreatDoor
