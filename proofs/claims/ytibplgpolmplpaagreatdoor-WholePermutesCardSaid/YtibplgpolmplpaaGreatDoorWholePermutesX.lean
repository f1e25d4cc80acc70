/- The call of WholePermutes: it returns true. Condition: the lists read from memory; the error variables hold what E says. -/
import Derived.Test.YtibplgpolmplpaaGreatDoorX1
import Derived.Test.YtibplgpolmplpaaGreatDoorX3
import Derived.Test.YtibplgpolmplpaaGreatDoorX24
import Derived.Test.YtibplgpolmplpaaGreatDoorX27
import Derived.Test.YtibplgpolmplpaaGreatDoorX29
namespace Go.Proofs.YtibplgpolmplpaaGreatDoor
open Go.RowKit RuleP NatP

/-- What EndPost says of an answer. -/
def EndIs (w : World) (k r : Nat) (X Y : List Int) (F : List Nat → List Nat → List Nat) (C : Option Addr) (l : Nat) : Prop :=
  ∃ x y, X = ints x ∧ Y = ints y ∧ (∀ s ∈ x, s < k) ∧ (∀ s ∈ y, s < k) ∧ y.length = 2 * r ∧ l ≤ 5000 ∧ Sl w C l ((ints (F x y)).map (Value.int .i64))
theorem EndIs.below {w w' : World} {k r l : Nat} {X Y : List Int} {F : List Nat → List Nat → List Nat} {C : Option Addr} (h : EndIs w k r X Y F C l) (hb : Below w.heap.size w w') : EndIs w' k r X Y F C l := by
  obtain ⟨x, y, h1, h2, h3, h4, h5, h6, h7⟩ := h
  exact ⟨x, y, h1, h2, h3, h4, h5, h6, h7.below hb⟩
/-- Two answers are alike just if the ends are. -/
theorem ends_c {w : World} {k r l m c d : Nat} {X Y Z : List Int} {F : List Nat → List Nat → List Nat} {C D : Option Addr} (hF : ∀ x a b, a.length = 2 * r → b.length = 2 * r → (F x a = F x b ↔ a = b)) (h1 : EndIs w k r X Y F C l) (h2 : EndIs w k r X Z F D m) :
    Calls Tryz.prog 27 #[.slice C l c, .slice D m d] w fun e w' => e = .returned (.bool (decide (Y = Z))) ∧ Below w.heap.size w w' := by
  obtain ⟨x, y, rfl, rfl, _, _, e5, e6, e7⟩ := h1
  obtain ⟨x', z, hx, rfl, _, _, f5, f6, f7⟩ := h2
  obtain rfl := ints_inj hx
  have h := ints_b w C D l m c d _ _ e7 f7 (by omega) (by omega)
  rw [show decide (ints (F x y) = ints (F x z)) = decide (ints y = ints z) from decide_eq_decide.2 ⟨fun e => by rw [(hF x y z e5 f5).1 (ints_inj e)], fun e => by rw [ints_inj e]⟩] at h
  exact h
theorem EndPost.any {w w' : World} {k r : Nat} {X Y : List Int} {F : List Nat → List Nat → List Nat} {e : Ending} (h : EndPost w k r X Y F e w') :
    ∃ (C : Option Addr) (l c : Nat) (v : Value), e = .returned (.tuple #[.slice C l c, v]) ∧ Below w.heap.size w w' ∧ ((∃ u p, v = .iface u p) ∨ (v = .nilIface ∧ EndIs w' k r X Y F C l)) := by
  obtain ⟨C, l, c, v, h1, h2, h3⟩ := h
  refine ⟨C, l, c, v, h1, h2, h3.imp id fun ⟨e, x, y, h⟩ => ⟨e, x, y, h⟩⟩

set_option maxRecDepth 100000 in
set_option maxHeartbeats 4000000 in
theorem wholePermutes_c (w : World) (E : Nat → Addr) (hE : ErrW w E) (K R : Int) (A : Option Addr) (n c : Nat) (T : List Int) (hS : Sl w A n (T.map (Value.int .i64))) (hn : n ≤ 9223372036854775807)
    (B : Option Addr) (m d : Nat) (X : List Int) (hX : Sl w B m (X.map (Value.int .i64))) (hm : m ≤ 9223372036854775807)
    (D1 : Option Addr) (l1 q1 : Nat) (Y : List Int) (hY : Sl w D1 l1 (Y.map (Value.int .i64))) (hl1 : l1 ≤ 9223372036854775807)
    (D2 : Option Addr) (l2 q2 : Nat) (Z : List Int) (hZ : Sl w D2 l2 (Z.map (Value.int .i64))) (hl2 : l2 ≤ 9223372036854775807) :
    Calls Tryz.prog 7 #[ruleV K R A n c, .slice B m d, .slice D1 l1 q1, .slice D2 l2 q2] w fun e w' => e = .returned (.bool true) ∧ Below w.heap.size w w' := by
  have hb0 := (Below.refl w.heap.size w).alloc (Nat.le_refl _) (.cells #[.int .i64 K, .int .i64 R, .slice A n c] 24)
  have HER := Lib.hid (fun (wz : World) (hz : Below w.heap.size w wz) => (⟨hE.below hz, hS.below hz, hX.below hz, hY.below hz, hZ.below hz⟩ : _ ∧ _ ∧ _ ∧ _ ∧ _))
  have HAW := Lib.hid (counts_c _ E (HER.out _ hb0).1)
  have hr0 := RuleAt.new w (.int .i64 K) (.int .i64 R) (.slice A n c)
  have HNL := Lib.hid (And.intro hn (And.intro hm (And.intro hl1 hl2)))
  clear hE hS hX hY hZ hn hm hl1 hl2
  unfold ruleV at *
  go_enter Tryz.func7, Tryz.ntmps7
  go_wp2_with fail
  refine (HAW.out).mono ?_
  rintro e w1 ⟨rfl, b1⟩
  have hr1 := hr0.below b1 (by simp)
  have hb1 := below_box b1
  obtain ⟨r0, r1, r2, _⟩ := hr1.facts
  have hsd := sides_c w1 E (HER.out w1 hb1).1.1 K R A n c T (HER.out w1 hb1).2.1 HNL.out.1
  unfold ruleV at hsd
  have HSD := Lib.hid hsd
  have HB1 := Lib.hid hb1
  have HR1 := Lib.hid hr1
  clear hr0 hb0 b1 hr1 hb1 HAW hsd
  go_wp2_with fail
  refine (HSD.out).mono ?_
  rintro e w2 ⟨a, b, v, rfl, b2, hor⟩
  have hb2 := HB1.out.trans (b2.mono HB1.out.size)
  have hr2 := HR1.out.below b2 HR1.out.lt
  clear r0 r1 r2
  obtain ⟨r0, r1, r2, _⟩ := hr2.facts
  rcases hor with ⟨u, p, rfl⟩ | ⟨rfl, k, r, t, rfl, rfl, rfl, hr, rfl, rfl⟩
  · have HB2 := Lib.hid hb2
    clear b2 hb2 hr2
    go_wp2_with fail
    go_ret
    exact ⟨rfl, HB2.out⟩
  have hsc := small_c w2 E (HER.out w2 hb2).1.1 (k : Int) (r : Int) A n c (ints t) (HER.out w2 hb2).2.1 HNL.out.1
  unfold ruleV at hsc
  have HSC := Lib.hid hsc
  have HB2 := Lib.hid hb2
  have HR2 := Lib.hid hr2
  have HRU := Lib.hid hr
  obtain ⟨pl, hpl⟩ : ∃ pl, permU k t (k ^ (2 * r)) = pl := ⟨_, rfl⟩
  obtain ⟨pr, hpr⟩ : ∃ pr, permU k t 1 = pr := ⟨_, rfl⟩
  rw [hpl, hpr]
  have HPP := Lib.hid (And.intro hpl hpr)
  clear b2 hb2 hr2 hsc hr hpl hpr
  go_wp2_with fail
  refine (HSC.out).mono ?_
  rintro e w3 ⟨v, rfl, hv, b3⟩
  have hb3 := HB2.out.trans (b3.mono HB2.out.size)
  have hr3 := HR2.out.below b3 HR2.out.lt
  clear r0 r1 r2
  obtain ⟨r0, r1, r2, _⟩ := hr3.facts
  cases hsm : small (k : Int) (r : Int) (ints t) with
  | some tl =>
    rw [hsm] at hv
    obtain ⟨u3, p3, rfl⟩ : ∃ u p, v = .iface u p := ErrIs.iface (show ErrIs w3 E tl.1 _ v from hv)
    have HB3 := Lib.hid hb3
    clear hv b3 hb3 hr3 hsm
    go_wp2_with fail
    go_ret
    exact ⟨rfl, HB3.out⟩
  | none =>
    rw [hsm] at hv
    obtain rfl : v = .nilIface := hv
    have h256 : t.length ≤ 256 := by
      obtain ⟨k', r', t', e1', e2', e3', hr', h'⟩ := small_parts hsm
      have : t.length = t'.length := by have := congrArg List.length e3'; rwa [ints_len, ints_len] at this
      omega
    have HB3 := Lib.hid hb3
    have HR3 := Lib.hid hr3
    have H256 := Lib.hid h256
    by_cases hpp : pl = false ∧ pr = false
    · obtain ⟨rfl, rfl⟩ := hpp
      clear b3 hb3 hr3 hsm h256
      go_wp2_with fail
      go_ret
      exact ⟨rfl, HB3.out⟩
    have hperm : permB k t 1 = true ∨ permB k t (k ^ (2 * r)) = true := by
      cases pr with
      | true => exact .inl (permU_permB HPP.out.2)
      | false => cases pl with
        | true => exact .inr (permU_permB HPP.out.1)
        | false => exact absurd ⟨rfl, rfl⟩ hpp
    have hcs : pl = true ∨ (pl = false ∧ pr = true) := by
      cases pl <;> cases pr <;> simp at hpp ⊢
    have HPM := Lib.hid hperm
    have hwu := cWordsU_c w3 E (HER.out w3 hb3).1.1 (k : Int) (r : Int) A n c (ints t) (HER.out w3 hb3).2.1 HNL.out.1 B m d X (HER.out w3 hb3).2.2.1 HNL.out.2.1
    unfold ruleV at hwu
    have HWU := Lib.hid hwu
    clear b3 hb3 hr3 hsm h256 hperm hwu
    clear hpp
    rcases hcs with rfl | ⟨rfl, rfl⟩
    all_goals
      go_wp2_with fail
      refine (HWU.out).mono ?_
      rintro e w4 ⟨C4, l4, c4, v4, rfl, b4, hor4⟩
      have hb4 := HB3.out.trans (b4.mono HB3.out.size)
      have hr4 := HR3.out.below b4 HR3.out.lt
      clear r0 r1 r2
      obtain ⟨r0, r1, r2, _⟩ := hr4.facts
      have HB4 := Lib.hid hb4
      have HR4 := Lib.hid hr4
      rcases hor4 with ⟨u, p, rfl⟩ | ⟨rfl, k', r', t', x, hk', hr', ht', rfl, _, _, hx, _, hat⟩
      · clear b4 hb4 hr4
        go_wp2_with fail
        go_ret
        exact ⟨rfl, HB4.out⟩
      obtain rfl : k = k' := by omega
      obtain rfl : r = r' := by omega
      obtain rfl := ints_inj ht'
      rw [words_perm HRU.out HPM.out hx] at hat
      have hsh := share_c w4 E (HER.out w4 hb4).1.1 k r n c A t (HER.out w4 hb4).2.1 HRU.out H256.out
      unfold ruleV at hsh
      have HSH := Lib.hid hsh
      have HAT := Lib.hid hat
      clear b4 hb4 hr4 hk' hr' ht' hx hat hsh
      go_wp2_with fail
      refine (HSH.out).mono ?_
      rintro e w5 ⟨C5, c5, rfl, _, ho5, b5⟩
      have hle5 := own_le ho5
      have HNT := Lib.hid (natsY_c (c := c4) (d := c5) (HAT.out.below b5) (⟨rfl, Nat.le_trans hle5.1 hle5.2, Sl.of_own ho5⟩ : NumAt w5 C5 _ (k ^ (2 * r))) rfl)
      have hb5 := HB4.out.trans (b5.mono HB4.out.size)
      have hr5 := HR4.out.below b5 HR4.out.lt
      clear r0 r1 r2
      obtain ⟨r0, r1, r2, _⟩ := hr5.facts
      have HB5 := Lib.hid hb5
      have HR5 := Lib.hid hr5
      clear ho5 b5 hle5 hb5 hr5
      go_wp2_with fail
      refine (HNT.out).mono ?_
      rintro e w6 ⟨rfl, b6⟩
      have hb6 := HB5.out.trans (b6.mono HB5.out.size)
      have hr6 := HR5.out.below b6 HR5.out.lt
      clear r0 r1 r2
      obtain ⟨r0, r1, r2, _⟩ := hr6.facts
      have HB6 := Lib.hid hb6
      have HR6 := Lib.hid hr6
      have hrg := fun (wz : World) (hz : Below w.heap.size w wz) => right_c wz E (HER.out wz hz).1.1 k r n c A t HRU.out (HER.out wz hz).2.1 B m d (ints x) (HER.out wz hz).2.2.1 HNL.out.2.1
      have hlf := fun (wz : World) (hz : Below w.heap.size w wz) => left_c wz E (HER.out wz hz).1.1 k r n c A t HRU.out (HER.out wz hz).2.1 B m d (ints x) (HER.out wz hz).2.2.1 HNL.out.2.1
      have hab := fun (wz : World) (hz : Below w.heap.size w wz) => ints_b wz D1 D2 l1 l2 q1 q2 Y Z (HER.out wz hz).2.2.2.1 (HER.out wz hz).2.2.2.2 HNL.out.2.2.1 HNL.out.2.2.2
      obtain ⟨yz, hyz⟩ : ∃ yz, decide (Y = Z) = yz := ⟨_, rfl⟩
      simp only [hyz] at hab
      have HYZ := Lib.hid hyz
      unfold ruleV at hrg hlf
      have HRG := Lib.hid hrg
      have HLF := Lib.hid hlf
      have HAB := Lib.hid hab
      have HR61 := Lib.hid ((HRG.out w6 hb6) D1 l1 q1 Y (HER.out w6 hb6).2.2.2.1 HNL.out.2.2.1)
      clear b6 hb6 hr6 hrg hlf hab hyz
      go_wp2_with fail
      refine (HR61.out).mono ?_
      rintro e w7 h7
      obtain ⟨C7, l7, c7, v7, rfl, b7, hor7⟩ := h7.any
      have hb7 := HB6.out.trans (b7.mono HB6.out.size)
      have hr7 := HR6.out.below b7 HR6.out.lt
      clear r0 r1 r2
      obtain ⟨r0, r1, r2, _⟩ := hr7.facts
      have HB7 := Lib.hid hb7
      have HR7 := Lib.hid hr7
      have HO7 := Lib.hid hor7
      have HR71 := Lib.hid ((HRG.out w7 hb7) D2 l2 q2 Z (HER.out w7 hb7).2.2.2.2 HNL.out.2.2.2)
      clear b7 hb7 hr7 h7 hor7
      go_wp2_with fail
      refine (HR71.out).mono ?_
      rintro e w8 h8
      obtain ⟨C8, l8, c8, v8, rfl, b8, hor8⟩ := h8.any
      have hb8 := HB7.out.trans (b8.mono HB7.out.size)
      have hr8 := HR7.out.below b8 HR7.out.lt
      clear r0 r1 r2
      obtain ⟨r0, r1, r2, _⟩ := hr8.facts
      have HB8 := Lib.hid hb8
      have HR8 := Lib.hid hr8
      have hL8 := fun (wz : World) (hz : Below w.heap.size w wz) => (HLF.out wz hz) D1 l1 q1 Y (HER.out wz hz).2.2.2.1 HNL.out.2.2.1
      have HL8 := Lib.hid hL8
      have hL9 := fun (wz : World) (hz : Below w.heap.size w wz) => (HLF.out wz hz) D2 l2 q2 Z (HER.out wz hz).2.2.2.2 HNL.out.2.2.2
      have HL9 := Lib.hid hL9
      have hboth : (∃ u p, v7 = .iface u p) ∨ (v7 = .nilIface ∧ ∃ u p, v8 = .iface u p) ∨ (v7 = .nilIface ∧ v8 = .nilIface ∧ Calls Tryz.prog 27 #[.slice C7 l7 c7, .slice C8 l8 c8] w8 fun e w' => e = .returned (.bool yz) ∧ Below w8.heap.size w8 w') := by
        rcases HO7.out with h | ⟨h, h7⟩
        · exact .inl h
        · rcases hor8 with h' | ⟨h', h8⟩
          · exact .inr (.inl ⟨h, h'⟩)
          · have hc := ends_c (F := rightF k (k ^ (2 * r)) t) (c := c7) (d := c8) (fun x a b ha hb => rightF_same ha hb) (h7.below b8) h8
            rw [HYZ.out] at hc
            exact .inr (.inr ⟨h, h', hc⟩)
      have HBO := Lib.hid hboth
      clear b8 hb8 hr8 h8 hor8 hL8 hL9 HO7 hboth
      rcases HBO.out with ⟨u7, p7, rfl⟩ | ⟨rfl, u8, p8, rfl⟩ | ⟨rfl, rfl, hcmp⟩
      case' inl =>
        clear HBO
        go_wp2_with fail
        obtain ⟨w9, hw9⟩ : ∃ w9, w9 = w8 := ⟨_, rfl⟩
        subst hw9
        have HB9 := HB8
        have HR9 := HR8
      case' inr.inl =>
        clear HBO
        go_wp2_with fail
        obtain ⟨w9, hw9⟩ : ∃ w9, w9 = w8 := ⟨_, rfl⟩
        subst hw9
        have HB9 := HB8
        have HR9 := HR8
      case' inr.inr =>
        have HCMP := Lib.hid hcmp
        clear HBO hcmp
        cases yz
        all_goals
          go_wp2_with fail
          refine (HCMP.out).mono ?_
          rintro e w8b ⟨rfl, b8b⟩
          have HB8b := Lib.hid (HB8.out.trans (b8b.mono HB8.out.size))
          have HR8b := Lib.hid (HR8.out.below b8b HR8.out.lt)
          have HABb := Lib.hid (HAB.out w8b HB8b.out)
          clear b8b
          go_wp2_with fail
          refine (HABb.out).mono ?_
          rintro e w9 ⟨rfl, b9⟩
          have HB9 := Lib.hid (HB8b.out.trans (b9.mono HB8b.out.size))
          have HR9 := Lib.hid (HR8b.out.below b9 HR8b.out.lt)
          clear b9 r0 r1 r2
          obtain ⟨r0, r1, r2, _⟩ := HR9.out.facts
          go_wp2_with fail
      all_goals
        have HL9a := Lib.hid (HL8.out w9 HB9.out)
        refine (HL9a.out).mono ?_
        rintro e wa ha
        obtain ⟨Ca, la, ca, va, rfl, ba, hora⟩ := ha.any
        have hba := HB9.out.trans (ba.mono HB9.out.size)
        have hra := HR9.out.below ba HR9.out.lt
        clear r0 r1 r2
        obtain ⟨r0, r1, r2, _⟩ := hra.facts
        have HBa := Lib.hid hba
        have HOa := Lib.hid hora
        have HLa := Lib.hid (HL9.out wa hba)
        clear ba hba hra ha hora
        go_wp2_with fail
        refine (HLa.out).mono ?_
        rintro e wb hb
        obtain ⟨Cb, lb, cb, vb, rfl, bb, horb⟩ := hb.any
        have HBb := Lib.hid (HBa.out.trans (bb.mono HBa.out.size))
        clear r0 r1 r2
        rcases HOa.out with ⟨u, p, rfl⟩ | ⟨rfl, hea⟩
        · clear bb hb horb
          go_wp2_with fail
          go_ret
          exact ⟨rfl, HBb.out⟩
        rcases horb with ⟨u, p, rfl⟩ | ⟨rfl, heb⟩
        · clear bb hb hea
          go_wp2_with fail
          go_ret
          exact ⟨rfl, HBb.out⟩
        have hc := ends_c (F := leftF k (k ^ (2 * r)) t) (c := ca) (d := cb) (fun x a b ha hb => leftF_same ha hb) (hea.below bb) heb
        first | rw [HYZ.out] at hc | skip
        have HC := Lib.hid hc
        clear bb hb hea heb hc
        first | cases yz | skip
        all_goals
          go_wp2_with fail
          refine (HC.out).mono ?_
          rintro e wc ⟨rfl, bc⟩
          have HBc := Lib.hid (HBb.out.trans (bc.mono HBb.out.size))
          have HABc := Lib.hid (HAB.out wc HBc.out)
          clear bc
          go_wp2_with fail
          refine (HABc.out).mono ?_
          rintro e wd ⟨rfl, bd⟩
          have HBd := Lib.hid (HBc.out.trans (bd.mono HBc.out.size))
          clear bd
          go_wp2_with fail
          go_ret
          exact ⟨rfl, HBd.out⟩
end Go.Proofs.YtibplgpolmplpaaGreatDoor
