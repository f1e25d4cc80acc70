/- A rule read from a text: rule.Parse of any text. Condition: the error variables hold what E says. A rule read from a text by the document: edenref04.Parse. No condition. -/
import Derived.Test.YtfgjcdfmlpdkaaaGreatDoorRuleEF
import Derived.Test.YtfgjcdfmlpdkaaaGreatDoorUnderW
import Derived.Test.YtfgjcdfmlpdkaaaGreatDoorRefP
import Derived.Test.YtfgjcdfmlpdkaaaGreatDoorRefG
import Derived.Test.YtfgjcdfmlpdkaaaGreatDoorCatU
namespace Go.Proofs.YtfgjcdfmlpdkaaaGreatDoor
open Go.RowKit RuleP NatP

namespace RuleP
/-- The numbers in a text's head. -/
def headK (l : List UInt8) : Nat := (l.getD 0 0).toNat - 48
def headR (l : List UInt8) : Nat := (l.getD 2 0).toNat - 48
/-- What a text is read as. -/
def parseT (l : List UInt8) : Except Tale (Nat × Nat × List Nat) :=
  if 8192 < l.length then .error (4, [(sRule, 0)])
  else if headN l < 4 then .error (6, [(sRule, ((headN l : Nat) : Int))])
  else if 256 < headK l ^ (2 * headR l + 1) then .error (4, [(sRule, 0)])
  else match parseN (l.drop 4) with
    | .error p => .error (p.2, [(sRule, 4), (sNat, (p.1 : Int))])
    | .ok v => if 0 < v / headK l ^ headK l ^ (2 * headR l + 1) then .error (3, [(sRule, 4)]) else .ok (headK l, headR l, digN (headK l) (headK l ^ (2 * headR l + 1)) v)
theorem okAt_some {l : List UInt8} {i lo hi : Nat} (h : okAt l i lo hi = true) : ∃ b, l[i]? = some b ∧ lo ≤ b.toNat ∧ b.toNat ≤ hi := by
  unfold okAt at h
  cases hx : l[i]? with
  | none => rw [hx] at h; cases h
  | some b => rw [hx] at h; have := of_decide_eq_true h; exact ⟨b, rfl, this.1, this.2⟩
theorem head_four {l : List UInt8} (h : ¬ headN l < 4) : headN l = 4 ∧ (∃ b, l[0]? = some b ∧ b.toNat = 48 + headK l) ∧ (∃ b, l[2]? = some b ∧ b.toNat = 48 + headR l) ∧ 1 ≤ headK l ∧ headK l ≤ 4 ∧ headR l ≤ 3 ∧ okAt l 1 46 46 = true ∧ okAt l 3 46 46 = true := by
  unfold headN at h ⊢
  by_cases h0 : okAt l 0 49 52 = false
  · rw [if_pos h0] at h; omega
  rw [if_neg h0] at h ⊢
  by_cases h1 : okAt l 1 46 46 = false
  · rw [if_pos h1] at h; omega
  rw [if_neg h1] at h ⊢
  by_cases h2 : okAt l 2 48 51 = false
  · rw [if_pos h2] at h; omega
  rw [if_neg h2] at h ⊢
  by_cases h3 : okAt l 3 46 46 = false
  · rw [if_pos h3] at h; omega
  rw [if_neg h3]
  obtain ⟨b0, e0, a0, c0⟩ := okAt_some (by simpa using h0 : okAt l 0 49 52 = true)
  obtain ⟨b2, e2, a2, c2⟩ := okAt_some (by simpa using h2 : okAt l 2 48 51 = true)
  have k0 : headK l = b0.toNat - 48 := by unfold headK; rw [List.getD_eq_getElem?_getD, e0]; rfl
  have k2 : headR l = b2.toNat - 48 := by unfold headR; rw [List.getD_eq_getElem?_getD, e2]; rfl
  exact ⟨rfl, ⟨b0, e0, by omega⟩, ⟨b2, e2, by omega⟩, by omega, by omega, by omega, by simpa using h1, by simpa using h3⟩
end RuleP

/-- The answer is a new rule and no error, or no rule and the error of the tale. -/
def ParseRule (w : World) (E : Nat → Addr) (x : Except Tale (Nat × Nat × List Nat)) (e : Ending) (w' : World) : Prop :=
  match x with
  | .ok t => ∃ A c, e = .returned (.tuple #[ruleV t.1 t.2.1 A t.2.2.length c, .nilIface]) ∧ w'.ownsRow w.heap.size 3 1 (.slice A t.2.2.length c) t.2.2.length ((ints t.2.2).map (Value.int .i64)) ∧ Below w.heap.size w w'
  | .error t => ∃ v, e = .returned (.tuple #[ruleV 0 0 none 0 0, v]) ∧ ErrIs w' E t.1 t.2 v ∧ Below w.heap.size w w'
theorem drewN_err {w : World} {E : Nat → Addr} {n q : Nat} : ∀ {l : List (ByteArray × Int)} {v : Value}, ErrIs w E n l v → ErrIs (w.drewN q) E n l v := fun h => ErrIs.below (pure_drewN w q) h


set_option maxRecDepth 100000 in
set_option maxHeartbeats 2000000 in
theorem rparse_long (w : World) (E : Nat → Addr) (hE : Errs w E) (l : List UInt8) (hl : 8192 < l.length) :
    Calls Tryz.prog 7 #[.string ⟨l.toArray⟩] w fun e w' => ∃ v, e = .returned (.tuple #[ruleV 0 0 none 0 0, v]) ∧ ErrIs w' E 4 [(sRule, 0)] v ∧ Below w.heap.size w w' := by
  have hb0 := (Below.refl w.heap.size w).alloc (Nat.le_refl _) (.cells #[.int .i64 0, .int .i64 0, .slice none 0 0] 24)
  have hr0 := RuleAt.new w (.int .i64 0) (.int .i64 0) (.slice none 0 0)
  have HE := Lib.hid (fun (wz : World) (hz : Below w.heap.size w wz) => hE.below hz)
  have HB0 := Lib.hid hb0
  have HR0 := Lib.hid hr0
  have hsz : (⟨l.toArray⟩ : ByteArray).size = l.length := Lib.size_mk l
  generalize hS : (⟨l.toArray⟩ : ByteArray) = S at *
  have hlS : 8192 < S.size := by omega
  have hd : decide ((8192 : Int) < (S.size : Int)) = true := decide_eq_true (by omega)
  clear hS hsz hl
  clear hE hb0 hr0
  go_enter Tryz.func7, Tryz.ntmps7
  go_wp2_with fail
  have hrW := HR0.out
  refine (ruleWrong_c _ E (HE.out _ HB0.out) 0 4 (by decide) (by decide)).mono ?_
  rintro e wz ⟨rfl, hez, hbw⟩
  have hrz := hrW.below hbw hrW.lt
  have hbz := HB0.out.trans (hbw.mono HB0.out.size)
  clear hbw hrW
  obtain ⟨c0, c1, c2, f0, f1, f2⟩ := hrz.facts
  have HP := Lib.hid (ErrIs.set3 hez hrz (.int .i64 0) (.int .i64 0) (.slice none 0 0))
  have HB := Lib.hid (below_set3 hbz (Nat.le_refl _) (.int .i64 0) (.int .i64 0) (.slice none 0 0))
  clear hez hrz hbz
  unfold errV at *
  go_wp2_with fail
  exact bodyPost_ret (v := .tuple #[.agg #[.int .i64 0, .int .i64 0, .slice none 0 0], .iface 70 (.pointer (some ⟨(w.alloc (.cells #[.int .i64 0, .int .i64 0, .slice none 0 0] 24)).heap.size, 0, none⟩))]) (by simp [results, Tryz.results7, go_sem, c0, c1, c2]) rfl ⟨_, rfl, HP.out, HB.out⟩


set_option maxRecDepth 100000 in
set_option maxHeartbeats 2000000 in
theorem rparse_head (w : World) (E : Nat → Addr) (hE : Errs w E) (l : List UInt8) (hl : l.length ≤ 8192) (hh : headN l < 4) :
    Calls Tryz.prog 7 #[.string ⟨l.toArray⟩] w fun e w' => ∃ v, e = .returned (.tuple #[ruleV 0 0 none 0 0, v]) ∧ ErrIs w' E 6 [(sRule, ((headN l : Nat) : Int))] v ∧ Below w.heap.size w w' := by
  have hb0 := (Below.refl w.heap.size w).alloc (Nat.le_refl _) (.cells #[.int .i64 0, .int .i64 0, .slice none 0 0] 24)
  have hr0 := RuleAt.new w (.int .i64 0) (.int .i64 0) (.slice none 0 0)
  have HE := Lib.hid (fun (wz : World) (hz : Below w.heap.size w wz) => hE.below hz)
  have HB0 := Lib.hid hb0
  have HR0 := Lib.hid hr0
  have hsz : (⟨l.toArray⟩ : ByteArray).size = l.length := Lib.size_mk l
  have hhd := fun (wz : World) => head_c wz _ l rfl
  generalize hS : (⟨l.toArray⟩ : ByteArray) = S at *
  have hlS : S.size ≤ 8192 := by omega
  have hd : decide ((8192 : Int) < (S.size : Int)) = false := decide_eq_false (by omega)
  have HHD := Lib.hid hhd
  obtain ⟨hn, hhn⟩ : ∃ hn, headN l = hn := ⟨_, rfl⟩
  rw [hhn] at HHD hh ⊢
  clear hS hsz hl hhd hhn
  clear hE hb0 hr0
  go_enter Tryz.func7, Tryz.ntmps7
  go_wp2_with fail
  refine (HHD.out _).mono ?_
  rintro e w1 ⟨rfl, hb1⟩
  have hbW := below_box hb1
  have hrW := HR0.out.below hb1 (by simp)
  clear hb1
  go_wp2_with fail
  refine (ruleWrong_c w1 E (HE.out _ hbW) (hn : Int) 6 (by decide) (by decide)).mono ?_
  rintro e wz ⟨rfl, hez, hbw⟩
  have hrz := hrW.below hbw hrW.lt
  have hbz := hbW.trans (hbw.mono hbW.size)
  clear hbw hrW
  obtain ⟨c0, c1, c2, f0, f1, f2⟩ := hrz.facts
  have HP := Lib.hid (ErrIs.set3 hez hrz (.int .i64 0) (.int .i64 0) (.slice none 0 0))
  have HB := Lib.hid (below_set3 hbz (Nat.le_refl _) (.int .i64 0) (.int .i64 0) (.slice none 0 0))
  clear hez hrz hbz
  unfold errV at *
  go_wp2_with fail
  exact bodyPost_ret (v := .tuple #[.agg #[.int .i64 0, .int .i64 0, .slice none 0 0], .iface 70 (.pointer (some ⟨w1.heap.size, 0, none⟩))]) (by simp [results, Tryz.results7, go_sem, c0, c1, c2]) rfl ⟨_, rfl, HP.out, HB.out⟩


set_option maxRecDepth 100000 in
set_option maxHeartbeats 2000000 in
theorem rparse_big (w : World) (E : Nat → Addr) (hE : Errs w E) (l : List UInt8) (hl : l.length ≤ 8192) (hh : ¬ headN l < 4) (hs : 256 < headK l ^ (2 * headR l + 1)) :
    Calls Tryz.prog 7 #[.string ⟨l.toArray⟩] w fun e w' => ∃ v, e = .returned (.tuple #[ruleV 0 0 none 0 0, v]) ∧ ErrIs w' E 4 [(sRule, 0)] v ∧ Below w.heap.size w w' := by
  have hb0 := (Below.refl w.heap.size w).alloc (Nat.le_refl _) (.cells #[.int .i64 0, .int .i64 0, .slice none 0 0] 24)
  have hr0 := RuleAt.new w (.int .i64 0) (.int .i64 0) (.slice none 0 0)
  have HE := Lib.hid (fun (wz : World) (hz : Below w.heap.size w wz) => hE.below hz)
  have HB0 := Lib.hid hb0
  have HR0 := Lib.hid hr0
  have hsz : (⟨l.toArray⟩ : ByteArray).size = l.length := Lib.size_mk l
  obtain ⟨hh, ⟨x0, hx0, e0⟩, ⟨x2, hx2, e2⟩, k1, k4, r3, _, _⟩ := head_four hh
  obtain ⟨k, hk⟩ : ∃ k, headK l = k := ⟨_, rfl⟩
  obtain ⟨r, hr⟩ : ∃ r, headR l = r := ⟨_, rfl⟩
  rw [hk, hr] at hs
  rw [hk] at e0 k1 k4
  rw [hr] at e2 r3
  have hat : ∀ (k : Nat) (hk : k < (⟨l.toArray⟩ : ByteArray).size), l[k]? = some ((⟨l.toArray⟩ : ByteArray)[k]'hk) := fun k hk => (Lib.getElem_mk l k hk).symm ▸ rfl
  have hex := extract_drop l 4
  have hl4 := head_len hh
  have hl2 : 2 < l.length := (List.getElem?_eq_some_iff.1 hx2).1
  have hhd := fun (wz : World) => head_c wz _ l rfl
  generalize hS : (⟨l.toArray⟩ : ByteArray) = S at *
  have hlS : S.size ≤ 8192 := by omega
  have hl4S : 4 ≤ S.size := by omega
  have hd : decide ((8192 : Int) < (S.size : Int)) = false := decide_eq_false (by omega)
  have hi0 : 0 < S.size := by omega
  have hi2 : 2 < S.size := by omega
  have a0 := hat 0 hi0
  have a2 := hat 2 hi2
  rw [hx0] at a0
  rw [hx2] at a2
  have b0 : ((S[0]'hi0).toNat : Int) = 48 + (k : Int) := by rw [← Option.some.inj a0, e0]; simp
  have b2 : ((S[2]'hi2).toNat : Int) = 48 + (r : Int) := by rw [← Option.some.inj a2, e2]; simp
  rw [hh] at hhd
  have q1 : (48 : Int) + (k : Int) - 48 = (k : Int) := by omega
  have q2 : (48 : Int) + (r : Int) - 48 = (r : Int) := by omega
  obtain ⟨L, hL⟩ : ∃ L, k ^ (2 * r + 1) = L := ⟨_, rfl⟩
  have hsize := fun (wz : World) => size_ok wz k r k1 k4 r3
  rw [hL] at hsize hs
  have HSZ := Lib.hid hsize
  have HL := Lib.hid hL
  have HHD := Lib.hid hhd
  have HSS := Lib.hid hsz
  have HEX := Lib.hid (by rw [← hsz] at hex; exact hex : S.extract 4 S.size = ⟨(l.drop 4).toArray⟩)
  have HK := Lib.hid hk
  have HRR := Lib.hid hr
  have dL : decide ((256 : Int) < (L : Int)) = true := decide_eq_true (by omega)
  clear hL hsize hhd hex hS hat a0 a2 e0 e2 hx0 hx2 hh hsz hl hl4 hl2 hk hr
  clear hE hb0 hr0
  go_enter Tryz.func7, Tryz.ntmps7
  go_wp2_with fail
  refine (HHD.out _).mono ?_
  rintro e w1 ⟨rfl, hb1⟩
  have hr1 := HR0.out.below hb1 (by simp)
  go_wp2_with fail
  go_quiet (fail)
  go_wp2_with fail
  refine (HSZ.out _).mono ?_
  rintro e w' ⟨rfl, rfl⟩
  have hbW := below_drewN (below_box hb1) nq
  have hrW : RuleAt (w1.drewN nq) w.heap.size (.int .i64 0) (.int .i64 0) (.slice none 0 0) := hr1
  clear hb1 hr1
  go_wp2_with fail
  refine (ruleWrong_c (w1.drewN nq) E (HE.out _ hbW) 0 4 (by decide) (by decide)).mono ?_
  rintro e wz ⟨rfl, hez, hbw⟩
  have hrz := hrW.below hbw hrW.lt
  have hbz := hbW.trans (hbw.mono hbW.size)
  clear hbw hrW
  obtain ⟨c0, c1, c2, f0, f1, f2⟩ := hrz.facts
  have HP := Lib.hid (ErrIs.set3 hez hrz (.int .i64 0) (.int .i64 0) (.slice none 0 0))
  have HB := Lib.hid (below_set3 hbz (Nat.le_refl _) (.int .i64 0) (.int .i64 0) (.slice none 0 0))
  clear hez hrz hbz
  unfold errV at *
  go_wp2_with fail
  exact bodyPost_ret (v := .tuple #[.agg #[.int .i64 0, .int .i64 0, .slice none 0 0], .iface 70 (.pointer (some ⟨w1.heap.size, 0, none⟩))]) (by simp [results, Tryz.results7, go_sem, c0, c1, c2]) rfl ⟨_, rfl, HP.out, HB.out⟩


set_option maxRecDepth 100000 in
set_option maxHeartbeats 2000000 in
theorem rparse_nat (w : World) (E : Nat → Addr) (hE : Errs w E) (l : List UInt8) (hl : l.length ≤ 8192) (hh : ¬ headN l < 4) (hs : headK l ^ (2 * headR l + 1) ≤ 256) (p : Nat × Nat) (hp : parseN (l.drop 4) = .error p) :
    Calls Tryz.prog 7 #[.string ⟨l.toArray⟩] w fun e w' => ∃ v, e = .returned (.tuple #[ruleV 0 0 none 0 0, v]) ∧ ErrIs w' E p.2 [(sRule, 4), (sNat, (p.1 : Int))] v ∧ Below w.heap.size w w' := by
  have hb0 := (Below.refl w.heap.size w).alloc (Nat.le_refl _) (.cells #[.int .i64 0, .int .i64 0, .slice none 0 0] 24)
  have hr0 := RuleAt.new w (.int .i64 0) (.int .i64 0) (.slice none 0 0)
  have HE := Lib.hid (fun (wz : World) (hz : Below w.heap.size w wz) => hE.below hz)
  have HB0 := Lib.hid hb0
  have HR0 := Lib.hid hr0
  have hsz : (⟨l.toArray⟩ : ByteArray).size = l.length := Lib.size_mk l
  obtain ⟨hh, ⟨x0, hx0, e0⟩, ⟨x2, hx2, e2⟩, k1, k4, r3, _, _⟩ := head_four hh
  obtain ⟨k, hk⟩ : ∃ k, headK l = k := ⟨_, rfl⟩
  obtain ⟨r, hr⟩ : ∃ r, headR l = r := ⟨_, rfl⟩
  rw [hk, hr] at hs
  rw [hk] at e0 k1 k4
  rw [hr] at e2 r3
  have hat : ∀ (k : Nat) (hk : k < (⟨l.toArray⟩ : ByteArray).size), l[k]? = some ((⟨l.toArray⟩ : ByteArray)[k]'hk) := fun k hk => (Lib.getElem_mk l k hk).symm ▸ rfl
  have hex := extract_drop l 4
  have hl4 := head_len hh
  have hl2 : 2 < l.length := (List.getElem?_eq_some_iff.1 hx2).1
  have hhd := fun (wz : World) => head_c wz _ l rfl
  generalize hS : (⟨l.toArray⟩ : ByteArray) = S at *
  have hlS : S.size ≤ 8192 := by omega
  have hl4S : 4 ≤ S.size := by omega
  have hd : decide ((8192 : Int) < (S.size : Int)) = false := decide_eq_false (by omega)
  have hi0 : 0 < S.size := by omega
  have hi2 : 2 < S.size := by omega
  have a0 := hat 0 hi0
  have a2 := hat 2 hi2
  rw [hx0] at a0
  rw [hx2] at a2
  have b0 : ((S[0]'hi0).toNat : Int) = 48 + (k : Int) := by rw [← Option.some.inj a0, e0]; simp
  have b2 : ((S[2]'hi2).toNat : Int) = 48 + (r : Int) := by rw [← Option.some.inj a2, e2]; simp
  rw [hh] at hhd
  have q1 : (48 : Int) + (k : Int) - 48 = (k : Int) := by omega
  have q2 : (48 : Int) + (r : Int) - 48 = (r : Int) := by omega
  obtain ⟨L, hL⟩ : ∃ L, k ^ (2 * r + 1) = L := ⟨_, rfl⟩
  have hsize := fun (wz : World) => size_ok wz k r k1 k4 r3
  rw [hL] at hsize hs
  have HSZ := Lib.hid hsize
  have HL := Lib.hid hL
  have HHD := Lib.hid hhd
  have HSS := Lib.hid hsz
  have HEX := Lib.hid (by rw [← hsz] at hex; exact hex : S.extract 4 S.size = ⟨(l.drop 4).toArray⟩)
  have HK := Lib.hid hk
  have HRR := Lib.hid hr
  have dL : decide ((256 : Int) < (L : Int)) = false := decide_eq_false (by omega)
  have HP4 := Lib.hid hp
  clear hL hsize hhd hex hS hat a0 a2 e0 e2 hx0 hx2 hh hsz hl hl4 hl2 hk hr hp
  clear hE hb0 hr0
  go_enter Tryz.func7, Tryz.ntmps7
  go_wp2_with fail
  refine (HHD.out _).mono ?_
  rintro e w1 ⟨rfl, hb1⟩
  have hr1 := HR0.out.below hb1 (by simp)
  go_wp2_with fail
  go_quiet (fail)
  go_wp2_with fail
  refine (HSZ.out _).mono ?_
  rintro e w' ⟨rfl, rfl⟩
  have hbW := below_drewN (below_box hb1) nq
  have hrW : RuleAt (w1.drewN nq) w.heap.size (.int .i64 0) (.int .i64 0) (.slice none 0 0) := hr1
  clear hb1 hr1
  go_wp2_with fail
  rw [HEX.out]
  have hpc := parse_c (w1.drewN nq) E (HE.out _ hbW) (l.drop 4)
  unfold ParsePost at hpc
  rw [HP4.out] at hpc
  have HPC := Lib.hid hpc
  clear hpc
  refine (HPC.out).mono ?_
  rintro e w2 ⟨b, rfl, hf, _, _, hb2⟩
  have hb2' := hbW.trans (hb2.mono hbW.size)
  have hr2 := hrW.below hb2 hrW.lt
  have hev : ErrV w2 E (some (p.2, [(sNat, (p.1 : Int))])) (errV b) := ⟨b, _, rfl, hf, rfl⟩
  have HU := Lib.hid (under_c w2 E sRule 4 _ _ hev)
  clear hf hev hb2 hbW hrW
  unfold errV at *
  go_wp2_with fail
  refine (HU.out).mono ?_
  rintro e wz ⟨v, rfl, hez, hbw⟩
  have hez : ErrIs wz E p.2 [(sRule, 4), (sNat, (p.1 : Int))] v := hez
  obtain ⟨u, q, rfl⟩ := hez.iface
  have hrz := hr2.below hbw hr2.lt
  have hbz := hb2'.trans (hbw.mono hb2'.size)
  clear hbw hr2 hb2'
  obtain ⟨c0, c1, c2, f0, f1, f2⟩ := hrz.facts
  have HP := Lib.hid (ErrIs.set3 hez hrz (.int .i64 0) (.int .i64 0) (.slice none 0 0))
  have HB := Lib.hid (below_set3 hbz (Nat.le_refl _) (.int .i64 0) (.int .i64 0) (.slice none 0 0))
  clear hez hrz hbz
  go_wp2_with fail
  exact bodyPost_ret (v := .tuple #[.agg #[.int .i64 0, .int .i64 0, .slice none 0 0], .iface u q]) (by simp [results, Tryz.results7, go_sem, c0, c1, c2]) rfl ⟨_, rfl, HP.out, HB.out⟩


set_option maxRecDepth 100000 in
set_option maxHeartbeats 2000000 in
theorem rparse_from (w : World) (E : Nat → Addr) (hE : Errs w E) (l : List UInt8) (hl : l.length ≤ 8192) (hh : ¬ headN l < 4) (hs : headK l ^ (2 * headR l + 1) ≤ 256) (v : Nat) (hp : parseN (l.drop 4) = .ok v) (hv : 0 < v / headK l ^ headK l ^ (2 * headR l + 1)) :
    Calls Tryz.prog 7 #[.string ⟨l.toArray⟩] w fun e w' => ∃ v, e = .returned (.tuple #[ruleV 0 0 none 0 0, v]) ∧ ErrIs w' E 3 [(sRule, 4)] v ∧ Below w.heap.size w w' := by
  have hb0 := (Below.refl w.heap.size w).alloc (Nat.le_refl _) (.cells #[.int .i64 0, .int .i64 0, .slice none 0 0] 24)
  have hr0 := RuleAt.new w (.int .i64 0) (.int .i64 0) (.slice none 0 0)
  have HE := Lib.hid (fun (wz : World) (hz : Below w.heap.size w wz) => hE.below hz)
  have HB0 := Lib.hid hb0
  have HR0 := Lib.hid hr0
  have hsz : (⟨l.toArray⟩ : ByteArray).size = l.length := Lib.size_mk l
  obtain ⟨hh, ⟨x0, hx0, e0⟩, ⟨x2, hx2, e2⟩, k1, k4, r3, _, _⟩ := head_four hh
  obtain ⟨k, hk⟩ : ∃ k, headK l = k := ⟨_, rfl⟩
  obtain ⟨r, hr⟩ : ∃ r, headR l = r := ⟨_, rfl⟩
  rw [hk, hr] at hs hv
  rw [hk] at e0 k1 k4
  rw [hr] at e2 r3
  have hat : ∀ (k : Nat) (hk : k < (⟨l.toArray⟩ : ByteArray).size), l[k]? = some ((⟨l.toArray⟩ : ByteArray)[k]'hk) := fun k hk => (Lib.getElem_mk l k hk).symm ▸ rfl
  have hex := extract_drop l 4
  have hl4 := head_len hh
  have hl2 : 2 < l.length := (List.getElem?_eq_some_iff.1 hx2).1
  have hhd := fun (wz : World) => head_c wz _ l rfl
  generalize hS : (⟨l.toArray⟩ : ByteArray) = S at *
  have hlS : S.size ≤ 8192 := by omega
  have hl4S : 4 ≤ S.size := by omega
  have hd : decide ((8192 : Int) < (S.size : Int)) = false := decide_eq_false (by omega)
  have hi0 : 0 < S.size := by omega
  have hi2 : 2 < S.size := by omega
  have a0 := hat 0 hi0
  have a2 := hat 2 hi2
  rw [hx0] at a0
  rw [hx2] at a2
  have b0 : ((S[0]'hi0).toNat : Int) = 48 + (k : Int) := by rw [← Option.some.inj a0, e0]; simp
  have b2 : ((S[2]'hi2).toNat : Int) = 48 + (r : Int) := by rw [← Option.some.inj a2, e2]; simp
  rw [hh] at hhd
  have q1 : (48 : Int) + (k : Int) - 48 = (k : Int) := by omega
  have q2 : (48 : Int) + (r : Int) - 48 = (r : Int) := by omega
  obtain ⟨L, hL⟩ : ∃ L, k ^ (2 * r + 1) = L := ⟨_, rfl⟩
  have hsize := fun (wz : World) => size_ok wz k r k1 k4 r3
  rw [hL] at hsize hs hv
  have HSZ := Lib.hid hsize
  have HL := Lib.hid hL
  have HHD := Lib.hid hhd
  have HSS := Lib.hid hsz
  have HEX := Lib.hid (by rw [← hsz] at hex; exact hex : S.extract 4 S.size = ⟨(l.drop 4).toArray⟩)
  have HK := Lib.hid hk
  have HRR := Lib.hid hr
  have dL : decide ((256 : Int) < (L : Int)) = false := decide_eq_false (by omega)
  have HP4 := Lib.hid hp
  have HV4 := Lib.hid hv
  clear hL hsize hhd hex hS hat a0 a2 e0 e2 hx0 hx2 hh hsz hl hl4 hl2 hk hr hp hv
  clear hE hb0 hr0
  go_enter Tryz.func7, Tryz.ntmps7
  go_wp2_with fail
  refine (HHD.out _).mono ?_
  rintro e w1 ⟨rfl, hb1⟩
  have hr1 := HR0.out.below hb1 (by simp)
  go_wp2_with fail
  go_quiet (fail)
  go_wp2_with fail
  refine (HSZ.out _).mono ?_
  rintro e w' ⟨rfl, rfl⟩
  have hbW := below_drewN (below_box hb1) nq
  have hrW : RuleAt (w1.drewN nq) w.heap.size (.int .i64 0) (.int .i64 0) (.slice none 0 0) := hr1
  clear hb1 hr1
  go_wp2_with fail
  rw [HEX.out]
  have hpc := parse_c (w1.drewN nq) E (HE.out _ hbW) (l.drop 4)
  unfold ParsePost at hpc
  rw [HP4.out] at hpc
  have HPC := Lib.hid hpc
  clear hpc
  refine (HPC.out).mono ?_
  rintro e w2 ⟨A2, c2, rfl, ho2, hb2⟩
  have hb2' := hbW.trans (hb2.mono hbW.size)
  have hr2 := hrW.below hb2 hrW.lt
  have hlen : (limbs v).length ≤ 1000000000 := by
    have := (parse_small HP4.out)
    omega
  have hfr := ruleFrom_c w2 E (HE.out _ hb2') k r (num_own ho2) hlen
  have hfn : fromN k r v = .error (3, [(sRule, 1)]) := by
    unfold fromN
    simp only [Int.toNat_natCast]
    rw [if_neg (by omega), HL.out, if_neg (by omega), if_pos HV4.out]
  rw [hfn] at hfr
  have HFR := Lib.hid hfr
  clear hfr hfn ho2 hb2 hbW hrW
  go_wp2_with fail
  refine (HFR.out).mono ?_
  rintro e w3 ⟨v3, rfl, he3, hb3⟩
  obtain ⟨u, q, rfl⟩ := he3.iface
  have hb3' := (hb2'.trans (hb3.mono hb2'.size)).alloc (Nat.le_trans hb2'.size hb3.size) (.cells #[.int .i64 0, .int .i64 0, .slice none 0 0] 24)
  have hrW := (hr2.below hb3 hr2.lt).alloc (.cells #[.int .i64 0, .int .i64 0, .slice none 0 0] 24)
  obtain ⟨w4, hw4⟩ : ∃ w4, w3.alloc (.cells #[.int .i64 0, .int .i64 0, .slice none 0 0] 24) = w4 := ⟨_, rfl⟩
  have HW4 := Lib.hid hw4
  rw [hw4] at hb3' hrW
  clear he3 hb3 hb2' hr2 hw4
  unfold ruleV
  go_wp2_with fail
  rw [HW4.out]
  refine (ruleWrong_c w4 E (HE.out _ hb3') 4 3 (by decide) (by decide)).mono ?_
  rintro e wz ⟨rfl, hez, hbw⟩
  have hrz := hrW.below hbw hrW.lt
  have hbz := hb3'.trans (hbw.mono hb3'.size)
  clear hbw hrW
  obtain ⟨c0, c1, c2, f0, f1, f2⟩ := hrz.facts
  have HP := Lib.hid (ErrIs.set3 hez hrz (.int .i64 0) (.int .i64 0) (.slice none 0 0))
  have HB := Lib.hid (below_set3 hbz (Nat.le_refl _) (.int .i64 0) (.int .i64 0) (.slice none 0 0))
  clear hez hrz hbz
  unfold errV at *
  go_wp2_with fail
  exact bodyPost_ret (v := .tuple #[.agg #[.int .i64 0, .int .i64 0, .slice none 0 0], .iface 70 (.pointer (some ⟨w4.heap.size, 0, none⟩))]) (by simp [results, Tryz.results7, go_sem, c0, c1, c2]) rfl ⟨_, rfl, HP.out, HB.out⟩


theorem ruleParse_c (w : World) (E : Nat → Addr) (hE : Errs w E) (l : List UInt8) :
    Calls Tryz.prog 7 #[.string ⟨l.toArray⟩] w fun e w' => ParseRule w E (parseT l) e w' := by
  unfold parseT
  by_cases h1 : 8192 < l.length
  · rw [if_pos h1]; exact rparse_long w E hE l h1
  rw [if_neg h1]
  by_cases h2 : headN l < 4
  · rw [if_pos h2]; exact rparse_head w E hE l (by omega) h2
  rw [if_neg h2]
  by_cases h3 : 256 < headK l ^ (2 * headR l + 1)
  · rw [if_pos h3]; exact rparse_big w E hE l (by omega) h2 h3
  rw [if_neg h3]
  cases hp : parseN (l.drop 4) with
  | error p => exact rparse_nat w E hE l (by omega) h2 (by omega) p hp
  | ok v =>
    simp only
    by_cases h4 : 0 < v / headK l ^ headK l ^ (2 * headR l + 1)
    · rw [if_pos h4]; exact rparse_from w E hE l (by omega) h2 (by omega) v hp h4
    · rw [if_neg h4]
      obtain ⟨hh, h0, hr2, k1, k4, r3, _, _⟩ := head_four h2
      exact parse_ok w E hE l (headK l) (headR l) v (by omega) hh h0 hr2 k1 k4 r3 (by omega) hp (Nat.eq_zero_of_not_pos h4)
end Go.Proofs.YtfgjcdfmlpdkaaaGreatDoor

namespace Go.Proofs.YtfgjcdfmlpdkaaaGreatDoor
open Go.RowKit RuleP NatP

/-- The rule read from a text; nothing where it is none. -/
def parseV (l : List UInt8) : Int × Int × List Nat := match parseT l with
  | .ok t => ((t.1 : Int), (t.2.1 : Int), t.2.2)
  | .error _ => (0, 0, [])
theorem parseV_err {l : List UInt8} {t : Tale} (h : parseT l = .error t) : parseV l = (0, 0, []) := by unfold parseV; rw [h]
theorem parseV_ok {l : List UInt8} {t : Nat × Nat × List Nat} (h : parseT l = .ok t) : parseV l = ((t.1 : Int), (t.2.1 : Int), t.2.2) := by unfold parseV; rw [h]
/-- The answer of edenref04.Parse. -/
def ParseRef4 (w : World) (l : List UInt8) (e : Ending) (w' : World) : Prop :=
  ∃ (C : Option Addr) (cc N : Nat) (A1 : Option Addr) (n1 c1 : Nat) (A2 : Option Addr) (n2 c2 : Nat), e = .returned (.tuple #[ruleV (parseV l).1 (parseV l).2.1 C (parseV l).2.2.length cc, .agg #[.int .i64 (N : Int), .slice A1 n1 c1, .slice A2 n2 c2]]) ∧
    w'.ownsRow w.heap.size 3 1 (.slice C (parseV l).2.2.length cc) (parseV l).2.2.length ((ints (parseV l).2.2).map (Value.int .i64)) ∧ WantB w' w.heap.size (wantOf (parseT l)) (.agg #[.int .i64 (N : Int), .slice A1 n1 c1, .slice A2 n2 c2]) ∧ Below w.heap.size w w'
theorem ParseRef4.err {w w' : World} {l : List UInt8} {N : Nat} {tl : Tale} {A1 A2 : Option Addr} {n1 c1 n2 c2 : Nat} (h : parseT l = .error tl) (hu : WantB w' w.heap.size (some tl) (.agg #[.int .i64 (N : Int), .slice A1 n1 c1, .slice A2 n2 c2])) (hb : Below w.heap.size w w') :
    ParseRef4 w l (.returned (.tuple #[.agg #[.int .i64 0, .int .i64 0, .slice none 0 0], .agg #[.int .i64 (N : Int), .slice A1 n1 c1, .slice A2 n2 c2]])) w' := by
  refine ⟨none, 0, N, A1, n1, c1, A2, n2, c2, by rw [parseV_err h]; rfl, by rw [parseV_err h]; exact ⟨rfl, .inl ⟨rfl, rfl⟩⟩, by rw [h]; exact hu, hb⟩
/-- An error stored in the results, no rule beside it. -/
theorem two_boxed {w w0 w1 : World} {t : Option Tale} {N : Nat} {A1 A2 : Option Addr} {n1 c1 n2 c2 : Nat} (hu : WantB w1 w0.heap.size t (.agg #[.int .i64 (N : Int), .slice A1 n1 c1, .slice A2 n2 c2])) (hg : w.heap.size + 1 < w0.heap.size) (hb : Below w.heap.size w w1) :
    WantB ((((((w1.setCell ⟨w.heap.size, 0, none⟩ (.int .i64 0)).setCell ⟨w.heap.size, 1, none⟩ (.int .i64 0)).setCell ⟨w.heap.size, 2, none⟩ (.slice none 0 0)).setCell ⟨w.heap.size + 1, 0, none⟩ (.int .i64 (N : Int))).setCell ⟨w.heap.size + 1, 1, none⟩ (.slice A1 n1 c1)).setCell ⟨w.heap.size + 1, 2, none⟩ (.slice A2 n2 c2)) w.heap.size t (.agg #[.int .i64 (N : Int), .slice A1 n1 c1, .slice A2 n2 c2]) ∧
      Below w.heap.size w ((((((w1.setCell ⟨w.heap.size, 0, none⟩ (.int .i64 0)).setCell ⟨w.heap.size, 1, none⟩ (.int .i64 0)).setCell ⟨w.heap.size, 2, none⟩ (.slice none 0 0)).setCell ⟨w.heap.size + 1, 0, none⟩ (.int .i64 (N : Int))).setCell ⟨w.heap.size + 1, 1, none⟩ (.slice A1 n1 c1)).setCell ⟨w.heap.size + 1, 2, none⟩ (.slice A2 n2 c2)) :=
  ⟨((hu.set3 (g := w.heap.size) (by omega) _ _ _).set3 (g := w.heap.size + 1) (by omega) _ _ _).base (by omega), below_set3 (below_set3 hb (Nat.le_refl _) _ _ _) (Nat.le_succ _) _ _ _⟩

/-- The bounds of the head's bytes. -/
def lowN (i : Nat) : Nat := [49, 46, 48, 46].getD i 0
def highN (i : Nat) : Nat := [52, 46, 51, 46].getD i 0
theorem lowN_at (i : Nat) (h : i < ({ data := #[49, 46, 48, 46] } : ByteArray).size) : ((({ data := #[49, 46, 48, 46] } : ByteArray))[i]'h).toNat = lowN i := by
  have h4 : i < 4 := h
  match i, h4 with
  | 0, _ => rfl
  | 1, _ => rfl
  | 2, _ => rfl
  | 3, _ => rfl
theorem highN_at (i : Nat) (h : i < ({ data := #[52, 46, 51, 46] } : ByteArray).size) : ((({ data := #[52, 46, 51, 46] } : ByteArray))[i]'h).toNat = highN i := by
  have h4 : i < 4 := h
  match i, h4 with
  | 0, _ => rfl
  | 1, _ => rfl
  | 2, _ => rfl
  | 3, _ => rfl

-- GENERATED
theorem okAt_set {l : List UInt8} {i lo hi : Nat} {b : UInt8} (h : l[i]? = some b) : okAt l i lo hi = decide (lo ≤ b.toNat ∧ b.toNat ≤ hi) := by unfold okAt; rw [h]
theorem head_at {l : List UInt8} {i : Nat} (hi : i < 4) (hp : ∀ j, j < i → okAt l j (lowN j) (highN j) = true) (hb : okAt l i (lowN i) (highN i) = false) : headN l = i := by
  have e0 : lowN 0 = 49 ∧ highN 0 = 52 ∧ lowN 1 = 46 ∧ highN 1 = 46 ∧ lowN 2 = 48 ∧ highN 2 = 51 ∧ lowN 3 = 46 ∧ highN 3 = 46 := ⟨rfl, rfl, rfl, rfl, rfl, rfl, rfl, rfl⟩
  obtain ⟨a0, b0, a1, b1, a2, b2, a3, b3⟩ := e0
  unfold headN
  match i, hi with
  | 0, _ => rw [a0, b0] at hb; rw [if_pos hb]
  | 1, _ =>
    have h0 := hp 0 (by decide)
    rw [a0, b0] at h0
    rw [a1, b1] at hb
    rw [if_neg (by rw [h0]; decide), if_pos hb]
  | 2, _ =>
    have h0 := hp 0 (by decide)
    have h1 := hp 1 (by decide)
    rw [a0, b0] at h0
    rw [a1, b1] at h1
    rw [a2, b2] at hb
    rw [if_neg (by rw [h0]; decide), if_neg (by rw [h1]; decide), if_pos hb]
  | 3, _ =>
    have h0 := hp 0 (by decide)
    have h1 := hp 1 (by decide)
    have h2 := hp 2 (by decide)
    rw [a0, b0] at h0
    rw [a1, b1] at h1
    rw [a2, b2] at h2
    rw [a3, b3] at hb
    rw [if_neg (by rw [h0]; decide), if_neg (by rw [h1]; decide), if_neg (by rw [h2]; decide), if_pos hb]
theorem head_ok {l : List UInt8} (h : headN l < 4) (hp : ∀ j, j < 4 → okAt l j (lowN j) (highN j) = true) : False := by
  have h0 := hp 0 (by decide)
  have h1 := hp 1 (by decide)
  have h2 := hp 2 (by decide)
  have h3 := hp 3 (by decide)
  have a0 : lowN 0 = 49 ∧ highN 0 = 52 ∧ lowN 1 = 46 ∧ highN 1 = 46 ∧ lowN 2 = 48 ∧ highN 2 = 51 ∧ lowN 3 = 46 ∧ highN 3 = 46 := ⟨rfl, rfl, rfl, rfl, rfl, rfl, rfl, rfl⟩
  obtain ⟨a0, b0, a1, b1, a2, b2, a3, b3⟩ := a0
  rw [a0, b0] at h0
  rw [a1, b1] at h1
  rw [a2, b2] at h2
  rw [a3, b3] at h3
  unfold headN at h
  rw [if_neg (by rw [h0]; decide), if_neg (by rw [h1]; decide), if_neg (by rw [h2]; decide), if_neg (by rw [h3]; decide)] at h
  exact absurd h (Nat.lt_irrefl _)
theorem head_all {l : List UInt8} (h : ¬ headN l < 4) : ∀ j, j < 4 → okAt l j (lowN j) (highN j) = true := by
  intro j
  induction j using Nat.strongRecOn with
  | _ j ih =>
    intro hj
    cases hb : okAt l j (lowN j) (highN j) with
    | true => rfl
    | false => exact absurd (by rw [head_at hj (fun q hq => ih q hq (by omega)) hb]; exact hj) h
theorem refParse_c (w : World) (l : List UInt8) : Calls Tryz.prog 27 #[.string ⟨l.toArray⟩] w fun e w' => ParseRef w l e w' := by
  by_cases h1 : 1200 < l.length
  · exact refParse_big w l h1
  · by_cases h2 : l = []
    · subst h2; exact refParse_none w
    · exact refParse_mid w l h1 h2
theorem pTale_ok (l : List UInt8) : TaleOk (pTale l) := by
  intro x hx
  unfold pTale at hx
  cases hp : parseN l with
  | ok v => rw [hp] at hx; cases hx
  | error p =>
    rw [hp] at hx
    cases hx
    unfold parseN at hp
    split at hp
    · cases hp; exact ⟨by simp, by simp⟩
    split at hp
    · cases hp; exact ⟨by simp, by simp⟩
    split at hp
    · cases hp; exact ⟨by simp, by simp⟩
    · split at hp
      · cases hp; exact ⟨by simp, by simp⟩
      · cases hp


set_option maxRecDepth 100000 in
set_option maxHeartbeats 4000000 in
theorem rp4_long (w : World) (l : List UInt8) (hl : 8192 < l.length) :
    Calls Tryz.prog 8 #[.string ⟨l.toArray⟩] w fun e w' => ParseRef4 w l e w' := by
  have hr0 := (RuleAt.new w (.int .i64 0) (.int .i64 0) (.slice none 0 0)).alloc (.cells #[.int .i64 0, .slice none 0 0, .slice none 0 0] 32)
  have hw0 := WantAt.new (w.alloc (.cells #[.int .i64 0, .int .i64 0, .slice none 0 0] 24)) (.int .i64 0) (.slice none 0 0) (.slice none 0 0)
  rw [World.size_alloc] at hw0
  have hb0 := ((Below.refl w.heap.size w).alloc (Nat.le_refl _) (.cells #[.int .i64 0, .int .i64 0, .slice none 0 0] 24)).alloc (by simp) (.cells #[.int .i64 0, .slice none 0 0, .slice none 0 0] 32)
  obtain ⟨wx, hwx⟩ : ∃ wx, (w.alloc (.cells #[.int .i64 0, .int .i64 0, .slice none 0 0] 24)).alloc (.cells #[.int .i64 0, .slice none 0 0, .slice none 0 0] 32) = wx := ⟨_, rfl⟩
  have hsx : wx.heap.size = w.heap.size + 2 := by rw [← hwx]; simp
  have HWX := Lib.hid hwx
  rw [hwx] at hr0 hw0 hb0
  have HW0 := Lib.hid hw0
  have HB0 := Lib.hid hb0
  have HR0 := Lib.hid hr0
  have hsz : (⟨l.toArray⟩ : ByteArray).size = l.length := Lib.size_mk l
  have hat : ∀ (k : Nat) (hk : k < (⟨l.toArray⟩ : ByteArray).size), l[k]? = some ((⟨l.toArray⟩ : ByteArray)[k]'hk) := fun k hk => (Lib.getElem_mk l k hk).symm ▸ rfl
  have hex := extract_drop l 4
  generalize hS : (⟨l.toArray⟩ : ByteArray) = S at *
  have hlS : 8192 < S.size := by omega
  have hd : decide ((8192 : Int) < (S.size : Int)) = true := decide_eq_true (by omega)
  have HTL := Lib.hid (show parseT l = .error (4, [(sRule, 0)]) by unfold parseT; rw [if_pos hl])
  clear hr0 hw0 hb0 hwx hS hsz hl hat hex
  go_enter Tryz.func8, Tryz.ntmps8
  go_wp2_with fail
  rw [HWX.out]
  have hbxx := Below.refl wx.heap.size wx
  refine (newB_c wx sRule 0 4).mono ?_
  rintro e w9 ⟨A1, n1, c1, A2, n2, c2, rfl, hu, hb9⟩
  have hbx9 := hbxx.trans (hb9.mono hbxx.size)
  obtain ⟨d0, d1, d2, f0, f1, f2⟩ := (HW0.out.below hbx9 (by omega)).facts
  obtain ⟨r0, r1, r2, q3, q4, q5⟩ := (HR0.out.below hbx9 (by omega)).facts
  have hsz9 := hbxx.size
  obtain ⟨hwb, hbb⟩ := two_boxed (w := w) hu (by first | omega | (simp; omega)) (HB0.out.trans (hbx9.mono HB0.out.size))
  have HWB := Lib.hid hwb
  have HBB := Lib.hid hbb
  clear hu hb9 hbx9 hwb hbb
  go_wp2_with fail
  exact bodyPost_ret (v := .tuple #[.agg #[.int .i64 0, .int .i64 0, .slice none 0 0], .agg #[.int .i64 4, .slice A1 n1 c1, .slice A2 n2 c2]]) (by simp [results, Tryz.results8, go_sem, d0, d1, d2, r0, r1, r2]) rfl (ParseRef4.err HTL.out HWB.out HBB.out)


set_option maxRecDepth 100000 in
set_option maxHeartbeats 4000000 in
theorem rp4_head (w : World) (l : List UInt8) (hl : l.length ≤ 8192) (hh : headN l < 4) :
    Calls Tryz.prog 8 #[.string ⟨l.toArray⟩] w fun e w' => ParseRef4 w l e w' := by
  have hr0 := (RuleAt.new w (.int .i64 0) (.int .i64 0) (.slice none 0 0)).alloc (.cells #[.int .i64 0, .slice none 0 0, .slice none 0 0] 32)
  have hw0 := WantAt.new (w.alloc (.cells #[.int .i64 0, .int .i64 0, .slice none 0 0] 24)) (.int .i64 0) (.slice none 0 0) (.slice none 0 0)
  rw [World.size_alloc] at hw0
  have hb0 := ((Below.refl w.heap.size w).alloc (Nat.le_refl _) (.cells #[.int .i64 0, .int .i64 0, .slice none 0 0] 24)).alloc (by simp) (.cells #[.int .i64 0, .slice none 0 0, .slice none 0 0] 32)
  obtain ⟨wx, hwx⟩ : ∃ wx, (w.alloc (.cells #[.int .i64 0, .int .i64 0, .slice none 0 0] 24)).alloc (.cells #[.int .i64 0, .slice none 0 0, .slice none 0 0] 32) = wx := ⟨_, rfl⟩
  have hsx : wx.heap.size = w.heap.size + 2 := by rw [← hwx]; simp
  have HWX := Lib.hid hwx
  rw [hwx] at hr0 hw0 hb0
  have HW0 := Lib.hid hw0
  have HB0 := Lib.hid hb0
  have HR0 := Lib.hid hr0
  have hsz : (⟨l.toArray⟩ : ByteArray).size = l.length := Lib.size_mk l
  have hat : ∀ (k : Nat) (hk : k < (⟨l.toArray⟩ : ByteArray).size), l[k]? = some ((⟨l.toArray⟩ : ByteArray)[k]'hk) := fun k hk => (Lib.getElem_mk l k hk).symm ▸ rfl
  have hex := extract_drop l 4
  generalize hS : (⟨l.toArray⟩ : ByteArray) = S at *
  have hlS : S.size ≤ 8192 := by omega
  have hd : decide ((8192 : Int) < (S.size : Int)) = false := decide_eq_false (by omega)
  have HAT := Lib.hid hat
  have HSZ := Lib.hid hsz
  have HEX := Lib.hid (by rw [← hsz] at hex; exact hex : S.extract 4 S.size = ⟨(l.drop 4).toArray⟩)
  have HH := Lib.hid hh
  have HTT := Lib.hid (fun (i : Nat) (h : headN l = i) => (show parseT l = .error (6, [(sRule, (i : Int))]) by unfold parseT; rw [if_neg (by omega), if_pos (by omega), h]))
  clear hr0 hw0 hb0 hwx hS hsz hl hat hex hh
  go_enter Tryz.func8, Tryz.ntmps8
  go_wp2_with fail
  rw [HWX.out]
  go_loopw [6] (fun iv wr => ∃ (i : Nat), i ≤ 4 ∧ iv = .int .i64 (i : Int) ∧ Hid (Below wx.heap.size wx wr) ∧ Hid (∀ j, j < i → okAt l j (lowN j) (highN j) = true)) (fun iv _ => 4 - (intOf iv).toNat)
  case atStart => exact ⟨0, by omega, rfl, Lib.hid (Below.refl _ _), Lib.hid (fun j hj => absurd hj (Nat.not_lt_zero _))⟩
  case round =>
    obtain ⟨i, hi, rfl, hbx, hpr⟩ := hrel
    by_cases hi4 : i < 4
    · cases hok : okAt l i (lowN i) (highN i) with
      | true =>
        have h2 : i < S.size := by
          have h3 := okAt_lt hok
          have h4 := HSZ.out
          omega
        have h1n : decide (S.size ≤ i) = false := decide_eq_false (by omega)
        have h1' : decide ((S.size : Int) ≤ (i : Int)) = false := decide_eq_false (by omega)
        have h2i : (i : Int) < (S.size : Int) := by omega
        have h2z : (0 : Int) ≤ (i : Int) := by omega
        have h24 : (i : Int) < 4 := by omega
        have hLO : ∀ h, ((({ data := #[49, 46, 48, 46] } : ByteArray))[i]'h).toNat = lowN i := fun h => lowN_at i h
        have hHI : ∀ h, ((({ data := #[52, 46, 51, 46] } : ByteArray))[i]'h).toNat = highN i := fun h => highN_at i h
        have hk := hok
        rw [okAt_set (HAT.out i h2)] at hk
        have hk' := of_decide_eq_true hk
        have hlo2 : decide ((S[i]'h2).toNat < lowN i) = false := decide_eq_false (by omega)
        have hhi2 : decide (highN i < (S[i]'h2).toNat) = false := decide_eq_false (by omega)
        have HPR : Hid (∀ j, j < i + 1 → okAt l j (lowN j) (highN j) = true) := Lib.hid (fun j hj => by
          rcases Nat.lt_or_ge j i with h | h
          · exact hpr.out j h
          · obtain rfl : j = i := by omega
            exact hok)
        clear hk hk' hok hpr
        go_wp2_with fail
        go_quiet (fail)
        go_wp2_with fail
        exact ⟨⟨i + 1, by omega, by go_num, Lib.hid (below_drewN hbx.out _), HPR⟩, by simp [intOf]; omega⟩
      | false =>
        have HTL := Lib.hid (HTT.out i (head_at hi4 hpr.out hok))
        by_cases h1 : S.size ≤ i
        · have h1' : decide ((S.size : Int) ≤ (i : Int)) = true := decide_eq_true (by omega)
          have h1n : decide (S.size ≤ i) = true := decide_eq_true h1
          clear hok hpr
          go_wp2_with fail
          go_quiet (fail)
          go_wp2_with fail
          have hbxq := below_drewN hbx.out nq
          refine (newB_c _ sRule (i : Int) 6).mono ?_
          rintro e w9 ⟨A1, n1, c1, A2, n2, c2, rfl, hu, hb9⟩
          have hbx9 := hbxq.trans (hb9.mono hbxq.size)
          obtain ⟨d0, d1, d2, f0, f1, f2⟩ := (HW0.out.below hbx9 (by omega)).facts
          obtain ⟨r0, r1, r2, q3, q4, q5⟩ := (HR0.out.below hbx9 (by omega)).facts
          have hsz9 := hbxq.size
          obtain ⟨hwb, hbb⟩ := two_boxed (w := w) hu (by first | omega | (simp; omega)) (HB0.out.trans (hbx9.mono HB0.out.size))
          have HWB := Lib.hid hwb
          have HBB := Lib.hid hbb
          clear hu hb9 hbx9 hwb hbb
          go_wp2_with fail
          exact bodyPost_ret (v := .tuple #[.agg #[.int .i64 0, .int .i64 0, .slice none 0 0], .agg #[.int .i64 6, .slice A1 n1 c1, .slice A2 n2 c2]]) (by simp [results, Tryz.results8, go_sem, d0, d1, d2, r0, r1, r2]) rfl (ParseRef4.err HTL.out HWB.out HBB.out)
        · have h2 : i < S.size := by omega
          have h1n : decide (S.size ≤ i) = false := decide_eq_false (by omega)
          have h1' : decide ((S.size : Int) ≤ (i : Int)) = false := decide_eq_false (by omega)
          have h2i : (i : Int) < (S.size : Int) := by omega
          have h2z : (0 : Int) ≤ (i : Int) := by omega
          have h24 : (i : Int) < 4 := by omega
          have hLO : ∀ h, ((({ data := #[49, 46, 48, 46] } : ByteArray))[i]'h).toNat = lowN i := fun h => lowN_at i h
          have hHI : ∀ h, ((({ data := #[52, 46, 51, 46] } : ByteArray))[i]'h).toNat = highN i := fun h => highN_at i h
          have hk := hok
          rw [okAt_set (HAT.out i h2)] at hk
          have hk' := of_decide_eq_false hk
          by_cases hlo : (S[i]'h2).toNat < lowN i
          · have hlo2 : decide ((S[i]'h2).toNat < lowN i) = true := decide_eq_true hlo
            clear hok hpr hk hk'
            go_wp2_with fail
            go_quiet (fail)
            go_wp2_with fail
            have hbxq := below_drewN hbx.out nq
            refine (newB_c _ sRule (i : Int) 6).mono ?_
            rintro e w9 ⟨A1, n1, c1, A2, n2, c2, rfl, hu, hb9⟩
            have hbx9 := hbxq.trans (hb9.mono hbxq.size)
            obtain ⟨d0, d1, d2, f0, f1, f2⟩ := (HW0.out.below hbx9 (by omega)).facts
            obtain ⟨r0, r1, r2, q3, q4, q5⟩ := (HR0.out.below hbx9 (by omega)).facts
            have hsz9 := hbxq.size
            obtain ⟨hwb, hbb⟩ := two_boxed (w := w) hu (by first | omega | (simp; omega)) (HB0.out.trans (hbx9.mono HB0.out.size))
            have HWB := Lib.hid hwb
            have HBB := Lib.hid hbb
            clear hu hb9 hbx9 hwb hbb
            go_wp2_with fail
            exact bodyPost_ret (v := .tuple #[.agg #[.int .i64 0, .int .i64 0, .slice none 0 0], .agg #[.int .i64 6, .slice A1 n1 c1, .slice A2 n2 c2]]) (by simp [results, Tryz.results8, go_sem, d0, d1, d2, r0, r1, r2]) rfl (ParseRef4.err HTL.out HWB.out HBB.out)
          · have hlo2 : decide ((S[i]'h2).toNat < lowN i) = false := decide_eq_false hlo
            have hhi : highN i < (S[i]'h2).toNat := by omega
            have hhi2 : decide (highN i < (S[i]'h2).toNat) = true := decide_eq_true hhi
            clear hok hpr hk hk'
            go_wp2_with fail
            go_quiet (fail)
            go_wp2_with fail
            have hbxq := below_drewN hbx.out nq
            refine (newB_c _ sRule (i : Int) 6).mono ?_
            rintro e w9 ⟨A1, n1, c1, A2, n2, c2, rfl, hu, hb9⟩
            have hbx9 := hbxq.trans (hb9.mono hbxq.size)
            obtain ⟨d0, d1, d2, f0, f1, f2⟩ := (HW0.out.below hbx9 (by omega)).facts
            obtain ⟨r0, r1, r2, q3, q4, q5⟩ := (HR0.out.below hbx9 (by omega)).facts
            have hsz9 := hbxq.size
            obtain ⟨hwb, hbb⟩ := two_boxed (w := w) hu (by first | omega | (simp; omega)) (HB0.out.trans (hbx9.mono HB0.out.size))
            have HWB := Lib.hid hwb
            have HBB := Lib.hid hbb
            clear hu hb9 hbx9 hwb hbb
            go_wp2_with fail
            exact bodyPost_ret (v := .tuple #[.agg #[.int .i64 0, .int .i64 0, .slice none 0 0], .agg #[.int .i64 6, .slice A1 n1 c1, .slice A2 n2 c2]]) (by simp [results, Tryz.results8, go_sem, d0, d1, d2, r0, r1, r2]) rfl (ParseRef4.err HTL.out HWB.out HBB.out)
    · obtain rfl : i = 4 := by omega
      exact absurd HH.out (fun h => head_ok h hpr.out)


set_option maxRecDepth 100000 in
set_option maxHeartbeats 4000000 in
theorem rp4_big (w : World) (l : List UInt8) (hl : l.length ≤ 8192) (hh : ¬ headN l < 4) (hs : 256 < headK l ^ (2 * headR l + 1)) :
    Calls Tryz.prog 8 #[.string ⟨l.toArray⟩] w fun e w' => ParseRef4 w l e w' := by
  have hr0 := (RuleAt.new w (.int .i64 0) (.int .i64 0) (.slice none 0 0)).alloc (.cells #[.int .i64 0, .slice none 0 0, .slice none 0 0] 32)
  have hw0 := WantAt.new (w.alloc (.cells #[.int .i64 0, .int .i64 0, .slice none 0 0] 24)) (.int .i64 0) (.slice none 0 0) (.slice none 0 0)
  rw [World.size_alloc] at hw0
  have hb0 := ((Below.refl w.heap.size w).alloc (Nat.le_refl _) (.cells #[.int .i64 0, .int .i64 0, .slice none 0 0] 24)).alloc (by simp) (.cells #[.int .i64 0, .slice none 0 0, .slice none 0 0] 32)
  obtain ⟨wx, hwx⟩ : ∃ wx, (w.alloc (.cells #[.int .i64 0, .int .i64 0, .slice none 0 0] 24)).alloc (.cells #[.int .i64 0, .slice none 0 0, .slice none 0 0] 32) = wx := ⟨_, rfl⟩
  have hsx : wx.heap.size = w.heap.size + 2 := by rw [← hwx]; simp
  have HWX := Lib.hid hwx
  rw [hwx] at hr0 hw0 hb0
  have HW0 := Lib.hid hw0
  have HB0 := Lib.hid hb0
  have HR0 := Lib.hid hr0
  have hsz : (⟨l.toArray⟩ : ByteArray).size = l.length := Lib.size_mk l
  have hat : ∀ (k : Nat) (hk : k < (⟨l.toArray⟩ : ByteArray).size), l[k]? = some ((⟨l.toArray⟩ : ByteArray)[k]'hk) := fun k hk => (Lib.getElem_mk l k hk).symm ▸ rfl
  have hex := extract_drop l 4
  have HTL := Lib.hid (show parseT l = .error (4, [(sRule, 0)]) by unfold parseT; rw [if_neg (by omega), if_neg hh, if_pos hs])
  obtain ⟨hh4, ⟨x0, hx0, e0⟩, ⟨x2, hx2, e2⟩, k1, k4, r3, _, _⟩ := head_four hh
  have HALL := Lib.hid (head_all hh)
  obtain ⟨k, hk⟩ : ∃ k, headK l = k := ⟨_, rfl⟩
  obtain ⟨r, hr⟩ : ∃ r, headR l = r := ⟨_, rfl⟩
  rw [hk, hr] at hs
  rw [hk] at e0 k1 k4
  rw [hr] at e2 r3
  have hl4 := head_len hh4
  generalize hS : (⟨l.toArray⟩ : ByteArray) = S at *
  have hlS : S.size ≤ 8192 := by omega
  have hd : decide ((8192 : Int) < (S.size : Int)) = false := decide_eq_false (by omega)
  have HAT := Lib.hid hat
  have HSZ := Lib.hid hsz
  have HEX := Lib.hid (by rw [← hsz] at hex; exact hex : S.extract 4 S.size = ⟨(l.drop 4).toArray⟩)
  have hi0 : 0 < S.size := by omega
  have hi2 : 2 < S.size := by omega
  have hl4S : 4 ≤ S.size := by omega
  have a0 := hat 0 hi0
  have a2 := hat 2 hi2
  rw [hx0] at a0
  rw [hx2] at a2
  have b0 : ((S[0]'hi0).toNat : Int) = 48 + (k : Int) := by rw [← Option.some.inj a0, e0]; simp
  have b2 : ((S[2]'hi2).toNat : Int) = 48 + (r : Int) := by rw [← Option.some.inj a2, e2]; simp
  have q1 : (48 : Int) + (k : Int) - 48 = (k : Int) := by omega
  have q2 : (48 : Int) + (r : Int) - 48 = (r : Int) := by omega
  have HSIZ0 := Lib.hid (fun (wz : World) => refSize_ok wz k r k1 k4 r3)
  obtain ⟨L, hL⟩ : ∃ L, k ^ (2 * r + 1) = L := ⟨_, rfl⟩
  rw [hL] at HSIZ0 hs
  have HL := Lib.hid hL
  have HKK := Lib.hid hk
  have HRR := Lib.hid hr
  have dL : decide ((256 : Int) < (L : Int)) = true := decide_eq_true (by omega)
  have dL2 : 256 < L := by omega
  clear hr0 hw0 hb0 hwx hS hsz hl hat hex hh hh4 a0 a2 e0 e2 hx0 hx2 hL hk hr hl4
  go_enter Tryz.func8, Tryz.ntmps8
  go_wp2_with fail
  rw [HWX.out]
  go_loopw [6] (fun iv wr => ∃ (i : Nat), i ≤ 4 ∧ iv = .int .i64 (i : Int) ∧ Hid (Below wx.heap.size wx wr)) (fun iv _ => 4 - (intOf iv).toNat)
  case atStart => exact ⟨0, by omega, rfl, Lib.hid (Below.refl _ _)⟩
  case round =>
    obtain ⟨i, hi, rfl, hbx⟩ := hrel
    by_cases hi4 : i < 4
    · have hok := HALL.out i hi4
      have h2 : i < S.size := by
        have h3 := okAt_lt hok
        have h4 := HSZ.out
        omega
      have h1n : decide (S.size ≤ i) = false := decide_eq_false (by omega)
      have h1' : decide ((S.size : Int) ≤ (i : Int)) = false := decide_eq_false (by omega)
      have h2i : (i : Int) < (S.size : Int) := by omega
      have h2z : (0 : Int) ≤ (i : Int) := by omega
      have h24 : (i : Int) < 4 := by omega
      have hLO : ∀ h, ((({ data := #[49, 46, 48, 46] } : ByteArray))[i]'h).toNat = lowN i := fun h => lowN_at i h
      have hHI : ∀ h, ((({ data := #[52, 46, 51, 46] } : ByteArray))[i]'h).toNat = highN i := fun h => highN_at i h
      have hk := hok
      rw [okAt_set (HAT.out i h2)] at hk
      have hk' := of_decide_eq_true hk
      have hlo2 : decide ((S[i]'h2).toNat < lowN i) = false := decide_eq_false (by omega)
      have hhi2 : decide (highN i < (S[i]'h2).toNat) = false := decide_eq_false (by omega)
      clear hk hk' hok b0 b2
      go_wp2_with fail
      go_quiet (fail)
      go_wp2_with fail
      exact ⟨⟨i + 1, by omega, by go_num, Lib.hid (below_drewN hbx.out _)⟩, by simp [intOf]; omega⟩
    · obtain rfl : i = 4 := by omega
      go_wp2_with fail
      refine (HSIZ0.out _).mono ?_
      rintro e w1 ⟨rfl, hb1⟩
      have hbx1 := hbx.out.trans (hb1.mono hbx.out.size)
      have hbx2 := hbx1.alloc hbx1.size (.cells #[.int .i64 0, .slice none 0 0, .slice none 0 0] 32)
      obtain ⟨w2, hw2⟩ : ∃ w2, w1.alloc (.cells #[.int .i64 0, .slice none 0 0, .slice none 0 0] 32) = w2 := ⟨_, rfl⟩
      have HW2 := Lib.hid hw2
      have hsz2 : w1.heap.size < w2.heap.size := by rw [← hw2]; simp
      rw [hw2] at hbx2
      clear hbx hb1 hbx1 hw2
      go_wp2_with fail
      rw [HW2.out]
      refine (newB_c w2 sRule 0 4).mono ?_
      rintro e w9 ⟨A1, n1, c1, A2, n2, c2, rfl, hu, hb9⟩
      have hbx9 := hbx2.trans (hb9.mono hbx2.size)
      obtain ⟨d0, d1, d2, f0, f1, f2⟩ := (HW0.out.below hbx9 (by omega)).facts
      obtain ⟨r0, r1, r2, q3, q4, q5⟩ := (HR0.out.below hbx9 (by omega)).facts
      have hsz9 := hbx2.size
      obtain ⟨hwb, hbb⟩ := two_boxed (w := w) hu (by first | omega | (simp; omega)) (HB0.out.trans (hbx9.mono HB0.out.size))
      have HWB := Lib.hid hwb
      have HBB := Lib.hid hbb
      clear hu hb9 hbx9 hwb hbb
      go_wp2_with fail
      exact bodyPost_ret (v := .tuple #[.agg #[.int .i64 0, .int .i64 0, .slice none 0 0], .agg #[.int .i64 4, .slice A1 n1 c1, .slice A2 n2 c2]]) (by simp [results, Tryz.results8, go_sem, d0, d1, d2, r0, r1, r2]) rfl (ParseRef4.err HTL.out HWB.out HBB.out)


set_option maxRecDepth 100000 in
set_option maxHeartbeats 8000000 in
theorem rp4_nat (w : World) (l : List UInt8) (hl : l.length ≤ 8192) (hh : ¬ headN l < 4) (hs : headK l ^ (2 * headR l + 1) ≤ 256) (p : Nat × Nat) (hp : parseN (l.drop 4) = .error p) :
    Calls Tryz.prog 8 #[.string ⟨l.toArray⟩] w fun e w' => ParseRef4 w l e w' := by
  have hr0 := (RuleAt.new w (.int .i64 0) (.int .i64 0) (.slice none 0 0)).alloc (.cells #[.int .i64 0, .slice none 0 0, .slice none 0 0] 32)
  have hw0 := WantAt.new (w.alloc (.cells #[.int .i64 0, .int .i64 0, .slice none 0 0] 24)) (.int .i64 0) (.slice none 0 0) (.slice none 0 0)
  rw [World.size_alloc] at hw0
  have hb0 := ((Below.refl w.heap.size w).alloc (Nat.le_refl _) (.cells #[.int .i64 0, .int .i64 0, .slice none 0 0] 24)).alloc (by simp) (.cells #[.int .i64 0, .slice none 0 0, .slice none 0 0] 32)
  obtain ⟨wx, hwx⟩ : ∃ wx, (w.alloc (.cells #[.int .i64 0, .int .i64 0, .slice none 0 0] 24)).alloc (.cells #[.int .i64 0, .slice none 0 0, .slice none 0 0] 32) = wx := ⟨_, rfl⟩
  have hsx : wx.heap.size = w.heap.size + 2 := by rw [← hwx]; simp
  have HWX := Lib.hid hwx
  rw [hwx] at hr0 hw0 hb0
  have HW0 := Lib.hid hw0
  have HB0 := Lib.hid hb0
  have HR0 := Lib.hid hr0
  have hsz : (⟨l.toArray⟩ : ByteArray).size = l.length := Lib.size_mk l
  have hat : ∀ (k : Nat) (hk : k < (⟨l.toArray⟩ : ByteArray).size), l[k]? = some ((⟨l.toArray⟩ : ByteArray)[k]'hk) := fun k hk => (Lib.getElem_mk l k hk).symm ▸ rfl
  have hex := extract_drop l 4
  have HTL := Lib.hid (show parseT l = .error (p.2, [(sRule, 4), (sNat, (p.1 : Int))]) by unfold parseT; rw [if_neg (by omega), if_neg hh, if_neg (by omega), hp])
  obtain ⟨hh4, ⟨x0, hx0, e0⟩, ⟨x2, hx2, e2⟩, k1, k4, r3, _, _⟩ := head_four hh
  have HALL := Lib.hid (head_all hh)
  obtain ⟨k, hk⟩ : ∃ k, headK l = k := ⟨_, rfl⟩
  obtain ⟨r, hr⟩ : ∃ r, headR l = r := ⟨_, rfl⟩
  rw [hk, hr] at hs
  rw [hk] at e0 k1 k4
  rw [hr] at e2 r3
  have hl4 := head_len hh4
  generalize hS : (⟨l.toArray⟩ : ByteArray) = S at *
  have hlS : S.size ≤ 8192 := by omega
  have hd : decide ((8192 : Int) < (S.size : Int)) = false := decide_eq_false (by omega)
  have HAT := Lib.hid hat
  have HSZ := Lib.hid hsz
  have HEX := Lib.hid (by rw [← hsz] at hex; exact hex : S.extract 4 S.size = ⟨(l.drop 4).toArray⟩)
  have hi0 : 0 < S.size := by omega
  have hi2 : 2 < S.size := by omega
  have hl4S : 4 ≤ S.size := by omega
  have a0 := hat 0 hi0
  have a2 := hat 2 hi2
  rw [hx0] at a0
  rw [hx2] at a2
  have b0 : ((S[0]'hi0).toNat : Int) = 48 + (k : Int) := by rw [← Option.some.inj a0, e0]; simp
  have b2 : ((S[2]'hi2).toNat : Int) = 48 + (r : Int) := by rw [← Option.some.inj a2, e2]; simp
  have q1 : (48 : Int) + (k : Int) - 48 = (k : Int) := by omega
  have q2 : (48 : Int) + (r : Int) - 48 = (r : Int) := by omega
  have HSIZ0 := Lib.hid (fun (wz : World) => refSize_ok wz k r k1 k4 r3)
  obtain ⟨L, hL⟩ : ∃ L, k ^ (2 * r + 1) = L := ⟨_, rfl⟩
  rw [hL] at HSIZ0 hs
  have HL := Lib.hid hL
  have HKK := Lib.hid hk
  have HRR := Lib.hid hr
  have dL : decide ((256 : Int) < (L : Int)) = false := decide_eq_false (by omega)
  have dL2 : ¬ 256 < L := by omega
  have HPT := Lib.hid (show pTale (l.drop 4) = some (p.2, [(sNat, (p.1 : Int))]) from pTale_err (i := p.1) (n := p.2) hp)
  clear hr0 hw0 hb0 hwx hS hsz hl hat hex hh hh4 a0 a2 e0 e2 hx0 hx2 hL hk hr hl4 hp
  go_enter Tryz.func8, Tryz.ntmps8
  go_wp2_with fail
  rw [HWX.out]
  go_loopw [6] (fun iv wr => ∃ (i : Nat), i ≤ 4 ∧ iv = .int .i64 (i : Int) ∧ Hid (Below wx.heap.size wx wr)) (fun iv _ => 4 - (intOf iv).toNat)
  case atStart => exact ⟨0, by omega, rfl, Lib.hid (Below.refl _ _)⟩
  case round =>
    obtain ⟨i, hi, rfl, hbx⟩ := hrel
    by_cases hi4 : i < 4
    · have hok := HALL.out i hi4
      have h2 : i < S.size := by
        have h3 := okAt_lt hok
        have h4 := HSZ.out
        omega
      have h1n : decide (S.size ≤ i) = false := decide_eq_false (by omega)
      have h1' : decide ((S.size : Int) ≤ (i : Int)) = false := decide_eq_false (by omega)
      have h2i : (i : Int) < (S.size : Int) := by omega
      have h2z : (0 : Int) ≤ (i : Int) := by omega
      have h24 : (i : Int) < 4 := by omega
      have hLO : ∀ h, ((({ data := #[49, 46, 48, 46] } : ByteArray))[i]'h).toNat = lowN i := fun h => lowN_at i h
      have hHI : ∀ h, ((({ data := #[52, 46, 51, 46] } : ByteArray))[i]'h).toNat = highN i := fun h => highN_at i h
      have hk := hok
      rw [okAt_set (HAT.out i h2)] at hk
      have hk' := of_decide_eq_true hk
      have hlo2 : decide ((S[i]'h2).toNat < lowN i) = false := decide_eq_false (by omega)
      have hhi2 : decide (highN i < (S[i]'h2).toNat) = false := decide_eq_false (by omega)
      clear hk hk' hok b0 b2
      go_wp2_with fail
      go_quiet (fail)
      go_wp2_with fail
      exact ⟨⟨i + 1, by omega, by go_num, Lib.hid (below_drewN hbx.out _)⟩, by simp [intOf]; omega⟩
    · obtain rfl : i = 4 := by omega
      go_wp2_with fail
      refine (HSIZ0.out _).mono ?_
      rintro e w1 ⟨rfl, hb1⟩
      have hbx1 := hbx.out.trans (hb1.mono hbx.out.size)
      have hbx2 := hbx1.alloc hbx1.size (.cells #[.int .i64 0, .slice none 0 0, .slice none 0 0] 32)
      obtain ⟨w2, hw2⟩ : ∃ w2, w1.alloc (.cells #[.int .i64 0, .slice none 0 0, .slice none 0 0] 32) = w2 := ⟨_, rfl⟩
      have HW2 := Lib.hid hw2
      have hsz2 : w1.heap.size < w2.heap.size := by rw [← hw2]; simp
      rw [hw2] at hbx2
      clear hbx hb1 hbx1 hw2
      go_wp2_with fail
      rw [HW2.out]
      rw [HEX.out]
      refine (refParse_c w2 (l.drop 4)).mono ?_
      rintro e w3 ⟨C, cc, N, A1, n1, c1, A2, n2, c2, rfl, hown, hu, hb3⟩
      have hbx3 := hbx2.trans (hb3.mono hbx2.size)
      have hb34 : Below w3.heap.size w3 (w3.alloc (.cells #[.int .i64 (N : Int), .slice A1 n1 c1, .slice A2 n2 c2] 32)) := (Below.refl _ _).alloc (Nat.le_refl _) _
      have hv4 := WantAt.new w3 (.int .i64 (N : Int)) (.slice A1 n1 c1) (.slice A2 n2 c2)
      have hu4 := hu.below hb34
      have ho4 := own_below hown hb34
      have hbx4 := hbx3.trans (hb34.mono hbx3.size)
      obtain ⟨w4, hw4⟩ : ∃ w4, w3.alloc (.cells #[.int .i64 (N : Int), .slice A1 n1 c1, .slice A2 n2 c2] 32) = w4 := ⟨_, rfl⟩
      have HW4 := Lib.hid hw4
      have hsz4 : w3.heap.size < w4.heap.size := by rw [← hw4]; simp
      rw [hw4] at hv4 hu4 ho4 hbx4
      have hsz3 := hbx3.size
      obtain ⟨ge, hge⟩ : ∃ ge, w3.heap.size = ge := ⟨_, rfl⟩
      have HGE := Lib.hid hge
      rw [hge] at hv4 hsz4 hsz3
      have HBAD := Lib.hid (errBad_c w4 N A1 n1 c1 A2 n2 c2)
      have HU4 := Lib.hid hu4
      have HO4 := Lib.hid ho4
      have HV4 := Lib.hid hv4
      have HX4 := Lib.hid hbx4
      obtain ⟨v0, v1, v2, _⟩ := hv4.facts
      clear hu hown hb3 hbx3 hb34 hw4 hv4 hu4 ho4 hbx4 hge
      have hN := HU4.out.num
      have hNz : decide (N ≠ 0) = true := by
        rw [HPT.out] at hN
        have := (pTale_ok (l.drop 4) _ HPT.out).1
        exact decide_eq_true (by simp only [tnum] at hN; omega)
      rw [hNz] at HBAD
      clear hN hNz
      go_wp2_with fail
      rw [HW4.out, HGE.out]
      refine (HBAD.out).mono ?_
      rintro e w5 ⟨rfl, hb5⟩
      have hbx5 := HX4.out.trans (hb5.mono HX4.out.size)
      have g0 := cell_later hb5 v0
      have g1 := cell_later hb5 v1
      have g2 := cell_later hb5 v2
      have HUN := Lib.hid (rawUnder_c w5 sRule 4 _ _ N A1 n1 c1 A2 n2 c2 (HU4.out.below hb5) (pTale_ok (l.drop 4)) (fun x hx => by rw [HPT.out] at hx; cases hx; simp))
      have hsz5 := hbx5.size
      clear hb5 v0 v1 v2
      go_wp2_with fail
      refine (HUN.out).mono ?_
      rintro e w9 ⟨N9, A3, n3, c3, A4, n4, c4, rfl, hu, hb9⟩
      have hbx9 := hbx5.trans (hb9.mono hbx5.size)
      rw [HPT.out] at hu
      obtain ⟨d0, d1, d2, f0, f1, f2⟩ := (HW0.out.below hbx9 (by omega)).facts
      obtain ⟨r0, r1, r2, q3, q4, q5⟩ := (HR0.out.below hbx9 (by omega)).facts
      obtain ⟨hwb, hbb⟩ := two_boxed (w := w) hu (by omega) (HB0.out.trans (hbx9.mono HB0.out.size))
      have HWB := Lib.hid hwb
      have HBB := Lib.hid hbb
      clear hu hb9 hbx9 hwb hbb hbx5 g0 g1 g2
      go_wp2_with fail
      exact bodyPost_ret (v := .tuple #[.agg #[.int .i64 0, .int .i64 0, .slice none 0 0], .agg #[.int .i64 (N9 : Int), .slice A3 n3 c3, .slice A4 n4 c4]]) (by simp [results, Tryz.results8, go_sem, d0, d1, d2, r0, r1, r2]) rfl (ParseRef4.err HTL.out HWB.out HBB.out)


set_option maxRecDepth 100000 in
set_option maxHeartbeats 8000000 in
theorem rp4_from (w : World) (l : List UInt8) (hl : l.length ≤ 8192) (hh : ¬ headN l < 4) (hs : headK l ^ (2 * headR l + 1) ≤ 256) (v : Nat) (hp : parseN (l.drop 4) = .ok v) (hv : 0 < v / headK l ^ headK l ^ (2 * headR l + 1)) :
    Calls Tryz.prog 8 #[.string ⟨l.toArray⟩] w fun e w' => ParseRef4 w l e w' := by
  have hr0 := (RuleAt.new w (.int .i64 0) (.int .i64 0) (.slice none 0 0)).alloc (.cells #[.int .i64 0, .slice none 0 0, .slice none 0 0] 32)
  have hw0 := WantAt.new (w.alloc (.cells #[.int .i64 0, .int .i64 0, .slice none 0 0] 24)) (.int .i64 0) (.slice none 0 0) (.slice none 0 0)
  rw [World.size_alloc] at hw0
  have hb0 := ((Below.refl w.heap.size w).alloc (Nat.le_refl _) (.cells #[.int .i64 0, .int .i64 0, .slice none 0 0] 24)).alloc (by simp) (.cells #[.int .i64 0, .slice none 0 0, .slice none 0 0] 32)
  obtain ⟨wx, hwx⟩ : ∃ wx, (w.alloc (.cells #[.int .i64 0, .int .i64 0, .slice none 0 0] 24)).alloc (.cells #[.int .i64 0, .slice none 0 0, .slice none 0 0] 32) = wx := ⟨_, rfl⟩
  have hsx : wx.heap.size = w.heap.size + 2 := by rw [← hwx]; simp
  have HWX := Lib.hid hwx
  rw [hwx] at hr0 hw0 hb0
  have HW0 := Lib.hid hw0
  have HB0 := Lib.hid hb0
  have HR0 := Lib.hid hr0
  have hsz : (⟨l.toArray⟩ : ByteArray).size = l.length := Lib.size_mk l
  have hat : ∀ (k : Nat) (hk : k < (⟨l.toArray⟩ : ByteArray).size), l[k]? = some ((⟨l.toArray⟩ : ByteArray)[k]'hk) := fun k hk => (Lib.getElem_mk l k hk).symm ▸ rfl
  have hex := extract_drop l 4
  have HTL := Lib.hid (show parseT l = .error (3, [(sRule, 4)]) by unfold parseT; rw [if_neg (by omega), if_neg hh, if_neg (by omega), hp]; simp only; rw [if_pos hv])
  obtain ⟨hh4, ⟨x0, hx0, e0⟩, ⟨x2, hx2, e2⟩, k1, k4, r3, _, _⟩ := head_four hh
  have HALL := Lib.hid (head_all hh)
  obtain ⟨k, hk⟩ : ∃ k, headK l = k := ⟨_, rfl⟩
  obtain ⟨r, hr⟩ : ∃ r, headR l = r := ⟨_, rfl⟩
  rw [hk, hr] at hs hv
  rw [hk] at e0 k1 k4
  rw [hr] at e2 r3
  have hl4 := head_len hh4
  generalize hS : (⟨l.toArray⟩ : ByteArray) = S at *
  have hlS : S.size ≤ 8192 := by omega
  have hd : decide ((8192 : Int) < (S.size : Int)) = false := decide_eq_false (by omega)
  have HAT := Lib.hid hat
  have HSZ := Lib.hid hsz
  have HEX := Lib.hid (by rw [← hsz] at hex; exact hex : S.extract 4 S.size = ⟨(l.drop 4).toArray⟩)
  have hi0 : 0 < S.size := by omega
  have hi2 : 2 < S.size := by omega
  have hl4S : 4 ≤ S.size := by omega
  have a0 := hat 0 hi0
  have a2 := hat 2 hi2
  rw [hx0] at a0
  rw [hx2] at a2
  have b0 : ((S[0]'hi0).toNat : Int) = 48 + (k : Int) := by rw [← Option.some.inj a0, e0]; simp
  have b2 : ((S[2]'hi2).toNat : Int) = 48 + (r : Int) := by rw [← Option.some.inj a2, e2]; simp
  have q1 : (48 : Int) + (k : Int) - 48 = (k : Int) := by omega
  have q2 : (48 : Int) + (r : Int) - 48 = (r : Int) := by omega
  have HSIZ0 := Lib.hid (fun (wz : World) => refSize_ok wz k r k1 k4 r3)
  obtain ⟨L, hL⟩ : ∃ L, k ^ (2 * r + 1) = L := ⟨_, rfl⟩
  rw [hL] at HSIZ0 hs hv
  have HL := Lib.hid hL
  have HKK := Lib.hid hk
  have HRR := Lib.hid hr
  have dL : decide ((256 : Int) < (L : Int)) = false := decide_eq_false (by omega)
  have dL2 : ¬ 256 < L := by omega
  have HP4 := Lib.hid hp
  have HFN := Lib.hid (show fromN k r v = .error (3, [(sRule, 1)]) by unfold fromN; simp only [Int.toNat_natCast]; rw [if_neg (by omega), hL, if_neg (by omega), if_pos hv])
  clear hr0 hw0 hb0 hwx hS hsz hl hat hex hh hh4 a0 a2 e0 e2 hx0 hx2 hL hk hr hl4 hp hv
  go_enter Tryz.func8, Tryz.ntmps8
  go_wp2_with fail
  rw [HWX.out]
  go_loopw [6] (fun iv wr => ∃ (i : Nat), i ≤ 4 ∧ iv = .int .i64 (i : Int) ∧ Hid (Below wx.heap.size wx wr)) (fun iv _ => 4 - (intOf iv).toNat)
  case atStart => exact ⟨0, by omega, rfl, Lib.hid (Below.refl _ _)⟩
  case round =>
    obtain ⟨i, hi, rfl, hbx⟩ := hrel
    by_cases hi4 : i < 4
    · have hok := HALL.out i hi4
      have h2 : i < S.size := by
        have h3 := okAt_lt hok
        have h4 := HSZ.out
        omega
      have h1n : decide (S.size ≤ i) = false := decide_eq_false (by omega)
      have h1' : decide ((S.size : Int) ≤ (i : Int)) = false := decide_eq_false (by omega)
      have h2i : (i : Int) < (S.size : Int) := by omega
      have h2z : (0 : Int) ≤ (i : Int) := by omega
      have h24 : (i : Int) < 4 := by omega
      have hLO : ∀ h, ((({ data := #[49, 46, 48, 46] } : ByteArray))[i]'h).toNat = lowN i := fun h => lowN_at i h
      have hHI : ∀ h, ((({ data := #[52, 46, 51, 46] } : ByteArray))[i]'h).toNat = highN i := fun h => highN_at i h
      have hk := hok
      rw [okAt_set (HAT.out i h2)] at hk
      have hk' := of_decide_eq_true hk
      have hlo2 : decide ((S[i]'h2).toNat < lowN i) = false := decide_eq_false (by omega)
      have hhi2 : decide (highN i < (S[i]'h2).toNat) = false := decide_eq_false (by omega)
      clear hk hk' hok b0 b2
      go_wp2_with fail
      go_quiet (fail)
      go_wp2_with fail
      exact ⟨⟨i + 1, by omega, by go_num, Lib.hid (below_drewN hbx.out _)⟩, by simp [intOf]; omega⟩
    · obtain rfl : i = 4 := by omega
      go_wp2_with fail
      refine (HSIZ0.out _).mono ?_
      rintro e w1 ⟨rfl, hb1⟩
      have hbx1 := hbx.out.trans (hb1.mono hbx.out.size)
      have hbx2 := hbx1.alloc hbx1.size (.cells #[.int .i64 0, .slice none 0 0, .slice none 0 0] 32)
      obtain ⟨w2, hw2⟩ : ∃ w2, w1.alloc (.cells #[.int .i64 0, .slice none 0 0, .slice none 0 0] 32) = w2 := ⟨_, rfl⟩
      have HW2 := Lib.hid hw2
      have hsz2 : w1.heap.size < w2.heap.size := by rw [← hw2]; simp
      rw [hw2] at hbx2
      clear hbx hb1 hbx1 hw2
      go_wp2_with fail
      rw [HW2.out]
      rw [HEX.out]
      refine (refParse_c w2 (l.drop 4)).mono ?_
      rintro e w3 ⟨C, cc, N, A1, n1, c1, A2, n2, c2, rfl, hown, hu, hb3⟩
      have hbx3 := hbx2.trans (hb3.mono hbx2.size)
      have hb34 : Below w3.heap.size w3 (w3.alloc (.cells #[.int .i64 (N : Int), .slice A1 n1 c1, .slice A2 n2 c2] 32)) := (Below.refl _ _).alloc (Nat.le_refl _) _
      have hv4 := WantAt.new w3 (.int .i64 (N : Int)) (.slice A1 n1 c1) (.slice A2 n2 c2)
      have hu4 := hu.below hb34
      have ho4 := own_below hown hb34
      have hbx4 := hbx3.trans (hb34.mono hbx3.size)
      obtain ⟨w4, hw4⟩ : ∃ w4, w3.alloc (.cells #[.int .i64 (N : Int), .slice A1 n1 c1, .slice A2 n2 c2] 32) = w4 := ⟨_, rfl⟩
      have HW4 := Lib.hid hw4
      have hsz4 : w3.heap.size < w4.heap.size := by rw [← hw4]; simp
      rw [hw4] at hv4 hu4 ho4 hbx4
      have hsz3 := hbx3.size
      obtain ⟨ge, hge⟩ : ∃ ge, w3.heap.size = ge := ⟨_, rfl⟩
      have HGE := Lib.hid hge
      rw [hge] at hv4 hsz4 hsz3
      have HBAD := Lib.hid (errBad_c w4 N A1 n1 c1 A2 n2 c2)
      have HU4 := Lib.hid hu4
      have HO4 := Lib.hid ho4
      have HV4 := Lib.hid hv4
      have HX4 := Lib.hid hbx4
      obtain ⟨v0, v1, v2, _⟩ := hv4.facts
      clear hu hown hb3 hbx3 hb34 hw4 hv4 hu4 ho4 hbx4 hge
      have hNone : pTale (l.drop 4) = none := by unfold pTale; rw [HP4.out]
      have hnum : pNum (l.drop 4) = v := by unfold pNum; rw [HP4.out]
      have HU5 := HU4.out
      rw [hNone] at HU5
      obtain rfl : N = 0 := HU5.num
      obtain ⟨rfl, rfl, rfl, rfl, rfl, rfl⟩ : A1 = none ∧ n1 = 0 ∧ c1 = 0 ∧ A2 = none ∧ n2 = 0 ∧ c2 = 0 := by
        have e := HU5.none_eq
        simp at e
        obtain ⟨⟨q1, q2, q3⟩, q4, q5, q6⟩ := e
        exact ⟨q1, q2, q3, q4, q5, q6⟩
      have ho4 := HO4.out
      rw [hnum] at ho4
      rw [hnum]
      have HO5 := Lib.hid ho4
      rw [show decide ((0 : Nat) ≠ 0) = false from rfl, show ((0 : Nat) : Int) = 0 from rfl] at HBAD
      rw [show ((0 : Nat) : Int) = 0 from rfl] at HW4 v0 ⊢
      clear HU5 hNone hnum ho4
      go_wp2_with fail
      rw [HW4.out, HGE.out]
      refine (HBAD.out).mono ?_
      rintro e w5 ⟨rfl, hb5⟩
      have hbx5 := HX4.out.trans (hb5.mono HX4.out.size)
      have hv5 := HV4.out.below hb5 (by omega)
      have hfr := ref4From_c w5 k r (num_own (own_below HO5.out hb5)) (by have := parse_small HP4.out; omega)
      have HFR := Lib.hid hfr
      have hsz5 := hb5.size
      have hsx5 := hbx5.size
      have HV5 := Lib.hid hv5
      have HX5 := Lib.hid hbx5
      clear hb5 v0 v1 v2 hfr hv5 hbx5
      go_wp2_with fail
      refine (HFR.out).mono ?_
      rintro e w6 ⟨C2, cc2, N2, A3, n3, c3, A4, n4, c4, rfl, hown2, hu2, hb6⟩
      rw [HFN.out] at hu2
      rw [fromT_err HFN.out] at hown2 ⊢
      have hN2 : N2 = 3 := hu2.num
      have hsz6 := hb6.size
      have hgl : ge < w6.heap.size := by omega
      have hbx6 := HX5.out.trans (hb6.mono HX5.out.size)
      have hv6 := HV5.out.below hb6 (by omega)
      obtain ⟨e0, e1, e2, ef0, ef1, ef2⟩ := hv6.facts
      have hbx7 := (below_set3 hbx6 (show wx.heap.size ≤ ge by omega) (.int .i64 (N2 : Int)) (.slice A3 n3 c3) (.slice A4 n4 c4)).alloc (by simp [World.setCell]; omega) (.cells #[.int .i64 0, .int .i64 0, .slice C2 0 cc2] 24)
      have hv7 := (hv6.set3 (.int .i64 (N2 : Int)) (.slice A3 n3 c3) (.slice A4 n4 c4)).alloc (.cells #[.int .i64 0, .int .i64 0, .slice C2 0 cc2] 24)
      obtain ⟨w7, hw7⟩ : ∃ w7, ((((w6.setCell ⟨ge, 0, none⟩ (.int .i64 (N2 : Int))).setCell ⟨ge, 1, none⟩ (.slice A3 n3 c3)).setCell ⟨ge, 2, none⟩ (.slice A4 n4 c4)).alloc (.cells #[.int .i64 0, .int .i64 0, .slice C2 0 cc2] 24)) = w7 := ⟨_, rfl⟩
      have HW7 := Lib.hid hw7
      have hz7 : w7.heap.size = w6.heap.size + 1 := by rw [← hw7]; simp [World.setCell]
      rw [hw7] at hbx7 hv7
      have hbad2 := errBad_c w7 N2 A3 n3 c3 A4 n4 c4
      rw [decide_eq_true (show N2 ≠ 0 by omega)] at hbad2
      have HBAD2 := Lib.hid hbad2
      obtain ⟨v0, v1, v2, _⟩ := hv7.facts
      clear hbad2 hw7 hv7 hv6 hown2 hu2 hb6 hN2 hbx6
      unfold ruleV
      go_wp2_with fail
      rw [HW7.out]
      refine (HBAD2.out).mono ?_
      rintro e w8 ⟨rfl, hb8⟩
      have hbx8 := hbx7.trans (hb8.mono hbx7.size)
      have hsz8 := hb8.size
      clear hb8 hbx7 v0 v1 v2 e0 e1 e2 ef0 ef1 ef2
      go_wp2_with fail
      refine (newB_c w8 sRule 4 3).mono ?_
      rintro e w9 ⟨A1, n1, c1, A2, n2, c2, rfl, hu, hb9⟩
      have hbx9 := hbx8.trans (hb9.mono hbx8.size)
      obtain ⟨d0, d1, d2, f0, f1, f2⟩ := (HW0.out.below hbx9 (by omega)).facts
      obtain ⟨r0, r1, r2, q3, q4, q5⟩ := (HR0.out.below hbx9 (by omega)).facts
      have hsz9 := hbx8.size
      obtain ⟨hwb, hbb⟩ := two_boxed (w := w) hu (by first | omega | (simp; omega)) (HB0.out.trans (hbx9.mono HB0.out.size))
      have HWB := Lib.hid hwb
      have HBB := Lib.hid hbb
      clear hu hb9 hbx9 hwb hbb
      go_wp2_with fail
      exact bodyPost_ret (v := .tuple #[.agg #[.int .i64 0, .int .i64 0, .slice none 0 0], .agg #[.int .i64 3, .slice A1 n1 c1, .slice A2 n2 c2]]) (by simp [results, Tryz.results8, go_sem, d0, d1, d2, r0, r1, r2]) rfl (ParseRef4.err HTL.out HWB.out HBB.out)


set_option maxRecDepth 100000 in
set_option maxHeartbeats 8000000 in
theorem rp4_ok (w : World) (l : List UInt8) (hl : l.length ≤ 8192) (hh : ¬ headN l < 4) (hs : headK l ^ (2 * headR l + 1) ≤ 256) (v : Nat) (hp : parseN (l.drop 4) = .ok v) (hv : ¬ 0 < v / headK l ^ headK l ^ (2 * headR l + 1)) :
    Calls Tryz.prog 8 #[.string ⟨l.toArray⟩] w fun e w' => ParseRef4 w l e w' := by
  have hr0 := (RuleAt.new w (.int .i64 0) (.int .i64 0) (.slice none 0 0)).alloc (.cells #[.int .i64 0, .slice none 0 0, .slice none 0 0] 32)
  have hw0 := WantAt.new (w.alloc (.cells #[.int .i64 0, .int .i64 0, .slice none 0 0] 24)) (.int .i64 0) (.slice none 0 0) (.slice none 0 0)
  rw [World.size_alloc] at hw0
  have hb0 := ((Below.refl w.heap.size w).alloc (Nat.le_refl _) (.cells #[.int .i64 0, .int .i64 0, .slice none 0 0] 24)).alloc (by simp) (.cells #[.int .i64 0, .slice none 0 0, .slice none 0 0] 32)
  obtain ⟨wx, hwx⟩ : ∃ wx, (w.alloc (.cells #[.int .i64 0, .int .i64 0, .slice none 0 0] 24)).alloc (.cells #[.int .i64 0, .slice none 0 0, .slice none 0 0] 32) = wx := ⟨_, rfl⟩
  have hsx : wx.heap.size = w.heap.size + 2 := by rw [← hwx]; simp
  have HWX := Lib.hid hwx
  rw [hwx] at hr0 hw0 hb0
  have HW0 := Lib.hid hw0
  have HB0 := Lib.hid hb0
  have HR0 := Lib.hid hr0
  have hsz : (⟨l.toArray⟩ : ByteArray).size = l.length := Lib.size_mk l
  have hat : ∀ (k : Nat) (hk : k < (⟨l.toArray⟩ : ByteArray).size), l[k]? = some ((⟨l.toArray⟩ : ByteArray)[k]'hk) := fun k hk => (Lib.getElem_mk l k hk).symm ▸ rfl
  have hex := extract_drop l 4
  have htl : parseT l = .ok (headK l, headR l, digN (headK l) (headK l ^ (2 * headR l + 1)) v) := by unfold parseT; rw [if_neg (by omega), if_neg hh, if_neg (by omega), hp]; simp only; rw [if_neg hv]
  have HTL := Lib.hid htl
  have hvl := parseV_ok htl
  obtain ⟨hh4, ⟨x0, hx0, e0⟩, ⟨x2, hx2, e2⟩, k1, k4, r3, _, _⟩ := head_four hh
  have HALL := Lib.hid (head_all hh)
  obtain ⟨k, hk⟩ : ∃ k, headK l = k := ⟨_, rfl⟩
  obtain ⟨r, hr⟩ : ∃ r, headR l = r := ⟨_, rfl⟩
  rw [hk, hr] at hs hv
  simp only [hk, hr] at hvl
  rw [hk] at e0 k1 k4
  rw [hr] at e2 r3
  have hl4 := head_len hh4
  generalize hS : (⟨l.toArray⟩ : ByteArray) = S at *
  have hlS : S.size ≤ 8192 := by omega
  have hd : decide ((8192 : Int) < (S.size : Int)) = false := decide_eq_false (by omega)
  have HAT := Lib.hid hat
  have HSZ := Lib.hid hsz
  have HEX := Lib.hid (by rw [← hsz] at hex; exact hex : S.extract 4 S.size = ⟨(l.drop 4).toArray⟩)
  have hi0 : 0 < S.size := by omega
  have hi2 : 2 < S.size := by omega
  have hl4S : 4 ≤ S.size := by omega
  have a0 := hat 0 hi0
  have a2 := hat 2 hi2
  rw [hx0] at a0
  rw [hx2] at a2
  have b0 : ((S[0]'hi0).toNat : Int) = 48 + (k : Int) := by rw [← Option.some.inj a0, e0]; simp
  have b2 : ((S[2]'hi2).toNat : Int) = 48 + (r : Int) := by rw [← Option.some.inj a2, e2]; simp
  have q1 : (48 : Int) + (k : Int) - 48 = (k : Int) := by omega
  have q2 : (48 : Int) + (r : Int) - 48 = (r : Int) := by omega
  have HSIZ0 := Lib.hid (fun (wz : World) => refSize_ok wz k r k1 k4 r3)
  obtain ⟨L, hL⟩ : ∃ L, k ^ (2 * r + 1) = L := ⟨_, rfl⟩
  rw [hL] at HSIZ0 hs hv hvl
  have HL := Lib.hid hL
  have HKK := Lib.hid hk
  have HRR := Lib.hid hr
  have HVL := Lib.hid hvl
  have dL : decide ((256 : Int) < (L : Int)) = false := decide_eq_false (by omega)
  have dL2 : ¬ 256 < L := by omega
  have HP4 := Lib.hid hp
  have HFN := Lib.hid (show fromN k r v = .ok (digN k L v) by unfold fromN; simp only [Int.toNat_natCast]; rw [if_neg (by omega), hL, if_neg (by omega), if_neg hv])
  clear hr0 hw0 hb0 hwx hS hsz hl hat hex hh hh4 a0 a2 e0 e2 hx0 hx2 hL hk hr hl4 hp hv hvl htl
  go_enter Tryz.func8, Tryz.ntmps8
  go_wp2_with fail
  rw [HWX.out]
  go_loopw [6] (fun iv wr => ∃ (i : Nat), i ≤ 4 ∧ iv = .int .i64 (i : Int) ∧ Hid (Below wx.heap.size wx wr)) (fun iv _ => 4 - (intOf iv).toNat)
  case atStart => exact ⟨0, by omega, rfl, Lib.hid (Below.refl _ _)⟩
  case round =>
    obtain ⟨i, hi, rfl, hbx⟩ := hrel
    by_cases hi4 : i < 4
    · have hok := HALL.out i hi4
      have h2 : i < S.size := by
        have h3 := okAt_lt hok
        have h4 := HSZ.out
        omega
      have h1n : decide (S.size ≤ i) = false := decide_eq_false (by omega)
      have h1' : decide ((S.size : Int) ≤ (i : Int)) = false := decide_eq_false (by omega)
      have h2i : (i : Int) < (S.size : Int) := by omega
      have h2z : (0 : Int) ≤ (i : Int) := by omega
      have h24 : (i : Int) < 4 := by omega
      have hLO : ∀ h, ((({ data := #[49, 46, 48, 46] } : ByteArray))[i]'h).toNat = lowN i := fun h => lowN_at i h
      have hHI : ∀ h, ((({ data := #[52, 46, 51, 46] } : ByteArray))[i]'h).toNat = highN i := fun h => highN_at i h
      have hk := hok
      rw [okAt_set (HAT.out i h2)] at hk
      have hk' := of_decide_eq_true hk
      have hlo2 : decide ((S[i]'h2).toNat < lowN i) = false := decide_eq_false (by omega)
      have hhi2 : decide (highN i < (S[i]'h2).toNat) = false := decide_eq_false (by omega)
      clear hk hk' hok b0 b2
      go_wp2_with fail
      go_quiet (fail)
      go_wp2_with fail
      exact ⟨⟨i + 1, by omega, by go_num, Lib.hid (below_drewN hbx.out _)⟩, by simp [intOf]; omega⟩
    · obtain rfl : i = 4 := by omega
      go_wp2_with fail
      refine (HSIZ0.out _).mono ?_
      rintro e w1 ⟨rfl, hb1⟩
      have hbx1 := hbx.out.trans (hb1.mono hbx.out.size)
      have hbx2 := hbx1.alloc hbx1.size (.cells #[.int .i64 0, .slice none 0 0, .slice none 0 0] 32)
      obtain ⟨w2, hw2⟩ : ∃ w2, w1.alloc (.cells #[.int .i64 0, .slice none 0 0, .slice none 0 0] 32) = w2 := ⟨_, rfl⟩
      have HW2 := Lib.hid hw2
      have hsz2 : w1.heap.size < w2.heap.size := by rw [← hw2]; simp
      rw [hw2] at hbx2
      clear hbx hb1 hbx1 hw2
      go_wp2_with fail
      rw [HW2.out]
      rw [HEX.out]
      refine (refParse_c w2 (l.drop 4)).mono ?_
      rintro e w3 ⟨C, cc, N, A1, n1, c1, A2, n2, c2, rfl, hown, hu, hb3⟩
      have hbx3 := hbx2.trans (hb3.mono hbx2.size)
      have hb34 : Below w3.heap.size w3 (w3.alloc (.cells #[.int .i64 (N : Int), .slice A1 n1 c1, .slice A2 n2 c2] 32)) := (Below.refl _ _).alloc (Nat.le_refl _) _
      have hv4 := WantAt.new w3 (.int .i64 (N : Int)) (.slice A1 n1 c1) (.slice A2 n2 c2)
      have hu4 := hu.below hb34
      have ho4 := own_below hown hb34
      have hbx4 := hbx3.trans (hb34.mono hbx3.size)
      obtain ⟨w4, hw4⟩ : ∃ w4, w3.alloc (.cells #[.int .i64 (N : Int), .slice A1 n1 c1, .slice A2 n2 c2] 32) = w4 := ⟨_, rfl⟩
      have HW4 := Lib.hid hw4
      have hsz4 : w3.heap.size < w4.heap.size := by rw [← hw4]; simp
      rw [hw4] at hv4 hu4 ho4 hbx4
      have hsz3 := hbx3.size
      obtain ⟨ge, hge⟩ : ∃ ge, w3.heap.size = ge := ⟨_, rfl⟩
      have HGE := Lib.hid hge
      rw [hge] at hv4 hsz4 hsz3
      have HBAD := Lib.hid (errBad_c w4 N A1 n1 c1 A2 n2 c2)
      have HU4 := Lib.hid hu4
      have HO4 := Lib.hid ho4
      have HV4 := Lib.hid hv4
      have HX4 := Lib.hid hbx4
      obtain ⟨v0, v1, v2, _⟩ := hv4.facts
      clear hu hown hb3 hbx3 hb34 hw4 hv4 hu4 ho4 hbx4 hge
      have hNone : pTale (l.drop 4) = none := by unfold pTale; rw [HP4.out]
      have hnum : pNum (l.drop 4) = v := by unfold pNum; rw [HP4.out]
      have HU5 := HU4.out
      rw [hNone] at HU5
      obtain rfl : N = 0 := HU5.num
      obtain ⟨rfl, rfl, rfl, rfl, rfl, rfl⟩ : A1 = none ∧ n1 = 0 ∧ c1 = 0 ∧ A2 = none ∧ n2 = 0 ∧ c2 = 0 := by
        have e := HU5.none_eq
        simp at e
        obtain ⟨⟨q1, q2, q3⟩, q4, q5, q6⟩ := e
        exact ⟨q1, q2, q3, q4, q5, q6⟩
      have ho4 := HO4.out
      rw [hnum] at ho4
      rw [hnum]
      have HO5 := Lib.hid ho4
      rw [show decide ((0 : Nat) ≠ 0) = false from rfl, show ((0 : Nat) : Int) = 0 from rfl] at HBAD
      rw [show ((0 : Nat) : Int) = 0 from rfl] at HW4 v0 ⊢
      clear HU5 hNone hnum ho4
      go_wp2_with fail
      rw [HW4.out, HGE.out]
      refine (HBAD.out).mono ?_
      rintro e w5 ⟨rfl, hb5⟩
      have hbx5 := HX4.out.trans (hb5.mono HX4.out.size)
      have hv5 := HV4.out.below hb5 (by omega)
      have hfr := ref4From_c w5 k r (num_own (own_below HO5.out hb5)) (by have := parse_small HP4.out; omega)
      have HFR := Lib.hid hfr
      have hsz5 := hb5.size
      have hsx5 := hbx5.size
      have HV5 := Lib.hid hv5
      have HX5 := Lib.hid hbx5
      clear hb5 v0 v1 v2 hfr hv5 hbx5
      go_wp2_with fail
      refine (HFR.out).mono ?_
      rintro e w6 ⟨C2, cc2, N2, A3, n3, c3, A4, n4, c4, rfl, hown2, hu2, hb6⟩
      rw [HFN.out] at hu2
      rw [fromT_ok HFN.out] at hown2 ⊢
      obtain rfl : N2 = 0 := hu2.num
      obtain ⟨rfl, rfl, rfl, rfl, rfl, rfl⟩ : A3 = none ∧ n3 = 0 ∧ c3 = 0 ∧ A4 = none ∧ n4 = 0 ∧ c4 = 0 := by
        have e := hu2.none_eq
        simp at e
        obtain ⟨⟨q1, q2, q3⟩, q4, q5, q6⟩ := e
        exact ⟨q1, q2, q3, q4, q5, q6⟩
      have hsz6 := hb6.size
      have hgl : ge < w6.heap.size := by omega
      have hbx6 := HX5.out.trans (hb6.mono HX5.out.size)
      have hv6 := HV5.out.below hb6 (by omega)
      obtain ⟨e0, e1, e2, ef0, ef1, ef2⟩ := hv6.facts
      dsimp only at hown2 ⊢
      obtain ⟨T, hT⟩ : ∃ T, digN k L v = T := ⟨_, rfl⟩
      rw [hT] at hown2 ⊢
      have HTD := Lib.hid hT
      obtain ⟨tl, htl⟩ : ∃ tl, T.length = tl := ⟨_, rfl⟩
      rw [htl] at hown2 ⊢
      have HTLN := Lib.hid htl
      have ho7 := (own_setW hown2 hv6 (by decide) (.int .i64 0) (.slice none 0 0) (.slice none 0 0)).alloc (.cells #[.int .i64 (k : Int), .int .i64 (r : Int), .slice C2 tl cc2] 24)
      have hbx7 := (below_set3 hbx6 (show wx.heap.size ≤ ge by omega) (.int .i64 0) (.slice none 0 0) (.slice none 0 0)).alloc (by simp [World.setCell]; omega) (.cells #[.int .i64 (k : Int), .int .i64 (r : Int), .slice C2 tl cc2] 24)
      have hv7 := (hv6.set3 (.int .i64 0) (.slice none 0 0) (.slice none 0 0)).alloc (.cells #[.int .i64 (k : Int), .int .i64 (r : Int), .slice C2 tl cc2] 24)
      have hr7 := RuleAt.new (((w6.setCell ⟨ge, 0, none⟩ (.int .i64 0)).setCell ⟨ge, 1, none⟩ (.slice none 0 0)).setCell ⟨ge, 2, none⟩ (.slice none 0 0)) (.int .i64 (k : Int)) (.int .i64 (r : Int)) (.slice C2 tl cc2)
      rw [show (((w6.setCell ⟨ge, 0, none⟩ (.int .i64 0)).setCell ⟨ge, 1, none⟩ (.slice none 0 0)).setCell ⟨ge, 2, none⟩ (.slice none 0 0)).heap.size = w6.heap.size by simp [World.setCell]] at hr7
      obtain ⟨w7, hw7⟩ : ∃ w7, ((((w6.setCell ⟨ge, 0, none⟩ (.int .i64 0)).setCell ⟨ge, 1, none⟩ (.slice none 0 0)).setCell ⟨ge, 2, none⟩ (.slice none 0 0)).alloc (.cells #[.int .i64 (k : Int), .int .i64 (r : Int), .slice C2 tl cc2] 24)) = w7 := ⟨_, rfl⟩
      have HW7 := Lib.hid hw7
      have hz7 : w7.heap.size = w6.heap.size + 1 := by rw [← hw7]; simp [World.setCell]
      rw [hw7] at hbx7 hv7 ho7 hr7
      have HBAD2 := Lib.hid (errBad_zero w7)
      obtain ⟨v0, v1, v2, _⟩ := hv7.facts
      have HR7 := Lib.hid hr7
      have HO7 := Lib.hid ho7
      have hbs5 := HX5.out.size
      clear hw7 hv7 hv6 hown2 hu2 hb6 hbx6 hr7 ho7 htl hT
      unfold ruleV
      rw [show ((0 : Nat) : Int) = 0 from rfl]
      go_wp2_with fail
      rw [HW7.out]
      refine (HBAD2.out).mono ?_
      rintro e w8 ⟨rfl, hb8⟩
      have hbx8 := hbx7.trans (hb8.mono hbx7.size)
      have hsz8 := hb8.size
      have ho8 := own_below HO7.out hb8
      obtain ⟨g0, g1, g2, _⟩ := (HR7.out.below hb8 (by omega)).facts
      have hr8 := HR0.out.below hbx8 (by omega)
      have hw8 := HW0.out.below hbx8 (by omega)
      obtain ⟨d0, d1, d2, f0, f1, f2⟩ := hw8.facts
      obtain ⟨r0, r1, r2, q3, q4, q5⟩ := hr8.facts
      have HOF := Lib.hid (own_base (own_setW (own_set3 ho8 hr8 (by decide) (.int .i64 (k : Int)) (.int .i64 (r : Int)) (.slice C2 tl cc2)) (hw8.keeps (keeps_set3 w8 w.heap.size (.int .i64 (k : Int)) (.int .i64 (r : Int)) (.slice C2 tl cc2)) (by omega)) (by decide) (.int .i64 0) (.slice none 0 0) (.slice none 0 0)) (show w.heap.size ≤ w5.heap.size by omega))
      have HBF := Lib.hid (below_set3 (below_set3 (HB0.out.trans (hbx8.mono HB0.out.size)) (Nat.le_refl _) (.int .i64 (k : Int)) (.int .i64 (r : Int)) (.slice C2 tl cc2)) (Nat.le_succ _) (.int .i64 0) (.slice none 0 0) (.slice none 0 0))
      clear hb8 hbx7 hbx8 v0 v1 v2 e0 e1 e2 ef0 ef1 ef2 ho8 hr8 hw8
      go_wp2_with fail
      exact bodyPost_ret (v := .tuple #[.agg #[.int .i64 (k : Int), .int .i64 (r : Int), .slice C2 tl cc2], .agg #[.int .i64 0, .slice none 0 0, .slice none 0 0]]) (by simp [results, Tryz.results8, go_sem, d0, d1, d2, r0, r1, r2]) rfl ⟨C2, cc2, 0, none, 0, 0, none, 0, 0, by rw [HVL.out, HTD.out]; simp only [HTLN.out]; rfl, by rw [HVL.out, HTD.out]; simp only [HTLN.out]; exact HOF.out, by rw [HTL.out]; exact WantB.zero _ _, HBF.out⟩


theorem ref4Parse_c (w : World) (l : List UInt8) : Calls Tryz.prog 8 #[.string ⟨l.toArray⟩] w fun e w' => ParseRef4 w l e w' := by
  by_cases h1 : 8192 < l.length
  · exact rp4_long w l h1
  by_cases h2 : headN l < 4
  · exact rp4_head w l (by omega) h2
  by_cases h3 : 256 < headK l ^ (2 * headR l + 1)
  · exact rp4_big w l (by omega) h2 h3
  cases hp : parseN (l.drop 4) with
  | error p => exact rp4_nat w l (by omega) h2 (by omega) p hp
  | ok v =>
    by_cases h4 : 0 < v / headK l ^ headK l ^ (2 * headR l + 1)
    · exact rp4_from w l (by omega) h2 (by omega) v hp h4
    · exact rp4_ok w l (by omega) h2 (by omega) v hp h4
end Go.Proofs.YtfgjcdfmlpdkaaaGreatDoor
