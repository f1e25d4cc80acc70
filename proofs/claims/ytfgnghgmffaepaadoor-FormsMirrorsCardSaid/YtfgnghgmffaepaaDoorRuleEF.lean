/- The head of a rule's text: rule.head. No condition. The rule that a text writes: rule.Parse where it succeeds. Condition: the error variables hold what E says. -/
import Derived.Test.YtfgnghgmffaepaaDoorRuleD
import Derived.Deep.QuietTactic
import Derived.BigQuiet
namespace Go.Proofs.YtfgnghgmffaepaaDoor
open Go.RowKit RuleP NatP

namespace RuleP
def okAt (l : List UInt8) (i lo hi : Nat) : Bool := match l[i]? with
  | some b => decide (lo ≤ b.toNat ∧ b.toNat ≤ hi)
  | none => false
/-- The first place of the head that is wrong; 4: none. -/
def headN (l : List UInt8) : Nat :=
  if okAt l 0 49 52 = false then 0 else if okAt l 1 46 46 = false then 1 else if okAt l 2 48 51 = false then 2 else if okAt l 3 46 46 = false then 3 else 4
end RuleP

set_option maxRecDepth 100000 in
set_option maxHeartbeats 1000000 in
theorem headF_c (w : World) (b : Addr) (S : ByteArray) (l : List UInt8) (hS : S = ⟨l.toArray⟩) (hb : w.cell? b = some (.string S)) (i lo hi : Nat) :
    Calls Tryd.prog 67 #[.int .i64 (i : Int), .int .u8 (lo : Int), .int .u8 (hi : Int), .pointer (some b)] w fun e w' => e = .returned (.bool (okAt l i lo hi)) ∧ w = w' := by
  have hs : S.size = l.length := by subst hS; exact Lib.size_mk l
  have hat : ∀ (k : Nat) (hk : k < S.size), l[k]? = some (S[k]'hk) := by subst hS; exact fun k hk => (Lib.getElem_mk l k hk).symm ▸ rfl
  by_cases hlt : i < S.size
  · have hli := hat i hlt
    have hok : Hid (okAt l i lo hi = decide (lo ≤ (S[i]'hlt).toNat ∧ (S[i]'hlt).toNat ≤ hi)) := Lib.hid (by unfold okAt; rw [hli])
    clear hat hli hs hS
    by_cases h1 : lo ≤ (S[i]'hlt).toNat
    · have d1 : decide (lo ≤ (S[i]'hlt).toNat) = true := decide_eq_true h1
      have hv : Hid (okAt l i lo hi = decide ((S[i]'hlt).toNat ≤ hi)) := Lib.hid (by rw [hok.out]; simp [h1])
      clear hok h1
      go_enter Tryd.func67, Tryd.ntmps67
      go_wp2_with fail
      go_ret
      exact ⟨by rw [hv.out]; rfl, rfl⟩
    · have d1 : decide (lo ≤ (S[i]'hlt).toNat) = false := decide_eq_false h1
      have hv : Hid (okAt l i lo hi = false) := Lib.hid (by rw [hok.out]; simp; omega)
      clear hok h1
      go_enter Tryd.func67, Tryd.ntmps67
      go_wp2_with fail
      go_ret
      exact ⟨by rw [hv.out]; rfl, rfl⟩
  · have hv : Hid (okAt l i lo hi = false) := Lib.hid (by unfold okAt; rw [List.getElem?_eq_none (by omega)])
    have d1 : decide (i < S.size) = false := decide_eq_false hlt
    clear hat hs hS
    go_enter Tryd.func67, Tryd.ntmps67
    go_wp2_with fail
    go_ret
    exact ⟨by rw [hv.out]; rfl, rfl⟩

set_option maxRecDepth 100000 in
set_option maxHeartbeats 4000000 in
theorem head_c (w : World) (S : ByteArray) (l : List UInt8) (hS : S = ⟨l.toArray⟩) :
    Calls Tryd.prog 46 #[.string S] w fun e w' => e = .returned (.int .i64 ((headN l : Nat) : Int)) ∧ Below w.heap.size w w' := by
  have hb : Below w.heap.size w (w.alloc (.cells #[.string S] 9)) := (Below.refl _ _).alloc (Nat.le_refl _) _
  have hf := fun (i lo hi : Nat) => headF_c (w.alloc (.cells #[.string S] 9)) ⟨w.heap.size, 0, none⟩ S l hS (by simp) i lo hi
  have h0 := hf 0 49 52
  have h1 := hf 1 46 46
  have h2 := hf 2 48 51
  have h3 := hf 3 46 46
  clear hf
  have hd : headN l = if okAt l 0 49 52 = false then 0 else if okAt l 1 46 46 = false then 1 else if okAt l 2 48 51 = false then 2 else if okAt l 3 46 46 = false then 3 else 4 := rfl
  generalize okAt l 0 49 52 = o0 at *
  generalize okAt l 1 46 46 = o1 at *
  generalize okAt l 2 48 51 = o2 at *
  generalize okAt l 3 46 46 = o3 at *
  have HD := Lib.hid hd
  have H0 := Lib.hid h0
  have H1 := Lib.hid h1
  have H2 := Lib.hid h2
  have H3 := Lib.hid h3
  have HB := Lib.hid hb
  clear hd h0 h1 h2 h3 hS hb
  go_enter Tryd.func46, Tryd.ntmps46
  go_wp2_with fail
  go_loop [6] (fun i => ∃ j : Nat, j ≤ 4 ∧ i = .int .i64 (j : Int) ∧ Hid ((0 < j → o0 = true) ∧ (1 < j → o1 = true) ∧ (2 < j → o2 = true) ∧ (3 < j → o3 = true))) (fun i => 4 - (intOf i).toNat)
  case atStart => exact ⟨0, by omega, rfl, Lib.hid ⟨by omega, by omega, by omega, by omega⟩⟩
  case round =>
    obtain ⟨j, hj, rfl, hs⟩ := hrel
    have hc : j = 0 ∨ j = 1 ∨ j = 2 ∨ j = 3 ∨ j = 4 := by omega
    rcases hc with rfl | rfl | rfl | rfl | rfl
    · cases o0 with
      | true =>
        have hs2 : Hid ((0 < 1 → true = true) ∧ (1 < 1 → o1 = true) ∧ (2 < 1 → o2 = true) ∧ (3 < 1 → o3 = true)) := Lib.hid ⟨by first | exact fun _ => rfl | exact fun _ => hs.out.1 (by omega), by first | exact fun _ => rfl | exact fun h => hs.out.2.1 (by omega) | omega, by first | exact fun _ => rfl | exact fun h => hs.out.2.2.1 (by omega) | omega, by first | exact fun _ => rfl | omega⟩
        go_wp2_with fail
        refine (H0.out).mono ?_
        rintro e w' ⟨rfl, rfl⟩
        go_wp2_with fail
        exact ⟨⟨1, by omega, rfl, hs2⟩, by simp [intOf]⟩
      | false =>
        have hh : Hid (headN l = 0) := Lib.hid (by
          obtain ⟨a, b, c, d⟩ := hs.out
          rw [HD.out]; rfl)
        go_wp2_with fail
        refine (H0.out).mono ?_
        rintro e w' ⟨rfl, rfl⟩
        go_wp2_with fail
        go_ret
        exact ⟨by rw [hh.out]; rfl, HB.out⟩
    · cases o1 with
      | true =>
        have hs2 : Hid ((0 < 2 → o0 = true) ∧ (1 < 2 → true = true) ∧ (2 < 2 → o2 = true) ∧ (3 < 2 → o3 = true)) := Lib.hid ⟨by first | exact fun _ => rfl | exact fun _ => hs.out.1 (by omega), by first | exact fun _ => rfl | exact fun h => hs.out.2.1 (by omega) | omega, by first | exact fun _ => rfl | exact fun h => hs.out.2.2.1 (by omega) | omega, by first | exact fun _ => rfl | omega⟩
        go_wp2_with fail
        refine (H1.out).mono ?_
        rintro e w' ⟨rfl, rfl⟩
        go_wp2_with fail
        exact ⟨⟨2, by omega, rfl, hs2⟩, by simp [intOf]⟩
      | false =>
        have hh : Hid (headN l = 1) := Lib.hid (by
          obtain ⟨a, b, c, d⟩ := hs.out
          rw [HD.out, a (by omega)]; rfl)
        go_wp2_with fail
        refine (H1.out).mono ?_
        rintro e w' ⟨rfl, rfl⟩
        go_wp2_with fail
        go_ret
        exact ⟨by rw [hh.out]; rfl, HB.out⟩
    · cases o2 with
      | true =>
        have hs2 : Hid ((0 < 3 → o0 = true) ∧ (1 < 3 → o1 = true) ∧ (2 < 3 → true = true) ∧ (3 < 3 → o3 = true)) := Lib.hid ⟨by first | exact fun _ => rfl | exact fun _ => hs.out.1 (by omega), by first | exact fun _ => rfl | exact fun h => hs.out.2.1 (by omega) | omega, by first | exact fun _ => rfl | exact fun h => hs.out.2.2.1 (by omega) | omega, by first | exact fun _ => rfl | omega⟩
        go_wp2_with fail
        refine (H2.out).mono ?_
        rintro e w' ⟨rfl, rfl⟩
        go_wp2_with fail
        exact ⟨⟨3, by omega, rfl, hs2⟩, by simp [intOf]⟩
      | false =>
        have hh : Hid (headN l = 2) := Lib.hid (by
          obtain ⟨a, b, c, d⟩ := hs.out
          rw [HD.out, a (by omega), b (by omega)]; rfl)
        go_wp2_with fail
        refine (H2.out).mono ?_
        rintro e w' ⟨rfl, rfl⟩
        go_wp2_with fail
        go_ret
        exact ⟨by rw [hh.out]; rfl, HB.out⟩
    · cases o3 with
      | true =>
        have hs2 : Hid ((0 < 4 → o0 = true) ∧ (1 < 4 → o1 = true) ∧ (2 < 4 → o2 = true) ∧ (3 < 4 → true = true)) := Lib.hid ⟨by first | exact fun _ => rfl | exact fun _ => hs.out.1 (by omega), by first | exact fun _ => rfl | exact fun h => hs.out.2.1 (by omega) | omega, by first | exact fun _ => rfl | exact fun h => hs.out.2.2.1 (by omega) | omega, by first | exact fun _ => rfl | omega⟩
        go_wp2_with fail
        refine (H3.out).mono ?_
        rintro e w' ⟨rfl, rfl⟩
        go_wp2_with fail
        exact ⟨⟨4, by omega, rfl, hs2⟩, by simp [intOf]⟩
      | false =>
        have hh : Hid (headN l = 3) := Lib.hid (by
          obtain ⟨a, b, c, d⟩ := hs.out
          rw [HD.out, a (by omega), b (by omega), c (by omega)]; rfl)
        go_wp2_with fail
        refine (H3.out).mono ?_
        rintro e w' ⟨rfl, rfl⟩
        go_wp2_with fail
        go_ret
        exact ⟨by rw [hh.out]; rfl, HB.out⟩
    · have hh : Hid (headN l = 4) := Lib.hid (by
        obtain ⟨a, b, c, d⟩ := hs.out
        rw [HD.out, a (by omega), b (by omega), c (by omega), d (by omega)]; rfl)
      go_wp2_with fail
      go_ret
      exact ⟨by rw [hh.out]; rfl, HB.out⟩
end Go.Proofs.YtfgnghgmffaepaaDoor

namespace Go.Proofs.YtfgnghgmffaepaaDoor
open Go.RowKit RuleP NatP

theorem extract_drop (l : List UInt8) (k : Nat) : (⟨l.toArray⟩ : ByteArray).extract k l.length = ⟨(l.drop k).toArray⟩ := by
  apply ByteArray.ext
  rw [ByteArray.data_extract]
  simp only [List.extract_toArray, List.extract_eq_take_drop]
  rw [List.take_of_length_le (by simp)]
theorem okAt_lt {l : List UInt8} {i lo hi : Nat} (h : okAt l i lo hi = true) : i < l.length := by
  unfold okAt at h
  cases hx : l[i]? with
  | none => rw [hx] at h; cases h
  | some b => exact (List.getElem?_eq_some_iff.1 hx).1
theorem head_len {l : List UInt8} (h : headN l = 4) : 4 ≤ l.length := by
  unfold headN at h
  by_cases h0 : okAt l 0 49 52 = false
  · rw [if_pos h0] at h; omega
  rw [if_neg h0] at h
  by_cases h1 : okAt l 1 46 46 = false
  · rw [if_pos h1] at h; omega
  rw [if_neg h1] at h
  by_cases h2 : okAt l 2 48 51 = false
  · rw [if_pos h2] at h; omega
  rw [if_neg h2] at h
  by_cases h3 : okAt l 3 46 46 = false
  · rw [if_pos h3] at h; omega
  have := okAt_lt (by simpa using h3 : okAt l 3 46 46 = true)
  omega

theorem parse_small {l : List UInt8} {v : Nat} (h : parseN l = .ok v) : (limbs v).length ≤ 1200 := by
  have h1 := text_parse h
  have h2 : l.length ≤ 1200 := by
    unfold parseN at h
    split at h
    · cases h
    · omega
  have hb : ∀ b ∈ l, digitB b = true := by rw [← h1]; exact textB_digits v
  have h3 : v = numB l := by rw [← h1, numB_textB]
  rw [h3]
  exact Nat.le_trans (limbs_len_dec (numB_lt hb)) h2

set_option maxRecDepth 100000 in
set_option maxHeartbeats 4000000 in
theorem parse_ok (w : World) (E : Nat → Addr) (hE : Errs w E) (l : List UInt8) (k r v : Nat) (hl : l.length ≤ 8192) (hh : headN l = 4) (h0 : ∃ b, l[0]? = some b ∧ b.toNat = 48 + k) (h2 : ∃ b, l[2]? = some b ∧ b.toNat = 48 + r)
    (k1 : 1 ≤ k) (k4 : k ≤ 4) (r3 : r ≤ 3) (hs : k ^ (2 * r + 1) ≤ 256) (hp : parseN (l.drop 4) = .ok v) (hv : v / k ^ k ^ (2 * r + 1) = 0) :
    Calls Tryd.prog 21 #[.string ⟨l.toArray⟩] w fun e w' => RuleErr w E k r (.ok (digN k (k ^ (2 * r + 1)) v)) e w' := by
  obtain ⟨x0, hx0, e0⟩ := h0
  obtain ⟨x2, hx2, e2⟩ := h2
  have hsz : (⟨l.toArray⟩ : ByteArray).size = l.length := Lib.size_mk l
  have hat : ∀ (k : Nat) (hk : k < (⟨l.toArray⟩ : ByteArray).size), l[k]? = some ((⟨l.toArray⟩ : ByteArray)[k]'hk) := fun k hk => (Lib.getElem_mk l k hk).symm ▸ rfl
  have hex := extract_drop l 4
  have hl4 := head_len hh
  have hl2 : 2 < l.length := (List.getElem?_eq_some_iff.1 hx2).1
  have hhd := fun (wz : World) => head_c wz _ l rfl
  generalize hS : (⟨l.toArray⟩ : ByteArray) = S at *
  have hi0 : 0 < S.size := by omega
  have hi2 : 2 < S.size := by omega
  have a0 := hat 0 hi0
  have a2 := hat 2 hi2
  rw [hx0] at a0
  rw [hx2] at a2
  have b0 : ((S[0]'hi0).toNat : Int) = 48 + (k : Int) := by rw [← Option.some.inj a0, e0]; simp
  have b2 : ((S[2]'hi2).toNat : Int) = 48 + (r : Int) := by rw [← Option.some.inj a2, e2]; simp
  rw [hh] at hhd
  have q1 : (48 : Int) + (k : Int) - 48 = (k : Int) := by omega
  have q2 : (48 : Int) + (r : Int) - 48 = (r : Int) := by omega
  obtain ⟨L, hL⟩ : ∃ L, k ^ (2 * r + 1) = L := ⟨_, rfl⟩
  have hsize := fun (wz : World) => size_ok wz k r k1 k4 r3
  rw [hL] at hsize hs hv ⊢
  have HSZ := Lib.hid hsize
  have HL := Lib.hid hL
  have dL : decide ((256 : Int) < (L : Int)) = false := decide_eq_false (by omega)
  clear hL hsize
  have HHD := Lib.hid hhd
  have HEX := Lib.hid hex
  have HE := Lib.hid hE
  have HP := Lib.hid hp
  have HV := Lib.hid hv
  clear hhd hex hE hp hv hS hat a0 a2 e0 e2 hx0 hx2 hh
  go_enter Tryd.func21, Tryd.ntmps21
  go_wp2_with fail
  refine (HHD.out _).mono ?_
  rintro e w1 ⟨rfl, hb1⟩
  have hr1 := (RuleAt.new w (.int .i64 0) (.int .i64 0) (.slice none 0 0)).below hb1 (by simp)
  go_wp2_with fail
  go_quiet (fail)
  go_wp2_with fail
  refine (HSZ.out _).mono ?_
  rintro e w' ⟨rfl, rfl⟩
  go_wp2_with fail
  rw [HEX.out]
  have hb1' := below_drewN (below_box hb1) nq
  have hr1' : RuleAt (w1.drewN nq) w.heap.size (.int .i64 0) (.int .i64 0) (.slice none 0 0) := hr1
  have hpc := parse_c (w1.drewN nq) E (HE.out.below hb1') (l.drop 4)
  unfold ParsePost at hpc
  rw [HP.out] at hpc
  have HPC := Lib.hid hpc
  clear hpc hb1 hr1
  refine (HPC.out).mono ?_
  rintro e w2 ⟨A2, c2, rfl, ho2, hb2⟩
  have hr2 := hr1'.below hb2 hr1'.lt
  have hbw := hb1'.trans (hb2.mono hb1'.size)
  have hlen : (limbs v).length ≤ 1000000000 := by
    have := (parse_small HP.out)
    omega
  have hfr := ruleFrom_c w2 E (HE.out.below hbw) k r (num_own ho2) hlen
  have hfn : fromN k r v = .ok (digN k L v) := by
    unfold fromN
    simp only [Int.toNat_natCast]
    rw [if_neg (by omega), HL.out, if_neg (by omega), if_neg (by rw [HV.out]; omega)]
  rw [hfn] at hfr
  have HFR := Lib.hid hfr
  clear hfr hfn hb1' hr1' ho2
  go_wp2_with fail
  refine (HFR.out).mono ?_
  rintro e w3 ⟨A3, c3, rfl, ho3, hb3⟩
  have hr3 := (hr2.below hb3 hr2.lt).alloc (.cells #[.int .i64 (k : Int), .int .i64 (r : Int), .slice A3 (digN k L v).length c3] 24)
  obtain ⟨c0, c1, c2', f0, f1, f2⟩ := hr3.facts
  have ho4 := own_base (own_set3 (ho3.alloc (.cells #[.int .i64 (k : Int), .int .i64 (r : Int), .slice A3 (digN k L v).length c3] 24)) hr3 (by decide) (.int .i64 (k : Int)) (.int .i64 (r : Int)) (.slice A3 (digN k L v).length c3)) (Nat.le_trans hbw.size (Nat.le_refl _))
  have hB4 := below_set3 ((hbw.trans (hb3.mono hbw.size)).alloc (Nat.le_trans hbw.size hb3.size) (.cells #[.int .i64 (k : Int), .int .i64 (r : Int), .slice A3 (digN k L v).length c3] 24)) (Nat.le_refl _) (.int .i64 (k : Int)) (.int .i64 (r : Int)) (.slice A3 (digN k L v).length c3)
  have HO := Lib.hid ho4
  have HB := Lib.hid hB4
  have hsz3 := hr3.lt
  clear ho3 ho4 hB4 hb3 hb2 hr2 hr3 hbw
  unfold ruleV
  go_wp2_with fail
  exact bodyPost_ret (v := .tuple #[.agg #[.int .i64 (k : Int), .int .i64 (r : Int), .slice A3 (digN k L v).length c3], .nilIface]) (by simp [results, Tryd.results21, go_sem, c0, c1, c2']) rfl ⟨A3, c3, rfl, HO.out, HB.out⟩
end Go.Proofs.YtfgnghgmffaepaaDoor
