/- What nat.Parse returns: the number that a text writes, or a new error. Condition: the package's error variables hold what E says. -/
import Derived.Test.YtfgnghgmffaepaaDoorNatF
import Derived.Test.YtfgnghgmffaepaaDoorDecP
import Derived.Lib.Strings
import Derived.Lib.TrimByte
import Derived.Laws.Strings3
import Derived.Deep.RegionWith
import Derived.Deep.DrawnRows
namespace Go.Proofs.YtfgnghgmffaepaaDoor
open Go.RowKit NatP

theorem lit_word (w : World) (x : Nat) (e : TypeId) : Sl (w.alloc (.cells #[.int .u32 (x : Int)] e)) (some ⟨w.heap.size, 0, none⟩) 1 ([x].map wv) := by
  exact Sl.of_own (World.ownsRow_lit (base := 0) (e := e) (size := 1) w #[.int .u32 (x : Int)] 1 (Nat.zero_le _) (by decide) rfl)
theorem val_one (x : Nat) : val [x] = x := by simp [val, valB]
theorem ok_one {x : Nat} (h : x < W32) : OkB W32 [x] := by intro y hy; simp at hy; subst hy; exact h
theorem numB_take {l : List UInt8} {k : Nat} {b : UInt8} (h : l[k]? = some b) : numB (l.take (k + 1)) = numB (l.take k) * 10 + (b.toNat - 48) := by
  rw [List.take_add_one, h]
  exact numB_snoc _ _
theorem numB_lt {l : List UInt8} (h : ∀ b ∈ l, digitB b = true) : numB l < 10 ^ l.length := by
  unfold numB
  have := val_lt (b := 10) (by decide) (l := (l.map (fun b => b.toNat - 48)).reverse) (by
    intro x hx
    simp only [List.mem_reverse, List.mem_map] at hx
    obtain ⟨b, hb, rfl⟩ := hx
    have := h b hb
    simp [digitB] at this
    omega)
  simpa using this
theorem limbs_len_dec {v n : Nat} (h : v < 10 ^ n) : (limbs v).length ≤ n :=
  limbs_len_of_lt n v (Nat.lt_of_lt_of_le h (Nat.pow_le_pow_left (by decide) n))

theorem limbs_mul10 (V : Nat) : (limbs (V * 10)).length ≤ (limbs V).length + 1 := by
  have h1 := val_lt w32 (ok_limbs V)
  have h2 : valB W32 (limbs V) = V := val_limbs V
  rw [h2] at h1
  refine limbs_len_of_lt _ _ ?_
  rw [Nat.pow_succ]
  exact Nat.lt_of_lt_of_le (Nat.mul_lt_mul_of_pos_right h1 (by decide)) (Nat.mul_le_mul_left _ (by decide))
/-- The block holds the error that a package tells. -/
def FaultAt (w : World) (b : Nat) (op : ByteArray) (i : Int) (root : Addr) : Prop :=
  w.heap[b]? = some (.cells #[.string op, .int .i64 i, .iface 184 (.pointer (some root))] 71)
def sNat : ByteArray := ⟨#[110, 97, 116]⟩
/-- The answer is nothing and a new error. -/
def NilErr (w : World) (op : ByteArray) (i : Int) (root : Addr) (e : Ending) (w' : World) : Prop :=
  ∃ b, e = .returned (.tuple #[.slice none 0 0, errV b]) ∧ FaultAt w' b op i root ∧ w.heap.size ≤ b ∧ b < w'.heap.size ∧ Below w.heap.size w w'
/-- The answer is a new number and no error. -/
def NatOk (w : World) (v : Nat) (e : Ending) (w' : World) : Prop :=
  ∃ A c, e = .returned (.tuple #[.slice A (limbs v).length c, .nilIface]) ∧ w'.ownsRow w.heap.size 109 1 (.slice A (limbs v).length c) (limbs v).length ((limbs v).map wv) ∧ Below w.heap.size w w'
theorem nilErr_of {w w1 : World} {op : ByteArray} {i : Int} {root : Addr} (hb : Below w.heap.size w w1) :
    NilErr w op i root (.returned (.tuple #[.slice none 0 0, errV w1.heap.size])) (w1.alloc (.cells #[.string op, .int .i64 i, .iface 184 (.pointer (some root))] 71)) :=
  ⟨_, rfl, heap_new _ _, hb.size, by simp, hb.alloc hb.size _⟩
def ParsePost (w : World) (E : Nat → Addr) (l : List UInt8) (e : Ending) (w' : World) : Prop :=
  match parseN l with
  | .ok v => NatOk w v e w'
  | .error (i, n) => NilErr w sNat i (E n) e w'

set_option maxRecDepth 100000 in
theorem parse_big (w : World) (E : Nat → Addr) (hE : Errs w E) (l : List UInt8) (h : 1200 < l.length) :
    Calls Tryd.prog 47 #[.string ⟨l.toArray⟩] w fun e w' => NilErr w sNat 0 (E 4) e w' := by
  have hs : (⟨l.toArray⟩ : ByteArray).size = l.length := Lib.size_mk l
  generalize hS : (⟨l.toArray⟩ : ByteArray) = S at *
  have hd : decide ((1200 : Int) < (l.length : Int)) = true := decide_eq_true (by omega)
  clear hS
  go_enter Tryd.func47, Tryd.ntmps47
  go_wp2_with fail
  refine (new_c w E hE sNat 0 4 (by decide) (by decide)).mono ?_
  rintro e w' ⟨rfl, rfl⟩
  go_wp2_with fail
  go_ret2
  exact nilErr_of (Below.refl _ _)
set_option maxRecDepth 100000 in
theorem parse_none (w : World) (E : Nat → Addr) (hE : Errs w E) :
    Calls Tryd.prog 47 #[.string ⟨#[]⟩] w fun e w' => NilErr w sNat 0 (E 6) e w' := by
  go_enter Tryd.func47, Tryd.ntmps47
  go_wp2_with fail
  refine (new_c w E hE sNat 0 6 (by decide) (by decide)).mono ?_
  rintro e w' ⟨rfl, rfl⟩
  go_wp2_with fail
  go_ret2
  exact nilErr_of (Below.refl _ _)

theorem parse_bad {l : List UInt8} {k : Nat} {b : UInt8} (h1 : ¬ 1200 < l.length) (hk : l[k]? = some b) (hb : digitB b = false) (hd : ∀ c ∈ l.take k, digitB c = true) : parseN l = .error (k, 6) := by
  unfold parseN
  rw [if_neg h1, if_neg (by rintro rfl; simp at hk)]
  have : l.findIdx? (fun b => !digitB b) = some k := by
    rw [List.findIdx?_eq_some_iff_getElem]
    obtain ⟨hkl, e⟩ := List.getElem?_eq_some_iff.1 hk
    refine ⟨hkl, by rw [e, hb]; rfl, fun j hj => ?_⟩
    have : l[j]'(by omega) ∈ l.take k := by
      rw [List.mem_take_iff_getElem]
      exact ⟨j, by omega, rfl⟩
    simp [hd _ this]
  rw [this]
theorem parse_good {l : List UInt8} (h1 : ¬ 1200 < l.length) (h0 : l ≠ []) (hd : ∀ c ∈ l, digitB c = true) : parseN l = if 1 < l.length ∧ l[0]? = some 48 then .error (0, 6) else .ok (numB l) := by
  unfold parseN
  rw [if_neg h1, if_neg h0]
  have : l.findIdx? (fun b => !digitB b) = none := by
    rw [List.findIdx?_eq_none_iff]
    intro b hb
    simp [hd b hb]
  rw [this]

set_option maxRecDepth 100000 in
set_option maxHeartbeats 4000000 in
theorem parse_mid (w : World) (E : Nat → Addr) (hE : Errs w E) (l : List UInt8) (h1 : ¬ 1200 < l.length) (hne : l ≠ []) :
    Calls Tryd.prog 47 #[.string ⟨l.toArray⟩] w fun e w' => ParsePost w E l e w' := by
  have hgood := parse_good h1 hne
  have hs : (⟨l.toArray⟩ : ByteArray).size = l.length := Lib.size_mk l
  obtain ⟨n, hn⟩ : ∃ n, l.length = n := ⟨_, rfl⟩
  have hat : ∀ (k : Nat) (hk : k < (⟨l.toArray⟩ : ByteArray).size), l[k]? = some ((⟨l.toArray⟩ : ByteArray)[k]'hk) := fun k hk => (Lib.getElem_mk l k hk).symm ▸ rfl
  have hemp : (⟨l.toArray⟩ : ByteArray).toList.isEmpty = false := by
    rw [ByteArray.toList_eq]
    cases l with
    | nil => exact absurd rfl hne
    | cons b l => rfl
  generalize hS : (⟨l.toArray⟩ : ByteArray) = S at *
  have hle := h1
  rw [hn] at hs hle
  have h1200 : decide ((1200 : Int) < (n : Int)) = false := decide_eq_false (by omega)
  have HN := Lib.hid hn
  have HAT := Lib.hid hat
  have HG := Lib.hid hgood
  have HE := Lib.hid hE
  clear hn hat hne hS hgood h1 hE
  go_enter Tryd.func47, Tryd.ntmps47
  go_wp2_with fail
  go_loopw [4, 17] (fun a i wr => ∃ (k c : Nat) (A : Option Addr), k ≤ n ∧ i = .int .i64 (k : Int) ∧ Hid (∀ b ∈ l.take k, digitB b = true) ∧ a = .slice A (limbs (numB (l.take k))).length c ∧ wr.ownsRow w.heap.size 109 1 (.slice A (limbs (numB (l.take k))).length c) (limbs (numB (l.take k))).length ((limbs (numB (l.take k))).map wv) ∧ Below w.heap.size w wr) (fun _ i _ => n - (intOf i).toNat)
  case atStart => exact ⟨0, 0, none, Nat.zero_le _, rfl, Lib.hid (fun b hb => by simp at hb), rfl, ⟨rfl, .inl ⟨rfl, rfl⟩⟩, Below.refl _ _⟩
  case round =>
    obtain ⟨k, c, A, hk, rfl, HD, rfl, hown, hb⟩ := hrel
    by_cases hlt : k < n
    · have hkS : k < S.size := by omega
      have hlk := HAT.out k hkS
      obtain ⟨b, hbb⟩ : ∃ b, S[k]'hkS = b := ⟨_, rfl⟩
      rw [hbb] at hlk
      by_cases hdg : digitB b = true
      case neg =>
        have hdf : digitB b = false := by simpa using hdg
        have hpost : parseN l = .error (k, 6) := parse_bad (by rw [HN.out]; omega) hlk hdf HD.out
        have HP := Lib.hid hpost
        have HEr := Lib.hid (HE.out.below hb)
        have hrange : (b.toNat : Int) < 48 ∨ (57 : Int) < (b.toNat : Int) := by
          simp only [digitB, decide_eq_false_iff_not] at hdf
          omega
        clear hpost hdg hdf hlk
        rcases hrange with h | h
        · have d1 : decide ((b.toNat : Int) < 48) = true := decide_eq_true h
          clear h
          go_wp2_with fail
          refine (new_c _ E HEr.out sNat (k : Int) 6 (by decide) (by decide)).mono ?_
          rintro e w' ⟨rfl, rfl⟩
          go_wp2_with fail
          go_ret2
          unfold ParsePost
          rw [HP.out]
          exact nilErr_of hb
        · have d1 : decide ((b.toNat : Int) < 48) = false := decide_eq_false (by omega)
          have d2 : decide ((57 : Int) < (b.toNat : Int)) = true := decide_eq_true h
          clear h
          go_wp2_with fail
          refine (new_c _ E HEr.out sNat (k : Int) 6 (by decide) (by decide)).mono ?_
          rintro e w' ⟨rfl, rfl⟩
          go_wp2_with fail
          go_ret2
          unfold ParsePost
          rw [HP.out]
          exact nilErr_of hb
      have hbd := hdg
      have HD2 : Hid (∀ b ∈ l.take (k + 1), digitB b = true) := Lib.hid (by
        intro c hc
        rw [List.take_add_one, hlk] at hc
        rcases List.mem_append.1 hc with h | h
        · exact HD.out c h
        · simp at h; subst h; exact hdg)
      clear hdg
      simp only [digitB, decide_eq_true_eq] at hbd
      have hnum := numB_take hlk
      have hlim : (limbs (numB (l.take k))).length ≤ 1200 := by
        have h1 := numB_lt (l := l.take k) HD.out
        have h2 := limbs_len_dec h1
        have h3 : (l.take k).length ≤ 1200 := by have := HN.out; simp; omega
        omega
      have HNUM := Lib.hid hnum
      obtain ⟨V, hV⟩ : ∃ V, numB (l.take k) = V := ⟨_, rfl⟩
      rw [hV] at hown hlim HNUM ⊢
      have d1 : decide ((b.toNat : Int) < 48) = false := decide_eq_false (by omega)
      have d2 : decide ((57 : Int) < (b.toNat : Int)) = false := decide_eq_false (by omega)
      have q1 : IntKind.u8.wrap ((b.toNat : Int) - 48) = ((b.toNat - 48 : Nat) : Int) := by rw [IntWalk.u8_in _ (by omega)]; omega
      have q2 : IntKind.u32.wrap ((b.toNat - 48 : Nat) : Int) = ((b.toNat - 48 : Nat) : Int) := IntWalk.u32_in _ (by omega)
      clear hlk hnum hV
      obtain ⟨wo, rfl⟩ : ∃ wo : World, wo = wr := ⟨_, rfl⟩
      have hsl := Sl.of_own hown
      have hmul := fun (wz : World) (B : Option Addr) (h1 : Sl wz A (limbs V).length ((limbs V).map wv)) (h2 : Sl wz B 1 ([10].map wv)) => mul_c wz A B (limbs V).length 1 c 1 (limbs V) [10] h1 h2 (ok_limbs V) (ok_one (by decide)) (by omega) (by decide)
      rw [val_limbs, val_one] at hmul
      have hadd := fun (wz : World) (B C : Option Addr) (cc : Nat) (h1 : Sl wz B (limbs (V * 10)).length ((limbs (V * 10)).map wv)) (h2 : Sl wz C 1 ([b.toNat - 48].map wv)) => add_c wz B C (limbs (V * 10)).length 1 cc 1 (limbs (V * 10)) [b.toNat - 48] h1 h2 (ok_limbs _) (ok_one (by unfold W32; omega)) (by have := limbs_mul10 V; omega) (by decide)
      rw [val_limbs, val_one] at hadd
      have HMUL := Lib.hid hmul
      have HADD := Lib.hid hadd
      have HSL := Lib.hid hsl
      clear hsl hmul hadd
      go_wp2_with fail
      obtain ⟨D, hDD⟩ : ∃ D, b.toNat - 48 = D := ⟨_, rfl⟩
      have hDl : D < W32 := by unfold W32; omega
      rw [hDD] at q1 q2 HNUM HADD
      have l1 : Sl (wo.alloc (.cells #[.int .u32 10] 109)) (some ⟨wo.heap.size, 0, none⟩) 1 ([10].map wv) := lit_word wo 10 109
      have l2 : Sl ((wo.alloc (.cells #[.int .u32 (D : Int)] 109)).alloc (.cells #[.int .u32 10] 109)).drew (some ⟨wo.heap.size + 1, 0, none⟩) 1 ([10].map wv) := by
        have := lit_word (wo.alloc (.cells #[.int .u32 (D : Int)] 109)) 10 109
        rw [World.size_alloc] at this
        exact this
      have l4 : Sl ((wo.alloc (.cells #[.int .u32 10] 109)).alloc (.cells #[.int .u32 (D : Int)] 109)).drew (some ⟨wo.heap.size + 1, 0, none⟩) 1 ([D].map wv) := by
        have := lit_word (wo.alloc (.cells #[.int .u32 10] 109)) D 109
        rw [World.size_alloc] at this
        exact this
      have l5 : Sl ((wo.alloc (.cells #[.int .u32 (D : Int)] 109)).alloc (.cells #[.int .u32 10] 109)).drew (some ⟨wo.heap.size, 0, none⟩) 1 ([D].map wv) := (lit_word wo D 109).alloc _
      have L5 := Lib.hid l5
      have L1 := Lib.hid l1
      have L2 := Lib.hid l2
      have L4 := Lib.hid l4
      clear l1 l2 l4 l5 hDD
      go_region_with (first
        | (go_at_call 69; refine (HMUL.out _ _ (by first | exact HSL.out.alloc _ | exact (HSL.out.alloc _).alloc _) (by first | exact L1.out | exact L1.out.alloc _ | exact L2.out)).mono ?_; rintro e w2 ⟨A2, c2, rfl, ho2, hb2⟩)
        | (go_at_call 68; refine (HADD.out _ _ _ _ (by first | exact Sl.of_own ho2 | exact (Sl.of_own ho2).alloc _) (by first | exact lit_word w2 D _ | exact Sl.below L4.out hb2 | exact Sl.below L5.out hb2)).mono ?_; rintro e w3 ⟨A3, c3, rfl, ho3, hb3⟩))
      all_goals
        have s2 := hb2.size
        have s3 := hb3.size
        simp only [World.size_alloc, World.size_drew] at s2 s3 ho2 ho3 hb2 hb3
        have hb0 := hb.size
        have hb02 : Below w.heap.size w w2 := by
          refine Below.trans ?_ (hb2.mono (by omega))
          first
          | exact (hb.alloc hb0 _).drew
          | exact ((hb.alloc hb0 _).alloc (by simp; omega) _).drew
        have hb23 : Below w.heap.size w2 w3 := by
          first
          | exact hb3.mono (by omega)
          | exact ((Below.refl _ _).alloc (by omega) _).trans (hb3.mono (by omega))
          | exact (((Below.refl _ _).alloc (by omega) _).drew).trans (hb3.mono (by omega))
        have hbz := hb02.trans hb23
        have hoz := own_base ho3 (base' := w.heap.size) (by omega)
        rw [← HNUM.out] at hoz
        have HOZ := Lib.hid hoz
        clear s2 s3 ho2 ho3 hb2 hb3 hb02 hb23 hoz
        go_wp2_with fail
        exact ⟨⟨k + 1, c3, A3, by omega, by go_num, HD2, by rw [HNUM.out], HOZ.out, hbz⟩, by simp [intOf]; omega⟩
    · obtain rfl : k = n := by omega
      have htk : l.take k = l := List.take_of_length_le (by rw [HN.out]; exact Nat.le_refl _)
      have hpost := HG.out (fun b hb => HD.out b (by rw [htk]; exact hb))
      rw [HN.out] at hpost
      rw [htk] at hown ⊢
      have HP := Lib.hid hpost
      have HEr := Lib.hid (HE.out.below hb)
      clear hpost
      by_cases h1 : 1 < k
      · have h0S : 0 < S.size := by omega
        have hl0 := HAT.out 0 h0S
        obtain ⟨b, hbb⟩ : ∃ b, S[0]'h0S = b := ⟨_, rfl⟩
        rw [hbb] at hl0
        by_cases hb48 : b = 48
        · have hp2 : Hid (parseN l = .error (0, 6)) := Lib.hid (by rw [HP.out, if_pos ⟨h1, by rw [hl0, hb48]⟩])
          have hbt : ((b.toNat : Int) == 48) = true := by rw [hb48]; rfl
          clear hl0 hb48
          go_wp2_with fail
          refine (new_c _ E HEr.out sNat 0 6 (by decide) (by decide)).mono ?_
          rintro e w' ⟨rfl, rfl⟩
          go_wp2_with fail
          go_ret2
          unfold ParsePost
          rw [hp2.out]
          exact nilErr_of hb
        · have hbt : ((b.toNat : Int) == 48) = false := by
            rw [beq_eq_false_iff_ne]
            intro e
            exact hb48 (UInt8.toNat_inj.1 (by simp; omega))
          have hp2 : Hid (parseN l = .ok (numB l)) := Lib.hid (by rw [HP.out, if_neg (fun h => hb48 (by rw [hl0] at h; exact Option.some.inj h.2))])
          clear hl0 hb48
          go_wp2_with fail
          go_ret2
          unfold ParsePost
          rw [hp2.out]
          exact ⟨A, c, rfl, hown, hb⟩
      · have hd1 : decide ((1 : Int) < (k : Int)) = false := decide_eq_false (by omega)
        have hp2 : Hid (parseN l = .ok (numB l)) := Lib.hid (by rw [HP.out, if_neg (fun h => h1 h.1)])
        go_wp2_with fail
        go_ret2
        unfold ParsePost
        rw [hp2.out]
        exact ⟨A, c, rfl, hown, hb⟩

/-- nat.Parse. -/
theorem parse_c (w : World) (E : Nat → Addr) (hE : Errs w E) (l : List UInt8) :
    Calls Tryd.prog 47 #[.string ⟨l.toArray⟩] w fun e w' => ParsePost w E l e w' := by
  by_cases h1 : 1200 < l.length
  · refine (parse_big w E hE l h1).mono fun e w' h => ?_
    unfold ParsePost parseN
    rw [if_pos h1]
    exact h
  · by_cases h0 : l = []
    · subst h0
      refine (parse_none w E hE).mono fun e w' h => ?_
      exact h
    · exact parse_mid w E hE l h1 h0

end Go.Proofs.YtfgnghgmffaepaaDoor
