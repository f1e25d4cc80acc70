/- Decimal texts: plain lists of bytes, no program. A number's text is read back as the number, and only that text is. No condition. What nat.Parse returns: the number that a text writes, or a new error. Condition: the package's error variables hold what E says. Numbers by their value: what the package's functions return, over slices that read as a number. Condition: as said. Binary digits: what bits.Len32, nat.Bits, nat.Low return. Condition: the limbs read from memory. What nat.From, nat.Low, nat.Fits return. Condition: the limbs read from memory. Powers in memory: what nat.Pow returns. Condition: the error variables hold what E says. Differences in memory: what nat.Sub returns. Condition: the limbs read from memory; the error variables hold what E says. Numbers by their value: differences, quotients, powers, texts, and the errors told. Condition: the numbers read from memory; the error variables hold what E says. -/
import Derived.Lib.Strings
import Derived.Lib.TrimByte
import Derived.Laws.Strings3
import Derived.Deep.RegionWith
import Derived.Deep.DrawnRows
import Derived.Laws.BitsAllLaws
import Derived.Lib.Slices
import Derived.Lib.Small
import Derived.Lib.Walk
import Derived.Lib.BitFns
import Derived.Test.YtpllojpgpejfmaaGreatDoorF1
import Derived.Test.YtpllojpgpejfmaaGreatDoorF3
import Derived.Test.YtpllojpgpejfmaaGreatDoorF13
namespace Go.Proofs.YtpllojpgpejfmaaGreatDoor
namespace NatP

def dch (d : Nat) : UInt8 := UInt8.ofNat (48 + d)
theorem dch_toNat {d : Nat} (h : d < 10) : (dch d).toNat = 48 + d := by unfold dch; simp [UInt8.toNat_ofNat]; omega
/-- The decimal text of a number. -/
def textB (v : Nat) : List UInt8 := if v = 0 then [48] else ((digs 10 v).map dch).reverse
def digitB (b : UInt8) : Bool := decide (48 ≤ b.toNat ∧ b.toNat ≤ 57)
/-- The number that digits write. -/
def numB (l : List UInt8) : Nat := valB 10 ((l.map (fun b => b.toNat - 48)).reverse)
/-- What a text is read as: a number, or a refusal at a place. -/
def parseN (l : List UInt8) : Except (Nat × Nat) Nat :=
  if 1200 < l.length then .error (0, 4)
  else if l = [] then .error (0, 6)
  else match l.findIdx? (fun b => !digitB b) with
    | some i => .error (i, 6)
    | none => if 1 < l.length ∧ l[0]? = some 48 then .error (0, 6) else .ok (numB l)

theorem numB_snoc (l : List UInt8) (b : UInt8) : numB (l ++ [b]) = numB l * 10 + (b.toNat - 48) := by
  unfold numB
  rw [List.map_append, List.reverse_append]
  simp [valB]
  omega
theorem map_back {D : List Nat} (h : OkB 10 D) : (D.map dch).map (fun b => b.toNat - 48) = D := by
  rw [List.map_map]
  conv => rhs; rw [← List.map_id D]
  apply List.map_congr_left
  intro d hd
  simp only [Function.comp, id]
  rw [dch_toNat (h d hd)]
  omega
theorem textB_len {v k : Nat} (h : v < 10 ^ k) (hk : 0 < k) : (textB v).length ≤ k := by
  unfold textB
  split
  · show 1 ≤ k; omega
  · rw [List.length_reverse, List.length_map]
    clear hk
    induction k generalizing v with
    | zero => have : v = 0 := by simpa using h
              subst this; simp [digs_zero]
    | succ k ih =>
      rcases Nat.eq_zero_or_pos v with rfl | hv
      · simp [digs_zero]
      · rw [digs_pos (by decide) hv, List.length_cons]
        have h1 : v / 10 < 10 ^ k := Nat.div_lt_of_lt_mul (by rw [Nat.mul_comm, ← Nat.pow_succ]; exact h)
        by_cases h0 : v / 10 = 0
        · rw [h0, digs_zero]; simp
        · have := ih h1 h0
          omega
theorem digs_ne {v : Nat} (h : v ≠ 0) : digs 10 v ≠ [] := fun e => h (digs_eq_nil (by decide) e)
theorem textB_ne (v : Nat) : textB v ≠ [] := by
  unfold textB
  split
  · simp
  · rename_i h
    simp [digs_ne h]
theorem textB_digits (v : Nat) : ∀ b ∈ textB v, digitB b = true := by
  intro b hb
  unfold textB at hb
  split at hb
  · simp at hb; subst hb; decide
  · simp only [List.mem_reverse, List.mem_map] at hb
    obtain ⟨d, hd, rfl⟩ := hb
    have := ok_digs (b := 10) (by decide) v d hd
    simp only [digitB, dch_toNat this, decide_eq_true_eq]
    omega
theorem numB_textB (v : Nat) : numB (textB v) = v := by
  unfold textB
  split
  · rename_i h; subst h; rfl
  · unfold numB
    rw [List.map_reverse, List.reverse_reverse, map_back (ok_digs (by decide) v), val_digs (by decide)]
theorem textB_head {v : Nat} (h : v ≠ 0) : (textB v)[0]? ≠ some 48 := by
  unfold textB
  rw [if_neg h]
  intro e
  have hn := norm_digs (b := 10) (by decide) v
  have ho := ok_digs (b := 10) (by decide) v
  rw [← List.head?_eq_getElem?, List.head?_reverse, List.getLast?_map] at e
  cases hl : (digs 10 v).getLast? with
  | none => rw [hl] at e; cases e
  | some d =>
    rw [hl] at e
    have h1 := hn d hl
    have h2 := ho d (List.mem_of_getLast? hl)
    have h3 : dch d = 48 := by simpa using e
    have h4 := dch_toNat h2
    rw [h3] at h4
    exact h1 (by simp at h4; omega)
theorem text_parse {l : List UInt8} {v : Nat} (h : parseN l = .ok v) : textB v = l := by
  unfold parseN at h
  split at h
  · cases h
  split at h
  · cases h
  rename_i h0
  split at h
  · cases h
  rename_i hf
  split at h
  · cases h
  rename_i hz
  injection h with h
  have hd : ∀ b ∈ l, 48 ≤ b.toNat ∧ b.toNat ≤ 57 := by
    intro b hb
    have := (List.findIdx?_eq_none_iff.1 hf) b hb
    simpa [digitB] using this
  have hback : (l.map (fun b => b.toNat - 48)).map dch = l := by
    rw [List.map_map]
    conv => rhs; rw [← List.map_id l]
    apply List.map_congr_left
    intro b hb
    have := hd b hb
    simp only [Function.comp, id]
    apply UInt8.toNat_inj.1
    rw [dch_toNat (by omega)]
    omega
  have hok : OkB 10 ((l.map (fun b => b.toNat - 48)).reverse) := by
    intro d hd'
    simp only [List.mem_reverse, List.mem_map] at hd'
    obtain ⟨b, hb, rfl⟩ := hd'
    have := hd b hb
    omega
  by_cases hone : l = [48]
  · subst hone
    subst h
    rfl
  · have hhead : l[0]? ≠ some 48 := by
      intro e
      apply hz
      refine ⟨?_, e⟩
      cases l with
      | nil => exact absurd rfl h0
      | cons b l =>
        cases l with
        | nil => simp at e; subst e; exact absurd rfl hone
        | cons c l => simp
    have hnorm : Norm ((l.map (fun b => b.toNat - 48)).reverse) := by
      intro x hx e
      rw [List.getLast?_reverse, List.head?_map] at hx
      cases hl : l.head? with
      | none => rw [hl] at hx; cases hx
      | some b =>
        rw [hl] at hx
        simp only [Option.map_some, Option.some.injEq] at hx
        have h1 := hd b (List.mem_of_head? hl)
        have h2 : b = 48 := UInt8.toNat_inj.1 (by simp; omega)
        subst h2
        rw [List.head?_eq_getElem?] at hl
        exact hhead hl
    have hv := digs_val (b := 10) (by decide) hok hnorm
    have hne : v ≠ 0 := by
      intro e
      rw [← h] at e
      have := val_pos (b := 10) (by decide) hnorm (by simp; exact h0)
      unfold numB at e
      omega
    unfold textB
    rw [if_neg hne, ← h]
    unfold numB
    rw [hv, ← List.map_reverse, List.reverse_reverse, hback]

/-- Digits with noughts behind them, written the other way round, the noughts cut off. -/
theorem text_trim {D : List Nat} (h : OkB 10 D) : ((D.map dch).reverse.dropWhile (fun b => b == 48)) = if valB 10 D = 0 then [] else textB (valB 10 D) := by
  obtain ⟨m, hm, hz, hl⟩ := cut_ex D
  have e := cut_eq (by decide) h hm hz hl
  have hD : D = digs 10 (valB 10 D) ++ List.replicate (D.length - m) 0 := by
    conv => lhs; rw [← List.take_append_drop m D]
    rw [e]
    congr 1
    apply List.ext_getElem?
    intro i
    rw [List.getElem?_drop, List.getElem?_replicate]
    split
    · rename_i hi
      have hlt : m + i < D.length := by omega
      rw [List.getElem?_eq_getElem hlt, hz (m + i) _ (by omega) (List.getElem?_eq_getElem hlt)]
    · rw [List.getElem?_eq_none (by omega)]
  have hrev : (D.map dch).reverse = List.replicate (D.length - m) 48 ++ ((digs 10 (valB 10 D)).map dch).reverse := by
    conv => lhs; rw [hD]
    rw [List.map_append, List.reverse_append, List.map_replicate, List.reverse_replicate]
    rfl
  rw [hrev]
  have hdrop : ∀ (k : Nat) (l : List UInt8), (List.replicate k (48 : UInt8) ++ l).dropWhile (fun b => b == 48) = l.dropWhile (fun b => b == 48) := by
    intro k l
    induction k with
    | zero => rfl
    | succ k ih => rw [List.replicate_succ, List.cons_append, List.dropWhile_cons, if_pos (by decide), ih]
  rw [hdrop]
  by_cases h0 : valB 10 D = 0
  · rw [if_pos h0, h0]; rfl
  · rw [if_neg h0]
    have ht : ((digs 10 (valB 10 D)).map dch).reverse = textB (valB 10 D) := by unfold textB; rw [if_neg h0]
    have hh := textB_head h0
    rw [ht]
    cases hb : textB (valB 10 D) with
    | nil => rfl
    | cons b l =>
      rw [hb] at hh
      rw [List.dropWhile_cons, if_neg]
      intro e
      exact hh (by simp at e; simp [e])

end NatP
end Go.Proofs.YtpllojpgpejfmaaGreatDoor

namespace Go.Proofs.YtpllojpgpejfmaaGreatDoor
open Go.RowKit NatP

theorem lit_word (w : World) (x : Nat) (e : TypeId) : Sl (w.alloc (.cells #[.int .u32 (x : Int)] e)) (some ⟨w.heap.size, 0, none⟩) 1 ([x].map wv) := by
  exact Sl.of_own (World.ownsRow_lit (base := 0) (e := e) (size := 1) w #[.int .u32 (x : Int)] 1 (Nat.zero_le _) (by decide) rfl)
theorem val_one (x : Nat) : val [x] = x := by simp [val, valB]
theorem ok_one {x : Nat} (h : x < W32) : OkB W32 [x] := by intro y hy; simp at hy; subst hy; exact h
theorem numB_take {l : List UInt8} {k : Nat} {b : UInt8} (h : l[k]? = some b) : numB (l.take (k + 1)) = numB (l.take k) * 10 + (b.toNat - 48) := by
  rw [List.take_add_one, h]
  exact numB_snoc _ _
theorem numB_lt {l : List UInt8} (h : ∀ b ∈ l, digitB b = true) : numB l < 10 ^ l.length := by
  unfold numB
  have := val_lt (b := 10) (by decide) (l := (l.map (fun b => b.toNat - 48)).reverse) (by
    intro x hx
    simp only [List.mem_reverse, List.mem_map] at hx
    obtain ⟨b, hb, rfl⟩ := hx
    have := h b hb
    simp [digitB] at this
    omega)
  simpa using this
theorem limbs_len_dec {v n : Nat} (h : v < 10 ^ n) : (limbs v).length ≤ n :=
  limbs_len_of_lt n v (Nat.lt_of_lt_of_le h (Nat.pow_le_pow_left (by decide) n))

theorem limbs_mul10 (V : Nat) : (limbs (V * 10)).length ≤ (limbs V).length + 1 := by
  have h1 := val_lt w32 (ok_limbs V)
  have h2 : valB W32 (limbs V) = V := val_limbs V
  rw [h2] at h1
  refine limbs_len_of_lt _ _ ?_
  rw [Nat.pow_succ]
  exact Nat.lt_of_lt_of_le (Nat.mul_lt_mul_of_pos_right h1 (by decide)) (Nat.mul_le_mul_left _ (by decide))
/-- The block holds the error that a package tells. -/
def FaultAt (w : World) (b : Nat) (op : ByteArray) (i : Int) (root : Addr) : Prop :=
  w.heap[b]? = some (.cells #[.string op, .int .i64 i, .iface 199 (.pointer (some root))] 99)
def sNat : ByteArray := ⟨#[110, 97, 116]⟩
/-- The answer is nothing and a new error. -/
def NilErr (w : World) (op : ByteArray) (i : Int) (root : Addr) (e : Ending) (w' : World) : Prop :=
  ∃ b, e = .returned (.tuple #[.slice none 0 0, errV b]) ∧ FaultAt w' b op i root ∧ w.heap.size ≤ b ∧ b < w'.heap.size ∧ Below w.heap.size w w'
/-- The answer is a new number and no error. -/
def NatOk (w : World) (v : Nat) (e : Ending) (w' : World) : Prop :=
  ∃ A c, e = .returned (.tuple #[.slice A (limbs v).length c, .nilIface]) ∧ w'.ownsRow w.heap.size 103 1 (.slice A (limbs v).length c) (limbs v).length ((limbs v).map wv) ∧ Below w.heap.size w w'
theorem nilErr_of {w w1 : World} {op : ByteArray} {i : Int} {root : Addr} (hb : Below w.heap.size w w1) :
    NilErr w op i root (.returned (.tuple #[.slice none 0 0, errV w1.heap.size])) (w1.alloc (.cells #[.string op, .int .i64 i, .iface 199 (.pointer (some root))] 99)) :=
  ⟨_, rfl, heap_new _ _, hb.size, by simp, hb.alloc hb.size _⟩
def ParsePost (w : World) (E : Nat → Addr) (l : List UInt8) (e : Ending) (w' : World) : Prop :=
  match parseN l with
  | .ok v => NatOk w v e w'
  | .error (i, n) => NilErr w sNat i (E n) e w'

set_option maxRecDepth 100000 in
theorem parse_big (w : World) (E : Nat → Addr) (hE : Errs w E) (l : List UInt8) (h : 1200 < l.length) :
    Calls Tryz.prog 34 #[.string ⟨l.toArray⟩] w fun e w' => NilErr w sNat 0 (E 4) e w' := by
  have hs : (⟨l.toArray⟩ : ByteArray).size = l.length := Lib.size_mk l
  generalize hS : (⟨l.toArray⟩ : ByteArray) = S at *
  have hd : decide ((1200 : Int) < (l.length : Int)) = true := decide_eq_true (by omega)
  clear hS
  go_enter Tryz.func34, Tryz.ntmps34
  go_wp2_with fail
  refine (new_c w E hE sNat 0 4 (by decide) (by decide)).mono ?_
  rintro e w' ⟨rfl, rfl⟩
  go_wp2_with fail
  go_ret2
  exact nilErr_of (Below.refl _ _)
set_option maxRecDepth 100000 in
theorem parse_none (w : World) (E : Nat → Addr) (hE : Errs w E) :
    Calls Tryz.prog 34 #[.string ⟨#[]⟩] w fun e w' => NilErr w sNat 0 (E 6) e w' := by
  go_enter Tryz.func34, Tryz.ntmps34
  go_wp2_with fail
  refine (new_c w E hE sNat 0 6 (by decide) (by decide)).mono ?_
  rintro e w' ⟨rfl, rfl⟩
  go_wp2_with fail
  go_ret2
  exact nilErr_of (Below.refl _ _)

theorem parse_bad {l : List UInt8} {k : Nat} {b : UInt8} (h1 : ¬ 1200 < l.length) (hk : l[k]? = some b) (hb : digitB b = false) (hd : ∀ c ∈ l.take k, digitB c = true) : parseN l = .error (k, 6) := by
  unfold parseN
  rw [if_neg h1, if_neg (by rintro rfl; simp at hk)]
  have : l.findIdx? (fun b => !digitB b) = some k := by
    rw [List.findIdx?_eq_some_iff_getElem]
    obtain ⟨hkl, e⟩ := List.getElem?_eq_some_iff.1 hk
    refine ⟨hkl, by rw [e, hb]; rfl, fun j hj => ?_⟩
    have : l[j]'(by omega) ∈ l.take k := by
      rw [List.mem_take_iff_getElem]
      exact ⟨j, by omega, rfl⟩
    simp [hd _ this]
  rw [this]
theorem parse_good {l : List UInt8} (h1 : ¬ 1200 < l.length) (h0 : l ≠ []) (hd : ∀ c ∈ l, digitB c = true) : parseN l = if 1 < l.length ∧ l[0]? = some 48 then .error (0, 6) else .ok (numB l) := by
  unfold parseN
  rw [if_neg h1, if_neg h0]
  have : l.findIdx? (fun b => !digitB b) = none := by
    rw [List.findIdx?_eq_none_iff]
    intro b hb
    simp [hd b hb]
  rw [this]

set_option maxRecDepth 100000 in
set_option maxHeartbeats 4000000 in
theorem parse_mid (w : World) (E : Nat → Addr) (hE : Errs w E) (l : List UInt8) (h1 : ¬ 1200 < l.length) (hne : l ≠ []) :
    Calls Tryz.prog 34 #[.string ⟨l.toArray⟩] w fun e w' => ParsePost w E l e w' := by
  have hgood := parse_good h1 hne
  have hs : (⟨l.toArray⟩ : ByteArray).size = l.length := Lib.size_mk l
  obtain ⟨n, hn⟩ : ∃ n, l.length = n := ⟨_, rfl⟩
  have hat : ∀ (k : Nat) (hk : k < (⟨l.toArray⟩ : ByteArray).size), l[k]? = some ((⟨l.toArray⟩ : ByteArray)[k]'hk) := fun k hk => (Lib.getElem_mk l k hk).symm ▸ rfl
  have hemp : (⟨l.toArray⟩ : ByteArray).toList.isEmpty = false := by
    rw [ByteArray.toList_eq]
    cases l with
    | nil => exact absurd rfl hne
    | cons b l => rfl
  generalize hS : (⟨l.toArray⟩ : ByteArray) = S at *
  have hle := h1
  rw [hn] at hs hle
  have h1200 : decide ((1200 : Int) < (n : Int)) = false := decide_eq_false (by omega)
  have HN := Lib.hid hn
  have HAT := Lib.hid hat
  have HG := Lib.hid hgood
  have HE := Lib.hid hE
  clear hn hat hne hS hgood h1 hE
  go_enter Tryz.func34, Tryz.ntmps34
  go_wp2_with fail
  go_loopw [4, 17] (fun a i wr => ∃ (k c : Nat) (A : Option Addr), k ≤ n ∧ i = .int .i64 (k : Int) ∧ Hid (∀ b ∈ l.take k, digitB b = true) ∧ a = .slice A (limbs (numB (l.take k))).length c ∧ wr.ownsRow w.heap.size 103 1 (.slice A (limbs (numB (l.take k))).length c) (limbs (numB (l.take k))).length ((limbs (numB (l.take k))).map wv) ∧ Below w.heap.size w wr) (fun _ i _ => n - (intOf i).toNat)
  case atStart => exact ⟨0, 0, none, Nat.zero_le _, rfl, Lib.hid (fun b hb => by simp at hb), rfl, ⟨rfl, .inl ⟨rfl, rfl⟩⟩, Below.refl _ _⟩
  case round =>
    obtain ⟨k, c, A, hk, rfl, HD, rfl, hown, hb⟩ := hrel
    by_cases hlt : k < n
    · have hkS : k < S.size := by omega
      have hlk := HAT.out k hkS
      obtain ⟨b, hbb⟩ : ∃ b, S[k]'hkS = b := ⟨_, rfl⟩
      rw [hbb] at hlk
      by_cases hdg : digitB b = true
      case neg =>
        have hdf : digitB b = false := by simpa using hdg
        have hpost : parseN l = .error (k, 6) := parse_bad (by rw [HN.out]; omega) hlk hdf HD.out
        have HP := Lib.hid hpost
        have HEr := Lib.hid (HE.out.below hb)
        have hrange : (b.toNat : Int) < 48 ∨ (57 : Int) < (b.toNat : Int) := by
          simp only [digitB, decide_eq_false_iff_not] at hdf
          omega
        clear hpost hdg hdf hlk
        rcases hrange with h | h
        · have d1 : decide ((b.toNat : Int) < 48) = true := decide_eq_true h
          clear h
          go_wp2_with fail
          refine (new_c _ E HEr.out sNat (k : Int) 6 (by decide) (by decide)).mono ?_
          rintro e w' ⟨rfl, rfl⟩
          go_wp2_with fail
          go_ret2
          unfold ParsePost
          rw [HP.out]
          exact nilErr_of hb
        · have d1 : decide ((b.toNat : Int) < 48) = false := decide_eq_false (by omega)
          have d2 : decide ((57 : Int) < (b.toNat : Int)) = true := decide_eq_true h
          clear h
          go_wp2_with fail
          refine (new_c _ E HEr.out sNat (k : Int) 6 (by decide) (by decide)).mono ?_
          rintro e w' ⟨rfl, rfl⟩
          go_wp2_with fail
          go_ret2
          unfold ParsePost
          rw [HP.out]
          exact nilErr_of hb
      have hbd := hdg
      have HD2 : Hid (∀ b ∈ l.take (k + 1), digitB b = true) := Lib.hid (by
        intro c hc
        rw [List.take_add_one, hlk] at hc
        rcases List.mem_append.1 hc with h | h
        · exact HD.out c h
        · simp at h; subst h; exact hdg)
      clear hdg
      simp only [digitB, decide_eq_true_eq] at hbd
      have hnum := numB_take hlk
      have hlim : (limbs (numB (l.take k))).length ≤ 1200 := by
        have h1 := numB_lt (l := l.take k) HD.out
        have h2 := limbs_len_dec h1
        have h3 : (l.take k).length ≤ 1200 := by have := HN.out; simp; omega
        omega
      have HNUM := Lib.hid hnum
      obtain ⟨V, hV⟩ : ∃ V, numB (l.take k) = V := ⟨_, rfl⟩
      rw [hV] at hown hlim HNUM ⊢
      have d1 : decide ((b.toNat : Int) < 48) = false := decide_eq_false (by omega)
      have d2 : decide ((57 : Int) < (b.toNat : Int)) = false := decide_eq_false (by omega)
      have q1 : IntKind.u8.wrap ((b.toNat : Int) - 48) = ((b.toNat - 48 : Nat) : Int) := by rw [IntWalk.u8_in _ (by omega)]; omega
      have q2 : IntKind.u32.wrap ((b.toNat - 48 : Nat) : Int) = ((b.toNat - 48 : Nat) : Int) := IntWalk.u32_in _ (by omega)
      clear hlk hnum hV
      obtain ⟨wo, rfl⟩ : ∃ wo : World, wo = wr := ⟨_, rfl⟩
      have hsl := Sl.of_own hown
      have hmul := fun (wz : World) (B : Option Addr) (h1 : Sl wz A (limbs V).length ((limbs V).map wv)) (h2 : Sl wz B 1 ([10].map wv)) => mul_c wz A B (limbs V).length 1 c 1 (limbs V) [10] h1 h2 (ok_limbs V) (ok_one (by decide)) (by omega) (by decide)
      rw [val_limbs, val_one] at hmul
      have hadd := fun (wz : World) (B C : Option Addr) (cc : Nat) (h1 : Sl wz B (limbs (V * 10)).length ((limbs (V * 10)).map wv)) (h2 : Sl wz C 1 ([b.toNat - 48].map wv)) => add_c wz B C (limbs (V * 10)).length 1 cc 1 (limbs (V * 10)) [b.toNat - 48] h1 h2 (ok_limbs _) (ok_one (by unfold W32; omega)) (by have := limbs_mul10 V; omega) (by decide)
      rw [val_limbs, val_one] at hadd
      have HMUL := Lib.hid hmul
      have HADD := Lib.hid hadd
      have HSL := Lib.hid hsl
      clear hsl hmul hadd
      go_wp2_with fail
      obtain ⟨D, hDD⟩ : ∃ D, b.toNat - 48 = D := ⟨_, rfl⟩
      have hDl : D < W32 := by unfold W32; omega
      rw [hDD] at q1 q2 HNUM HADD
      have l1 : Sl (wo.alloc (.cells #[.int .u32 10] 103)) (some ⟨wo.heap.size, 0, none⟩) 1 ([10].map wv) := lit_word wo 10 103
      have l2 : Sl ((wo.alloc (.cells #[.int .u32 (D : Int)] 103)).alloc (.cells #[.int .u32 10] 103)).drew (some ⟨wo.heap.size + 1, 0, none⟩) 1 ([10].map wv) := by
        have := lit_word (wo.alloc (.cells #[.int .u32 (D : Int)] 103)) 10 103
        rw [World.size_alloc] at this
        exact this
      have l4 : Sl ((wo.alloc (.cells #[.int .u32 10] 103)).alloc (.cells #[.int .u32 (D : Int)] 103)).drew (some ⟨wo.heap.size + 1, 0, none⟩) 1 ([D].map wv) := by
        have := lit_word (wo.alloc (.cells #[.int .u32 10] 103)) D 103
        rw [World.size_alloc] at this
        exact this
      have l5 : Sl ((wo.alloc (.cells #[.int .u32 (D : Int)] 103)).alloc (.cells #[.int .u32 10] 103)).drew (some ⟨wo.heap.size, 0, none⟩) 1 ([D].map wv) := (lit_word wo D 103).alloc _
      have L5 := Lib.hid l5
      have L1 := Lib.hid l1
      have L2 := Lib.hid l2
      have L4 := Lib.hid l4
      clear l1 l2 l4 l5 hDD
      go_region_with (first
        | (go_at_call 71; refine (HMUL.out _ _ (by first | exact HSL.out.alloc _ | exact (HSL.out.alloc _).alloc _) (by first | exact L1.out | exact L1.out.alloc _ | exact L2.out)).mono ?_; rintro e w2 ⟨A2, c2, rfl, ho2, hb2⟩)
        | (go_at_call 70; refine (HADD.out _ _ _ _ (by first | exact Sl.of_own ho2 | exact (Sl.of_own ho2).alloc _) (by first | exact lit_word w2 D _ | exact Sl.below L4.out hb2 | exact Sl.below L5.out hb2)).mono ?_; rintro e w3 ⟨A3, c3, rfl, ho3, hb3⟩))
      all_goals
        have s2 := hb2.size
        have s3 := hb3.size
        simp only [World.size_alloc, World.size_drew] at s2 s3 ho2 ho3 hb2 hb3
        have hb0 := hb.size
        have hb02 : Below w.heap.size w w2 := by
          refine Below.trans ?_ (hb2.mono (by omega))
          first
          | exact (hb.alloc hb0 _).drew
          | exact ((hb.alloc hb0 _).alloc (by simp; omega) _).drew
        have hb23 : Below w.heap.size w2 w3 := by
          first
          | exact hb3.mono (by omega)
          | exact ((Below.refl _ _).alloc (by omega) _).trans (hb3.mono (by omega))
          | exact (((Below.refl _ _).alloc (by omega) _).drew).trans (hb3.mono (by omega))
        have hbz := hb02.trans hb23
        have hoz := own_base ho3 (base' := w.heap.size) (by omega)
        rw [← HNUM.out] at hoz
        have HOZ := Lib.hid hoz
        clear s2 s3 ho2 ho3 hb2 hb3 hb02 hb23 hoz
        go_wp2_with fail
        exact ⟨⟨k + 1, c3, A3, by omega, by go_num, HD2, by rw [HNUM.out], HOZ.out, hbz⟩, by simp [intOf]; omega⟩
    · obtain rfl : k = n := by omega
      have htk : l.take k = l := List.take_of_length_le (by rw [HN.out]; exact Nat.le_refl _)
      have hpost := HG.out (fun b hb => HD.out b (by rw [htk]; exact hb))
      rw [HN.out] at hpost
      rw [htk] at hown ⊢
      have HP := Lib.hid hpost
      have HEr := Lib.hid (HE.out.below hb)
      clear hpost
      by_cases h1 : 1 < k
      · have h0S : 0 < S.size := by omega
        have hl0 := HAT.out 0 h0S
        obtain ⟨b, hbb⟩ : ∃ b, S[0]'h0S = b := ⟨_, rfl⟩
        rw [hbb] at hl0
        by_cases hb48 : b = 48
        · have hp2 : Hid (parseN l = .error (0, 6)) := Lib.hid (by rw [HP.out, if_pos ⟨h1, by rw [hl0, hb48]⟩])
          have hbt : ((b.toNat : Int) == 48) = true := by rw [hb48]; rfl
          clear hl0 hb48
          go_wp2_with fail
          refine (new_c _ E HEr.out sNat 0 6 (by decide) (by decide)).mono ?_
          rintro e w' ⟨rfl, rfl⟩
          go_wp2_with fail
          go_ret2
          unfold ParsePost
          rw [hp2.out]
          exact nilErr_of hb
        · have hbt : ((b.toNat : Int) == 48) = false := by
            rw [beq_eq_false_iff_ne]
            intro e
            exact hb48 (UInt8.toNat_inj.1 (by simp; omega))
          have hp2 : Hid (parseN l = .ok (numB l)) := Lib.hid (by rw [HP.out, if_neg (fun h => hb48 (by rw [hl0] at h; exact Option.some.inj h.2))])
          clear hl0 hb48
          go_wp2_with fail
          go_ret2
          unfold ParsePost
          rw [hp2.out]
          exact ⟨A, c, rfl, hown, hb⟩
      · have hd1 : decide ((1 : Int) < (k : Int)) = false := decide_eq_false (by omega)
        have hp2 : Hid (parseN l = .ok (numB l)) := Lib.hid (by rw [HP.out, if_neg (fun h => h1 h.1)])
        go_wp2_with fail
        go_ret2
        unfold ParsePost
        rw [hp2.out]
        exact ⟨A, c, rfl, hown, hb⟩

/-- nat.Parse. -/
theorem parse_c (w : World) (E : Nat → Addr) (hE : Errs w E) (l : List UInt8) :
    Calls Tryz.prog 34 #[.string ⟨l.toArray⟩] w fun e w' => ParsePost w E l e w' := by
  by_cases h1 : 1200 < l.length
  · refine (parse_big w E hE l h1).mono fun e w' h => ?_
    unfold ParsePost parseN
    rw [if_pos h1]
    exact h
  · by_cases h0 : l = []
    · subst h0
      refine (parse_none w E hE).mono fun e w' h => ?_
      exact h
    · exact parse_mid w E hE l h1 h0

end Go.Proofs.YtpllojpgpejfmaaGreatDoor

namespace Go.Proofs.YtpllojpgpejfmaaGreatDoor
open Go.RowKit NatP

theorem val_lt_pow {n : Nat} {xs : List Nat} (h : OkB W32 xs) (hl : xs.length = n) : val xs < W32 ^ n := by
  have := val_lt w32 h
  rwa [hl] at this
theorem limbs_zero {v : Nat} (h : (limbs v).length = 0) : v = 0 := by
  have : limbs v = [] := List.length_eq_zero_iff.1 h
  exact digs_eq_nil w32 this
theorem limbs_div_le (v d : Nat) : (limbs (v / d)).length ≤ (limbs v).length := by
  have h1 := val_lt w32 (ok_limbs v)
  have h2 : valB W32 (limbs v) = v := val_limbs v
  rw [h2] at h1
  exact limbs_len_of_lt _ _ (Nat.lt_of_le_of_lt (Nat.div_le_self _ _) h1)
/-- The slice reads as limbs of value v. -/
def Num (w : World) (A : Option Addr) (n c v : Nat) : Prop := ∃ xs, n ≤ c ∧ c ≤ maxLen ∧ Sl w A n (xs.map wv) ∧ OkB W32 xs ∧ val xs = v
theorem Num.below {w w' : World} {A : Option Addr} {n c v : Nat} (h : Num w A n c v) (hb : Below w.heap.size w w') : Num w' A n c v := by
  obtain ⟨xs, h1, h2, h3, h4, h5⟩ := h
  exact ⟨xs, h1, h2, h3.below hb, h4, h5⟩
theorem Num.alloc {w : World} {A : Option Addr} {n c v : Nat} (h : Num w A n c v) (o : Obj) : Num (w.alloc o) A n c v := by
  obtain ⟨xs, h1, h2, h3, h4, h5⟩ := h
  exact ⟨xs, h1, h2, h3.alloc o, h4, h5⟩
theorem Num.nil (w : World) : Num w none 0 0 0 := ⟨[], Nat.le_refl _, Nat.zero_le _, Sl.nil _ _, fun x hx => by simp at hx, rfl⟩
theorem Num.lt {w : World} {A : Option Addr} {n c v : Nat} (h : Num w A n c v) : v < W32 ^ n := by
  obtain ⟨xs, h1, h2, h3, h4, h5⟩ := h
  rw [← h5]
  exact val_lt_pow h4 (by simpa using h3.1)
theorem Num.len {w : World} {A : Option Addr} {n c v : Nat} (h : Num w A n c v) : (limbs v).length ≤ n := limbs_len_of_lt _ _ h.lt
theorem limbs_mul (v u k m : Nat) (h1 : (limbs v).length ≤ k) (h2 : (limbs u).length ≤ m) : (limbs (v * u)).length ≤ k + m := by
  have a1 := val_lt w32 (ok_limbs v)
  have a2 := val_lt w32 (ok_limbs u)
  rw [show valB W32 (limbs v) = v from val_limbs v] at a1
  rw [show valB W32 (limbs u) = u from val_limbs u] at a2
  have b1 := Nat.pow_le_pow_right (show 0 < W32 by decide) h1
  have b2 := Nat.pow_le_pow_right (show 0 < W32 by decide) h2
  refine limbs_len_of_lt _ _ ?_
  rw [Nat.pow_add]
  exact Nat.mul_lt_mul'' (Nat.lt_of_lt_of_le a1 b1) (Nat.lt_of_lt_of_le a2 b2)
/-- The answer is a new number, and memory is as it was. -/
def New (w : World) (v : Nat) (e : Ending) (w' : World) : Prop :=
  ∃ A c, e = .returned (.slice A (limbs v).length c) ∧ Num w' A (limbs v).length c v ∧ w'.ownsRow w.heap.size 103 1 (.slice A (limbs v).length c) (limbs v).length ((limbs v).map wv) ∧ Below w.heap.size w w'
theorem num_own {w : World} {base c v : Nat} {A : Option Addr} (h : w.ownsRow base 103 1 (.slice A (limbs v).length c) (limbs v).length ((limbs v).map wv)) : Num w A (limbs v).length c v := by
  obtain ⟨_, _, hv, h1, h2⟩ := own_slice h
  injection hv with hA _ hc
  subst hA hc
  exact ⟨limbs v, h1, h2, Sl.of_own h, ok_limbs v, val_limbs v⟩
theorem New.of {w : World} {v : Nat} {e : Ending} {w' : World} (h : NatIs w v e w') : New w v e w' := by
  obtain ⟨A, c, rfl, ho, hb⟩ := h
  exact ⟨A, c, rfl, num_own ho, ho, hb⟩
theorem add_n {w : World} {A B : Option Addr} {n c m d v u : Nat} (h1 : Num w A n c v) (h2 : Num w B m d u) (m1 : n ≤ 1000000000) (m2 : m ≤ 1000000000) {r : Nat} (hr : v + u = r) :
    Calls Tryz.prog 70 #[.slice A n c, .slice B m d] w fun e w' => New w r e w' := by
  obtain ⟨xs, _, _, s1, o1, rfl⟩ := h1
  obtain ⟨ys, _, _, s2, o2, rfl⟩ := h2
  subst hr
  exact (add_c w A B n m c d xs ys s1 s2 o1 o2 m1 m2).mono fun e w' h => New.of h
theorem mul_n {w : World} {A B : Option Addr} {n c m d v u : Nat} (h1 : Num w A n c v) (h2 : Num w B m d u) (m1 : n ≤ 1000000000) (m2 : m ≤ 1000000000) {r : Nat} (hr : v * u = r) :
    Calls Tryz.prog 71 #[.slice A n c, .slice B m d] w fun e w' => New w r e w' := by
  obtain ⟨xs, _, _, s1, o1, rfl⟩ := h1
  obtain ⟨ys, _, _, s2, o2, rfl⟩ := h2
  subst hr
  exact (mul_c w A B n m c d xs ys s1 s2 o1 o2 m1 m2).mono fun e w' h => New.of h
end Go.Proofs.YtpllojpgpejfmaaGreatDoor

namespace Go.Proofs.YtpllojpgpejfmaaGreatDoor
open Go.RowKit NatP

/-- How many binary digits a number has. -/
def blen (v : Nat) : Nat := (digs 2 v).length
theorem blen_zero : blen 0 = 0 := rfl
theorem blen_pos {v : Nat} (h : 0 < v) : blen v = blen (v / 2) + 1 := by unfold blen; rw [digs_pos (by decide) h]; rfl
theorem blen_shift (k : Nat) : ∀ v, 0 < v / 2 ^ k → blen v = k + blen (v / 2 ^ k) := by
  induction k with
  | zero => intro v _; simp
  | succ k ih =>
    intro v h
    have e : v / 2 ^ (k + 1) = v / 2 / 2 ^ k := by rw [Nat.div_div_eq_div_mul, Nat.pow_succ, Nat.mul_comm]
    rw [e] at h ⊢
    have hv : 0 < v := by
      rcases Nat.eq_zero_or_pos v with h0 | h0
      · subst h0; simp at h
      · exact h0
    rw [blen_pos hv, ih _ h]
    omega
theorem blen_top {s v x : Nat} {pre : List Nat} (hs : 0 < s) (h : digs (2 ^ s) v = pre ++ [x]) : blen v = s * pre.length + blen x := by
  have hb : 2 ≤ 2 ^ s := by
    have := Nat.pow_le_pow_right (show 0 < 2 by decide) hs
    simpa using this
  have h1 := val_digs hb v
  have h2 := ok_digs hb v
  have h3 := norm_digs hb v
  rw [h] at h1 h2 h3
  have hx : x ≠ 0 := h3 x (by simp)
  have hlt := val_lt hb (l := pre) (fun y hy => h2 y (by simp [hy]))
  rw [val_snoc, ← Nat.pow_mul] at h1
  rw [← Nat.pow_mul] at hlt
  have e : v / 2 ^ (s * pre.length) = x := by
    rw [← h1, Nat.add_mul_div_left _ _ (Nat.two_pow_pos _), Nat.div_eq_of_lt hlt, Nat.zero_add]
  rw [blen_shift (s * pre.length) v (by rw [e]; omega), e]
theorem blen_small {x k : Nat} (h : x < 2 ^ k) : blen x ≤ k := by
  induction k generalizing x with
  | zero => have : x = 0 := by simpa using h
            subst this; simp [blen_zero]
  | succ k ih =>
    rcases Nat.eq_zero_or_pos x with h0 | h0
    · subst h0; simp [blen_zero]
    · rw [blen_pos h0]
      have : x / 2 < 2 ^ k := Nat.div_lt_of_lt_mul (by rw [Nat.mul_comm, ← Nat.pow_succ]; exact h)
      have := ih this
      omega

theorem bitLen_blen (x : Nat) (h : x < 2 ^ 64) : Lib.bitLen x = blen x := by
  induction x using Nat.strongRecOn with
  | _ x ih =>
    rcases Nat.eq_zero_or_pos x with h0 | h0
    · subst h0; rfl
    · rw [Lib.bitLen_half x (by omega) h, blen_pos h0, ih (x / 2) (by omega) (by omega)]; omega

theorem len8tab_at (j : Nat) (h : j < Lib.len8tab.size) : (Lib.len8tab[j]).toNat = Lib.bitLen j := by
  have h2 : j < 256 := by rw [← Lib.len8tab_size]; exact h
  have e := Lib.len8_eq ⟨j, h2⟩
  unfold Lib.len8 at e
  simp only [Int.toNat_natCast] at e
  rw [getElem?_pos Lib.len8tab j h, Option.getD_some] at e
  omega
theorem len8_fin (a : Nat) (j : Int) (h : j.toNat < Lib.len8tab.size) (ha : a ≤ 24) (x : Nat) (hx : Lib.bitLen x = a + Lib.bitLen j.toNat) : wrap64 ((a : Int) + wrap64 ((Lib.len8tab[j.toNat]).toNat : Int)) = (Lib.bitLen x : Int) := by
  rw [len8tab_at _ h, hx]
  have h2 : j.toNat < 256 := by rw [← Lib.len8tab_size]; exact h
  have h3 := Lib.bitLen_le8 ⟨j.toNat, h2⟩
  simp only at h3
  unfold wrap64
  omega

set_option maxHeartbeats 4000000 in
set_option maxRecDepth 100000 in
theorem len32_i (x : Int) (w : World) (h0 : 0 ≤ x) (h1 : x ≤ 4294967295) :
    Calls Tryz.prog 100 #[.int .u32 x] w fun e w' => e = .returned (.int .i64 (Lib.bitLen x.toNat)) ∧ w = w' := by
  have q0 : Lib.len8tab.size = 256 := Lib.len8tab_size
  have p1 : ∀ (h : (x / 65536 / 256).toNat < Lib.len8tab.size), 65536 ≤ x → 256 ≤ x / 65536 → wrap64 (24 + wrap64 ((Lib.len8tab[(x / 65536 / 256).toNat]).toNat : Int)) = (Lib.bitLen x.toNat : Int) := fun h h2 h3 =>
    len8_fin 24 _ h (by decide) _ (by rw [Lib.bitLen_shift24 x.toNat (by omega) (by omega)]; congr 2; omega)
  have p2 : ∀ (h : (x / 65536).toNat < Lib.len8tab.size), 65536 ≤ x → wrap64 (16 + wrap64 ((Lib.len8tab[(x / 65536).toNat]).toNat : Int)) = (Lib.bitLen x.toNat : Int) := fun h h2 =>
    len8_fin 16 _ h (by decide) _ (by rw [Lib.bitLen_shift16 x.toNat (by omega) (by omega)]; congr 2; omega)
  have p3 : ∀ (h : (x / 256).toNat < Lib.len8tab.size), 256 ≤ x → wrap64 (8 + wrap64 ((Lib.len8tab[(x / 256).toNat]).toNat : Int)) = (Lib.bitLen x.toNat : Int) := fun h h2 =>
    len8_fin 8 _ h (by decide) _ (by rw [Lib.bitLen_shift8 x.toNat (by omega) (by omega)]; congr 2; omega)
  have p4 : ∀ (h : x.toNat < Lib.len8tab.size), wrap64 (wrap64 ((Lib.len8tab[x.toNat]).toNat : Int)) = (Lib.bitLen x.toNat : Int) := fun h => by
    have := len8_fin 0 x h (by decide) x.toNat (by omega)
    simpa using this
  have P1 := Lib.hid p1
  have P2 := Lib.hid p2
  have P3 := Lib.hid p3
  have P4 := Lib.hid p4
  clear p1 p2 p3 p4
  go_enter Tryz.func100, Tryz.ntmps100
  go_wp2
  all_goals (go_ret; refine ⟨?_, rfl⟩)
  · rw [← P1.out _ (by assumption) (by assumption)]; rfl
  · rw [← P2.out _ (by assumption)]; rfl
  · rw [← P3.out _ (by assumption)]; rfl
  · rw [← P4.out _]; rfl
theorem len32_c (w : World) (x : Nat) (hx : x < W32) :
    Calls Tryz.prog 100 #[.int .u32 (x : Int)] w fun e w' => e = .returned (.int .i64 (blen x : Nat)) ∧ w = w' := by
  have h := len32_i (x : Int) w (by omega) (by unfold W32 at hx; omega)
  rw [Int.toNat_natCast, bitLen_blen x (by unfold W32 at hx; omega)] at h
  exact h

theorem limbs_top {v : Nat} (h : 0 < v) : ∃ pre x, limbs v = pre ++ [x] ∧ x < W32 ∧ blen v = 32 * pre.length + blen x := by
  have hne : limbs v ≠ [] := fun e => by have := digs_eq_nil w32 e; omega
  refine ⟨(limbs v).dropLast, (limbs v).getLast hne, (List.dropLast_concat_getLast hne).symm, ok_limbs v _ (List.getLast_mem hne), ?_⟩
  exact blen_top (s := 32) (by decide) (List.dropLast_concat_getLast hne).symm

set_option maxRecDepth 100000 in
theorem natBits_c (w : World) (A : Option Addr) (n c : Nat) (xs : List Nat) (h : Sl w A n (xs.map wv)) (o : OkB W32 xs) (hc : n ≤ c) (hm : c ≤ maxLen) (m1 : n ≤ 1000000000) :
    Calls Tryz.prog 73 #[.slice A n c] w fun e w' => e = .returned (.int .i64 (blen (val xs) : Nat)) ∧ w = w' := by
  have hn := norm_c w A n c xs h o hc hm
  have s1 := sl_norm h o
  have hle := limbs_len o
  have hl : xs.length = n := by simpa using h.1
  rw [hl] at hle
  rcases Nat.eq_zero_or_pos (val xs) with h0 | h0
  · rw [h0] at hn ⊢
    have HN := Lib.hid hn
    clear hn s1 hle hl h0
    go_enter Tryz.func73, Tryz.ntmps73
    go_wp2_with fail
    refine (HN.out).mono ?_
    rintro e w' ⟨rfl, rfl⟩
    have hz : (limbs 0).length = 0 := rfl
    rw [hz]
    go_wp2_with fail
    go_ret
    exact ⟨rfl, rfl⟩
  · obtain ⟨pre, x, e1, hx, e2⟩ := limbs_top h0
    rw [e1] at hn s1 hle
    rw [List.length_append, List.length_singleton] at hn s1 hle
    obtain ⟨P, hP⟩ : ∃ P, pre.length = P := ⟨_, rfl⟩
    rw [hP] at hn s1 hle e2
    obtain ⟨ad, y, rfl, hy, hcy⟩ := s1.word_ (show P < P + 1 by omega)
    rw [List.getElem?_append_right (by omega), hP, Nat.sub_self] at hy
    obtain rfl : x = y := by simpa using hy
    have hbl : blen x ≤ 32 := blen_small (by unfold W32 at hx; omega)
    have hl32 := len32_c w x hx
    have HN := Lib.hid hn
    have HL := Lib.hid hl32
    have HE := Lib.hid e2
    clear hn hl32 e2 e1 hP hl hy
    go_enter Tryz.func73, Tryz.ntmps73
    go_wp2_with fail
    refine (HN.out).mono ?_
    rintro e w' ⟨rfl, rfl⟩
    go_wp2_with fail
    refine (HL.out).mono ?_
    rintro e w' ⟨rfl, rfl⟩
    go_wp2_with fail
    go_ret
    exact ⟨by rw [HE.out]; simp, rfl⟩
theorem bits_n {w : World} {A : Option Addr} {n c v : Nat} (h : Num w A n c v) (m1 : n ≤ 1000000000) {r : Nat} (hr : blen v = r) :
    Calls Tryz.prog 73 #[.slice A n c] w fun e w' => e = .returned (.int .i64 (r : Int)) ∧ w = w' := by
  obtain ⟨xs, a1, b1, s1, o1, rfl⟩ := h
  subst hr
  exact natBits_c w A n c xs s1 o1 a1 b1 m1
end Go.Proofs.YtpllojpgpejfmaaGreatDoor

namespace Go.Proofs.YtpllojpgpejfmaaGreatDoor
open Go.RowKit NatP

set_option maxRecDepth 100000 in
theorem from_c (w : World) (x : Nat) (h : x < 18446744073709551616) :
    Calls Tryz.prog 77 #[.int .u64 (x : Int)] w fun e w' => NatIs w x e w' := by
  have hlit := World.ownsRow_lit (base := w.heap.size) (e := 103) (size := 1) w #[.int .u32 ((x % W32 : Nat) : Int), .int .u32 ((x / W32 : Nat) : Int)] 2 (Nat.le_refl _) (by decide) rfl
  have hok : OkB W32 [x % W32, x / W32] := by
    intro y hy
    simp at hy
    rcases hy with rfl | rfl
    · exact Nat.mod_lt _ (by decide)
    · exact Nat.div_lt_of_lt_mul h
  have hval : val [x % W32, x / W32] = x := by
    simp only [val, valB, Nat.mul_zero, Nat.add_zero]
    exact Nat.mod_add_div x W32
  have hb : Below w.heap.size w (w.alloc (.cells #[.int .u32 ((x % W32 : Nat) : Int), .int .u32 ((x / W32 : Nat) : Int)] 103)) := (Below.refl _ _).alloc (Nat.le_refl _) _
  have hn := norm_own (w0 := w) (xs := [x % W32, x / W32]) hlit hok hb
  rw [hval] at hn
  have q1 : (x : Int) % 4294967296 = ((x % W32 : Nat) : Int) := rfl
  have q2 : (x : Int) / 4294967296 % 4294967296 = ((x / W32 : Nat) : Int) := by
    rw [show (x : Int) / 4294967296 = ((x / W32 : Nat) : Int) from rfl]
    exact Int.emod_eq_of_lt (Int.natCast_nonneg _) (by have : x / W32 < W32 := Nat.div_lt_of_lt_mul h
                                                       unfold W32 at *; omega)
  have Q1 := Lib.hid q1
  have Q2 := Lib.hid q2
  have HN := Lib.hid hn
  clear q1 q2 hn hlit hok hval hb
  go_enter Tryz.func77, Tryz.ntmps77
  go_wp2_with fail
  simp only [Q1.out]
  refine (HN.out).mono ?_
  rintro e w3 ⟨A, c, rfl, ho, hb3⟩
  go_wp2_with fail
  go_ret
  exact ⟨A, c, rfl, ho, hb3⟩

end Go.Proofs.YtpllojpgpejfmaaGreatDoor

namespace Go.Proofs.YtpllojpgpejfmaaGreatDoor
open Go.RowKit NatP

/-- Behind j halvings of the exponent. -/
structure PowTo (k n j m O B : Nat) : Prop where
  m_eq : m = n / 2 ^ j
  O_eq : O = k ^ (n % 2 ^ j)
  B_eq : B = k ^ (2 ^ j)
theorem PowTo.odd {k n j m O B : Nat} (h : PowTo k n j m O B) (hm : m % 2 = 1) : PowTo k n (j + 1) (m / 2) (O * B) (B * B) := by
  refine ⟨?_, ?_, ?_⟩
  · rw [h.m_eq, Nat.pow_succ, Nat.div_div_eq_div_mul]
  · rw [h.O_eq, h.B_eq, Nat.mod_pow_succ, ← h.m_eq, hm, ← Nat.pow_add, Nat.mul_one]
  · rw [h.B_eq, ← Nat.pow_add, Nat.pow_succ, Nat.mul_two]
theorem PowTo.le {k n j m O B : Nat} (h : PowTo k n j m O B) (hm : 0 < m) : 2 ^ j ≤ n := by
  rcases Nat.lt_or_ge n (2 ^ j) with h1 | h1
  · rw [h.m_eq, Nat.div_eq_of_lt h1] at hm; omega
  · exact h1
end Go.Proofs.YtpllojpgpejfmaaGreatDoor

namespace Go.Proofs.YtpllojpgpejfmaaGreatDoor
open Go.RowKit NatP

/-- Behind k limbs of a difference. -/
structure SubTo (xs ys out : List Nat) (k br : Nat) : Prop where
  ok : OkB W32 out
  len : out.length = xs.length
  zero : ∀ j x, k ≤ j → out[j]? = some x → x = 0
  br1 : br ≤ 1
  eq : val out + val (ys.take k) = val (xs.take k) + W32 ^ k * br
theorem SubTo.step {xs ys out : List Nat} {k br x : Nat} (h : SubTo xs ys out k br) (hx : OkB W32 xs) (hy : OkB W32 ys) (hxk : xs[k]? = some x) :
    SubTo xs ys (out.set k ((x + W32 - ys.getD k 0 - br) % W32)) (k + 1) (1 - (x + W32 - ys.getD k 0 - br) / W32) := by
  have hk : k < out.length := by rw [h.len]; exact (List.getElem?_eq_some_iff.1 hxk).1
  obtain ⟨z, hz⟩ : ∃ z, out[k]? = some z := ⟨_, List.getElem?_eq_getElem hk⟩
  have hz0 := h.zero k z (Nat.le_refl _) hz
  subst hz0
  have hxl : x < W32 := hx x (List.mem_of_getElem? hxk)
  have hyl : ys.getD k 0 < W32 := ok_getD (by decide) hy k
  have hb := h.br1
  refine ⟨ok_set h.ok (Nat.mod_lt _ (by decide)), by simp [h.len], fun j y hj hy' => ?_, Nat.sub_le _ _, ?_⟩
  · rw [List.getElem?_set_ne (by omega)] at hy'
    exact h.zero j y (by omega) hy'
  · have e1 := val_set (b := W32) (v := (x + W32 - ys.getD k 0 - br) % W32) hz
    have e2 := val_take_succ W32 xs k
    have e3 := val_take_succ W32 ys k
    have e4 : xs.getD k 0 = x := by rw [List.getD_eq_getElem?_getD, hxk]; rfl
    have e5 := h.eq
    have e6 : x + W32 * (1 - (x + W32 - ys.getD k 0 - br) / W32) = (x + W32 - ys.getD k 0 - br) % W32 + ys.getD k 0 + br := by
      unfold W32 at *
      omega
    unfold val at *
    rw [e4] at e2
    rw [e2, e3]
    generalize ys.getD k 0 = y at *
    generalize (x + W32 - y - br) % W32 = r at *
    generalize 1 - (x + W32 - y - br) / W32 = d at *
    generalize valB W32 (out.set k r) = V at *
    rw [Nat.mul_zero, Nat.add_zero] at e1
    rw [Nat.pow_succ]
    have e7 : W32 ^ k * (x + W32 * d) = W32 ^ k * (r + y + br) := by rw [e6]
    rw [Nat.mul_add, Nat.mul_add, Nat.mul_add, ← Nat.mul_assoc] at e7
    omega
theorem SubTo.stop {xs ys out : List Nat} {n br : Nat} (h : SubTo xs ys out n br) (hx : xs.length = n) (hy : ys.length ≤ n) (hle : val ys ≤ val xs) : val out = val xs - val ys := by
  have e := h.eq
  rw [List.take_of_length_le (by omega), List.take_of_length_le (by omega)] at e
  have h1 := val_lt w32 h.ok
  rw [h.len, hx] at h1
  change val out < W32 ^ n at h1
  have h2 := h.br1
  rcases Nat.lt_or_ge br 1 with h3 | h3
  · have : br = 0 := by omega
    subst this
    omega
  · have : br = 1 := by omega
    subst this
    omega

end Go.Proofs.YtpllojpgpejfmaaGreatDoor

namespace Go.Proofs.YtpllojpgpejfmaaGreatDoor
open Go.RowKit NatP

/-- The answer is a new number and no error. -/
def New2 (w : World) (v : Nat) (e : Ending) (w' : World) : Prop :=
  ∃ A c, e = .returned (.tuple #[.slice A (limbs v).length c, .nilIface]) ∧ Num w' A (limbs v).length c v ∧ w'.ownsRow w.heap.size 103 1 (.slice A (limbs v).length c) (limbs v).length ((limbs v).map wv) ∧ Below w.heap.size w w'
theorem New2.of {w : World} {v : Nat} {e : Ending} {w' : World} (h : NatOk w v e w') : New2 w v e w' := by
  obtain ⟨A, c, rfl, ho, hb⟩ := h
  exact ⟨A, c, rfl, num_own ho, ho, hb⟩
/-- The answer is nothing and the error of a tale. -/
def Bad2 (w : World) (E : Nat → Addr) (t : Tale) (e : Ending) (w' : World) : Prop :=
  ∃ b, e = .returned (.tuple #[.slice none 0 0, errV b]) ∧ ErrIs w' E t.1 t.2 (errV b) ∧ Below w.heap.size w w'
theorem FaultAt.is {w : World} {E : Nat → Addr} {b n : Nat} {op : ByteArray} {i : Int} (h : FaultAt w b op i (E n)) : ErrIs w E n [(op, i)] (errV b) := ⟨b, _, rfl, h, rfl⟩
theorem Bad2.of {w : World} {E : Nat → Addr} {op : ByteArray} {i : Int} {n : Nat} {e : Ending} {w' : World} (h : NilErr w op i (E n) e w') : Bad2 w E (n, [(op, i)]) e w' := by
  obtain ⟨b, rfl, hf, _, _, hb⟩ := h
  exact ⟨b, rfl, hf.is, hb⟩

theorem over_n {w : World} {A : Option Addr} {n c v d : Nat} (h1 : Num w A n c v) (hd : 0 < d) (hdl : d < W32) (m1 : n ≤ 1000000000) :
    Calls Tryz.prog 72 #[.slice A n c, .int .u32 (d : Int)] w fun e w' =>
      ∃ B c', e = .returned (.tuple #[.slice B (limbs (v / d)).length c', .int .u32 ((v % d : Nat) : Int), .nilIface]) ∧ w'.ownsRow w.heap.size 103 1 (.slice B (limbs (v / d)).length c') (limbs (v / d)).length ((limbs (v / d)).map wv) ∧ Below w.heap.size w w' := by
  obtain ⟨xs, a1, b1, s1, o1, rfl⟩ := h1
  exact over_c w A n c d xs s1 o1 hd hdl m1
end Go.Proofs.YtpllojpgpejfmaaGreatDoor
