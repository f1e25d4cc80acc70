/- The rule of a number: rule.From. Condition: the number reads from memory; the error variables hold what E says. The document's number of a rule: edenref04.Code. Condition: the table reads from memory. The document's rule of a number: edenref04.From. Condition: the limbs read from memory. The document's rule of a number, the rule's size in reach: edenref04.From. Condition: the limbs read from memory. The document's rule of a number, a number too great: edenref04.From. Condition: the limbs read from memory. The document's rule of a number, the good way: edenref04.From. Condition: the limbs read from memory. -/
import Derived.StillTailTactics
import Derived.Deep.RegionHeld3
import Derived.Deep.AppendLies
import Derived.Test.YtpllojpgpejfmaaGreatDoorF3
import Derived.Test.YtpllojpgpejfmaaGreatDoorF5
import Derived.Test.YtpllojpgpejfmaaGreatDoorF6
import Derived.Test.YtpllojpgpejfmaaGreatDoorF11
import Derived.Test.YtpllojpgpejfmaaGreatDoorF12
import Derived.Test.YtpllojpgpejfmaaGreatDoorF14
namespace Go.Proofs.YtpllojpgpejfmaaGreatDoor
open Go.RowKit RuleP NatP

namespace RuleP
/-- The first n digits of a number in base k. -/
def digN (k : Nat) : Nat → Nat → List Nat
  | 0, _ => []
  | n + 1, v => v % k :: digN k n (v / k)
theorem digN_len (k n v : Nat) : (digN k n v).length = n := by induction n generalizing v with
  | zero => rfl
  | succ n ih => simp [digN, ih]
theorem digN_snoc (k n v : Nat) : digN k (n + 1) v = digN k n v ++ [v / k ^ n % k] := by
  induction n generalizing v with
  | zero => simp [digN]
  | succ n ih =>
    rw [show digN k (n + 1 + 1) v = v % k :: digN k (n + 1) (v / k) from rfl, ih, show digN k (n + 1) v = v % k :: digN k n (v / k) from rfl, Nat.div_div_eq_div_mul, Nat.pow_succ, Nat.mul_comm k]
    rfl
/-- rule.From's answer: the table. -/
def fromN (k r : Int) (v : Nat) : Except Tale (List Nat) :=
  if k < 1 ∨ 4 < k ∨ r < 0 ∨ 3 < r then .error (3, [(sRule, 0)])
  else if 256 < k.toNat ^ (2 * r.toNat + 1) then .error (4, [(sRule, 0)])
  else if 0 < v / k.toNat ^ k.toNat ^ (2 * r.toNat + 1) then .error (3, [(sRule, 1)])
  else .ok (digN k.toNat (k.toNat ^ (2 * r.toNat + 1)) v)
end RuleP

/-- The answer is a new rule and no error, or no rule and the error of the tale. -/
def RuleErr (w : World) (E : Nat → Addr) (k r : Int) (x : Except Tale (List Nat)) (e : Ending) (w' : World) : Prop :=
  match x with
  | .ok t => ∃ A c, e = .returned (.tuple #[ruleV k r A t.length c, .nilIface]) ∧ w'.ownsRow w.heap.size 3 1 (.slice A t.length c) t.length ((ints t).map (Value.int .i64)) ∧ Below w.heap.size w w'
  | .error t => ∃ v, e = .returned (.tuple #[ruleV 0 0 none 0 0, v]) ∧ ErrIs w' E t.1 t.2 v ∧ Below w.heap.size w w'

set_option maxRecDepth 100000 in
set_option maxHeartbeats 2000000 in
theorem from_err (w : World) (E : Nat → Addr) (hE : Errs w E) (k r : Int) (A : Value) (h : k < 1 ∨ 4 < k ∨ r < 0 ∨ 3 < r) :
    Calls Tryz.prog 36 #[.int .i64 k, .int .i64 r, A] w fun e w' => RuleErr w E k r (.error (3, [(sRule, 0)])) e w' := by
  have hs := size_err (w.alloc (.cells #[.int .i64 0, .int .i64 0, .slice none 0 0] 26)) E (hE.below ((Below.refl _ _).alloc (Nat.le_refl _) _)) k r h
  have HS := Lib.hid hs
  clear hs h
  go_enter Tryz.func36, Tryz.ntmps36
  go_wp2_with fail
  refine (HS.out).mono ?_
  rintro e w1 ⟨b, rfl, he, hb⟩
  have hr1 := (RuleAt.new w (.int .i64 0) (.int .i64 0) (.slice none 0 0)).below hb (by simp)
  obtain ⟨c0, c1, c2, f0, f1, f2⟩ := hr1.facts
  have hP := ErrIs.set3 he hr1 (.int .i64 0) (.int .i64 0) (.slice none 0 0)
  have hB := below_set3 (below_box hb) (Nat.le_refl _) (.int .i64 0) (.int .i64 0) (.slice none 0 0)
  have HP := Lib.hid hP
  have HB := Lib.hid hB
  clear he hP hB hb hr1
  unfold errV at *
  go_wp2_with fail
  exact bodyPost_ret (v := .tuple #[.agg #[.int .i64 0, .int .i64 0, .slice none 0 0], .iface 95 (.pointer (some ⟨b, 0, none⟩))]) (by simp [results, Tryz.results36, go_sem, c0, c1, c2]) rfl ⟨_, rfl, HP.out, HB.out⟩

set_option maxRecDepth 100000 in
set_option maxHeartbeats 2000000 in
theorem from_big (w : World) (E : Nat → Addr) (hE : Errs w E) (k r : Nat) (h1 : 1 ≤ k) (h2 : k ≤ 4) (h3 : r ≤ 3) (A : Value) (h : 256 < k ^ (2 * r + 1)) :
    Calls Tryz.prog 36 #[.int .i64 (k : Int), .int .i64 (r : Int), A] w fun e w' => RuleErr w E k r (.error (4, [(sRule, 0)])) e w' := by
  have hs := size_ok (w.alloc (.cells #[.int .i64 0, .int .i64 0, .slice none 0 0] 26)) k r h1 h2 h3
  obtain ⟨L, hL⟩ : ∃ L, k ^ (2 * r + 1) = L := ⟨_, rfl⟩
  rw [hL] at hs h
  have HS := Lib.hid hs
  have HE := Lib.hid (hE.below ((Below.refl _ _).alloc (Nat.le_refl _) (.cells #[.int .i64 0, .int .i64 0, .slice none 0 0] 26)))
  clear hs hL hE
  go_enter Tryz.func36, Tryz.ntmps36
  go_wp2_with fail
  refine (HS.out).mono ?_
  rintro e w1 ⟨rfl, rfl⟩
  go_wp2_with fail
  refine (ruleWrong_c _ E HE.out 0 4 (by decide) (by decide)).mono ?_
  rintro e w1 ⟨rfl, he, hb⟩
  have hr1 := (RuleAt.new w (.int .i64 0) (.int .i64 0) (.slice none 0 0)).below hb (by simp)
  obtain ⟨c0, c1, c2, f0, f1, f2⟩ := hr1.facts
  have hP := ErrIs.set3 he hr1 (.int .i64 0) (.int .i64 0) (.slice none 0 0)
  rw [World.size_alloc] at hP
  have hB := below_set3 (below_box hb) (Nat.le_refl _) (.int .i64 0) (.int .i64 0) (.slice none 0 0)
  have HP := Lib.hid hP
  have HB := Lib.hid hB
  clear he hP hB hb hr1
  unfold errV at *
  go_wp2_with fail
  exact bodyPost_ret (v := .tuple #[.agg #[.int .i64 0, .int .i64 0, .slice none 0 0], .iface 95 (.pointer (some ⟨w.heap.size + 1, 0, none⟩))]) (by simp [results, Tryz.results36, go_sem, c0, c1, c2]) rfl ⟨_, rfl, HP.out, HB.out⟩

/-- Behind j digits: the table. -/
def digT (k L v j : Nat) : List Nat := digN k j v ++ List.replicate (L - j) 0
theorem digT_len {k L v j : Nat} (h : j ≤ L) : (digT k L v j).length = L := by simp [digT, digN_len]; omega
theorem digT_zero (k L v : Nat) : digT k L v 0 = List.replicate L 0 := by simp [digT, digN]
theorem digT_all (k L v : Nat) : digT k L v L = digN k L v := by simp [digT]
theorem digT_set {k L v j : Nat} (h : j < L) : (digT k L v j).set j (v / k ^ j % k) = digT k L v (j + 1) := by
  unfold digT
  rw [List.set_append_right _ _ (by rw [digN_len]; exact Nat.le_refl _), digN_len, Nat.sub_self, show L - j = (L - (j + 1)) + 1 from by omega, List.replicate_succ, List.set_cons_zero, digN_snoc]
  simp

set_option maxRecDepth 100000 in
set_option maxHeartbeats 4000000 in
theorem from_main (w : World) (E : Nat → Addr) (hE : Errs w E) (k r : Nat) (h1 : 1 ≤ k) (h2 : k ≤ 4) (h3 : r ≤ 3) {A : Option Addr} {n c v : Nat} (hN : Num w A n c v) (hn : n ≤ 1000000000) (h : k ^ (2 * r + 1) ≤ 256) :
    Calls Tryz.prog 36 #[.int .i64 (k : Int), .int .i64 (r : Int), .slice A n c] w fun e w' => RuleErr w E k r (if 0 < v / k ^ k ^ (2 * r + 1) then .error (3, [(sRule, 1)]) else .ok (digN k (k ^ (2 * r + 1)) v)) e w' := by
  have hs := size_ok (w.alloc (.cells #[.int .i64 0, .int .i64 0, .slice none 0 0] 26)) k r h1 h2 h3
  obtain ⟨L, hL⟩ : ∃ L, k ^ (2 * r + 1) = L := ⟨_, rfl⟩
  rw [hL] at hs h ⊢
  obtain ⟨X, hX⟩ : ∃ X : Except Tale (List Nat), (if 0 < v / k ^ L then .error (3, [(sRule, 1)]) else .ok (digN k L v)) = X := ⟨_, rfl⟩
  rw [hX]
  have HX := Lib.hid hX
  clear hX
  have HS := Lib.hid hs
  have HE := Lib.hid hE
  have hmk := run_make_row' (P := Tryz.prog) 24 3 (.int .i64 0) 8 tInts.und tInts.info rfl .i64 .i64 L (by omega) (by omega)
  clear hs hL hE
  have hd : decide ((256 : Int) < (L : Int)) = false := decide_eq_false (by omega)
  have hown0 := make_ints (w.alloc (.cells #[.int .i64 0, .int .i64 0, .slice none 0 0] 26)) L (by simp only [maxLen]; omega)
  rw [World.size_alloc] at hown0
  go_enter Tryz.func36, Tryz.ntmps36
  go_wp2_with fail
  refine (HS.out).mono ?_
  rintro e w1 ⟨rfl, rfl⟩
  go_wp2_with fail
  clear hmk
  have hlim := hN.len
  go_loopw [2, 37] (fun cd i wr => ∃ (j n' c' : Nat) (A' : Option Addr), j ≤ L ∧ i = .int .i64 (j : Int) ∧ cd = .slice A' n' c' ∧ Hid (Num wr A' n' c' (v / k ^ j)) ∧ n' ≤ 1000000000 ∧ wr.ownsRow (w.heap.size + 1) 3 1 (.slice (some ⟨w.heap.size + 1, 0, none⟩) L L) L ((ints (digT k L v j)).map (Value.int .i64)) ∧
      Hid (RuleAt wr w.heap.size (.int .i64 0) (.int .i64 0) (.slice none 0 0)) ∧ Hid (RuleAt wr (w.heap.size + 1 + 1) (.int .i64 (k : Int)) (.int .i64 (r : Int)) (.slice (some ⟨w.heap.size + 1, 0, none⟩) L L)) ∧ Below w.heap.size w wr) (fun _ i _ => L - (intOf i).toNat)
  case atStart =>
    refine ⟨0, n, c, A, Nat.zero_le _, rfl, rfl, Lib.hid ?_, hn, ?_, Lib.hid (((RuleAt.new _ _ _ _).alloc _).alloc _), Lib.hid ?_, (((Below.refl _ _).alloc (Nat.le_refl _) _).alloc (by simp) _).alloc (by simp; omega) _⟩
    · simpa using ((hN.alloc _).alloc _).alloc _
    · rw [digT_zero]; exact hown0.alloc _
    · have := RuleAt.new ((w.alloc (.cells #[.int .i64 0, .int .i64 0, .slice none 0 0] 26)).alloc (.cells (madeCells #[.int .i64 0] L) 3)) (.int .i64 (k : Int)) (.int .i64 (r : Int)) (.slice (some ⟨w.heap.size + 1, 0, none⟩) L L)
      simpa using this
  case round =>
    clear hN hown0 hlim
    obtain ⟨j, n', c', A', hj, rfl, rfl, hN, hn', hown, hr0, hr2, hb⟩ := hrel
    have hlen := digT_len (k := k) (v := v) hj
    by_cases hlt : j < L
    · have hover := over_n hN.out (d := k) (by omega) (by unfold W32; omega) hn'
      have hdd : v / k ^ j / k = v / k ^ (j + 1) := by rw [Nat.div_div_eq_div_mul, Nat.pow_succ]
      have hmk : v / k ^ j % k < k := Nat.mod_lt _ h1
      have hset := digT_set (k := k) (v := v) hlt
      have hle2 : (limbs (v / k ^ (j + 1))).length ≤ 1000000000 := by
        have h5 := hN.out.len
        have h6 := limbs_div_le (v / k ^ j) k
        rw [hdd] at h6
        omega
      rw [hdd] at hover
      obtain ⟨q, hq⟩ : ∃ q, v / k ^ (j + 1) = q := ⟨_, rfl⟩
      obtain ⟨ρ, hρ⟩ : ∃ ρ, v / k ^ j % k = ρ := ⟨_, rfl⟩
      rw [hq] at hover hle2
      rw [hρ] at hover hmk hset
      have HOV := Lib.hid hover
      have HQ := Lib.hid hq
      have HSET := Lib.hid hset
      clear hover hdd hset hq hρ hN
      go_wp2_with fail
      refine (HOV.out).mono ?_
      rintro e w2 ⟨B, c2, rfl, ho2, hb2⟩
      have hown2 := own_below hown hb2
      have hr0' := Lib.hid (hr0.out.below hb2 hr0.out.lt)
      have hr2' := Lib.hid (hr2.out.below hb2 hr2.out.lt)
      have hbb := hb.trans (hb2.mono hb.size)
      have hnum := num_own ho2
      obtain ⟨c0, c1, c2', f0, f1, f2⟩ := hr2'.out.facts
      obtain ⟨z, hz⟩ : ∃ z, (digT k L v j)[j]? = some z := ⟨_, List.getElem?_eq_getElem (by omega)⟩
      have hcell : w2.cell? ⟨w.heap.size + 1, j, none⟩ = some (.int .i64 (z : Int)) := by rw [hown2.cellAt j (by omega), ints_map, List.getElem?_map, hz]; rfl
      have hfr := hown2.frozenAt j
      have hst := (hown2.stored j (.int .i64 (ρ : Int))).1
      rw [← List.map_set, ints_set, HSET.out] at hst
      have ho3 := own_keeps ho2 (Keeps.of_setCell w2 ⟨w.heap.size + 1, j, none⟩ (.int .i64 (ρ : Int))) (fun g hg e => own_ne_own hown2 ho2 (by decide) (g := g) (by rw [e]; rfl) hg)
      have hN2 := num_own ho3
      have hk := Keeps.of_setCell w2 ⟨w.heap.size + 1, j, none⟩ (.int .i64 (ρ : Int))
      have hr0n := Lib.hid (hr0'.out.keeps hk (by simp))
      have hr2n := Lib.hid (hr2'.out.keeps hk (by simp))
      have hbn := hbb.setCell (p := ⟨w.heap.size + 1, j, none⟩) (by simp) (.int .i64 (ρ : Int))
      have hN3 : Num (w2.setCell ⟨w.heap.size + 1, j, none⟩ (.int .i64 (ρ : Int))) B (limbs q).length c2 (v / k ^ (j + 1)) := by rw [HQ.out]; exact hN2
      have HN2 := Lib.hid hN3
      clear hown hown2 ho2 ho3 hr0 hr2 hr0' hr2' hb hb2 hbb hnum hz hN2 hN3 hk
      go_wp2_with fail
      go_region
      go_wp2_with fail
      exact ⟨⟨j + 1, _, _, B, by omega, by go_num, rfl, HN2, hle2, hst, hr0n, hr2n, hbn.drew⟩, by simp [intOf]; omega⟩
    · obtain rfl : j = L := by omega
      have hb0 := hN.out.len
      rw [digT_all] at hown hlen
      by_cases hbad : 0 < v / k ^ j
      · have hx : X = .error (3, [(sRule, 1)]) := by rw [← HX.out, if_pos hbad]
        have hbl : 0 < blen (v / k ^ j) := by rw [blen_pos hbad]; omega
        have hbits := bits_n hN.out hn' rfl
        obtain ⟨β, hβ⟩ : ∃ β, blen (v / k ^ j) = β := ⟨_, rfl⟩
        rw [hβ] at hbits hbl
        have HB := Lib.hid hbits
        have HEr := Lib.hid (HE.out.below hb)
        clear hbits hβ hN hbad hlt
        go_wp2_with fail
        refine (HB.out).mono ?_
        rintro e w' ⟨rfl, rfl⟩
        go_wp2_with fail
        refine (ruleWrong_c _ E HEr.out 1 3 (by decide) (by decide)).mono ?_
        rintro e w3 ⟨rfl, he, hb3⟩
        have hr3 := hr0.out.below hb3 hr0.out.lt
        obtain ⟨c0, c1, c2, f0, f1, f2⟩ := hr3.facts
        have hP := ErrIs.set3 he hr3 (.int .i64 0) (.int .i64 0) (.slice none 0 0)
        have hB := below_set3 (hb.trans (hb3.mono hb.size)) (Nat.le_refl _) (.int .i64 0) (.int .i64 0) (.slice none 0 0)
        have HP : Hid (RuleErr w E k r X (.returned (.tuple #[ruleV 0 0 none 0 0, errV wr.heap.size])) _) := Lib.hid (by rw [hx]; exact ⟨_, rfl, hP, hB⟩)
        clear he hP hB hb hb3 hr3 hown hx
        unfold ruleV at HP
        unfold errV at *
        go_wp2_with fail
        exact bodyPost_ret (v := .tuple #[.agg #[.int .i64 0, .int .i64 0, .slice none 0 0], .iface 95 (.pointer (some ⟨wr.heap.size, 0, none⟩))]) (by simp [results, Tryz.results36, go_sem, c0, c1, c2]) rfl HP.out
      · have hx : X = .ok (digN k j v) := by rw [← HX.out, if_neg hbad]
        have h00 : v / k ^ j = 0 := Nat.eq_zero_of_not_pos hbad
        have hbits := bits_n hN.out hn' rfl
        rw [h00, blen_zero] at hbits
        have HB := Lib.hid hbits
        obtain ⟨c0, c1, c2, f0, f1, f2⟩ := hr0.out.facts
        obtain ⟨d0, d1, d2, _⟩ := hr2.out.facts
        have hown3 := own_base (own_set3 hown hr0.out (by decide) (.int .i64 (k : Int)) (.int .i64 (r : Int)) (.slice (some ⟨w.heap.size + 1, 0, none⟩) j j)) (base' := w.heap.size) (Nat.le_succ _)
        have hB := below_set3 hb (Nat.le_refl _) (.int .i64 (k : Int)) (.int .i64 (r : Int)) (.slice (some ⟨w.heap.size + 1, 0, none⟩) j j)
        have hlj : (digN k j v).length = j := digN_len _ _ _
        have HP : Hid (RuleErr w E k r X (.returned (.tuple #[ruleV k r (some ⟨w.heap.size + 1, 0, none⟩) j j, .nilIface])) (((wr.setCell ⟨w.heap.size, 0, none⟩ (.int .i64 (k : Int))).setCell ⟨w.heap.size, 1, none⟩ (.int .i64 (r : Int))).setCell ⟨w.heap.size, 2, none⟩ (.slice (some ⟨w.heap.size + 1, 0, none⟩) j j))) := Lib.hid (by rw [hx]; exact ⟨_, j, by rw [hlj], by rw [hlj]; exact hown3, hB⟩)
        clear hx hbits hN hbad hlt hown3 hB hb hown h00 hlj
        unfold ruleV at HP
        go_wp2_with fail
        refine (HB.out).mono ?_
        rintro e w' ⟨rfl, rfl⟩
        go_wp2_with fail
        exact bodyPost_ret (v := .tuple #[.agg #[.int .i64 (k : Int), .int .i64 (r : Int), .slice (some ⟨w.heap.size + 1, 0, none⟩) j j], .nilIface]) (by simp [results, Tryz.results36, go_sem, c0, c1, c2]) rfl HP.out

theorem ruleFrom_c (w : World) (E : Nat → Addr) (hE : Errs w E) (k r : Int) {A : Option Addr} {n c v : Nat} (hN : Num w A n c v) (hn : n ≤ 1000000000) :
    Calls Tryz.prog 36 #[.int .i64 k, .int .i64 r, .slice A n c] w fun e w' => RuleErr w E k r (fromN k r v) e w' := by
  by_cases h : k < 1 ∨ 4 < k ∨ r < 0 ∨ 3 < r
  · unfold fromN
    rw [if_pos h]
    exact from_err w E hE k r _ h
  · unfold fromN
    rw [if_neg h]
    obtain ⟨a, rfl⟩ : ∃ a : Nat, k = (a : Int) := ⟨k.toNat, by omega⟩
    obtain ⟨b, rfl⟩ : ∃ b : Nat, r = (b : Int) := ⟨r.toNat, by omega⟩
    simp only [Int.toNat_natCast]
    by_cases hbig : 256 < a ^ (2 * b + 1)
    · rw [if_pos hbig]
      exact from_big w E hE a b (by omega) (by omega) (by omega) _ hbig
    · rw [if_neg hbig]
      exact from_main w E hE a b (by omega) (by omega) (by omega) hN hn (by omega)
end Go.Proofs.YtpllojpgpejfmaaGreatDoor

namespace Go.Proofs.YtpllojpgpejfmaaGreatDoor
open Go.RowKit RuleP NatP

end Go.Proofs.YtpllojpgpejfmaaGreatDoor

namespace Go.Proofs.YtpllojpgpejfmaaGreatDoor
open Go.RowKit RuleP NatP

/-- What From answers, of a refusal too: the rule's numbers and table. -/
def fromT (k r : Int) (v : Nat) : Int × Int × List Nat := match fromN k r v with
  | .ok t => (k, r, t)
  | .error _ => (0, 0, [])
theorem fromT_ok {k r : Int} {v : Nat} {t : List Nat} (h : fromN k r v = .ok t) : fromT k r v = (k, r, t) := by unfold fromT; rw [h]
/-- The answer of edenref04.From. -/
def FromRef (w : World) (k r : Int) (v : Nat) (e : Ending) (w' : World) : Prop :=
  ∃ (C : Option Addr) (cc N : Nat) (A1 : Option Addr) (n1 c1 : Nat) (A2 : Option Addr) (n2 c2 : Nat), e = .returned (.tuple #[ruleV (fromT k r v).1 (fromT k r v).2.1 C (fromT k r v).2.2.length cc, .agg #[.int .i64 (N : Int), .slice A1 n1 c1, .slice A2 n2 c2]]) ∧
    w'.ownsRow w.heap.size 3 1 (.slice C (fromT k r v).2.2.length cc) (fromT k r v).2.2.length ((ints (fromT k r v).2.2).map (Value.int .i64)) ∧ WantB w' w.heap.size (wantOf (fromN k r v)) (.agg #[.int .i64 (N : Int), .slice A1 n1 c1, .slice A2 n2 c2]) ∧ Below w.heap.size w w'
theorem keeps_set33 (w : World) (g h : Nat) (u0 u1 u2 x0 x1 x2 : Value) : Keeps (fun b => b = g ∨ b = h) w ((((((w.setCell ⟨g, 0, none⟩ u0).setCell ⟨g, 1, none⟩ u1).setCell ⟨g, 2, none⟩ u2).setCell ⟨h, 0, none⟩ x0).setCell ⟨h, 1, none⟩ x1).setCell ⟨h, 2, none⟩ x2) :=
  ((keeps_set3 w g u0 u1 u2).mono (fun _ _ h => .inl h)).trans ((keeps_set3 _ h x0 x1 x2).mono (O' := fun b => b = g ∨ b = h) (fun _ _ h => .inr h)) (fun _ _ h => h)

end Go.Proofs.YtpllojpgpejfmaaGreatDoor

namespace Go.Proofs.YtpllojpgpejfmaaGreatDoor
open Go.RowKit RuleP NatP

end Go.Proofs.YtpllojpgpejfmaaGreatDoor

namespace Go.Proofs.YtpllojpgpejfmaaGreatDoor
open Go.RowKit RuleP NatP

end Go.Proofs.YtpllojpgpejfmaaGreatDoor

namespace Go.Proofs.YtpllojpgpejfmaaGreatDoor
open Go.RowKit RuleP NatP

theorem FromRef.ok {w w' : World} {k r : Int} {v : Nat} {t : List Nat} {C : Option Addr} {cc : Nat} (h : fromN k r v = .ok t) (ho : w'.ownsRow w.heap.size 3 1 (.slice C t.length cc) t.length ((ints t).map (Value.int .i64))) (hb : Below w.heap.size w w') :
    FromRef w k r v (.returned (.tuple #[.agg #[.int .i64 k, .int .i64 r, .slice C t.length cc], .agg #[.int .i64 0, .slice none 0 0, .slice none 0 0]])) w' :=
  ⟨C, cc, 0, none, 0, 0, none, 0, 0, by rw [fromT_ok h]; rfl, by rw [fromT_ok h]; exact ho, by rw [h]; exact WantB.zero _ _, hb⟩

end Go.Proofs.YtpllojpgpejfmaaGreatDoor
