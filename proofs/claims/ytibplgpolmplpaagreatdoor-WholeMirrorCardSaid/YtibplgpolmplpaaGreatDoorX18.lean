/- Whether a rule has twins: twins.Finite. Condition: the table reads from memory; the error variables hold what E says. The rules of the tops' own: edentop.eca. No condition. The bag in memory, and what each of its methods does. Condition: the numbers handed in are members of the bag's range, where a theorem says so. What strings.TrimLeft returns at the cutset "0". No condition. Bytes that the call owns, as a text. Plain lemmas over memory. No condition. The text of a set: bag.key returns the bytes of its words. Condition: at most 1048576 words. What bag.put does with the words of a set: a set that is there keeps its number, a new one gets the next. Condition: there is room. -/
import Derived.IntWalk
import Derived.Laws.BitsAllLaws
import Derived.Lib.Strings
import Derived.Lib.Walk
import Derived.Lib.TrimByte
import Derived.Laws.Strings3
import Derived.Laws.BytesArg
import Derived.Test.YtibplgpolmplpaaGreatDoorX1
import Derived.Test.YtibplgpolmplpaaGreatDoorX4
import Derived.Test.YtibplgpolmplpaaGreatDoorX14
import Derived.Test.YtibplgpolmplpaaGreatDoorX15
import Derived.Test.YtibplgpolmplpaaGreatDoorX16
import Derived.Test.YtibplgpolmplpaaGreatDoorX17
namespace Go.Proofs.YtibplgpolmplpaaGreatDoor
open Go.RowKit RuleP PairP MeetP

theorem backTo_len (came : List Int) : ∀ (f v : Nat), (backTo came f v).length ≤ f
  | 0, _ => by simp [backTo]
  | f + 1, v => by
    unfold backTo
    split
    · simp
    · simp only [List.length_cons]
      exact Nat.succ_le_succ (backTo_len came f _)
theorem meetF_len (n : Nat) (g : List (List Nat)) : (meetF n g).length ≤ g.length + 2 := by
  unfold meetF
  split
  · rename_i v t came _
    simp only [List.length_reverse, List.length_cons]
    have := backTo_len came (g.length + 1) v
    omega
  · simp
/-- What twins.Finite answers. -/
def FinPost (w : World) (k r : Nat) (t : List Nat) (e : Ending) (w' : World) : Prop :=
  ∃ (f : Bool) (C : Option Addr) (n c : Nat) (v : Value), e = .returned (.tuple #[.bool f, .slice C n c, v, .nilIface]) ∧ Below w.heap.size w w' ∧
    (f = true → ∀ a b, ¬ RuleP.Twin k r t a b) ∧ (f = false → ∃ a b, RuleP.Twin k r t a b) ∧ (0 < r → (f = true ↔ meetF (k ^ (2 * r)) (pairG k (k ^ (2 * r)) t) = []) ∧ (f = false → n + 1 = 2 * r + (meetF (k ^ (2 * r)) (pairG k (k ^ (2 * r)) t)).length))

set_option maxRecDepth 100000 in
set_option maxHeartbeats 2000000 in
theorem finite_c (w : World) (E : Nat → Addr) (hE : Errs w E) (k r n c : Nat) (A : Option Addr) (t : List Nat) (hT : Sl w A n ((ints t).map (Value.int .i64))) (hr : IsRule k r t) (h256 : t.length ≤ 256) :
    Calls Tryz.prog 19 #[ruleV (k : Int) (r : Int) A n c] w (FinPost w k r t) := by
  have hb1 := (Below.refl w.heap.size w).alloc (Nat.le_refl _) (.cells #[.int .i64 (k : Int), .int .i64 (r : Int), .slice A n c] 24)
  have hr1 := RuleAt.new w (.int .i64 (k : Int)) (.int .i64 (r : Int)) (.slice A n c)
  obtain ⟨r0, r1, r2, _⟩ := hr1.facts
  obtain ⟨w1, hw1⟩ : ∃ w1, w.alloc (.cells #[.int .i64 (k : Int), .int .i64 (r : Int), .slice A n c] 24) = w1 := ⟨_, rfl⟩
  rw [hw1] at hb1 hr1
  have HGR := Lib.hid (graph_c w1 E (hE.below hb1) k r n c A t (hT.below hb1) hr h256)
  have HT := Lib.hid (fun (wz : World) (hz : Below w.heap.size w wz) => hT.below hz)
  have HE := Lib.hid (fun (wz : World) (hz : Below w.heap.size w wz) => hE.below hz)
  have HW1 := Lib.hid hw1
  have HB1 := Lib.hid hb1
  have HR1 := Lib.hid hr1
  have HRU := Lib.hid (And.intro hr h256)
  unfold ruleV at HGR ⊢
  clear hw1 hb1 hr1 hE hT
  go_enter Tryz.func19, Tryz.ntmps19
  go_wp2_with fail
  rw [HW1.out]
  refine (HGR.out).mono ?_
  rintro e w2 ⟨G, M, rfl, hM, hG, hb2⟩
  have hr2 := HR1.out.below hb2 HR1.out.lt
  have hb02 := HB1.out.trans (hb2.mono HB1.out.size)
  obtain ⟨r0, r1, r2, _⟩ := hr2.facts
  have HR2 := Lib.hid hr2
  have HB2 := Lib.hid hb02
  have HMG := Lib.hid (And.intro hM hG)
  clear hb2 hr2 hM hG HGR
  by_cases h0 : r = 0
  · have hl : t.length = k := by rw [hr.len, h0]; simp
    have hsg := single_c w2 k n c A t (r : Int) (HT.out w2 hb02) hl hr.k4
    unfold ruleV at hsg
    have HSG := Lib.hid hsg
    have hr0e : (r : Int) = 0 := by omega
    rw [hr0e] at r1 HSG
    have HH0 := Lib.hid h0
    clear hsg hl hb02 hr h256 h0 hr0e
    go_wp2_with fail
    refine (HSG.out).mono ?_
    rintro e w3 ⟨C1, n1, c1, v2, rfl, hor, hb3⟩
    have HB3 := Lib.hid (HB2.out.trans (hb3.mono HB2.out.size))
    have HOR := Lib.hid hor
    clear hor hb3 HSG
    rcases HOR.out with ⟨hn, hone⟩ | ⟨hn, x, y, htw⟩
    · subst hn
      have HON : Hid (∀ a b, ¬ RuleP.Twin k r t a b) := Lib.hid (by
        rw [HH0.out]
        exact fun a b => each_none (by rw [HRU.out.1.len, HH0.out]; simp) hone a b)
      clear hone
      go_wp2_with fail
      exact bodyPost_ret (v := .tuple #[.bool true, .slice C1 0 c1, v2, .nilIface]) (by simp [results, Tryz.results19, go_sem]) rfl ⟨true, C1, 0, c1, v2, rfl, HB3.out, fun _ => HON.out, fun h => (by cases h), fun h => by have := HH0.out; omega⟩
    · subst hn
      have HTW : Hid (∃ a b, RuleP.Twin k r t a b) := Lib.hid (by rw [HH0.out]; exact ⟨[x], [y], htw⟩)
      clear htw
      go_wp2_with fail
      exact bodyPost_ret (v := .tuple #[.bool false, .slice C1 1 c1, v2, .nilIface]) (by simp [results, Tryz.results19, go_sem]) rfl ⟨false, C1, 1, c1, v2, rfl, HB3.out, fun h => (by cases h), fun _ => HTW.out, fun h => by have := HH0.out; omega⟩
  · have e1 : workR r = r := by unfold workR; rw [if_neg h0]
    have e2 : workT k r t = t := by unfold workT; rw [if_neg h0]
    have h0i : ¬ (r : Int) = 0 := by omega
    have hrp : 0 < r := by omega
    have hN0 : 0 < k ^ (2 * r) := Nat.pow_pos hr.k1
    have hN4 : k ^ (2 * r) ≤ 256 := by
      obtain ⟨_, hln⟩ := nodes_div hr
      have := Nat.le_mul_of_pos_right (k ^ (2 * r)) hr.k1
      omega
    have hmg := HMG.out
    rw [e1, e2] at hmg
    obtain ⟨hM, hG⟩ := hmg
    have hok : Ok (k ^ (2 * r)) (pairG k (k ^ (2 * r)) t) := pairG_ok hN0
    have hrow : ∀ l ∈ pairG k (k ^ (2 * r)) t, l.length ≤ 1000 := fun l hl => by
      unfold pairG at hl
      obtain ⟨p, _, rfl⟩ := List.mem_map.1 hl
      have h1 := row_len k (k ^ (2 * r)) t p hN0
      have h2 : k * k ≤ 16 := Nat.mul_le_mul hr.k4 hr.k4
      omega
    have HME := Lib.hid (meet_c w2 G M M (k ^ (2 * r)) (pairG k (k ^ (2 * r)) t) hG hok hN0 hN4 hM.symm hrow)
    have HIFF := Lib.hid (meet_iff (t := t) hr.k1 hrp)
    have HSM := Lib.hid (meet_some (n := k ^ (2 * r)) (g := pairG k (k ^ (2 * r)) t) hok)
    have hM0 := Lib.hid hM
    have HGL := Lib.hid (pairG_len k (k ^ (2 * r)) t)
    have hmM : M ≤ 65536 := by rw [hM]; exact Nat.le_trans (Nat.mul_le_mul hN4 hN4) (by decide)
    obtain ⟨mf, hmf⟩ : ∃ mf, meetF (k ^ (2 * r)) (pairG k (k ^ (2 * r)) t) = mf := ⟨_, rfl⟩
    rw [hmf] at HME HIFF HSM
    have HMF := Lib.hid hmf
    obtain ⟨ml, hml⟩ : ∃ ml, mf.length = ml := ⟨_, rfl⟩
    rw [hml] at HME
    have HML := Lib.hid hml
    clear e1 e2 h0 hM hG hok hrow hmf hml hr h256 hb02 HMG
    go_wp2_with fail
    refine (HME.out).mono ?_
    rintro e w3 ⟨W, wc, rfl, hw3, hb3⟩
    have hb03 := HB2.out.trans (hb3.mono HB2.out.size)
    by_cases hz : ml = 0
    · have hmz : mf = [] := List.eq_nil_of_length_eq_zero (by rw [HML.out]; exact hz)
      subst hz
      have HB3 := Lib.hid hb03
      have HNO := Lib.hid (HIFF.out.1 hmz)
      have HMZ : Hid (meetF (k ^ (2 * r)) (pairG k (k ^ (2 * r)) t) = []) := Lib.hid (by rw [HMF.out]; exact hmz)
      clear hw3 hb3 hb03 hmz HME
      go_wp2_with fail
      exact bodyPost_ret (v := .tuple #[.bool true, .slice none 0 0, .slice none 0 0, .nilIface]) (by simp [results, Tryz.results19, go_sem]) rfl ⟨true, none, 0, 0, .slice none 0 0, rfl, HB3.out, fun _ => HNO.out, fun h => (by cases h), fun _ => ⟨⟨fun _ => HMZ.out, fun _ => rfl⟩, fun h => by cases h⟩⟩
    · have hz' : ¬ (ml : Int) = 0 := by omega
      have hne : mf ≠ [] := fun e => hz (by rw [← HML.out, e]; rfl)
      obtain ⟨d0, xs, t0, e0, hway, hd0⟩ := HSM.out hne
      rw [HGL.out] at hd0
      have htw := way_twin HRU.out.1.k1 hrp hway hd0
      have hed := hway.edge
      have hwc := own_slice hw3
      obtain ⟨W', wc', hv', hc1, hc2⟩ := hwc
      cases hv'
      have hlen : (xs ++ [t0]).length + 1 = ml := by rw [← HML.out, e0]; simp
      have hSW := Sl.of_own hw3
      rw [e0] at hSW
      have hmlb : ml ≤ 100000 := by have := meetF_len (k ^ (2 * r)) (pairG k (k ^ (2 * r)) t); rw [HMF.out, HML.out, HGL.out, ← hM0.out] at this; omega
      have hml2 : 2 ≤ ml := by
        have : 1 ≤ (xs ++ [t0]).length := by simp
        omega
      have hpw := pwords_c w3 E (HE.out w3 hb03) k r n c A t (HT.out w3 hb03) HRU.out.1 HRU.out.2 hrp W ml wc d0 (xs ++ [t0]) hSW hmlb hml2 hc1 hed hd0
      have hwl : (wordA k r d0 (xs ++ [t0])).length + 1 = 2 * r + ml := by rw [wordA_len]; omega
      unfold ruleV at hpw
      have HPW := Lib.hid hpw
      have HTW := Lib.hid htw
      have HWL := Lib.hid hwl
      have HNE : Hid (meetF (k ^ (2 * r)) (pairG k (k ^ (2 * r)) t) ≠ [] ∧ (meetF (k ^ (2 * r)) (pairG k (k ^ (2 * r)) t)).length = ml) := Lib.hid (by rw [HMF.out]; exact ⟨hne, HML.out⟩)
      have HB3 := Lib.hid hb03
      have hr3 := HR2.out.below hb3 HR2.out.lt
      obtain ⟨r0, r1, r2, _⟩ := hr3.facts
      clear hne e0 hway hd0 htw hed hlen hSW hmlb hml2 hpw hwl hb3 hb03 hr3 hw3 hc1 hc2 HME HSM HIFF
      go_wp2_with fail
      refine (HPW.out).mono ?_
      rintro e w4 ⟨C1, c1, C2, c2, rfl, _, _, hb4⟩
      have HB4 := Lib.hid (HB3.out.trans (hb4.mono HB3.out.size))
      clear hb4 HPW
      go_wp2_with fail
      exact bodyPost_ret (v := .tuple #[.bool false, .slice C1 (wordA k r d0 (xs ++ [t0])).length c1, .slice C2 (wordB k r d0 (xs ++ [t0])).length c2, .nilIface]) (by simp [results, Tryz.results19, go_sem]) rfl
        ⟨false, C1, _, c1, _, rfl, HB4.out, fun h => (by cases h), fun _ => ⟨_, _, HTW.out⟩, fun _ => ⟨⟨fun h => (by cases h), fun h => absurd h HNE.out.1⟩, fun _ => by rw [HNE.out.2]; exact HWL.out⟩⟩
end Go.Proofs.YtibplgpolmplpaaGreatDoor

namespace Go.Proofs.YtibplgpolmplpaaGreatDoor
open Go.RowKit RuleP

theorem RuleAt.put2 {w : World} {g : Nat} {x0 x1 x2 : Value} (h : RuleAt w g x0 x1 x2) (u : Value) : RuleAt (w.setCell ⟨g, 2, none⟩ u) g x0 x1 u := by
  unfold RuleAt at *
  have h0 := (Array.getElem?_eq_some_iff.1 h).1
  simp only [World.setCell]
  simp [Array.getElem?_modify, h]
/-- The table of a rule of two symbols and the radius 1, of its number. -/
def ecaT (x n : Nat) : List Nat := (List.range n).map fun i => x / 2 ^ i % 2
theorem ecaT_snoc (x n : Nat) : ecaT x (n + 1) = ecaT x n ++ [x / 2 ^ n % 2] := by
  unfold ecaT
  rw [List.range_succ, List.map_append]
  rfl
theorem bit_eq (x j : Nat) (hx : x < 4096) : bits .and .i64 ((x : Int) / 2 ^ j) 1 = ((x / 2 ^ j % 2 : Nat) : Int) := by
  have e0 : ((2 : Int) ^ j) = ((2 ^ j : Nat) : Int) := (Int.natCast_pow 2 j).symm
  have e1 : ((x : Int) / ((2 ^ j : Nat) : Int)) = ((x / 2 ^ j : Nat) : Int) := by simp
  have h1 : x / 2 ^ j < 4096 := Nat.lt_of_le_of_lt (Nat.div_le_self _ _) hx
  rw [e0, e1]
  generalize x / 2 ^ j = y at h1
  have e2 : ((BitVec.ofInt 64 (1 : Int)).toNat) = 1 := by decide
  show IntKind.i64.wrap ((BitVec.ofInt 64 (y : Int) &&& BitVec.ofInt 64 (1 : Int)).toNat : Int) = _
  rw [BitVec.toNat_and, ofInt_u64 y (by omega), e2, nat_mask1]
  exact IntWalk.i64_in _ (by omega)

/-- What an append behind pure steps has written. -/
theorem pushW {w v0 w' : World} {v : Value} {g n cap : Nat} (h0 : Below w.heap.size w v0) (hor : (v = .slice (some ⟨g, 0, none⟩) n cap ∧ v0.grownBy w' (some g)) ∨ (v0.heap.size ≤ g ∧ v0.grownBy w' none)) :
    Keeps (fun b => v.ownBlock = some b) w w' ∧ (v.ownBlock = some g ∨ w.heap.size ≤ g) := by
  have h0' : Keeps (fun b => v.ownBlock = some b) w v0 := Keeps.of_pure h0 _
  rcases hor with ⟨rfl, h⟩ | ⟨h1, h⟩
  · exact ⟨h0'.trans ((Keeps.of_grown h).mono (fun b _ e => e)) (fun _ _ h => h), .inl rfl⟩
  · exact ⟨h0'.trans (Keeps.of_grown h) (fun b _ e => by cases e), .inr (Nat.le_trans h0.size h1)⟩
/-- What edentop.eca answers. -/
def EcaPost (w : World) (x : Nat) (e : Ending) (w' : World) : Prop :=
  ∃ (A : Option Addr) (c : Nat), e = .returned (.agg #[.int .i64 2, .int .i64 1, .slice A 8 c]) ∧ Sl w' A 8 ((ints (ecaT x 8)).map (Value.int .i64)) ∧ Below w.heap.size w w'

set_option maxRecDepth 100000 in
set_option maxHeartbeats 2000000 in
theorem eca_c (w : World) (x : Nat) (hx : x < 256) : Calls Tryz.prog 29 #[.int .i64 (x : Int)] w (EcaPost w x) := by
  have hb1 := (Below.refl w.heap.size w).alloc (Nat.le_refl _) (.cells #[.int .i64 0, .int .i64 0, .slice none 0 0] 24)
  have hr0 := RuleAt.new w (.int .i64 0) (.int .i64 0) (.slice none 0 0)
  obtain ⟨w1, hw1⟩ : ∃ w1, w.alloc (.cells #[.int .i64 0, .int .i64 0, .slice none 0 0] 24) = w1 := ⟨_, rfl⟩
  rw [hw1] at hb1 hr0
  have hz1 : w1.heap.size = w.heap.size + 1 := by rw [← hw1]; simp
  have hb2 := hb1.alloc (by omega) (.cells #[.int .i64 2, .int .i64 1, .slice none 0 0] 24)
  have hr1 := RuleAt.new w1 (.int .i64 2) (.int .i64 1) (.slice none 0 0)
  have hr01 := hr0.alloc (.cells #[.int .i64 2, .int .i64 1, .slice none 0 0] 24)
  obtain ⟨w2, hw2⟩ : ∃ w2, w1.alloc (.cells #[.int .i64 2, .int .i64 1, .slice none 0 0] 24) = w2 := ⟨_, rfl⟩
  rw [hw2] at hb2 hr1 hr01
  have hz2 : w2.heap.size = w.heap.size + 2 := by rw [← hw2]; simp [hz1]
  rw [hz1] at hr1
  have HW1 := Lib.hid hw1
  have HW2 := Lib.hid hw2
  have HB2 := Lib.hid hb2
  have HR1 := Lib.hid hr1
  have HR0 := Lib.hid hr01
  have HO : Hid (w2.ownsRow (w.heap.size + 2) 3 1 (.slice none 0 0) 0 ((ints (ecaT x 0)).map (Value.int .i64))) := Lib.hid (World.ownsRow_nil _ _ _ _)
  have HS : Hid (w.heap.size + 2 ≤ w2.heap.size) := Lib.hid (by omega)
  have HZ1 := Lib.hid hz1
  clear hw1 hw2 hb1 hb2 hr0 hr1 hr01 hz1 hz2
  go_enter Tryz.func29, Tryz.ntmps29
  go_wp2_with fail
  rw [HW1.out]
  go_wp2_with fail
  rw [HW2.out]
  go_loopw [4] (fun iv wl => ∃ (i : Nat) (A : Option Addr) (c : Nat), iv = .int .i64 (i : Int) ∧ i ≤ 8 ∧ Hid (RuleAt wl (w.heap.size + 1) (.int .i64 2) (.int .i64 1) (.slice A i c)) ∧ Hid (RuleAt wl w.heap.size (.int .i64 0) (.int .i64 0) (.slice none 0 0)) ∧
    Hid (wl.ownsRow (w.heap.size + 2) 3 1 (.slice A i c) i ((ints (ecaT x i)).map (Value.int .i64))) ∧ Hid (w.heap.size + 2 ≤ wl.heap.size) ∧ Hid (Below w.heap.size w wl)) (fun iv _ => 8 - (intOf iv).toNat)
  case atStart => exact ⟨0, none, 0, rfl, Nat.zero_le _, HR1, HR0, HO, HS, HB2⟩
  case round =>
    clear HR1 HR0 HO HS HB2
    obtain ⟨i, A, c, rfl, hi, HR1, HR0, HO, HS, HB⟩ := hrel
    obtain ⟨p0, p1, p2, p3, p4, p5⟩ := HR1.out.facts
    by_cases hi8 : i < 8
    · have hi' : (i : Int) < 8 := by omega
      have hbq := bit_eq x i (by omega)
      obtain ⟨y, hy⟩ : ∃ y, x / 2 ^ i % 2 = y := ⟨_, rfl⟩
      rw [hy] at hbq
      have HY := Lib.hid hy
      have hO := HO.out
      have hs := HS.out
      clear hy
      obtain ⟨_, _, y2, _⟩ := (HR1.out.alloc (.cells #[.int .i64 (y : Int)] 3)).facts
      have y2' : ((wr.alloc (.cells #[.int .i64 (y : Int)] 3)).drew).cell? ⟨w.heap.size + 1, 2, none⟩ = some (.slice A i c) := y2
      have hnb := own_ne_blk hO HR1.out (by decide)
      go_wp2_with fail
      go_region_law (
           refine step_push3 ?_ (.tmp 11) (.tmp 16) 22 rfl tInts (base := w.heap.size + 2) (v := .slice A i c) (n := i) (xs := (ints (ecaT x i)).map (Value.int .i64)) ?_ rfl ⟨wr.heap.size, 0, none⟩ 1 rfl (.int .i64 (y : Int)) ?_ rfl ?_ ?_ ?_ ?_
           · rfl
           · first
               | exact own_below hO (((Below.refl _ _).alloc (Nat.le_refl _) _).drew)
               | exact own_below hO (((Below.refl _ _).drew).alloc (Nat.le_refl _) _)
           · simp
           · (simp only [maxLen]; omega)
           · omega
           · (simp; omega)
           intro g3 cap3 w3 hown3 hor3 hlt3
           first
             | have hkk := pushW (w := wr) (((Below.refl _ _).alloc (Nat.le_refl _) _).drew) hor3
             | have hkk := pushW (w := wr) (((Below.refl _ _).drew).alloc (Nat.le_refl _) _) hor3
           obtain ⟨hk3, hg3⟩ := hkk
           have hR3 := RuleAt.keeps HR1.out hk3 hnb
           obtain ⟨z0, z1, z2, z3, z4, z5⟩ := hR3.facts
           clear hor3)
      all_goals
        have hR4 := hR3.put2 (.slice (some ⟨g3, 0, none⟩) (i + 1) cap3)
        have hR04 := (HR0.out.keeps hk3 (own_ne_blk hO HR0.out (by decide))).keeps (Keeps.of_setCell w3 ⟨w.heap.size + 1, 2, none⟩ (.slice (some ⟨g3, 0, none⟩) (i + 1) cap3)) (by simp)
        have hO4 : (w3.setCell ⟨w.heap.size + 1, 2, none⟩ (.slice (some ⟨g3, 0, none⟩) (i + 1) cap3)).ownsRow (w.heap.size + 2) 3 1 (.slice (some ⟨g3, 0, none⟩) (i + 1) cap3) (i + 1) ((ints (ecaT x (i + 1))).map (Value.int .i64)) := by
          rw [ecaT_snoc, HY.out, ints_push]
          exact own_keeps hown3 (Keeps.of_setCell _ _ _) (fun b hb e => own_ne_blk hown3 hR3 (by decide) (by rw [hb]; exact congrArg some e))
        have hS4 : w.heap.size + 2 ≤ (w3.setCell ⟨w.heap.size + 1, 2, none⟩ (.slice (some ⟨g3, 0, none⟩) (i + 1) cap3)).heap.size := by rw [World.size_setCell]; exact Nat.le_trans hs hk3.size
        have hB4 := (HB.out.trans (hk3.below HB.out.size (fun b hb => Nat.le_trans (Nat.le_add_right _ 2) (hO.lt b hb).1))).setCell (p := ⟨w.heap.size + 1, 2, none⟩) (Nat.le_succ _) (.slice (some ⟨g3, 0, none⟩) (i + 1) cap3)
        have HX4 := Lib.hid (And.intro hR4 (And.intro hR04 (And.intro hO4 (And.intro hS4 hB4))))
        clear hR4 hR04 hO4 hS4 hB4 hown3 hlt3 hk3 hg3 hR3 z0 z1 z2 z3 z4 z5
        go_wp2_with fail
        exact ⟨⟨i + 1, _, _, by go_num, by omega, Lib.hid HX4.out.1, Lib.hid HX4.out.2.1, Lib.hid HX4.out.2.2.1, Lib.hid HX4.out.2.2.2.1, Lib.hid HX4.out.2.2.2.2⟩, by simp [intOf]; omega⟩
    · obtain rfl : i = 8 := by omega
      obtain ⟨q0, q1, q2, q3, q4, q5⟩ := HR0.out.facts
      have hF := HR0.out.set3 (.int .i64 2) (.int .i64 1) (.slice A 8 c)
      obtain ⟨f0, f1, f2, _⟩ := hF.facts
      have hown5 := own_set3 HO.out HR0.out (by decide) (.int .i64 2) (.int .i64 1) (.slice A 8 c)
      have HSL := Lib.hid (Sl.of_own hown5)
      have HB5 := Lib.hid (below_set3 HB.out (Nat.le_refl w.heap.size) (.int .i64 2) (.int .i64 1) (.slice A 8 c))
      clear hF hown5
      go_wp2_with fail
      exact bodyPost_ret (v := .agg #[.int .i64 2, .int .i64 1, .slice A 8 c]) (by simp [results, Tryz.results29, go_sem, f0, f1, f2]) rfl ⟨A, c, rfl, HSL.out, HB5.out⟩
end Go.Proofs.YtibplgpolmplpaaGreatDoor

namespace Go.Proofs.YtibplgpolmplpaaGreatDoor
open Go.RowKit Go.Maps BagP

theorem keyLaw : Keyed Tryz.prog 9 := string_keyed Tryz.underlying9
theorem zeroInt (w : World) : (zeroValue 3).run Tryz.prog w = .ok (.int .i64 0) w := by kernel_rfl

/-- A bag for numbers below n that keeps the sets S lies in blocks of O. -/
structure BagAt (w : World) (bb mb : Nat) (sv : Value) (rows : List Value) (D : DataW Unit) (n : Nat) (S : List (List Nat)) (O : Nat → Prop) : Prop where
  blk : w.heap[bb]? = some (.cells #[.int .i64 (n : Int), sv, .map (some mb)] 173 (0, 0))
  map : w.ownsMap Tryz.prog 9 (plainElem (H := Unit) Tryz.prog 3) mb S.length D
  rel : RelMap D S
  own : w.ownsRow 0 174 1 sv S.length rows
  row : ∀ (i : Nat) (l : List Nat), S[i]? = some l → ∃ v, rows[i]? = some v ∧ w.ownsRow 0 87 1 v (wlen n) (l.map uv) ∧ ∀ g, v.ownBlock = some g → O g
  fb : O bb
  fm : O mb
  fs : ∀ g, sv.ownBlock = some g → O g
  okw : ∀ l ∈ S, Ok64 l ∧ l.length = wlen n
  nd : S.Nodup
  big : S.length ≤ 4096
  nn : n ≤ 8192

def BagIs (w : World) (p : Value) (n : Nat) (S : List (List Nat)) (O : Nat → Prop) : Prop :=
  ∃ bb mb sv rows D, p = .pointer (some ⟨bb, 0, none⟩) ∧ BagAt w bb mb sv rows D n S O

theorem BagAt.ltb {w : World} {bb mb : Nat} {sv : Value} {rows : List Value} {D : DataW Unit} {n : Nat} {S : List (List Nat)} {O : Nat → Prop} (h : BagAt w bb mb sv rows D n S O) : bb < w.heap.size :=
  (Array.getElem?_eq_some_iff.1 h.blk).1

theorem BagAt.keeps {w w' : World} {bb mb : Nat} {sv : Value} {rows : List Value} {D : DataW Unit} {n : Nat} {S : List (List Nat)} {O O2 : Nat → Prop} (h : BagAt w bb mb sv rows D n S O) (hk : Keeps O2 w w') (ho : ∀ k, O k → ¬ O2 k) :
    BagAt w' bb mb sv rows D n S O where
  blk := (hk.block bb h.ltb (ho _ h.fb)).trans h.blk
  map := by
    obtain ⟨es, clock, hb, rest⟩ := h.map
    exact ⟨es, clock, (hk.block mb (Array.getElem?_eq_some_iff.1 hb).1 (ho _ h.fm)).trans hb, rest⟩
  rel := h.rel
  own := own_keeps h.own hk (fun g hg => ho _ (h.fs g hg))
  row := fun i l hl => by
    obtain ⟨v, h1, h2, h3⟩ := h.row i l hl
    exact ⟨v, h1, own_keeps h2 hk (fun g hg => ho _ (h3 g hg)), h3⟩
  fb := h.fb
  fm := h.fm
  fs := h.fs
  okw := h.okw
  nd := h.nd
  big := h.big
  nn := h.nn
theorem BagIs.keeps {w w' : World} {p : Value} {n : Nat} {S : List (List Nat)} {O O2 : Nat → Prop} (h : BagIs w p n S O) (hk : Keeps O2 w w') (ho : ∀ k, O k → ¬ O2 k) : BagIs w' p n S O := by
  obtain ⟨bb, mb, sv, rows, D, hp, hb⟩ := h
  exact ⟨bb, mb, sv, rows, D, hp, hb.keeps hk ho⟩
theorem BagIs.below {w w' : World} {p : Value} {n : Nat} {S : List (List Nat)} {O : Nat → Prop} (h : BagIs w p n S O) (hk : Below w.heap.size w w') : BagIs w' p n S O :=
  h.keeps (Keeps.of_pure hk (fun _ => False)) (fun _ _ h => h)

/-- bag.New. -/
theorem newBag_c (w : World) (n : Nat) (hn : n ≤ 8192) :
    Calls Tryz.prog 77 #[.int .i64 (n : Int)] w fun e w' => e = .returned (.tuple #[.pointer (some ⟨w.heap.size + 1, 0, none⟩), .nilIface]) ∧
      BagIs w' (.pointer (some ⟨w.heap.size + 1, 0, none⟩)) n [] (fun k => w.heap.size ≤ k) ∧ Below w.heap.size w w' := by
  have hmm := @run_makeMap Tryz.prog
  have t1 : ¬ ((n : Int) < 0) := by omega
  have t2 : ¬ (8192 < (n : Int)) := by omega
  go_enter Tryz.func77, Tryz.ntmps77
  go_wp2
  go_ret2
  refine ⟨rfl, ⟨w.heap.size + 1, w.heap.size, .slice none 0 0, [], .map [], rfl, ?_⟩, ((Below.refl _ _).alloc (Nat.le_refl _) _).alloc (by simp) _⟩
  exact {
    blk := by rw [show w.heap.size + 1 = (w.alloc (.map #[] 0)).heap.size from by simp]; exact heap_alloc_new _ _
    map := (World.ownsMap_made w Tryz.prog 9 _).alloc _
    rel := rel_nil
    own := World.ownsRow_nil _ _ _ _
    row := fun i l h => by simp at h
    fb := by simp
    fm := Nat.le_refl _
    fs := fun g h => by simp [Value.ownBlock] at h
    okw := fun l h => by simp at h
    nd := List.nodup_nil
    big := by simp
    nn := hn }

theorem wlen_le {n : Nat} (hn : n ≤ 8192) : wlen n ≤ 128 := by unfold wlen; omega

theorem or_shift {u y : Nat} (hu : u < 2 ^ 64) : bits .or .u64 (u : Int) (IntKind.u64.wrap (2 ^ (y % 64))) = ((u ||| 2 ^ (y % 64) : Nat) : Int) := by
  have h2 : (2 : Nat) ^ (y % 64) < 2 ^ 64 := Nat.pow_lt_pow_right (by decide) (Nat.mod_lt _ (by decide))
  have e : IntKind.u64.wrap (2 ^ (y % 64)) = ((2 ^ (y % 64) : Nat) : Int) := by
    have e0 : ((2 : Int) ^ (y % 64)) = ((2 ^ (y % 64) : Nat) : Int) := (Int.natCast_pow 2 (y % 64)).symm
    rw [IntKind.wrap_u64, e0]
    generalize (2 : Nat) ^ (y % 64) = z at h2
    omega
  rw [e, u64_or_nat _ _ hu h2]

/-- The set of a list of members. -/
theorem bits_c (w : World) (bb n : Nat) (hn : n ≤ 8192) (hc : w.cell? ⟨bb, 0, none⟩ = some (.int .i64 (n : Int))) (A : Option Addr) (m c : Nat) (xs : List Int) (hm : m ≤ 140737488355328)
    (h : Sl w A m (xs.map (Value.int .i64))) (hx : ∀ x ∈ xs, 0 ≤ x ∧ x < (n : Int)) :
    Calls Tryz.prog 116 #[.pointer (some ⟨bb, 0, none⟩), .slice A m c] w fun e w' => e = .returned (.tuple #[.slice (some ⟨w.heap.size, 0, none⟩) (wlen n) (wlen n), .nilIface]) ∧
      w'.ownsRow w.heap.size 87 1 (.slice (some ⟨w.heap.size, 0, none⟩) (wlen n) (wlen n)) (wlen n) ((bitsOf n xs).map uv) ∧ Below w.heap.size w w' := by
  have hl : xs.length = m := by simpa using h.1
  have HL := Lib.hid hl
  clear hl
  have hwl := wlen_le hn
  have hmk := run_make_row' (P := Tryz.prog) 174 87 (.int .u64 0) 8 tU64s.und tU64s.info rfl .i64 .i64 (wlen n) (by omega) (by omega)
  have hq : ((n : Int) + 63) / 64 = (wlen n : Int) := by unfold wlen; omega
  go_enter Tryz.func116, Tryz.ntmps116
  go_wp2
  clear hmk hq
  go_loopw [21] (fun i wr => ∃ k : Nat, k ≤ m ∧ i = .int .i64 k ∧ wr.ownsRow w.heap.size 87 1 (.slice (some ⟨w.heap.size, 0, none⟩) (wlen n) (wlen n)) (wlen n) ((bitsTo (zeros n) (xs.take k)).map uv) ∧ Below w.heap.size w wr) (fun i _ => m - (intOf i).toNat)
  case atStart =>
    refine ⟨0, Nat.zero_le _, rfl, ?_, (Below.refl _ _).alloc (Nat.le_refl _) _⟩
    have := World.ownsRow_lit (base := w.heap.size) (e := 87) (size := 1) w (madeCells #[.int .u64 0] (wlen n)) (wlen n) (Nat.le_refl _) (by simp only [maxLen]; omega) (by rw [size_madeCells]; simp)
    rw [toList_madeCells_one] at this
    simpa [bitsTo, zeros, uv] using this
  case round =>
    obtain ⟨k, hk, rfl, hown, hb⟩ := hrel
    by_cases hlt : k < m
    · obtain ⟨ad, x, rfl, hxk, hcx⟩ := (h.below hb).int_ hlt
      obtain ⟨hx0, hxn⟩ := hx x (List.mem_of_getElem? hxk)
      obtain ⟨y, rfl⟩ := Int.eq_ofNat_of_zero_le hx0
      have hcb := cell_later hb hc
      have hL : ((bitsTo (zeros n) (xs.take k)).map uv).length = wlen n := by rw [List.length_map, length_bitsTo]; simp [zeros]
      have hyw : y / 64 < wlen n := wlen_lt (by omega)
      have hcell := hown.cellAt (y / 64) (by omega)
      have hfr := hown.frozenAt (y / 64)
      rw [List.getElem?_map] at hcell
      obtain ⟨u, hu⟩ : ∃ u, (bitsTo (zeros n) (xs.take k))[y / 64]? = some u := ⟨_, List.getElem?_eq_getElem (by rw [List.length_map] at hL; omega)⟩
      rw [hu] at hcell
      simp only [Option.map_some, uv] at hcell
      have HU := Lib.hid hu
      have HX := Lib.hid hxk
      have HL2 := Lib.hid hL
      have HO := Lib.hid hown
      clear hu hxk hL hown hx0
      go_wp2
      go_region
      have hst := HO.out.stored (y / 64) (.int .u64 (bits .or .u64 (u : Int) (IntKind.u64.wrap (2 ^ (y % 64)))))
      have hval : ((bitsTo (zeros n) (xs.take k)).map uv).set (y / 64) (.int .u64 (bits .or .u64 (u : Int) (IntKind.u64.wrap (2 ^ (y % 64))))) = (bitsTo (zeros n) (xs.take (k + 1))).map uv := by
        rw [or_shift (ok_bitsTo _ (ok_zeros n) u (List.mem_of_getElem? HU.out)), bits_step HU.out HX.out, List.map_set]
        rfl
      rw [hval] at hst
      have R1 := hst.1
      have R2 := hb.grown hst.2 hb.size (fun j hj => by cases hj; exact Nat.le_refl _)
      clear hst hval hcell hfr hb HO
      go_wp2
      go_roundw
      case rel => exact ⟨k + 1, by omega, by go_num, R1.drew, R2.drew⟩
      case measure => simp [intOf]; omega
    · have hkm : k = m := by omega
      have E := Lib.hid hkm
      clear hkm
      go_wp2
      go_ret2
      rw [E.out, List.take_of_length_le (by rw [HL.out]; exact Nat.le_refl _)] at hown
      exact ⟨rfl, hown, hb⟩

end Go.Proofs.YtibplgpolmplpaaGreatDoor

namespace Go.Proofs.YtibplgpolmplpaaGreatDoor
open Go.RowKit

end Go.Proofs.YtibplgpolmplpaaGreatDoor

namespace Go.Proofs.YtibplgpolmplpaaGreatDoor
open Go.RowKit

def bv (b : UInt8) : Value := .int .u8 (b.toNat : Int)

theorem run_own_string {P : Program} (w : World) (src dst e : TypeId) (hs : P.underlying src = some (.slice e)) (he : P.underlying e = some (.int .u8)) (hd : P.underlying dst = some .string)
    {base : Nat} {A : Option Addr} {n c : Nat} {bs : List UInt8} (h : w.ownsRow base e 1 (.slice A n c) n (bs.map bv)) :
    (convert src dst (.slice A n c)).run P w = .ok (.string ⟨bs.toArray⟩) w := by
  have hl : bs.length = n := by simpa using h.1
  have hsl := Sl.of_own h
  cases A with
  | none =>
    have hb : bs = [] := by
      cases bs with
      | nil => rfl
      | cons b bs =>
        obtain ⟨ad, e', _⟩ := hsl.2 0 (bv b) (by simp)
        cases e'
    subst hb
    rw [run_convert_bytes_nil w src e hs he n c dst hd]
    rfl
  | some ad =>
    have hcells : (loadCells ad n).run P w = .ok ((bs.map (fun b => (b.toNat : Int))).map (Value.int .u8)).toArray w := by
      have := run_loadCells_list (P := P) w ad (bs.map bv) (fun j v hj => by
        obtain ⟨ad', e', hc⟩ := hsl.2 j v hj
        cases e'
        exact hc)
      rw [List.length_map, hl] at this
      rw [this, List.map_map]
      rfl
    rw [run_convert_bytes_string w src dst e _ n c hs he hd, run_bytesToString w _ n c _ hcells, foldl_push_bytes]
    congr 1
    congr 1
    simp only [ByteArray.empty, ByteArray.emptyWithCapacity, List.map_map]
    have : (bs.map ((fun (n : Int) => UInt8.ofNat n.toNat) ∘ fun b => (b.toNat : Int))) = bs := by
      conv => rhs; rw [← List.map_id bs]
      apply List.map_congr_left
      intro b _
      simp
    rw [this]
    simp
    rfl

end Go.Proofs.YtibplgpolmplpaaGreatDoor

namespace Go.Proofs.YtibplgpolmplpaaGreatDoor
open Go.RowKit BagP

theorem shr_step (u j : Nat) : Value.int .u64 ((u : Int) / 256 ^ j / 256) = Value.int .u64 ((u / 256 ^ (j + 1) : Nat) : Int) := by
  rw [Nat.pow_succ, ← Nat.div_div_eq_div_mul]
  simp
theorem byte_step {A : List UInt8} (u j : Nat) (hj : j < 8) : (A ++ (keyW u).take j).map bv ++ [Value.int .u8 ((u : Int) / 256 ^ j % 256)] = (A ++ (keyW u).take (j + 1)).map bv := by
  have : (keyW u)[j]? = some (keyByte u j) := by rw [keyW, List.getElem?_map, List.getElem?_range hj]; rfl
  rw [List.take_add_one, this]
  simp [bv, toNat_keyByte]
theorem key_step {l : List Nat} {k u : Nat} (h : l[k]? = some u) : keyB (l.take (k + 1)) = keyB (l.take k) ++ (keyW u).take 8 := by
  rw [List.take_add_one, h]
  have h8 : (keyW u).take 8 = keyW u := List.take_of_length_le (by rw [length_keyW]; exact Nat.le_refl _)
  rw [h8]
  simp [keyB]

set_option maxRecDepth 100000 in
set_option maxHeartbeats 400000 in
theorem key_c (w : World) (A : Option Addr) (m c : Nat) (l : List Nat) (hm : m ≤ 1048576) (h : Sl w A m (l.map uv)) (ho : Ok64 l) :
    Calls Tryz.prog 133 #[.slice A m c] w fun e w' => e = .returned (.string ⟨(keyB l).toArray⟩) ∧ Below w.heap.size w w' := by
  have hl : l.length = m := by simpa using h.1
  have HL := Lib.hid hl
  clear hl
  obtain ⟨i0, hi, hz0, hz1, hz2⟩ := info_parts tBytes.info
  go_enter Tryz.func133, Tryz.ntmps133
  go_wp2_with (at_make; refine wpList_make_own _ rfl _ _ _ rfl w.heap.size 5 i0 (.int .u8 0) 1 tBytes.und hi hz0 hz1 _ _ (8 * (m : Int)) (8 * m) rfl rfl (by simp) (by rw [hz2]; omega) (by simp only [maxLen]; omega) (Nat.le_refl _) ?_; intro w1 hown1 hg1)
  go_loopw [3, 12] (fun s i wr => ∃ k : Nat, k ≤ m ∧ i = .int .i64 k ∧ wr.ownsRow w.heap.size 5 1 s (8 * k) ((keyB (l.take k)).map bv) ∧ Below w.heap.size w wr) (fun _ i _ => m - (intOf i).toNat)
  case atStart => exact ⟨0, Nat.zero_le _, rfl, hown1, (Below.refl _ _).grown hg1 (Nat.le_refl _) (by simp)⟩
  case round =>
    obtain ⟨k, hk, rfl, hown, hb⟩ := hrel
    clear hown1 hg1 
    by_cases hlt : k < m
    · obtain ⟨ad, u, rfl, hxk, hcx⟩ := (h.below hb).word_ hlt
      have hu := ho u (List.mem_of_getElem? hxk)
      have HX := Lib.hid hxk
      have HU := Lib.hid hu
      clear hxk hu
      obtain ⟨wo, rfl⟩ : ∃ wo : World, wo = wr := ⟨_, rfl⟩
      go_wp2
      go_loopw [3, 5, 16] (fun s x i wr => ∃ j : Nat, j ≤ 8 ∧ i = .int .i64 j ∧ x = .int .u64 ((u / 256 ^ j : Nat) : Int) ∧ wr.ownsRow w.heap.size 5 1 s (8 * k + j) ((keyB (l.take k) ++ (keyW u).take j).map bv) ∧ Below w.heap.size w wr) (fun _ _ i _ => 8 - (intOf i).toNat)
      case atStart => exact ⟨0, by omega, rfl, by simp, by simpa using hown, hb⟩
      case round =>
        obtain ⟨j, hj, rfl, rfl, hown2, hb2⟩ := hrel
        clear hown hb hcx
        by_cases hj8 : j < 8
        · go_wp2_with (at_builtin; refine wpList_push rfl _ _ _ rfl tBytes hown2 rfl _ 0 rfl rfl rfl (by simp only [maxLen]; omega) (by omega) hb2.size ?_; intro g cap w2 hown3 hg3 hat3 hlt3)
          have hb3 := hb2.grown hg3 hb2.size (fun q hq => (hown2.lt q hq).1)
          refine ⟨⟨j + 1, by omega, by go_num, shr_step u j, ?_, hb3⟩, by simp [intOf]; omega⟩
          rw [byte_step u j hj8] at hown3
          exact hown3
        · have E := Lib.hid (show j = 8 by omega)
          go_wp2
          refine ⟨⟨k + 1, by omega, by go_num, ?_, hb2⟩, by simp [intOf]; omega⟩
          have e2 := key_step (l := l) HX.out
          rw [E.out] at hown2
          rw [e2]
          exact hown2
    · have E := Lib.hid (show k = m by omega)
      rw [show keyB (l.take k) = keyB l from by rw [E.out, List.take_of_length_le (by rw [HL.out]; exact Nat.le_refl _)]] at hown
      obtain ⟨A', c', rfl, _, _⟩ := own_slice hown
      have hconv := run_own_string (P := Tryz.prog) wr 209 9 5 tBytes.und Tryz.underlying5 Tryz.underlying9 hown
      go_wp2
      go_ret
      exact ⟨rfl, hb⟩

end Go.Proofs.YtibplgpolmplpaaGreatDoor

namespace Go.Proofs.YtibplgpolmplpaaGreatDoor
open Go.RowKit Go.WideMaps Go.Maps BagP

/-- A new set is kept behind the others. -/
def bagMore (O : Nat → Prop) (H : Nat) (A : Option Addr) (k : Nat) : Prop := O k ∨ H ≤ k ∨ ∃ ad, A = some ad ∧ k = ad.block

theorem put_end {w w1 w2 w3 : World} {bb mb : Nat} {SA : Option Addr} {sc : Nat} {rows : List Value} {D : DataW Unit} {n : Nat} {S : List (List Nat)} {O : Nat → Prop} (hB : BagAt w bb mb (.slice SA S.length sc) rows D n S O)
    {A : Option Addr} {c : Nat} {l : List Nat} (ho : Ok64 l) (hl : l.length = wlen n) (hr : w.ownsRow 0 87 1 (.slice A (wlen n) c) (wlen n) (l.map uv)) (hn : l ∉ S) (hroom : S.length < 4096)
    (hb1 : Below w.heap.size w w1) (hne : bb ≠ mb)
    (hmap2 : w2.ownsMap Tryz.prog 9 (plainElem (H := Unit) Tryz.prog 3) mb (S.length + 1) (D.put (.string (keyB l)) (.lit (.int .i64 (S.length : Int))))) (hg2 : w1.grownBy w2 (some mb))
    {g cap : Nat} (hown3 : w3.ownsRow 0 174 1 (.slice (some ⟨g, 0, none⟩) (S.length + 1) cap) (S.length + 1) (rows ++ [.slice A (wlen n) c])) (hg3 : w2.grownBy w3 (Value.slice SA S.length sc).ownBlock)
    (hat3 : (Value.slice SA S.length sc).ownBlock = some g ∨ w2.heap.size < g) (blk3 : w3.heap[bb]? = some (.cells #[.int .i64 (n : Int), .slice SA S.length sc, .map (some mb)] 173 (0, 0))) :
    BagIs (w3.setCell ⟨bb, 1, none⟩ (.slice (some ⟨g, 0, none⟩) (S.length + 1) cap)) (.pointer (some ⟨bb, 0, none⟩)) n (S ++ [l]) (bagMore O w.heap.size A) ∧
      Keeps O w (w3.setCell ⟨bb, 1, none⟩ (.slice (some ⟨g, 0, none⟩) (S.length + 1) cap)) := by
  have k1 : Keeps (fun _ => False) w w1 := Keeps.of_pure hb1 _
  have k2 := Keeps.of_grown hg2
  have k3 := Keeps.of_grown hg3
  have k4 := Keeps.of_setCell w3 ⟨bb, 1, none⟩ (.slice (some ⟨g, 0, none⟩) (S.length + 1) cap)
  have hB1 := hB.keeps k1 (fun _ _ h => h)
  obtain ⟨es1, ck1, hm1, _⟩ := hB1.map
  obtain ⟨es2, ck2, hm2, hm2'⟩ := hmap2
  have hs2 := own_keeps hB1.own k2 (fun g' hg' e => by cases e; exact own_ne_map hB1.own hm1 hg')
  have blk2 := (hg2.block bb hB1.ltb (by simpa using hne)).trans hB1.blk
  have keepRow : ∀ {v : Value} {m : Nat} {xs : List Value}, w.ownsRow 0 87 1 v m xs → (w3.setCell ⟨bb, 1, none⟩ (.slice (some ⟨g, 0, none⟩) (S.length + 1) cap)).ownsRow 0 87 1 v m xs := by
    intro v m xs hv
    have h1 := own_keeps hv k1 (fun _ _ h => h)
    have h2 := own_keeps h1 k2 (fun g' hg' e => by cases e; exact own_ne_map h1 hm1 hg')
    have h3 := own_keeps h2 k3 (fun g' hg' e => own_ne_own h2 hs2 (by decide) hg' e)
    exact own_keeps h3 k4 (fun g' hg' e => by subst e; exact own_ne_blk h3 blk3 (by decide) hg')
  have hrl : rows.length = S.length := by simpa using hB.own.1
  refine ⟨⟨bb, mb, .slice (some ⟨g, 0, none⟩) (S.length + 1) cap, rows ++ [.slice A (wlen n) c], D.put (.string (keyB l)) (.lit (.int .i64 (S.length : Int))), rfl, ?_⟩, ?_⟩
  · exact {
      blk := heap_setCell_same w3 bb 1 _ _ _ blk3
      map := by
        rw [List.length_append]
        refine ⟨es2, ck2, ?_, hm2'⟩
        rw [k4.block mb (Nat.lt_of_lt_of_le (Array.getElem?_eq_some_iff.1 hm2).1 k3.size) (fun e => hne e.symm), k3.block mb (Array.getElem?_eq_some_iff.1 hm2).1 (fun e => own_ne_map hs2 hm2 e)]
        exact hm2
      rel := rel_snoc hB.rel (fun l' hl' => (hB.okw l' hl').1) ho hn
      own := by
        rw [List.length_append]
        exact own_keeps hown3 k4 (fun g' hg' e => by subst e; exact own_ne_blk hown3 blk3 (by decide) hg')
      row := fun i l' hl' => by
        rcases Nat.lt_or_ge i S.length with hlt | hge
        · rw [List.getElem?_append_left hlt] at hl'
          obtain ⟨v, h1, h2, h3⟩ := hB.row i l' hl'
          exact ⟨v, by rw [List.getElem?_append_left (by omega)]; exact h1, keepRow h2, fun g' hg' => .inl (h3 g' hg')⟩
        · rw [List.getElem?_append_right hge] at hl'
          rcases Nat.eq_zero_or_pos (i - S.length) with h0 | h0
          · rw [h0] at hl'
            simp at hl'
            subst hl'
            refine ⟨.slice A (wlen n) c, by rw [List.getElem?_append_right (by omega), hrl, h0]; rfl, keepRow hr, fun g' hg' => ?_⟩
            cases A with
            | none => simp [Value.ownBlock] at hg'
            | some ad => exact .inr (.inr ⟨ad, rfl, by simpa [Value.ownBlock] using hg'.symm⟩)
          · rw [List.getElem?_eq_none (by simp; omega)] at hl'; cases hl'
      fb := .inl hB.fb
      fm := .inl hB.fm
      fs := fun g' hg' => by
        have e : g = g' := by simpa [Value.ownBlock] using hg'
        subst e
        rcases hat3 with h | h
        · exact .inl (hB.fs g h)
        · exact .inr (.inl (by have := hb1.size; have := hg2.size; omega))
      okw := fun l' hl' => by
        rcases List.mem_append.1 hl' with h | h
        · exact hB.okw l' h
        · simp at h; subst h; exact ⟨ho, hl⟩
      nd := by
        rw [List.nodup_append]
        exact ⟨hB.nd, by simp, fun a ha b hb e => by simp at hb; subst hb; subst e; exact hn ha⟩
      big := by rw [List.length_append]; simp; omega
      nn := hB.nn }
  · have j1 : Keeps O w w1 := k1.mono (fun _ _ h => h.elim)
    have j2 : Keeps O w1 w2 := k2.mono (fun k _ e => by cases e; exact hB.fm)
    have j3 : Keeps O w2 w3 := k3.mono (fun k _ e => hB.fs k e)
    have j4 : Keeps O w3 (w3.setCell ⟨bb, 1, none⟩ (.slice (some ⟨g, 0, none⟩) (S.length + 1) cap)) := k4.mono (fun k _ e => by subst e; exact hB.fb)
    exact ((j1.trans j2 (fun _ _ h => h)).trans j3 (fun _ _ h => h)).trans j4 (fun _ _ h => h)

theorem key_of (l : List Nat) (h : 8 * l.length ≤ 1048576) : keyOf Tryz.prog 9 (.string ⟨(keyB l).toArray⟩) = some (.string (keyB l)) := by
  have := keyOf_string_mk Tryz.underlying9 (s := ⟨(keyB l).toArray⟩) (by simp only [ByteArray.size, List.size_toArray, length_keyB, maxLen]; omega)
  simpa using this

set_option maxRecDepth 100000 in
set_option maxHeartbeats 400000 in
theorem put_old {w : World} {bb mb : Nat} {sv : Value} {rows : List Value} {D : DataW Unit} {n : Nat} {S : List (List Nat)} {O : Nat → Prop} (hB : BagAt w bb mb sv rows D n S O)
    (A : Option Addr) (c : Nat) (l : List Nat) (ho : Ok64 l) (hl : l.length = wlen n) (hr : Sl w A (wlen n) (l.map uv)) (i : Nat) (hi : S[i]? = some l) :
    Calls Tryz.prog 117 #[.pointer (some ⟨bb, 0, none⟩), .slice A (wlen n) c] w fun e w' => e = .returned (.tuple #[.int .i64 (i : Int), .bool false, .nilIface]) ∧ Below w.heap.size w w' := by
  have hwl := wlen_le hB.nn
  have hkey := key_of l (by omega)
  obtain ⟨hrel1, hrel2⟩ := hB.rel.2 l ho
  have hh : Maps.has D (.string (keyB l)) = true := by rw [hrel1]; exact decide_eq_true (List.mem_of_getElem? hi)
  have hat := hrel2 i hi
  clear hrel1 hrel2
  have HAT := Lib.hid hat
  have HH := Lib.hid hh
  have HL := Lib.hid hl
  have HI := Lib.hid hi
  clear hat hh hl hi
  go_enter Tryz.func117, Tryz.ntmps117
  go_wp2_with fail
  refine (key_c _ A (wlen n) c l (by omega) hr ho).mono ?_
  rintro e w1 ⟨rfl, hb1⟩
  have hB1 := hB.keeps (Keeps.of_pure hb1 (fun _ => False)) (fun _ _ h => h)
  obtain ⟨c0, c1, c2, f1⟩ := blk_cells hB1.blk
  have hmap := hB1.map
  go_wp2_with (at_lookup; refine wpList_lookup_own_ok_int _ rfl _ _ _ rfl 9 3 .i64 keyLaw Tryz.underlying170 Tryz.underlying3 (zeroInt _) mb _ D rfl hmap _ _ rfl hkey ?_; intro c' hat' _; rw [HH.out])
  obtain rfl : c' = (i : Int) := by
    have := hat'.symm.trans HAT.out
    injection this with this
    injection this
  go_ret3
  exact ⟨rfl, hb1⟩

set_option maxRecDepth 100000 in
set_option maxHeartbeats 1000000 in
theorem put_new {w : World} {bb mb : Nat} {sv : Value} {rows : List Value} {D : DataW Unit} {n : Nat} {S : List (List Nat)} {O : Nat → Prop} (hB : BagAt w bb mb sv rows D n S O)
    (A : Option Addr) (c : Nat) (l : List Nat) (ho : Ok64 l) (hl : l.length = wlen n) (hr : w.ownsRow 0 87 1 (.slice A (wlen n) c) (wlen n) (l.map uv)) (hn : l ∉ S) (hroom : S.length < 4096) :
    Calls Tryz.prog 117 #[.pointer (some ⟨bb, 0, none⟩), .slice A (wlen n) c] w fun e w' => e = .returned (.tuple #[.int .i64 (S.length : Int), .bool true, .nilIface]) ∧
      BagIs w' (.pointer (some ⟨bb, 0, none⟩)) n (S ++ [l]) (bagMore O w.heap.size A) ∧ Keeps O w w' := by
  have hwl := wlen_le hB.nn
  have hkey := key_of l (by omega)
  have hh : Maps.has D (.string (keyB l)) = false := by rw [(hB.rel.2 l ho).1]; exact decide_eq_false hn
  have HH := Lib.hid hh
  have HL := Lib.hid hl
  have hlen : ((S.length : Int) == 4096) = false := by simp; omega
  clear hh hl
  go_enter Tryz.func117, Tryz.ntmps117
  go_wp2_with fail
  refine (key_c _ A (wlen n) c l (by omega) (Sl.of_own hr) ho).mono ?_
  rintro e w1 ⟨rfl, hb1⟩
  have hB1 := hB.keeps (Keeps.of_pure hb1 (fun _ => False)) (fun _ _ h => h)
  have hr1 := own_below hr hb1
  obtain ⟨c0, c1, c2, f1⟩ := blk_cells hB1.blk
  have hmap := hB1.map
  obtain ⟨SA, sc, rfl, _, _⟩ := own_slice hB1.own
  have hne : bb ≠ mb := by
    intro e
    obtain ⟨es, ck, hm, _⟩ := hmap
    have := hB1.blk
    rw [e, hm] at this
    cases this
  have h62 : ∀ v : Value, v.oneCell' = true → True := fun _ _ => trivial
  go_wp2_with (first
    | (at_lookup; refine wpList_lookup_own_ok_int _ rfl _ _ _ rfl 9 3 .i64 keyLaw Tryz.underlying170 Tryz.underlying3 (zeroInt _) mb _ D rfl hmap _ _ rfl hkey ?_; intro c' hat' _; rw [HH.out])
    | (at_mapUpdate; refine wpList_mapUpdate_own _ rfl _ _ _ 170 rfl 9 3 keyLaw Tryz.underlying170 _ mb S.length D rfl hmap (by simp only [maxLen]; omega) _ _ _ rfl rfl hkey _ [] (plainElem_int Tryz.underlying3 (WalkArith.wf_i64 (by omega))) ?_; intro w2 hmap2 hg2; have blk2 := (hg2.block bb hB1.ltb (by simpa using hne)).trans hB1.blk; obtain ⟨d0, d1, d2, g1⟩ := blk_cells blk2; have hown2 := own_keeps hB1.own (Keeps.of_grown hg2) (fun g hg e => by cases e; exact own_ne_map hB1.own hmap.choose_spec.choose_spec.1 hg))
    | (at_builtin; refine wpList_push rfl _ _ _ rfl tU64ss hown2 rfl _ 0 rfl rfl rfl (by simp only [maxLen]; omega) (by omega) (Nat.zero_le _) ?_; intro g cap w3 hown3 hg3 hat3 hlt3; have blk3 := (hg3.block bb (Array.getElem?_eq_some_iff.1 blk2).1 (fun e => own_ne_blk hown2 blk2 (by decide) e.symm)).trans blk2; obtain ⟨e0, e1, e2, i1⟩ := blk_cells blk3))
  go_ret3
  exact ⟨rfl, put_end hB ho HL.out hr hn hroom hb1 hne hmap2 hg2 hown3 hg3 hat3 blk3⟩

end Go.Proofs.YtibplgpolmplpaaGreatDoor
