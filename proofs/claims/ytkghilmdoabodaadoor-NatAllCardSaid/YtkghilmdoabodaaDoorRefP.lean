/- The document's number of a text: edenref02.Parse. No condition. -/
import Derived.Test.YtkghilmdoabodaaDoorRef2D
import Derived.Test.YtkghilmdoabodaaDoorUnderW
namespace Go.Proofs.YtkghilmdoabodaaDoor
open Go.RowKit NatP

/-- What the document's Parse answers: the limbs of this number, and the tale of a refusal. -/
def pNum (l : List UInt8) : Nat := match parseN l with
  | .ok v => v
  | .error _ => 0
def pTale (l : List UInt8) : Option Tale := match parseN l with
  | .ok _ => none
  | .error p => some (p.2, [(sNat, (p.1 : Int))])
theorem pNum_err {l : List UInt8} {i n : Nat} (h : parseN l = .error (i, n)) : pNum l = 0 := by unfold pNum; rw [h]
theorem pTale_err {l : List UInt8} {i n : Nat} (h : parseN l = .error (i, n)) : pTale l = some (n, [(sNat, (i : Int))]) := by unfold pTale; rw [h]
def ParseRef (w : World) (l : List UInt8) (e : Ending) (w' : World) : Prop :=
  ∃ (C : Option Addr) (cc N : Nat) (A1 : Option Addr) (n1 c1 : Nat) (A2 : Option Addr) (n2 c2 : Nat), e = .returned (.tuple #[.slice C (limbs (pNum l)).length cc, .agg #[.int .i64 (N : Int), .slice A1 n1 c1, .slice A2 n2 c2]]) ∧
    w'.ownsRow w.heap.size 27 1 (.slice C (limbs (pNum l)).length cc) (limbs (pNum l)).length ((limbs (pNum l)).map wv) ∧ WantB w' w.heap.size (pTale l) (.agg #[.int .i64 (N : Int), .slice A1 n1 c1, .slice A2 n2 c2]) ∧ Below w.heap.size w w'
theorem ParseRef.err {w w' : World} {l : List UInt8} {i n N : Nat} {A1 A2 : Option Addr} {n1 c1 n2 c2 : Nat} (h : parseN l = .error (i, n)) (hu : WantB w' w.heap.size (some (n, [(sNat, (i : Int))])) (.agg #[.int .i64 (N : Int), .slice A1 n1 c1, .slice A2 n2 c2])) (hb : Below w.heap.size w w') :
    ParseRef w l (.returned (.tuple #[.slice none 0 0, .agg #[.int .i64 (N : Int), .slice A1 n1 c1, .slice A2 n2 c2]])) w' := by
  have e0 : limbs 0 = [] := rfl
  refine ⟨none, 0, N, A1, n1, c1, A2, n2, c2, by rw [pNum_err h, e0]; rfl, by rw [pNum_err h, e0]; exact ⟨rfl, .inl ⟨rfl, rfl⟩⟩, by rw [pTale_err h]; exact hu, hb⟩

theorem ParseRef.ok {w w' : World} {l : List UInt8} {v : Nat} {C : Option Addr} {cc : Nat} (h : parseN l = .ok v) (ho : w'.ownsRow w.heap.size 27 1 (.slice C (limbs v).length cc) (limbs v).length ((limbs v).map wv)) (hb : Below w.heap.size w w') :
    ParseRef w l (.returned (.tuple #[.slice C (limbs v).length cc, .agg #[.int .i64 0, .slice none 0 0, .slice none 0 0]])) w' := by
  have e1 : pNum l = v := by unfold pNum; rw [h]
  have e2 : pTale l = none := by unfold pTale; rw [h]
  exact ⟨C, cc, 0, none, 0, 0, none, 0, 0, by rw [e1]; rfl, by rw [e1]; exact ho, by rw [e2]; exact WantB.zero _ _, hb⟩

set_option maxRecDepth 100000 in
set_option maxHeartbeats 1000000 in
theorem refParse_big (w : World) (l : List UInt8) (h : 1200 < l.length) :
    Calls Tryd.prog 42 #[.string ⟨l.toArray⟩] w fun e w' => ParseRef w l e w' := by
  have hs : (⟨l.toArray⟩ : ByteArray).size = l.length := Lib.size_mk l
  have hp : Hid (parseN l = .error (0, 4)) := Lib.hid (by unfold parseN; rw [if_pos h])
  have hw0 := WantAt.new w (.int .i64 0) (.slice none 0 0) (.slice none 0 0)
  have hb0 := (Below.refl w.heap.size w).alloc (Nat.le_refl _) (.cells #[.int .i64 0, .slice none 0 0, .slice none 0 0] 50)
  have HN := Lib.hid (newB_c (w.alloc (.cells #[.int .i64 0, .slice none 0 0, .slice none 0 0] 50)) sNat 0 4)
  obtain ⟨n, hn⟩ : ∃ n, l.length = n := ⟨_, rfl⟩
  generalize hS : (⟨l.toArray⟩ : ByteArray) = S at *
  rw [hn] at hs h
  clear hn
  go_enter Tryd.func42, Tryd.ntmps42
  go_wp2_with fail
  refine (HN.out).mono ?_
  rintro e w1 ⟨A1, n1, c1, A2, n2, c2, rfl, hu, hb1⟩
  have hw1 := hw0.below hb1 (by simp)
  have hu2 := hu.set3 (g := w.heap.size) (by simp) (.int .i64 4) (.slice A1 n1 c1) (.slice A2 n2 c2)
  have hb2 := below_set3 (hb0.trans (hb1.mono (by simp))) (Nat.le_refl _) (.int .i64 4) (.slice A1 n1 c1) (.slice A2 n2 c2)
  obtain ⟨d0, d1, d2, f0, f1, f2⟩ := hw1.facts
  have HU := Lib.hid (hu2.base (base' := w.heap.size) (by simp))
  have HB := Lib.hid hb2
  clear hu hu2 hb1 hb2 hw1 hw0 hb0
  go_wp2_with fail
  exact bodyPost_ret (v := .tuple #[.slice none 0 0, .agg #[.int .i64 4, .slice A1 n1 c1, .slice A2 n2 c2]]) (by simp [results, Tryd.results42, go_sem, d0, d1, d2]) rfl (ParseRef.err (N := 4) hp.out HU.out HB.out)
set_option maxRecDepth 100000 in
set_option maxHeartbeats 1000000 in
theorem refParse_none (w : World) :
    Calls Tryd.prog 42 #[.string ⟨#[]⟩] w fun e w' => ParseRef w [] e w' := by
  have hp : Hid (parseN [] = .error (0, 6)) := Lib.hid rfl
  have hw0 := WantAt.new w (.int .i64 0) (.slice none 0 0) (.slice none 0 0)
  have hb0 := (Below.refl w.heap.size w).alloc (Nat.le_refl _) (.cells #[.int .i64 0, .slice none 0 0, .slice none 0 0] 50)
  have HN := Lib.hid (newB_c (w.alloc (.cells #[.int .i64 0, .slice none 0 0, .slice none 0 0] 50)) sNat 0 6)
  go_enter Tryd.func42, Tryd.ntmps42
  go_wp2_with fail
  refine (HN.out).mono ?_
  rintro e w1 ⟨A1, n1, c1, A2, n2, c2, rfl, hu, hb1⟩
  have hw1 := hw0.below hb1 (by simp)
  have hu2 := hu.set3 (g := w.heap.size) (by simp) (.int .i64 6) (.slice A1 n1 c1) (.slice A2 n2 c2)
  have hb2 := below_set3 (hb0.trans (hb1.mono (by simp))) (Nat.le_refl _) (.int .i64 6) (.slice A1 n1 c1) (.slice A2 n2 c2)
  obtain ⟨d0, d1, d2, f0, f1, f2⟩ := hw1.facts
  have HU := Lib.hid (hu2.base (base' := w.heap.size) (by simp))
  have HB := Lib.hid hb2
  clear hu hu2 hb1 hb2 hw1 hw0 hb0
  go_wp2_with fail
  exact bodyPost_ret (v := .tuple #[.slice none 0 0, .agg #[.int .i64 6, .slice A1 n1 c1, .slice A2 n2 c2]]) (by simp [results, Tryd.results42, go_sem, d0, d1, d2]) rfl (ParseRef.err (N := 6) hp.out HU.out HB.out)

set_option maxRecDepth 100000 in
set_option maxHeartbeats 2000000 in
theorem refParse_mid (w : World) (l : List UInt8) (h1 : ¬ 1200 < l.length) (hne : l ≠ []) :
    Calls Tryd.prog 42 #[.string ⟨l.toArray⟩] w fun e w' => ParseRef w l e w' := by
  have hgood := parse_good h1 hne
  have hs : (⟨l.toArray⟩ : ByteArray).size = l.length := Lib.size_mk l
  obtain ⟨n, hn⟩ : ∃ n, l.length = n := ⟨_, rfl⟩
  have hat : ∀ (k : Nat) (hk : k < (⟨l.toArray⟩ : ByteArray).size), l[k]? = some ((⟨l.toArray⟩ : ByteArray)[k]'hk) := fun k hk => (Lib.getElem_mk l k hk).symm ▸ rfl
  have hemp : (⟨l.toArray⟩ : ByteArray).toList.isEmpty = false := by
    rw [ByteArray.toList_eq]
    cases l with
    | nil => exact absurd rfl hne
    | cons b l => rfl
  generalize hS : (⟨l.toArray⟩ : ByteArray) = S at *
  have hle := h1
  rw [hn] at hs hle
  have h1200 : decide ((1200 : Int) < (n : Int)) = false := decide_eq_false (by omega)
  have HN := Lib.hid hn
  have HAT := Lib.hid hat
  have HG := Lib.hid hgood
  have hw0 := WantAt.new w (.int .i64 0) (.slice none 0 0) (.slice none 0 0)
  have hb0 := (Below.refl w.heap.size w).alloc (Nat.le_refl _) (.cells #[.int .i64 0, .slice none 0 0, .slice none 0 0] 50)
  obtain ⟨wx, hwx⟩ : ∃ wx, w.alloc (.cells #[.int .i64 0, .slice none 0 0, .slice none 0 0] 50) = wx := ⟨_, rfl⟩
  have HWX := Lib.hid hwx
  have hsx : wx.heap.size = w.heap.size + 1 := by rw [← hwx]; simp
  rw [hwx] at hw0 hb0
  clear hn hat hne hS hgood h1 hwx
  go_enter Tryd.func42, Tryd.ntmps42
  go_wp2_with fail
  go_loopw [4] (fun i wr => ∃ k : Nat, k ≤ n ∧ i = .int .i64 (k : Int) ∧ Hid (∀ b ∈ l.take k, digitB b = true) ∧ wr = wx) (fun i _ => n - (intOf i).toNat)
  case atStart => exact ⟨0, Nat.zero_le _, rfl, Lib.hid (fun b hb => by simp at hb), HWX.out⟩
  case round =>
    obtain ⟨k, hk, rfl, HD, rfl⟩ := hrel
    by_cases hlt : k < n
    · have hkS : k < S.size := by omega
      have hlk := HAT.out k hkS
      obtain ⟨b, hbb⟩ : ∃ b, S[k]'hkS = b := ⟨_, rfl⟩
      rw [hbb] at hlk
      by_cases hdg : digitB b = true
      case neg =>
        have hdf : digitB b = false := by simpa using hdg
        have HP := Lib.hid (parse_bad (by rw [HN.out]; omega) hlk hdf HD.out)
        have hrange : (b.toNat : Int) < 48 ∨ (57 : Int) < (b.toNat : Int) := by
          simp only [digitB, decide_eq_false_iff_not] at hdf
          omega
        have d0 : decide ((b.toNat : Int) < 48) = true ∨ (decide ((b.toNat : Int) < 48) = false ∧ decide ((57 : Int) < (b.toNat : Int)) = true) := by
          rcases hrange with h | h
          · exact .inl (decide_eq_true h)
          · exact .inr ⟨decide_eq_false (by omega), decide_eq_true h⟩
        clear hdg hdf hlk hrange
        rcases d0 with e1 | ⟨e1, e2⟩
        all_goals
          go_wp2_with fail
          refine (newB_c wr sNat (k : Int) 6).mono ?_
          rintro e w1 ⟨A1, n1, c1, A2, n2, c2, rfl, hu, hb1⟩
          have hw1 := hw0.below hb1 (by omega)
          have hu2 := hu.set3 (g := w.heap.size) (by omega) (.int .i64 6) (.slice A1 n1 c1) (.slice A2 n2 c2)
          have hb2 := below_set3 (hb0.trans (hb1.mono (by omega))) (Nat.le_refl _) (.int .i64 6) (.slice A1 n1 c1) (.slice A2 n2 c2)
          obtain ⟨d0, d1, d2, f0, f1, f2⟩ := hw1.facts
          have HU := Lib.hid (hu2.base (base' := w.heap.size) (by omega))
          have HB := Lib.hid hb2
          clear hu hu2 hb1 hb2 hw1 hw0 hb0
          go_wp2_with fail
          exact bodyPost_ret (v := .tuple #[.slice none 0 0, .agg #[.int .i64 6, .slice A1 n1 c1, .slice A2 n2 c2]]) (by simp [results, Tryd.results42, go_sem, d0, d1, d2]) rfl (ParseRef.err (N := 6) HP.out HU.out HB.out)
      have HD2 : Hid (∀ b ∈ l.take (k + 1), digitB b = true) := Lib.hid (by
        intro c hc
        rw [List.take_add_one, hlk] at hc
        rcases List.mem_append.1 hc with h | h
        · exact HD.out c h
        · simp at h; subst h; exact hdg)
      have hbd := hdg
      clear hdg
      simp only [digitB, decide_eq_true_eq] at hbd
      have e1 : decide ((b.toNat : Int) < 48) = false := decide_eq_false (by omega)
      have e2 : decide ((57 : Int) < (b.toNat : Int)) = false := decide_eq_false (by omega)
      clear hlk
      go_wp2_with fail
      exact ⟨⟨k + 1, by omega, by go_num, HD2, trivial⟩, by simp [intOf]; omega⟩
    · obtain rfl : k = n := by omega
      have htk : l.take k = l := List.take_of_length_le (by rw [HN.out]; exact Nat.le_refl _)
      have hall : ∀ b ∈ l, digitB b = true := fun b hb => HD.out b (by rw [htk]; exact hb)
      have hpost := HG.out hall
      rw [HN.out] at hpost
      have HP := Lib.hid hpost
      have HALL := Lib.hid hall
      clear hpost htk hlt HD hall
      have h0S : 0 < S.size ∨ ¬ 1 < k := by omega
      by_cases hz : 1 < k ∧ l[0]? = some 48
      · have hp2 : Hid (parseN l = .error (0, 6)) := Lib.hid (by rw [HP.out, if_pos hz])
        have h0S : 0 < S.size := by omega
        have hl0 := HAT.out 0 h0S
        rw [hz.2] at hl0
        have hbb : S[0]'h0S = 48 := (Option.some.inj hl0).symm
        have h1k := hz.1
        clear hl0 hz
        go_wp2_with fail
        refine (newB_c wr sNat 0 6).mono ?_
        rintro e w1 ⟨A1, n1, c1, A2, n2, c2, rfl, hu, hb1⟩
        have hw1 := hw0.below hb1 (by omega)
        have hu2 := hu.set3 (g := w.heap.size) (by omega) (.int .i64 6) (.slice A1 n1 c1) (.slice A2 n2 c2)
        have hb2 := below_set3 (hb0.trans (hb1.mono (by omega))) (Nat.le_refl _) (.int .i64 6) (.slice A1 n1 c1) (.slice A2 n2 c2)
        obtain ⟨d0, d1, d2, f0, f1, f2⟩ := hw1.facts
        have HU := Lib.hid (hu2.base (base' := w.heap.size) (by omega))
        have HB := Lib.hid hb2
        clear hu hu2 hb1 hb2 hw1 hw0 hb0
        go_wp2_with fail
        exact bodyPost_ret (v := .tuple #[.slice none 0 0, .agg #[.int .i64 6, .slice A1 n1 c1, .slice A2 n2 c2]]) (by simp [results, Tryd.results42, go_sem, d0, d1, d2]) rfl (ParseRef.err (N := 6) hp2.out HU.out HB.out)
      · have hp2 : Hid (parseN l = .ok (numB l)) := Lib.hid (by rw [HP.out, if_neg hz])
        have hcase : decide ((1 : Int) < (k : Int)) = false ∨ (decide ((1 : Int) < (k : Int)) = true ∧ ∃ (h : 0 < S.size) (b : UInt8), S[0]'h = b ∧ ((b.toNat : Int) == 48) = false) := by
          by_cases h1 : 1 < k
          · have h0 : 0 < S.size := by omega
            refine .inr ⟨decide_eq_true (by omega), h0, _, rfl, ?_⟩
            rw [beq_eq_false_iff_ne]
            intro e
            exact hz ⟨h1, by rw [HAT.out 0 h0]; exact congrArg some (UInt8.toNat_inj.1 (by simp; omega))⟩
          · exact .inl (decide_eq_false (by omega))
        clear hz h0S
        rcases hcase with e1 | ⟨e1, h0, b0, hb0', e2⟩
        all_goals
          go_wp2_with fail
          go_loopw [5, 6] (fun a i wq => ∃ (j c : Nat) (A : Option Addr), j ≤ k ∧ i = .int .i64 (j : Int) ∧ a = .slice A (limbs (numB (l.take j))).length c ∧ Hid (wq.ownsRow w.heap.size 27 1 (.slice A (limbs (numB (l.take j))).length c) (limbs (numB (l.take j))).length ((limbs (numB (l.take j))).map wv)) ∧ Hid (WantAt wq w.heap.size (.int .i64 0) (.slice none 0 0) (.slice none 0 0)) ∧ Below w.heap.size w wq) (fun _ i _ => k - (intOf i).toNat)
          case atStart => exact ⟨0, 0, none, Nat.zero_le _, rfl, rfl, Lib.hid ⟨rfl, .inl ⟨rfl, rfl⟩⟩, Lib.hid hw0, hb0⟩
          case round =>
            clear hw0 hb0
            obtain ⟨j, c, A, hj, rfl, rfl, hown, hww, hb⟩ := hrel
            by_cases hlt : j < k
            · have hkS : j < S.size := by omega
              have hlk := HAT.out j hkS
              obtain ⟨b, hbb⟩ : ∃ b, S[j]'hkS = b := ⟨_, rfl⟩
              rw [hbb] at hlk
              have hbd := HALL.out b (List.mem_of_getElem? hlk)
              simp only [digitB, decide_eq_true_eq] at hbd
              have hnum := numB_take hlk
              have hlim : (limbs (numB (l.take j))).length ≤ 1200 := by
                have h1 := numB_lt (l := l.take j) (fun b hb => HALL.out b (List.mem_of_mem_take hb))
                have h2 := limbs_len_dec h1
                have h3 : (l.take j).length ≤ 1200 := by have := HN.out; simp; omega
                omega
              have HNUM := Lib.hid hnum
              obtain ⟨V, hV⟩ : ∃ V, numB (l.take j) = V := ⟨_, rfl⟩
              rw [hV] at hown hlim HNUM ⊢
              have q1 : IntKind.u8.wrap ((b.toNat : Int) - 48) = ((b.toNat - 48 : Nat) : Int) := by rw [IntWalk.u8_in _ (by omega)]; omega
              have q2 : IntKind.u32.wrap ((b.toNat - 48 : Nat) : Int) = ((b.toNat - 48 : Nat) : Int) := IntWalk.u32_in _ (by omega)
              clear hlk hnum hV
              obtain ⟨wo, rfl⟩ : ∃ wo : World, wo = wr := ⟨_, rfl⟩
              have HNM := Lib.hid (num_own hown.out)
              go_wp2_with fail
              obtain ⟨D, hDD⟩ : ∃ D, b.toNat - 48 = D := ⟨_, rfl⟩
              have hDl : D < W32 := by unfold W32; omega
              rw [hDD] at q1 q2 HNUM
              have l1 : Num (wo.alloc (.cells #[.int .u32 10] 27)) (some ⟨wo.heap.size, 0, none⟩) 1 1 10 := num_lit wo (by decide) 27
              have l2 : Num ((wo.alloc (.cells #[.int .u32 (D : Int)] 27)).alloc (.cells #[.int .u32 10] 27)).drew (some ⟨wo.heap.size + 1, 0, none⟩) 1 1 10 := by
                have := num_lit (wo.alloc (.cells #[.int .u32 (D : Int)] 27)) (x := 10) (by decide) 27
                rw [World.size_alloc] at this
                exact this
              have l4 : Num ((wo.alloc (.cells #[.int .u32 10] 27)).alloc (.cells #[.int .u32 (D : Int)] 27)).drew (some ⟨wo.heap.size + 1, 0, none⟩) 1 1 D := by
                have := num_lit (wo.alloc (.cells #[.int .u32 10] 27)) hDl 27
                rw [World.size_alloc] at this
                exact this
              have l5 : Num ((wo.alloc (.cells #[.int .u32 (D : Int)] 27)).alloc (.cells #[.int .u32 10] 27)).drew (some ⟨wo.heap.size, 0, none⟩) 1 1 D := (num_lit wo hDl 27).alloc _
              have L5 := Lib.hid l5
              have L1 := Lib.hid l1
              have L2 := Lib.hid l2
              have L4 := Lib.hid l4
              clear l1 l2 l4 l5 hDD
              go_region_with (first
                | (go_at_call 36; refine (refMul_n (by first | exact HNM.out.alloc _ | exact (HNM.out.alloc _).alloc _) (by first | exact L1.out | exact L1.out.alloc _ | exact L2.out) (by omega) (by decide) (r := V * 10) rfl).mono ?_; rintro e w2 ⟨A2, c2, rfl, hn2, ho2, hb2⟩)
                | (go_at_call 33; refine (refAdd_n (by first | exact num_own ho2 | exact (num_own ho2).alloc _) (by first | exact num_lit w2 hDl _ | exact Num.below L4.out hb2 | exact Num.below L5.out hb2) (by have := limbs_mul10 V; omega) (by decide) (r := V * 10 + D) rfl).mono ?_; rintro e w3 ⟨A3, c3, rfl, hn3, ho3, hb3⟩))
              all_goals
                have s2 := hb2.size
                have s3 := hb3.size
                simp only [World.size_alloc, World.size_drew] at s2 s3 ho2 ho3 hb2 hb3
                have hb0 := hb.size
                have hbo2 : Below wo.heap.size wo w2 := by
                  refine Below.trans ?_ (hb2.mono (by omega))
                  first
                  | exact ((Below.refl _ _).alloc (Nat.le_refl _) _).drew
                  | exact (((Below.refl _ _).alloc (Nat.le_refl _) _).alloc (by simp) _).drew
                have hb23 : Below wo.heap.size w2 w3 := by
                  first
                  | exact hb3.mono (by omega)
                  | exact ((Below.refl _ _).alloc (by omega) _).trans (hb3.mono (by omega))
                  | exact (((Below.refl _ _).alloc (by omega) _).drew).trans (hb3.mono (by omega))
                have hbo := hbo2.trans hb23
                have hwz := Lib.hid (hww.out.below hbo hww.out.lt)
                have hbz := hb.trans (hbo.mono hb.size)
                have hoz := own_base ho3 (base' := w.heap.size) (by omega)
                rw [← HNUM.out] at hoz
                have HOZ := Lib.hid hoz
                clear s2 s3 ho2 ho3 hb2 hb3 hbo2 hb23 hoz hbo hn2 hn3
                go_wp2_with fail
                exact ⟨⟨j + 1, c3, A3, by omega, by go_num, by rw [HNUM.out], HOZ, hwz, hbz⟩, by simp [intOf]; omega⟩
            · obtain rfl : j = k := by omega
              have htk : l.take j = l := List.take_of_length_le (by rw [HN.out]; exact Nat.le_refl _)
              rw [htk] at hown ⊢
              obtain ⟨d0, d1, d2, f0, f1, f2⟩ := hww.out.facts
              have ho := Lib.hid (own_setW hown.out hww.out (by decide) (.int .i64 0) (.slice none 0 0) (.slice none 0 0))
              have HB := Lib.hid (below_set3 hb (Nat.le_refl _) (.int .i64 0) (.slice none 0 0) (.slice none 0 0))
              clear hown hww hb hlt htk
              go_wp2_with fail
              exact bodyPost_ret (v := .tuple #[.slice A (limbs (numB l)).length c, .agg #[.int .i64 0, .slice none 0 0, .slice none 0 0]]) (by simp [results, Tryd.results42, go_sem, d0, d1, d2]) rfl (ParseRef.ok hp2.out ho.out HB.out)
theorem refParse_c (w : World) (l : List UInt8) : Calls Tryd.prog 42 #[.string ⟨l.toArray⟩] w fun e w' => ParseRef w l e w' := by
  by_cases h1 : 1200 < l.length
  · exact refParse_big w l h1
  · by_cases h2 : l = []
    · subst h2; exact refParse_none w
    · exact refParse_mid w l h1 h2
theorem pTale_ok (l : List UInt8) : TaleOk (pTale l) := by
  intro x hx
  unfold pTale at hx
  cases hp : parseN l with
  | ok v => rw [hp] at hx; cases hx
  | error p =>
    rw [hp] at hx
    cases hx
    unfold parseN at hp
    split at hp
    · cases hp; exact ⟨by simp, by simp⟩
    split at hp
    · cases hp; exact ⟨by simp, by simp⟩
    split at hp
    · cases hp; exact ⟨by simp, by simp⟩
    · split at hp
      · cases hp; exact ⟨by simp, by simp⟩
      · cases hp


end Go.Proofs.YtkghilmdoabodaaDoor
