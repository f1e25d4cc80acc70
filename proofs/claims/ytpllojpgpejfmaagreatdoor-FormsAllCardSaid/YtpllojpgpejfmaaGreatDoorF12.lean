/- The document's rules out of rules: edenref05.fault, words, wide, behind. Condition: the tables read from memory. The document's widened rule: edenref05.wide. Condition: the table reads from memory. The document's rule behind a rule: edenref05.behind. Condition: the tables read from memory. Digits to the base 65536 and limbs to the base 2^32: plain lists, no program. No condition. Schoolbook rules on digits to any base: plain lists, no program. No condition. -/
import Derived.StillTailTactics
import Derived.Test.YtpllojpgpejfmaaGreatDoorF1
import Derived.Test.YtpllojpgpejfmaaGreatDoorF9
import Derived.Test.YtpllojpgpejfmaaGreatDoorF10
import Derived.Test.YtpllojpgpejfmaaGreatDoorF11
namespace Go.Proofs.YtpllojpgpejfmaaGreatDoor
open Go.RowKit RuleP

set_option maxRecDepth 100000 in
set_option maxHeartbeats 2000000 in
theorem fault5_c (w : World) (at' : Int) (K R : Int) (A : Option Addr) (n c : Nat) (T : List Int) (hT : Sl w A n (T.map (Value.int .i64))) (hm : n ≤ 9223372036854775807) :
    Calls Tryz.prog 50 #[.int .i64 at', ruleV K R A n c] w fun e w' => ∃ (N : Nat) (A1 : Option Addr) (n1 c1 : Nat) (A2 : Option Addr) (n2 c2 : Nat), e = .returned (.agg #[.int .i64 (N : Int), .slice A1 n1 c1, .slice A2 n2 c2]) ∧
      WantB w' w.heap.size (checkF at' K R T) (.agg #[.int .i64 (N : Int), .slice A1 n1 c1, .slice A2 n2 c2]) ∧ Below w.heap.size w w' := by
  have hr0 := (RuleAt.new w (.int .i64 K) (.int .i64 R) (.slice A n c)).alloc (.cells #[.int .i64 0, .slice none 0 0, .slice none 0 0] 45)
  have hw0 := WantAt.new (w.alloc (.cells #[.int .i64 K, .int .i64 R, .slice A n c] 26)) (.int .i64 0) (.slice none 0 0) (.slice none 0 0)
  rw [World.size_alloc] at hw0
  have hb0 := ((Below.refl w.heap.size w).alloc (Nat.le_refl _) (.cells #[.int .i64 K, .int .i64 R, .slice A n c] 26)).alloc (by simp) (.cells #[.int .i64 0, .slice none 0 0, .slice none 0 0] 45)
  have hT0 := (hT.alloc (.cells #[.int .i64 K, .int .i64 R, .slice A n c] 26)).alloc (.cells #[.int .i64 0, .slice none 0 0, .slice none 0 0] 45)
  obtain ⟨wx, hwx⟩ : ∃ wx, (w.alloc (.cells #[.int .i64 K, .int .i64 R, .slice A n c] 26)).alloc (.cells #[.int .i64 0, .slice none 0 0, .slice none 0 0] 45) = wx := ⟨_, rfl⟩
  have hsx : wx.heap.size = w.heap.size + 2 := by rw [← hwx]; simp
  have HWX := Lib.hid hwx
  rw [hwx] at hr0 hw0 hb0 hT0
  have HC := Lib.hid (refCheck_c wx K R A n c T hT0 hm)
  have HW0 := Lib.hid hw0
  have HB0 := Lib.hid hb0
  obtain ⟨r0, r1, r2, _⟩ := hr0.facts
  clear hw0 hb0 hT hT0 hr0 hwx
  unfold ruleV at *
  go_enter Tryz.func50, Tryz.ntmps50
  go_wp2_with fail
  rw [HWX.out]
  refine (HC.out).mono ?_
  rintro e w1 ⟨N, A1, n1, c1, A2, n2, c2, rfl, hu, hb1⟩
  have hs1 := hb1.size
  have HU := Lib.hid (rawUnder_c w1 sForms at' wx.heap.size _ N A1 n1 c1 A2 n2 c2 hu (check_ok K R T) (fun x hx => by rw [check_len hx]; decide))
  have HW1 := Lib.hid (HW0.out.below hb1 (by omega))
  have HB1 := Lib.hid (HB0.out.trans (hb1.mono HB0.out.size))
  clear hu hb1 r0 r1 r2
  go_wp2_with fail
  refine (HU.out).mono ?_
  rintro e w2 ⟨N2, A3, n3, c3, A4, n4, c4, rfl, hu, hb2⟩
  obtain ⟨d0, d1, d2, f0, f1, f2⟩ := (HW1.out.below hb2 (by omega)).facts
  obtain ⟨hwb, hbb⟩ := want_boxed (g := w.heap.size + 1) (base := w.heap.size) hu (by omega) (Nat.le_succ _) (HB1.out.trans (hb2.mono HB1.out.size))
  have HWB := Lib.hid hwb
  have HBB := Lib.hid hbb
  clear hu hb2 hwb hbb
  go_wp2_with fail
  exact bodyPost_ret (v := .agg #[.int .i64 (N2 : Int), .slice A3 n3 c3, .slice A4 n4 c4]) (by simp [results, Tryz.results50, go_sem, d0, d1, d2]) rfl ⟨N2, A3, n3, c3, A4, n4, c4, rfl, HWB.out, HBB.out⟩

set_option maxRecDepth 100000 in
theorem words5_c (w : World) (k n : Nat) (h1 : 1 ≤ k) (h2 : k ≤ 4) (h3 : n ≤ 7) :
    Calls Tryz.prog 48 #[.int .i64 (k : Int), .int .i64 (n : Int)] w fun e w' => e = .returned (.int .i64 ((k ^ n : Nat) : Int)) ∧ w = w' := by
  have HP := Lib.hid (power_c w k n h1 h2 (by omega))
  go_enter Tryz.func48, Tryz.ntmps48
  go_wp2_with fail
  refine (HP.out).mono ?_
  rintro e w1 ⟨rfl, rfl⟩
  go_wp2_with fail
  go_ret
  exact ⟨rfl, rfl⟩

theorem RuleAt.putT {w : World} {g : Nat} {x0 x1 x2 : Value} (h : RuleAt w g x0 x1 x2) (u : Value) : RuleAt (w.setCell ⟨g, 2, none⟩ u) g x0 x1 u := by
  unfold RuleAt at *
  have h0 := (Array.getElem?_eq_some_iff.1 h).1
  simp only [World.setCell]
  simp [Array.getElem?_modify, h]
/-- What an append behind pure steps has written. -/
theorem pushT {w v0 w' : World} {v : Value} {g n cap : Nat} (h0 : Below w.heap.size w v0) (hor : (v = .slice (some ⟨g, 0, none⟩) n cap ∧ v0.grownBy w' (some g)) ∨ (v0.heap.size ≤ g ∧ v0.grownBy w' none)) :
    Keeps (fun b => v.ownBlock = some b) w w' ∧ (v.ownBlock = some g ∨ w.heap.size ≤ g) := by
  have h0' : Keeps (fun b => v.ownBlock = some b) w v0 := Keeps.of_pure h0 _
  rcases hor with ⟨rfl, h⟩ | ⟨h1, h⟩
  · exact ⟨h0'.trans ((Keeps.of_grown h).mono (fun b _ e => e)) (fun _ _ h => h), .inl rfl⟩
  · exact ⟨h0'.trans (Keeps.of_grown h) (fun b _ e => by cases e), .inr (Nat.le_trans h0.size h1)⟩
/-- A rule under way in memory: its struct, and its table as far as it is told, in memory of its own. -/
structure OutAt (w : World) (g B : Nat) (x0 x1 : Value) (A : Option Addr) (i c : Nat) (xs : List Nat) : Prop where
  at_ : RuleAt w g x0 x1 (.slice A i c)
  own : w.ownsRow B 3 1 (.slice A i c) i ((ints xs).map (Value.int .i64))
  lt : g < B
  size : B ≤ w.heap.size
theorem OutAt.ne {w : World} {g B : Nat} {x0 x1 : Value} {A : Option Addr} {i c : Nat} {xs : List Nat} (h : OutAt w g B x0 x1 A i c xs) {b : Nat} (hb : b < B) : ¬ (Value.slice A i c).ownBlock = some b := fun e => by
  have := (h.own.lt b e).1
  omega
theorem OutAt.start {w : World} {g B : Nat} {x0 x1 : Value} (h : RuleAt w g x0 x1 (.slice none 0 0)) (hg : g < B) (hB : B ≤ w.heap.size) : OutAt w g B x0 x1 none 0 0 [] := ⟨h, World.ownsRow_nil _ _ _ _, hg, hB⟩
theorem OutAt.pure {w w' : World} {g B : Nat} {x0 x1 : Value} {A : Option Addr} {i c : Nat} {xs : List Nat} (h : OutAt w g B x0 x1 A i c xs) (hb : Below w.heap.size w w') : OutAt w' g B x0 x1 A i c xs :=
  ⟨h.at_.below hb h.at_.lt, own_below h.own hb, h.lt, Nat.le_trans h.size hb.size⟩
/-- One more symbol is appended and stored. -/
theorem OutAt.push {w w3 : World} {g B g3 cap : Nat} {x0 x1 : Value} {A : Option Addr} {i c y : Nat} {xs : List Nat} (h : OutAt w g B x0 x1 A i c xs) (hk : Keeps (fun b => (Value.slice A i c).ownBlock = some b) w w3)
    (hown : w3.ownsRow B 3 1 (.slice (some ⟨g3, 0, none⟩) (i + 1) cap) (i + 1) ((ints xs).map (Value.int .i64) ++ [.int .i64 (y : Int)])) :
    OutAt (w3.setCell ⟨g, 2, none⟩ (.slice (some ⟨g3, 0, none⟩) (i + 1) cap)) g B x0 x1 (some ⟨g3, 0, none⟩) (i + 1) cap (xs ++ [y]) ∧ Keeps (fun b => b = g ∨ B ≤ b) w (w3.setCell ⟨g, 2, none⟩ (.slice (some ⟨g3, 0, none⟩) (i + 1) cap)) := by
  have hR3 := RuleAt.keeps h.at_ hk (h.ne h.lt)
  have e : (ints (xs ++ [y])).map (Value.int .i64) = (ints xs).map (Value.int .i64) ++ [.int .i64 (y : Int)] := by simp [ints]
  refine ⟨⟨hR3.putT _, ?_, h.lt, by rw [World.size_setCell]; exact Nat.le_trans h.size hk.size⟩, ?_⟩
  · rw [e]
    exact own_keeps hown (Keeps.of_setCell _ _ _) (fun b hb e' => by
      have h1 := (hown.lt b hb).1
      have h2 := h.lt
      have h3 : b = g := e'
      omega)
  · exact (hk.mono (fun b _ hb => .inr (h.own.lt b hb).1)).trans (Keeps.of_setCell _ _ _) (fun b _ hb => .inl hb)
end Go.Proofs.YtpllojpgpejfmaaGreatDoor

namespace Go.Proofs.YtpllojpgpejfmaaGreatDoor
open Go.RowKit RuleP

theorem wordM5 {w : World} {A : Option Addr} {n : Nat} {l : List Nat} (h : Sl w A n ((ints l).map (Value.int .i64))) {i : Nat} (hi : i < n) : ∃ ad v, A = some ad ∧ l[i]? = some v ∧ w.cell? (ad.add i) = some (.int .i64 ((v : Nat) : Int)) := by
  rw [ints_map] at h
  exact h.word_ hi
/-- A rule whose table is new memory. -/
def Rule5 (w : World) (K R : Int) (xs : List Nat) (e : Ending) (w' : World) : Prop :=
  ∃ (C : Option Addr) (N cc : Nat), e = .returned (.agg #[.int .i64 K, .int .i64 R, .slice C N cc]) ∧ w'.ownsRow w.heap.size 3 1 (.slice C N cc) N ((ints xs).map (Value.int .i64)) ∧ Below w.heap.size w w'

set_option maxRecDepth 100000 in
set_option maxHeartbeats 4000000 in
theorem wide5_c (w : World) (k r d q : Nat) (hq : r + d = q) (A : Option Addr) (n c : Nat) (t : List Nat) (hr : IsRule k r t) (h3 : q ≤ 3) (hT : Sl w A n ((ints t).map (Value.int .i64))) :
    Calls Tryz.prog 58 #[ruleV (k : Int) (r : Int) A n c, .int .i64 (q : Int)] w (Rule5 w (k : Int) (q : Int) (wide k r d t)) := by
  have hn : t.length = n := by simpa [ints] using hT.1
  have hn16 := hr.le
  rw [hn] at hn16
  have hk1 := hr.k1
  have hk4 := hr.k4
  -- the blocks: the rule, the result, the rule under way
  have hb1 := (Below.refl w.heap.size w).alloc (Nat.le_refl _) (.cells #[.int .i64 (k : Int), .int .i64 (r : Int), .slice A n c] 26)
  have hR1 := RuleAt.new w (.int .i64 (k : Int)) (.int .i64 (r : Int)) (.slice A n c)
  have hb2 := hb1.alloc (by simp) (.cells #[.int .i64 0, .int .i64 0, .slice none 0 0] 26)
  have hR2 := hR1.alloc (.cells #[.int .i64 0, .int .i64 0, .slice none 0 0] 26)
  have hZ2 := RuleAt.new (w.alloc (.cells #[.int .i64 (k : Int), .int .i64 (r : Int), .slice A n c] 26)) (.int .i64 0) (.int .i64 0) (.slice none 0 0)
  rw [World.size_alloc] at hZ2
  obtain ⟨w2, hw2⟩ : ∃ w2, (w.alloc (.cells #[.int .i64 (k : Int), .int .i64 (r : Int), .slice A n c] 26)).alloc (.cells #[.int .i64 0, .int .i64 0, .slice none 0 0] 26) = w2 := ⟨_, rfl⟩
  have hs2 : w2.heap.size = w.heap.size + 2 := by rw [← hw2]; simp
  rw [hw2] at hb2 hR2 hZ2
  obtain ⟨r0, r1, r2, _⟩ := hR2.facts
  have hb3 := hb2.alloc (by omega) (.cells #[.int .i64 (k : Int), .int .i64 (q : Int), .slice none 0 0] 26)
  have hR3 := hR2.alloc (.cells #[.int .i64 (k : Int), .int .i64 (q : Int), .slice none 0 0] 26)
  have hZ3 := hZ2.alloc (.cells #[.int .i64 (k : Int), .int .i64 (q : Int), .slice none 0 0] 26)
  have hO3 := RuleAt.new w2 (.int .i64 (k : Int)) (.int .i64 (q : Int)) (.slice none 0 0)
  obtain ⟨w3, hw3⟩ : ∃ w3, w2.alloc (.cells #[.int .i64 (k : Int), .int .i64 (q : Int), .slice none 0 0] 26) = w3 := ⟨_, rfl⟩
  have hs3 : w3.heap.size = w.heap.size + 3 := by rw [← hw3]; simp [hs2]
  rw [hw3] at hb3 hR3 hZ3 hO3
  rw [hs2] at hO3
  have HOUT := Lib.hid (OutAt.start (B := w.heap.size + 3) hO3 (by omega) (by omega))
  have HR3 := Lib.hid hR3
  have HZ3 := Lib.hid hZ3
  have HB3 := Lib.hid hb3
  have HW2 := Lib.hid hw2
  have HW3 := Lib.hid hw3
  have HRU := Lib.hid hr
  have HT := Lib.hid (fun (wz : World) (hz : Below w.heap.size w wz) => hT.below hz)
  obtain ⟨L, hL⟩ : ∃ L, 2 * q + 1 = L := ⟨_, rfl⟩
  obtain ⟨M, hM⟩ : ∃ M, k ^ L = M := ⟨_, rfl⟩
  obtain ⟨H, hH⟩ : ∃ H, L - d = H := ⟨_, rfl⟩
  have hM16 : M ≤ 16384 := by
    rw [← hM]
    exact Nat.le_trans (Nat.pow_le_pow_left hk4 _) (Nat.le_trans (Nat.pow_le_pow_right (by decide) (show L ≤ 7 by omega)) (by decide))
  have HWO := Lib.hid (fun (wz : World) => words5_c wz k L hk1 hk4 (by omega))
  rw [hM] at HWO
  have HDG := Lib.hid (fun (wz : World) (i : Nat) (hi : i ≤ 16384) => digits_c wz k L i hk1 (by omega) (by omega) (by omega))
  have HL := Lib.hid (And.intro hL (And.intro hM (And.intro hH hq)))
  have e1 : IntKind.i64.wrap (2 * (q : Int)) = 2 * (q : Int) := IntWalk.i64_in _ (by omega)
  have e2 : IntKind.i64.wrap (2 * (q : Int) + 1) = (L : Int) := by rw [show 2 * (q : Int) + 1 = (L : Int) from by omega]; exact IntWalk.i64_in _ (by omega)
  have e3 : IntKind.i64.wrap ((q : Int) - (r : Int)) = (d : Int) := by rw [show (q : Int) - (r : Int) = (d : Int) from by omega]; exact IntWalk.i64_in _ (by omega)
  have s1 : IntKind.i64.wrap ((L : Int) - (d : Int)) = (H : Int) := by rw [show (L : Int) - (d : Int) = (H : Int) from by omega]; exact IntWalk.i64_in _ (by omega)
  have s0 : (0 : Int) ≤ (d : Int) := by omega
  have s2 : (d : Int) ≤ (H : Int) := by omega
  have s3 : (H : Int) ≤ (L : Int) := by omega
  have s4 : ¬ L = d := by omega
  have hd3 : d ≤ 3 := by omega
  have hLb : L ≤ 7 := by omega
  clear hw2 hw3 hR1 hR2 hR3 hZ2 hZ3 hO3 hb1 hb2 hb3 hr hT hn hL hM hH hq hs2 hs3
  unfold ruleV
  go_enter Tryz.func58, Tryz.ntmps58
  go_wp2_with fail
  rw [HW2.out]
  go_wp2_with fail
  rw [HW3.out]
  clear r0 r1 r2
  go_loopw [7] (fun iv wl => ∃ (i cc : Nat) (C : Option Addr), iv = .int .i64 (i : Int) ∧ i ≤ M ∧ Hid (OutAt wl (w.heap.size + 2) (w.heap.size + 3) (.int .i64 (k : Int)) (.int .i64 (q : Int)) C i cc (tabI k L (fun v => sy k t (win v d (2 * r + 1))) i)) ∧
    Hid (RuleAt wl w.heap.size (.int .i64 (k : Int)) (.int .i64 (r : Int)) (.slice A n c)) ∧ Hid (RuleAt wl (w.heap.size + 1) (.int .i64 0) (.int .i64 0) (.slice none 0 0)) ∧ Hid (Below w.heap.size w wl)) (fun iv _ => M - (intOf iv).toNat)
  case atStart => exact ⟨0, 0, none, rfl, Nat.zero_le _, HOUT, HR3, HZ3, HB3⟩
  case round =>
    clear HOUT HR3 HZ3 HB3
    obtain ⟨i, cc, C, rfl, hi, HO, HR, HZ, HB⟩ := hrel
    obtain ⟨v0, rfl⟩ : ∃ v0, v0 = wr := ⟨_, rfl⟩
    obtain ⟨r0, r1, r2, _⟩ := HR.out.facts
    have HWv := Lib.hid (HWO.out v0)
    by_cases hiM : i < M
    · have hiM' : (i : Int) < (M : Int) := by omega
      have HDv := Lib.hid (HDG.out v0 i (by omega))
      go_wp2_with fail
      refine (HWv.out).mono ?_
      rintro e v1 ⟨rfl, rfl⟩
      go_wp2_with fail
      refine (HDv.out).mono ?_
      rintro e v5 ⟨rfl, hown, hb⟩
      obtain ⟨g, hg⟩ : ∃ g, v0.heap.size = g := ⟨_, rfl⟩
      rw [hg] at hown ⊢
      have hb5 := HB.out.trans (hb.mono HB.out.size)
      have hO5 := HO.out.pure hb
      have hR5 := HR.out.below hb HR.out.lt
      have hZ5 := HZ.out.below hb HZ.out.lt
      obtain ⟨Z, hZe⟩ : ∃ Z, 2 * r + 1 = Z := ⟨_, rfl⟩
      have hZH : H - d = Z := by have h1 := HL.out.1; have h2 := HL.out.2.2.1; have h3 := HL.out.2.2.2; omega
      have hLH : L - d = H := HL.out.2.2.1
      have hdZ : d + Z ≤ L := by have h1 := HL.out.1; have h3 := HL.out.2.2.2; omega
      have hsym := win_sym (digB_sym (show 0 < k by omega) L i) d Z
      have hwl : (win (digB k L i) d Z).length = Z := win_len (by rw [digB_len]; omega)
      have hsl := sl_win (Sl.of_own hown) (i := d) (m := Z) hdZ
      have hVAL := fun (wz : World) (hz : Below v5.heap.size v5 wz) => value_c wz k (some ⟨g, d, none⟩) Z H (win (digB k L i) d Z) hk1 hk4 hsym (hsl.below hz) (by omega)
      have hvn := wval_lt hsym
      rw [hwl, ← hZe, ← HRU.out.len] at hvn
      have htl : t.length = n := by have := (HT.out v5 hb5).1; simpa [ints] using this
      rw [htl, hZe] at hvn
      obtain ⟨ad, y, rfl, hy, hcy⟩ := wordM5 (HT.out v5 hb5) hvn
      have hsy : sy k t (win (digB k L i) d (2 * r + 1)) = y := by
        unfold sy
        rw [hZe, List.getD_eq_getElem?_getD, hy]
        rfl
      obtain ⟨V, hV⟩ : ∃ V, wval k (win (digB k L i) d Z) = V := ⟨_, rfl⟩
      rw [hV] at hvn hcy
      simp only [hV] at hVAL
      have hvn' : (V : Int) < (n : Int) := by omega
      have hv0 : (0 : Int) ≤ (V : Int) := by omega
      obtain ⟨r0', r1', r2', _⟩ := hR5.facts
      obtain ⟨p0, p1, p2, p3, p4, p5⟩ := hO5.at_.facts
      obtain ⟨_, _, y2, _⟩ := (hO5.at_.alloc (.cells #[.int .i64 (y : Int)] 3)).facts
      have y2' : ((v5.alloc (.cells #[.int .i64 (y : Int)] 3)).drew).cell? ⟨w.heap.size + 2, 2, none⟩ = some (.slice C i cc) := y2
      have HVAL := Lib.hid hVAL
      have HSY := Lib.hid hsy
      have HO5 := Lib.hid hO5
      have HR5 := Lib.hid hR5
      have HZ5 := Lib.hid hZ5
      have HB5 := Lib.hid hb5
      have hi16 : i + 1 ≤ maxLen := by simp only [maxLen]; omega
      clear r0 r1 r2 hown hb hb5 hO5 hR5 hZ5 hsym hwl hsl hVAL hy hsy hV htl hg hdZ hZe
      go_wp2_with fail
      go_region_law (first
        | (go_simp
           go_at_call 52
           first
             | with_reducible refine (HVAL.out v5 (Below.refl _ _)).mono ?_
             | with_reducible refine (HVAL.out v5.drew (Below.refl _ _).drew).mono ?_
           rintro e w1 ⟨rfl, rfl⟩
           dsimp only)
        | (refine step_push3 ?_ (.tmp 35) (.tmp 50) 24 rfl tInts (base := w.heap.size + 3) (v := .slice C i cc) (n := i) (xs := (ints (tabI k L (fun v => sy k t (win v d (2 * r + 1))) i)).map (Value.int .i64)) ?_ rfl ⟨v5.heap.size, 0, none⟩ 1 rfl (.int .i64 (y : Int)) ?_ rfl ?_ ?_ ?_ ?_
           · rfl
           · first
               | exact own_below HO5.out.own (((Below.refl _ _).alloc (Nat.le_refl _) _).drew)
               | exact own_below HO5.out.own (((Below.refl _ _).drew).alloc (Nat.le_refl _) _)
           · simp
           · exact hi16
           · omega
           · (have := HO5.out.size; simp; omega)
           intro g3 cap3 w3' hown3 hor3 hlt3
           first
             | have hkk := pushT (w := v5) (((Below.refl _ _).alloc (Nat.le_refl _) _).drew) hor3
             | have hkk := pushT (w := v5) (((Below.refl _ _).drew).alloc (Nat.le_refl _) _) hor3
           obtain ⟨hk3, hg3⟩ := hkk
           obtain ⟨z0, z1, z2, z3, z4, z5⟩ := (HO5.out.at_.keeps hk3 (HO5.out.ne HO5.out.lt)).facts
           clear hor3)
        | fail)
      all_goals
        obtain ⟨hOx, hKx⟩ := HO5.out.push hk3 hown3
        have hRx := HR5.out.keeps hKx (by intro h; omega)
        have hZx := HZ5.out.keeps hKx (by intro h; omega)
        have hBx := HB5.out.trans (hKx.below HB5.out.size (fun b hb => by omega))
        have htx : tabI k L (fun v => sy k t (win v d (2 * r + 1))) (i + 1) = tabI k L (fun v => sy k t (win v d (2 * r + 1))) i ++ [y] := by rw [tabI_succ, HSY.out]
        rw [← htx] at hOx
        have HX := Lib.hid (And.intro hOx (And.intro hRx (And.intro hZx hBx)))
        clear hOx hKx hRx hZx hBx htx hown3 hlt3 hk3 hg3 z0 z1 z2 z3 z4 z5 p0 p1 p2 p3 p4 p5 y2 y2' r0' r1' r2'
        go_wp2_with fail
        exact ⟨⟨i + 1, cap3, _, by go_num, by omega, Lib.hid HX.out.1, Lib.hid HX.out.2.1, Lib.hid HX.out.2.2.1, Lib.hid HX.out.2.2.2⟩, by simp [intOf]; omega⟩
    · obtain rfl : i = M := by omega
      have hiM' : ¬ (i : Int) < (i : Int) := by omega
      go_wp2_with fail
      refine (HWv.out).mono ?_
      rintro e v1 ⟨rfl, rfl⟩
      have hO := HO.out
      obtain ⟨p0, p1, p2, _⟩ := hO.at_.facts
      have hF := HZ.out.set3 (.int .i64 (k : Int)) (.int .i64 (q : Int)) (.slice C i cc)
      obtain ⟨f0, f1, f2, _⟩ := hF.facts
      obtain ⟨z0, z1, z2, z3, z4, z5⟩ := HZ.out.facts
      have hown5 := own_set3 hO.own HZ.out (by decide) (.int .i64 (k : Int)) (.int .i64 (q : Int)) (.slice C i cc)
      have htab : tabI k L (fun v => sy k t (win v d (2 * r + 1))) i = wide k r d t := by
        rw [← HL.out.2.1, tabI_all, ← HL.out.1, ← HL.out.2.2.2]
        rfl
      rw [htab] at hown5
      have HSL := Lib.hid (own_base hown5 (base' := w.heap.size) (by omega))
      have HB5 := Lib.hid (below_set3 HB.out (Nat.le_succ w.heap.size) (.int .i64 (k : Int)) (.int .i64 (q : Int)) (.slice C i cc))
      clear hF hown5 htab hO
      go_wp2_with fail
      exact bodyPost_ret (v := .agg #[.int .i64 (k : Int), .int .i64 (q : Int), .slice C i cc]) (by simp [results, Tryz.results58, go_sem, f0, f1, f2]) rfl ⟨C, i, cc, rfl, HSL.out, HB5.out⟩
end Go.Proofs.YtpllojpgpejfmaaGreatDoor

namespace Go.Proofs.YtpllojpgpejfmaaGreatDoor
open Go.RowKit RuleP

set_option maxRecDepth 100000 in
set_option maxHeartbeats 4000000 in
theorem behind5_c (w : World) (k ra rb q : Nat) (hq : ra + rb = q) (A Bb : Option Addr) (n c m d : Nat) (ta tb : List Nat) (ha : IsRule k ra ta) (hb : IsRule k rb tb) (h3 : q ≤ 3) (hTa : Sl w A n ((ints ta).map (Value.int .i64))) (hTb : Sl w Bb m ((ints tb).map (Value.int .i64))) :
    Calls Tryz.prog 62 #[ruleV (k : Int) (ra : Int) A n c, ruleV (k : Int) (rb : Int) Bb m d] w (Rule5 w (k : Int) (q : Int) (comp k ra ta rb tb)) := by
  have hn : ta.length = n := by simpa [ints] using hTa.1
  have hn16 := ha.le
  rw [hn] at hn16
  have hk1 := ha.k1
  have hk4 := ha.k4
  have hb1 := (Below.refl w.heap.size w).alloc (Nat.le_refl _) (.cells #[.int .i64 (k : Int), .int .i64 (ra : Int), .slice A n c] 26)
  have hA1 := RuleAt.new w (.int .i64 (k : Int)) (.int .i64 (ra : Int)) (.slice A n c)
  obtain ⟨w1, hw1⟩ : ∃ w1, w.alloc (.cells #[.int .i64 (k : Int), .int .i64 (ra : Int), .slice A n c] 26) = w1 := ⟨_, rfl⟩
  have hs1 : w1.heap.size = w.heap.size + 1 := by rw [← hw1]; simp
  rw [hw1] at hb1 hA1
  have hb2 := hb1.alloc (by omega) (.cells #[.int .i64 (k : Int), .int .i64 (rb : Int), .slice Bb m d] 26)
  have hA2 := hA1.alloc (.cells #[.int .i64 (k : Int), .int .i64 (rb : Int), .slice Bb m d] 26)
  have hB2 := RuleAt.new w1 (.int .i64 (k : Int)) (.int .i64 (rb : Int)) (.slice Bb m d)
  rw [hs1] at hB2
  obtain ⟨w2, hw2⟩ : ∃ w2, w1.alloc (.cells #[.int .i64 (k : Int), .int .i64 (rb : Int), .slice Bb m d] 26) = w2 := ⟨_, rfl⟩
  have hs2 : w2.heap.size = w.heap.size + 2 := by rw [← hw2]; simp [hs1]
  rw [hw2] at hb2 hA2 hB2
  have hb3 := hb2.alloc (by omega) (.cells #[.int .i64 0, .int .i64 0, .slice none 0 0] 26)
  have hA3 := hA2.alloc (.cells #[.int .i64 0, .int .i64 0, .slice none 0 0] 26)
  have hB3 := hB2.alloc (.cells #[.int .i64 0, .int .i64 0, .slice none 0 0] 26)
  have hZ3 := RuleAt.new w2 (.int .i64 0) (.int .i64 0) (.slice none 0 0)
  rw [hs2, show w.heap.size + 2 = w.heap.size + 1 + 1 from rfl] at hZ3
  obtain ⟨w3, hw3⟩ : ∃ w3, w2.alloc (.cells #[.int .i64 0, .int .i64 0, .slice none 0 0] 26) = w3 := ⟨_, rfl⟩
  have hs3 : w3.heap.size = w.heap.size + 3 := by rw [← hw3]; simp [hs2]
  rw [hw3] at hb3 hA3 hB3 hZ3
  obtain ⟨r0, r1, r2, _⟩ := hA3.facts
  obtain ⟨q0, q1, q2, _⟩ := hB3.facts
  have hb4 := hb3.alloc (by omega) (.cells #[.int .i64 (k : Int), .int .i64 (q : Int), .slice none 0 0] 26)
  have hA4 := hA3.alloc (.cells #[.int .i64 (k : Int), .int .i64 (q : Int), .slice none 0 0] 26)
  have hB4 := hB3.alloc (.cells #[.int .i64 (k : Int), .int .i64 (q : Int), .slice none 0 0] 26)
  have hZ4 := hZ3.alloc (.cells #[.int .i64 (k : Int), .int .i64 (q : Int), .slice none 0 0] 26)
  have hO4 := RuleAt.new w3 (.int .i64 (k : Int)) (.int .i64 (q : Int)) (.slice none 0 0)
  obtain ⟨w4, hw4⟩ : ∃ w4, w3.alloc (.cells #[.int .i64 (k : Int), .int .i64 (q : Int), .slice none 0 0] 26) = w4 := ⟨_, rfl⟩
  have hs4 : w4.heap.size = w.heap.size + 4 := by rw [← hw4]; simp [hs3]
  rw [hw4] at hb4 hA4 hB4 hZ4 hO4
  rw [hs3, show w.heap.size + 3 = w.heap.size + 1 + 1 + 1 from rfl] at hO4
  obtain ⟨o0, o1, o2, _⟩ := hO4.facts
  have HOUT := Lib.hid (OutAt.start (B := w.heap.size + 4) hO4 (by omega) (by omega))
  have HA4 := Lib.hid hA4
  have HB4 := Lib.hid hB4
  have HZ4 := Lib.hid hZ4
  have HBB4 := Lib.hid hb4
  have HW1 := Lib.hid hw1
  have HW2 := Lib.hid hw2
  have HW3 := Lib.hid hw3
  have HW4 := Lib.hid hw4
  have HRA := Lib.hid ha
  have HRB := Lib.hid hb
  have HTA := Lib.hid (fun (wz : World) (hz : Below w.heap.size w wz) => hTa.below hz)
  have HTB := Lib.hid (fun (wz : World) (hz : Below w.heap.size w wz) => hTb.below hz)
  obtain ⟨L, hL⟩ : ∃ L, 2 * q + 1 = L := ⟨_, rfl⟩
  obtain ⟨M, hM⟩ : ∃ M, k ^ L = M := ⟨_, rfl⟩
  obtain ⟨Z, hZe⟩ : ∃ Z, 2 * ra + 1 = Z := ⟨_, rfl⟩
  have hM16 : M ≤ 16384 := by
    rw [← hM]
    exact Nat.le_trans (Nat.pow_le_pow_left hk4 _) (Nat.le_trans (Nat.pow_le_pow_right (by decide) (show L ≤ 7 by omega)) (by decide))
  have HWO := Lib.hid (fun (wz : World) => words5_c wz k L hk1 hk4 (by omega))
  rw [hM] at HWO
  have HDG := Lib.hid (fun (wz : World) (i : Nat) (hi : i ≤ 16384) => digits_c wz k L i hk1 (by omega) (by omega) (by omega))
  have HL := Lib.hid (And.intro hL (And.intro hM (And.intro hZe hq)))
  have e0 : IntKind.i64.wrap ((ra : Int) + (rb : Int)) = (q : Int) := by rw [show (ra : Int) + (rb : Int) = (q : Int) from by omega]; exact IntWalk.i64_in _ (by omega)
  have e1 : IntKind.i64.wrap (2 * (q : Int)) = 2 * (q : Int) := IntWalk.i64_in _ (by omega)
  have e2 : IntKind.i64.wrap (2 * (q : Int) + 1) = (L : Int) := by rw [show 2 * (q : Int) + 1 = (L : Int) from by omega]; exact IntWalk.i64_in _ (by omega)
  have hLb : L ≤ 7 := by omega
  clear hw1 hw2 hw3 hw4 hA1 hA2 hA3 hA4 hB2 hB3 hB4 hZ3 hZ4 hO4 hb1 hb2 hb3 hb4 ha hb hTa hTb hn hL hM hZe hq hs1 hs2 hs3 hs4
  unfold ruleV
  go_enter Tryz.func62, Tryz.ntmps62
  go_wp2_with fail
  rw [HW1.out, HW2.out, HW3.out]
  go_wp2_with fail
  rw [HW4.out]
  clear r0 r1 r2 q0 q1 q2
  go_wp2_with fail
  clear o0 o1 o2
  go_loopw [7] (fun iv wl => ∃ (i cc : Nat) (C : Option Addr), iv = .int .i64 (i : Int) ∧ i ≤ M ∧ Hid (OutAt wl (w.heap.size + 1 + 1 + 1) (w.heap.size + 4) (.int .i64 (k : Int)) (.int .i64 (q : Int)) C i cc (tabI k L (fun v => sy k ta (image k rb tb v)) i)) ∧
    Hid (RuleAt wl w.heap.size (.int .i64 (k : Int)) (.int .i64 (ra : Int)) (.slice A n c)) ∧ Hid (RuleAt wl (w.heap.size + 1) (.int .i64 (k : Int)) (.int .i64 (rb : Int)) (.slice Bb m d)) ∧ Hid (RuleAt wl (w.heap.size + 1 + 1) (.int .i64 0) (.int .i64 0) (.slice none 0 0)) ∧ Hid (Below w.heap.size w wl)) (fun iv _ => M - (intOf iv).toNat)
  case atStart => exact ⟨0, 0, none, rfl, Nat.zero_le _, HOUT, HA4, HB4, HZ4, HBB4⟩
  case round =>
    clear HOUT HA4 HB4 HZ4 HBB4
    obtain ⟨i, cc, C, rfl, hi, HO, HA, HBr, HZ, HB⟩ := hrel
    obtain ⟨v0, rfl⟩ : ∃ v0, v0 = wr := ⟨_, rfl⟩
    obtain ⟨r0, r1, r2, _⟩ := HA.out.facts
    obtain ⟨q0, q1, q2, _⟩ := HBr.out.facts
    have HWv := Lib.hid (HWO.out v0)
    by_cases hiM : i < M
    · have hiM' : (i : Int) < (M : Int) := by omega
      have HDv := Lib.hid (HDG.out v0.drew i (by omega))
      have HIM := Lib.hid (fun (wz : World) (hz : Below v0.heap.size v0 wz) (g : Nat) (hw : Sl wz (some ⟨g, 0, none⟩) L ((ints (digB k L i)).map (Value.int .i64))) => image_c wz k rb Bb (some ⟨g, 0, none⟩) m d L L Z tb (digB k L i) HRB.out (digB_sym (show 0 < k by omega) L i) (HTB.out wz (HB.out.trans (hz.mono HB.out.size))) hw (by omega) (Nat.le_refl _) (by simp only [maxLen]; omega) (by have h1 := HL.out.1; have h2 := HL.out.2.2.1; have h3 := HL.out.2.2.2; omega))
      unfold ruleV at HIM
      go_wp2_with fail
      refine (HWv.out).mono ?_
      rintro e v1 ⟨rfl, rfl⟩
      go_wp2_with fail
      go_region_held3 (fun w' => w'.cell? ⟨w.heap.size, 0, none⟩ = some (.int .i64 (k : Int)) ∧ w'.cell? ⟨w.heap.size + 1, 0, none⟩ = some (.int .i64 (k : Int)) ∧ w'.cell? ⟨w.heap.size + 1, 1, none⟩ = some (.int .i64 (rb : Int)) ∧ w'.cell? ⟨w.heap.size + 1, 2, none⟩ = some (.slice Bb m d))
        (first | go_keep)
        (first
          | (go_at_call 90
             refine (HIM.out v4 hb4' _ hsl4).mono ?_
             rintro e v5 ⟨C8, c8, rfl, hown, hb5'⟩
             have y0 := cell_later hb5' x0
             have y1 := cell_later hb5' x1
             have y2 := cell_later hb5' x2
             have y3 := cell_later hb5' x3)
          | (go_at_call 49
             refine (HDv.out).mono ?_
             rintro e v4 ⟨rfl, hown4, hb4⟩
             have hsl4 := Sl.of_own hown4
             have hb4' : Below v0.heap.size v0 v4 := (Below.refl _ _).drew.trans hb4
             have x0 := cell_later hb4 r0
             have x1 := cell_later hb4 q0
             have x2 := cell_later hb4 q1
             have x3 := cell_later hb4 q2)
          | fail)
      have hb := hb4'.trans (hb5'.mono hb4'.size)
      have hb5 := HB.out.trans (hb.mono HB.out.size)
      have hO5 := HO.out.pure hb
      have hA5 := HA.out.below hb HA.out.lt
      have hBr5 := HBr.out.below hb HBr.out.lt
      have hZ5 := HZ.out.below hb HZ.out.lt
      have hsym := image_sym (w := digB k L i) HRB.out (digB_sym (show 0 < k by omega) L i)
      have hwl : (image k rb tb (digB k L i)).length = Z := by rw [image_len, digB_len]; have h1 := HL.out.1; have h2 := HL.out.2.2.1; have h3 := HL.out.2.2.2; omega
      have hsl := Sl.of_own hown
      have hVAL := fun (wz : World) (hz : Below v5.heap.size v5 wz) => value_c wz k C8 Z c8 (image k rb tb (digB k L i)) hk1 hk4 hsym (hsl.below hz) (by have h2 := HL.out.2.2.1; have h3 := HL.out.2.2.2; omega)
      have hvn := wval_lt hsym
      rw [hwl, ← HL.out.2.2.1, ← HRA.out.len] at hvn
      have htl : ta.length = n := by have := (HTA.out v5 hb5).1; simpa [ints] using this
      rw [htl] at hvn
      obtain ⟨ad, y, rfl, hy, hcy⟩ := wordM5 (HTA.out v5 hb5) hvn
      have hsy : sy k ta (image k rb tb (digB k L i)) = y := by
        unfold sy
        rw [List.getD_eq_getElem?_getD, hy]
        rfl
      obtain ⟨V, hV⟩ : ∃ V, wval k (image k rb tb (digB k L i)) = V := ⟨_, rfl⟩
      rw [hV] at hvn hcy
      simp only [hV] at hVAL
      have hvn' : (V : Int) < (n : Int) := by omega
      have hv0 : (0 : Int) ≤ (V : Int) := by omega
      obtain ⟨r0', r1', r2', _⟩ := hA5.facts
      obtain ⟨p0, p1, p2, p3, p4, p5⟩ := hO5.at_.facts
      obtain ⟨_, _, t2, _⟩ := (hO5.at_.alloc (.cells #[.int .i64 (y : Int)] 3)).facts
      have t2' : ((v5.alloc (.cells #[.int .i64 (y : Int)] 3)).drew).cell? ⟨w.heap.size + 1 + 1 + 1, 2, none⟩ = some (.slice C i cc) := t2
      have HVAL := Lib.hid hVAL
      have HSY := Lib.hid hsy
      have HO5 := Lib.hid hO5
      have HX5 := Lib.hid (And.intro hA5 (And.intro hBr5 hZ5))
      have HB5 := Lib.hid hb5
      have hi16 : i + 1 ≤ maxLen := by simp only [maxLen]; omega
      clear r0 r1 r2 q0 q1 q2 x0 x1 x2 x3 y0 y1 y2 y3 hown hb hb5 hO5 hA5 hBr5 hZ5 hsym hwl hsl hVAL hy hsy hV htl hown4 hsl4 hb4 hb4' hb5'
      go_wp2_with fail
      go_region_law (first
        | (go_simp
           go_at_call 52
           first
             | with_reducible refine (HVAL.out v5 (Below.refl _ _)).mono ?_
             | with_reducible refine (HVAL.out v5.drew (Below.refl _ _).drew).mono ?_
           rintro e w1' ⟨rfl, rfl⟩
           dsimp only)
        | (refine step_push3 ?_ (.tmp 37) (.tmp 46) 24 rfl tInts (base := w.heap.size + 4) (v := .slice C i cc) (n := i) (xs := (ints (tabI k L (fun v => sy k ta (image k rb tb v)) i)).map (Value.int .i64)) ?_ rfl ⟨v5.heap.size, 0, none⟩ 1 rfl (.int .i64 (y : Int)) ?_ rfl ?_ ?_ ?_ ?_
           · rfl
           · first
               | exact own_below HO5.out.own (((Below.refl _ _).alloc (Nat.le_refl _) _).drew)
               | exact own_below HO5.out.own (((Below.refl _ _).drew).alloc (Nat.le_refl _) _)
           · simp
           · exact hi16
           · omega
           · (have := HO5.out.size; simp; omega)
           intro g3 cap3 w3' hown3 hor3 hlt3
           first
             | have hkk := pushT (w := v5) (((Below.refl _ _).alloc (Nat.le_refl _) _).drew) hor3
             | have hkk := pushT (w := v5) (((Below.refl _ _).drew).alloc (Nat.le_refl _) _) hor3
           obtain ⟨hk3, hg3⟩ := hkk
           obtain ⟨z0, z1, z2, z3, z4, z5⟩ := (HO5.out.at_.keeps hk3 (HO5.out.ne HO5.out.lt)).facts
           clear hor3)
        | fail)
      all_goals
        obtain ⟨hOx, hKx⟩ := HO5.out.push hk3 hown3
        have hAx := HX5.out.1.keeps hKx (by intro h; omega)
        have hBx := HX5.out.2.1.keeps hKx (by intro h; omega)
        have hZx := HX5.out.2.2.keeps hKx (by intro h; omega)
        have hBBx := HB5.out.trans (hKx.below HB5.out.size (fun b hb => by omega))
        have htx : tabI k L (fun v => sy k ta (image k rb tb v)) (i + 1) = tabI k L (fun v => sy k ta (image k rb tb v)) i ++ [y] := by rw [tabI_succ, HSY.out]
        rw [← htx] at hOx
        have HX := Lib.hid (And.intro hOx (And.intro hAx (And.intro hBx (And.intro hZx hBBx))))
        clear hOx hKx hAx hBx hZx hBBx htx hown3 hlt3 hk3 hg3 z0 z1 z2 z3 z4 z5 p0 p1 p2 p3 p4 p5 t2 t2' r0' r1' r2'
        go_wp2_with fail
        exact ⟨⟨i + 1, cap3, _, by go_num, by omega, Lib.hid HX.out.1, Lib.hid HX.out.2.1, Lib.hid HX.out.2.2.1, Lib.hid HX.out.2.2.2.1, Lib.hid HX.out.2.2.2.2⟩, by simp [intOf]; omega⟩
    · obtain rfl : i = M := by omega
      have hiM' : ¬ (i : Int) < (i : Int) := by omega
      go_wp2_with fail
      refine (HWv.out).mono ?_
      rintro e v1 ⟨rfl, rfl⟩
      have hO := HO.out
      obtain ⟨p0, p1, p2, _⟩ := hO.at_.facts
      have hF := HZ.out.set3 (.int .i64 (k : Int)) (.int .i64 (q : Int)) (.slice C i cc)
      obtain ⟨f0, f1, f2, _⟩ := hF.facts
      obtain ⟨z0, z1, z2, z3, z4, z5⟩ := HZ.out.facts
      have hown5 := own_set3 hO.own HZ.out (by decide) (.int .i64 (k : Int)) (.int .i64 (q : Int)) (.slice C i cc)
      have htab : tabI k L (fun v => sy k ta (image k rb tb v)) i = comp k ra ta rb tb := by
        rw [← HL.out.2.1, tabI_all, ← HL.out.1, ← HL.out.2.2.2]
        rfl
      rw [htab] at hown5
      have HSL := Lib.hid (own_base hown5 (base' := w.heap.size) (by omega))
      have HB5 := Lib.hid (below_set3 HB.out (show w.heap.size ≤ w.heap.size + 1 + 1 by omega) (.int .i64 (k : Int)) (.int .i64 (q : Int)) (.slice C i cc))
      clear hF hown5 htab hO
      go_wp2_with fail
      exact bodyPost_ret (v := .agg #[.int .i64 (k : Int), .int .i64 (q : Int), .slice C i cc]) (by simp [results, Tryz.results62, go_sem, f0, f1, f2]) rfl ⟨C, i, cc, rfl, HSL.out, HB5.out⟩
end Go.Proofs.YtpllojpgpejfmaaGreatDoor

namespace Go.Proofs.YtpllojpgpejfmaaGreatDoor
namespace NatP

end NatP
end Go.Proofs.YtpllojpgpejfmaaGreatDoor

namespace Go.Proofs.YtpllojpgpejfmaaGreatDoor
namespace NatP

/-- A sum, digit by digit. -/
structure AddG (b : Nat) (X Y D : List Nat) (i cr v : Nat) : Prop where
  len : D.length = i
  ok : OkB b D
  cr1 : cr ≤ 1
  eq : valB b D + b ^ i * (cr + valB b (X.drop i) + valB b (Y.drop i)) = v
theorem drop_val {b : Nat} (l : List Nat) (i : Nat) : valB b (l.drop i) = l.getD i 0 + b * valB b (l.drop (i + 1)) := by
  rcases Nat.lt_or_ge i l.length with h | h
  · rw [List.drop_eq_getElem_cons h, List.getD_eq_getElem?_getD, List.getElem?_eq_getElem h]; rfl
  · rw [List.drop_of_length_le h, List.drop_of_length_le (by omega), List.getD_eq_getElem?_getD, List.getElem?_eq_none h]; rfl
theorem AddG.step {b : Nat} (hb : 2 ≤ b) {X Y D : List Nat} {i cr v : Nat} (h : AddG b X Y D i cr v) (hx : OkB b X) (hy : OkB b Y) :
    AddG b X Y (D ++ [(cr + X.getD i 0 + Y.getD i 0) % b]) (i + 1) ((cr + X.getD i 0 + Y.getD i 0) / b) v := by
  have h1 := ok_getD (by omega) hx i
  have h2 := ok_getD (by omega) hy i
  refine ⟨by simp [h.len], fun z hz => ?_, ?_, ?_⟩
  · rcases List.mem_append.1 hz with hz | hz
    · exact h.ok z hz
    · simp at hz; subst hz; exact Nat.mod_lt _ (by omega)
  · have : (cr + X.getD i 0 + Y.getD i 0) / b < 2 := Nat.div_lt_of_lt_mul (by have := h.cr1; omega)
    omega
  · have e := h.eq
    rw [drop_val X i, drop_val Y i] at e
    rw [val_snoc, h.len, Nat.pow_succ]
    have e5 := Nat.mod_add_div (cr + X.getD i 0 + Y.getD i 0) b
    generalize (cr + X.getD i 0 + Y.getD i 0) / b = q at *
    generalize (cr + X.getD i 0 + Y.getD i 0) % b = r at *
    generalize valB b (X.drop (i + 1)) = P at *
    generalize valB b (Y.drop (i + 1)) = Q at *
    have e6 : b ^ i * (r + b * q + b * P + b * Q) = b ^ i * (cr + (X.getD i 0 + b * P) + (Y.getD i 0 + b * Q)) := by rw [e5]; congr 1; omega
    rw [← e, ← e6]
    rw [Nat.mul_assoc]
    simp only [Nat.mul_add]
    omega
theorem AddG.done {b : Nat} {X Y D : List Nat} {i v : Nat} (h : AddG b X Y D i 0 v) (hx : X.length ≤ i) (hy : Y.length ≤ i) : valB b D = v := by
  have e := h.eq
  rw [List.drop_of_length_le hx, List.drop_of_length_le hy] at e
  simpa [valB] using e

/-- A product, digit by digit: behind i digits of the first factor. -/
structure MulG (b : Nat) (X Y out : List Nat) (i : Nat) : Prop where
  ok : OkB b out
  eq : valB b out = valB b (X.take i) * valB b Y
/-- And behind j digits of the second. -/
structure MulH (b : Nat) (X Y out : List Nat) (i x j cr : Nat) : Prop where
  ok : OkB b out
  cr1 : cr < b
  eq : valB b out + b ^ (i + j) * cr = valB b (X.take i) * valB b Y + b ^ i * (x * valB b (Y.take j))
/-- And where the rest is carried on to place k. -/
structure MulC (b : Nat) (X Y out : List Nat) (i k cr : Nat) : Prop where
  ok : OkB b out
  cr1 : cr < b
  eq : valB b out + b ^ k * cr = valB b (X.take (i + 1)) * valB b Y
theorem MulG.start {b : Nat} (hb : 2 ≤ b) {X Y out : List Nat} {i x : Nat} (h : MulG b X Y out i) : MulH b X Y out i x 0 0 :=
  ⟨h.ok, by omega, by rw [h.eq]; simp [valB]⟩
theorem mul_lt2 {b x y o c : Nat} (hx : x < b) (hy : y < b) (ho : o < b) (hc : c < b) : x * y + o + c < b * b := by
  have h1 : x * y ≤ (b - 1) * (b - 1) := Nat.mul_le_mul (by omega) (by omega)
  obtain ⟨a, rfl⟩ : ∃ a, b = a + 1 := ⟨b - 1, by omega⟩
  simp only [Nat.add_sub_cancel] at h1
  have : (a + 1) * (a + 1) = a * a + a + a + 1 := by rw [Nat.add_mul, Nat.mul_add]; omega
  omega
theorem MulH.step {b : Nat} (hb : 2 ≤ b) {X Y out : List Nat} {i x j cr y o : Nat} (h : MulH b X Y out i x j cr) (hx : x < b) (hy : OkB b Y) (hyj : Y[j]? = some y) (hoj : out[i + j]? = some o) :
    MulH b X Y (out.set (i + j) ((x * y + o + cr) % b)) i x (j + 1) ((x * y + o + cr) / b) := by
  have hyl : y < b := hy y (List.mem_of_getElem? hyj)
  have hol : o < b := h.ok o (List.mem_of_getElem? hoj)
  refine ⟨ok_set h.ok (Nat.mod_lt _ (by omega)), Nat.div_lt_of_lt_mul (mul_lt2 hx hyl hol h.cr1), ?_⟩
  have e1 := val_set (b := b) (v := (x * y + o + cr) % b) hoj
  have e3 := val_take_succ b Y j
  have e4 : Y.getD j 0 = y := by rw [List.getD_eq_getElem?_getD, hyj]; rfl
  have e5 := h.eq
  have e6 := Nat.mod_add_div (x * y + o + cr) b
  rw [e4] at e3
  rw [e3, Nat.mul_add x, Nat.mul_add (b ^ i), ← Nat.add_assoc i, ← Nat.add_assoc (valB b (List.take i X) * valB b Y), ← e5, Nat.pow_succ]
  generalize (x * y + o + cr) % b = r at *
  generalize (x * y + o + cr) / b = d at *
  have e7 : b ^ (i + j) * (r + b * d) = b ^ (i + j) * (x * y + o + cr) := by rw [e6]
  have e8 : b ^ i * (x * (b ^ j * y)) = b ^ (i + j) * (x * y) := by
    rw [Nat.pow_add, Nat.mul_assoc, Nat.mul_left_comm x]
  rw [e8]
  rw [Nat.mul_add, Nat.mul_add, Nat.mul_add, ← Nat.mul_assoc] at e7
  omega
theorem MulC.step {b : Nat} (hb : 2 ≤ b) {X Y out : List Nat} {i k cr o : Nat} (h : MulC b X Y out i k cr) (ho : out[k]? = some o) :
    MulC b X Y (out.set k ((o + cr) % b)) i (k + 1) ((o + cr) / b) := by
  have hol : o < b := h.ok o (List.mem_of_getElem? ho)
  have hcr := h.cr1
  refine ⟨ok_set h.ok (Nat.mod_lt _ (by omega)), ?_, ?_⟩
  · have : (o + cr) / b < 2 := Nat.div_lt_of_lt_mul (by omega)
    omega
  · have e1 := val_set (b := b) (v := (o + cr) % b) ho
    have e6 := Nat.mod_add_div (o + cr) b
    rw [← h.eq, Nat.pow_succ]
    generalize (o + cr) % b = r at *
    generalize (o + cr) / b = d at *
    have e7 : b ^ k * (r + b * d) = b ^ k * (o + cr) := by rw [e6]
    rw [Nat.mul_add, Nat.mul_add, ← Nat.mul_assoc] at e7
    omega
/-- The rest dies before the row's end. -/
theorem MulC.lt {b : Nat} (hb : 2 ≤ b) {X Y out : List Nat} {i k cr : Nat} (h : MulC b X Y out i k cr) (hx : OkB b X) (hy : OkB b Y) (hi : i < X.length) (hc : 0 < cr) : k < X.length + Y.length := by
  have h1 := val_lt hb (ok_take hx (i + 1))
  have h2 := val_lt hb hy
  rw [List.length_take, Nat.min_eq_left (by omega)] at h1
  have h3 : b ^ k ≤ valB b (X.take (i + 1)) * valB b Y := by
    rw [← h.eq]
    have : b ^ k * 1 ≤ b ^ k * cr := Nat.mul_le_mul_left _ hc
    omega
  have h4 : valB b (X.take (i + 1)) * valB b Y < b ^ (i + 1) * b ^ Y.length := by
    rcases Nat.eq_zero_or_pos (valB b Y) with h0 | h0
    · rw [h0, Nat.mul_zero]; exact Nat.mul_pos (Nat.pow_pos (by omega)) (Nat.pow_pos (by omega))
    · exact Nat.mul_lt_mul'' h1 h2
  rw [← Nat.pow_add] at h4
  have h5 : b ^ k < b ^ (i + 1 + Y.length) := Nat.lt_of_le_of_lt h3 h4
  have := (Nat.pow_lt_pow_iff_right (by omega : 1 < b)).1 h5
  omega
theorem MulC.done {b : Nat} {X Y out : List Nat} {i k : Nat} (h : MulC b X Y out i k 0) : MulG b X Y out (i + 1) := ⟨h.ok, by simpa using h.eq⟩

/-- A number's rest at one digit after the other, the highest first. -/
structure OverG (b : Nat) (X out : List Nat) (d m rest : Nat) : Prop where
  len : out.length = X.length
  ok : OkB b out
  rlt : rest < d
  zero : ∀ j x, j < m → out[j]? = some x → x = 0
  eq : valB b X = valB b out * d + b ^ m * rest + valB b (X.take m)
theorem OverG.start {b : Nat} (hb : 2 ≤ b) {X : List Nat} {d : Nat} (hd : 0 < d) : OverG b X (List.replicate X.length 0) d X.length 0 :=
  ⟨by simp, ok_zeros (by omega) _, hd, fun j x _ hx => List.eq_of_mem_replicate (List.mem_of_getElem? hx), by simp [val_zeros]⟩
theorem OverG.step {b : Nat} {X out : List Nat} {d k rest x : Nat} (h : OverG b X out d (k + 1) rest) (hx : X[k]? = some x) (hxl : x < b) :
    OverG b X (out.set k ((rest * b + x) / d)) d k ((rest * b + x) % d) := by
  have hk : k < out.length := by rw [h.len]; exact (List.getElem?_eq_some_iff.1 hx).1
  obtain ⟨z, hz⟩ : ∃ z, out[k]? = some z := ⟨_, List.getElem?_eq_getElem hk⟩
  have hz0 := h.zero k z (Nat.lt_succ_self k) hz
  subst hz0
  have hd : 0 < d := by have := h.rlt; omega
  have hq : (rest * b + x) / d < b := Nat.div_lt_of_lt_mul (by
    have : (rest + 1) * b ≤ d * b := Nat.mul_le_mul_right _ h.rlt
    rw [Nat.add_mul, Nat.one_mul] at this
    omega)
  refine ⟨by simp [h.len], ok_set h.ok hq, Nat.mod_lt _ hd, fun j y hj hy => ?_, ?_⟩
  · rw [List.getElem?_set_ne (by omega)] at hy
    exact h.zero j y (by omega) hy
  · have e1 := val_set (b := b) (v := (rest * b + x) / d) hz
    have e2 := val_take_succ b X k
    have e3 : X.getD k 0 = x := by rw [List.getD_eq_getElem?_getD, hx]; rfl
    have e4 := h.eq
    have e5 := Nat.mod_add_div (rest * b + x) d
    rw [e3] at e2
    rw [e2] at e4
    generalize (rest * b + x) / d = q at *
    generalize (rest * b + x) % d = r at *
    rw [Nat.mul_zero, Nat.add_zero] at e1
    rw [e1, e4, Nat.pow_succ]
    have e6 : b ^ k * (r + d * q) = b ^ k * (rest * b + x) := by rw [e5]
    rw [Nat.mul_add, Nat.mul_add] at e6
    have e7 : b ^ k * (d * q) = b ^ k * q * d := by rw [Nat.mul_comm d q, Nat.mul_assoc]
    have e8 : b ^ k * (rest * b) = b ^ k * b * rest := by rw [Nat.mul_comm rest, Nat.mul_assoc]
    rw [Nat.add_mul]
    omega
theorem OverG.done {b : Nat} {X out : List Nat} {d rest : Nat} (h : OverG b X out d 0 rest) : valB b out = valB b X / d ∧ rest = valB b X % d := by
  have e := h.eq
  have hr := h.rlt
  simp only [Nat.pow_zero, Nat.one_mul, List.take_zero, valB, Nat.add_zero] at e
  rw [e]
  constructor
  · rw [Nat.mul_comm, Nat.mul_add_div (by omega), Nat.div_eq_of_lt hr]; rfl
  · rw [Nat.mul_comm, Nat.mul_add_mod, Nat.mod_eq_of_lt hr]

end NatP
end Go.Proofs.YtpllojpgpejfmaaGreatDoor
