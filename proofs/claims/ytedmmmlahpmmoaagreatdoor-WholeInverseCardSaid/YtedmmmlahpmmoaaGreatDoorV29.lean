/- The table of an inverse, filled word by word: (*guess).fill computes fillP. Condition: the rule's table reads from memory. -/
import Derived.Test.YtedmmmlahpmmoaaGreatDoorV7
import Derived.Test.YtedmmmlahpmmoaaGreatDoorV24
import Derived.Test.YtedmmmlahpmmoaaGreatDoorV25
namespace Go.Proofs.YtedmmmlahpmmoaaGreatDoor
open Go.RowKit RuleP

/-- A guess in memory. -/
def GuessAt (w : World) (g : Nat) (k r : Nat) (A : Option Addr) (n c ρ gt S : Nat) : Prop := w.heap[g]? = some (.cells #[.int .i64 (k : Int), .int .i64 (r : Int), .slice A n c, .int .i64 (ρ : Int), .slice (some ⟨gt, 0, none⟩) S S] 65 (0, 0))
theorem GuessAt.facts {w : World} {g k r : Nat} {A : Option Addr} {n c ρ gt S : Nat} (h : GuessAt w g k r A n c ρ gt S) :
    w.cell? ⟨g, 0, none⟩ = some (.int .i64 (k : Int)) ∧ w.cell? ⟨g, 1, none⟩ = some (.int .i64 (r : Int)) ∧ w.cell? ⟨g, 2, none⟩ = some (.slice A n c) ∧ w.cell? ⟨g, 3, none⟩ = some (.int .i64 (ρ : Int)) ∧ w.cell? ⟨g, 4, none⟩ = some (.slice (some ⟨gt, 0, none⟩) S S) :=
  ⟨by rw [cell_of_row w _ _ _ _ _ h]; rfl, by rw [cell_of_row w _ _ _ _ _ h]; rfl, by rw [cell_of_row w _ _ _ _ _ h]; rfl, by rw [cell_of_row w _ _ _ _ _ h]; rfl, by rw [cell_of_row w _ _ _ _ _ h]; rfl⟩
theorem GuessAt.keeps {w w' : World} {g k r : Nat} {A : Option Addr} {n c ρ gt S : Nat} (h : GuessAt w g k r A n c ρ gt S) {O : Nat → Prop} (hk : Keeps O w w') (ho : ¬ O g) : GuessAt w' g k r A n c ρ gt S := (hk.block g (Array.getElem?_eq_some_iff.1 h).1 ho).trans h
theorem sl_keeps {w w' : World} {A : Option Addr} {n : Nat} {xs : List Value} (h : Sl w A n xs) {O : Nat → Prop} (hk : Keeps O w w') (ho : ∀ ad, A = some ad → ¬ O ad.block) : Sl w' A n xs :=
  ⟨h.1, fun j v hj => by
    obtain ⟨ad, e, hc⟩ := h.2 j v hj
    refine ⟨ad, e, hk.cell hc ?_⟩
    rw [show (ad.add j).block = ad.block by unfold Addr.add; split <;> rfl]
    exact ho ad e⟩
theorem keeps_drew {O : Nat → Prop} {w w' : World} (h : Keeps O w w') : Keeps O w w'.drew := ⟨h.os, h.tape, h.output, h.size, h.block⟩
theorem keeps_drewN {O : Nat → Prop} {w w' : World} (h : Keeps O w w') (q : Nat) : Keeps O w (w'.drewN q) := ⟨h.os, h.tape, h.output, h.size, h.block⟩
theorem own_drew {w : World} {B e n : Nat} {v : Value} {xs : List Value} (h : w.ownsRow B e 1 v n xs) : w.drew.ownsRow B e 1 v n xs := h
theorem own_drewN {w : World} {B e n : Nat} {v : Value} {xs : List Value} (h : w.ownsRow B e 1 v n xs) (q : Nat) : (w.drewN q).ownsRow B e 1 v n xs := h
/-- What does not change while a table is filled. -/
structure FillEnv (k r ρ : Nat) (t : List Nat) (A : Option Addr) (n g gt S : Nat) : Prop where
  hr : IsRule k r t
  hn : t.length = n
  h64 : n ≤ 64
  hρ : ρ ≤ 3
  hS : k ^ (2 * ρ + 1) = S
  hA : ∀ ad, A = some ad → ad.block ≠ gt
  hg : g ≠ gt
def FillC (k r ρ : Nat) (t : List Nat) (A : Option Addr) (n c g gt S d : Nat) : Prop := ∀ (wz : World) (base m fr im mid : Nat) (T : List Int), m + d = 2 * (r + ρ) + 1 → fr < k ^ (2 * r) → im < k ^ (m - 2 * r) → mid < k →
  GuessAt wz g k r A n c ρ gt S → Sl wz A n ((ints t).map (Value.int .i64)) → wz.ownsRow base 3 1 (.slice (some ⟨gt, 0, none⟩) S S) S (T.map (Value.int .i64)) →
  Calls Tryz.prog 31 #[.pointer (some ⟨g, 0, none⟩), .int .i64 (fr : Int), .int .i64 (im : Int), .int .i64 (mid : Int), .int .i64 (m : Int)] wz fun e w' =>
    e = .returned (.bool (fillP k r t (r + ρ) d m fr im mid T).1) ∧ w'.ownsRow base 3 1 (.slice (some ⟨gt, 0, none⟩) S S) S ((fillP k r t (r + ρ) d m fr im mid T).2.map (Value.int .i64)) ∧ Keeps (fun b => b = gt) wz w'
theorem pow_next {k a im c : Nat} (h : im < k ^ a) (hc : c < k) : im * k + c < k ^ (a + 1) := by
  rw [Nat.pow_succ]
  have h1 := Nat.mul_le_mul_right k h
  rw [Nat.succ_mul] at h1
  omega
theorem pow4_le {k a : Nat} (h1 : 1 ≤ k) (hk : k ≤ 4) (ha : a ≤ 7) : k ^ a ≤ 16384 := Nat.le_trans (Nat.pow_le_pow_right h1 ha) (Nat.le_trans (Nat.pow_le_pow_left hk 7) (by decide))
theorem range_drop {k s : Nat} (h : s < k) : (List.range k).drop s = s :: (List.range k).drop (s + 1) := by
  rw [List.drop_eq_getElem_cons (by rw [List.length_range]; exact h), List.getElem_range]

theorem fill_store {wz : World} {base gt S : Nat} {T : List Int} (hT : wz.ownsRow base 3 1 (.slice (some ⟨gt, 0, none⟩) S S) S (T.map (Value.int .i64))) (nq im : Nat) (v : Int) :
    ((wz.drewN nq).setCell ⟨gt, im, none⟩ (.int .i64 v)).ownsRow base 3 1 (.slice (some ⟨gt, 0, none⟩) S S) S ((T.set im v).map (Value.int .i64)) ∧ Keeps (fun b => b = gt) wz ((wz.drewN nq).setCell ⟨gt, im, none⟩ (.int .i64 v)) := by
  have h1 : (wz.drewN nq).ownsRow base 3 1 (.slice (some ⟨gt, 0, none⟩) S S) S (T.map (Value.int .i64)) := hT
  have h2 := (h1.stored im (.int .i64 v)).1
  have e3 : (T.map (Value.int .i64)).set im (.int .i64 v) = (T.set im v).map (Value.int .i64) := by rw [List.map_set]
  rw [e3] at h2
  exact ⟨h2, (Keeps.of_pure (pure_drewN wz nq) _).trans (Keeps.of_setCell _ ⟨gt, im, none⟩ _) (fun _ _ h => h)⟩
set_option maxRecDepth 100000 in
set_option maxHeartbeats 2000000 in
theorem fill_zero (k r ρ : Nat) (t : List Nat) (A : Option Addr) (n c g gt S : Nat) (hE : FillEnv k r ρ t A n g gt S) : FillC k r ρ t A n c g gt S 0 := by
  intro wz base m fr im mid T hm hfr him hmid hG hA hT
  have hk1 := hE.hr.k1
  have hk4 := hE.hr.k4
  have hr3 := hE.hr.r3
  have hρ3 := hE.hρ
  have hTl : T.length = S := by have := hT.1; simpa using this
  have himS : im < S := by rw [← hE.hS]; rw [show m - 2 * r = 2 * ρ + 1 by omega] at him; exact him
  obtain ⟨x, hx⟩ : ∃ x, T[im]? = some x := ⟨_, List.getElem?_eq_getElem (by omega)⟩
  have hxd : T.getD im (-1) = x := by rw [List.getD_eq_getElem?_getD, hx]; rfl
  have ct : wz.cell? ⟨gt, im, none⟩ = some (.int .i64 x) := by rw [hT.cellAt im (by omega), List.getElem?_map, hx]; rfl
  have ft := hT.frozenAt im
  obtain ⟨y0, y1, y2, y3, y4⟩ := hG.facts
  obtain ⟨h, hh⟩ : ∃ h, r + ρ = h := ⟨_, rfl⟩
  obtain ⟨h2, hh2⟩ : ∃ h2, 2 * h = h2 := ⟨_, rfl⟩
  have e1 : IntKind.i64.wrap ((r : Int) + (ρ : Int)) = (h : Int) := by rw [show (r : Int) + (ρ : Int) = (h : Int) by omega]; exact IntWalk.i64_in _ (by omega)
  have e2 : IntKind.i64.wrap (2 * (h : Int)) = (h2 : Int) := by rw [show 2 * (h : Int) = (h2 : Int) by omega]; exact IntWalk.i64_in _ (by omega)
  have e3 : IntKind.i64.wrap ((h2 : Int) + 1) = (m : Int) := by rw [show (h2 : Int) + 1 = (m : Int) by omega]; exact IntWalk.i64_in _ (by omega)
  have k1 : (im : Int) < (S : Int) := by omega
  have k2 : (0 : Int) ≤ (im : Int) := by omega
  have HT := Lib.hid hT
  have HFP : Hid (fillP k r t h 0 m fr im mid T = if 0 ≤ x ∧ x ≠ (mid : Int) then (false, T) else (true, T.set im (mid : Int))) := Lib.hid (by rw [fillP, hxd])
  rw [hh]
  clear hh hT hG hA hm hfr him hE hx hxd hTl
  by_cases h1 : 0 ≤ x
  · by_cases h3 : x = (mid : Int)
    · have HS := Lib.hid (show fillP k r t h 0 m fr im mid T = (true, T.set im (mid : Int)) by rw [HFP.out, if_neg (fun hh => hh.2 h3)])
      subst h3
      go_enter Tryz.func31, Tryz.ntmps31
      go_wp2_with (go_quiet (fail))
      exact bodyPost_ret (v := .bool true) (by simp [results, Tryz.results31, go_sem]) rfl ⟨by rw [HS.out], by rw [HS.out]; exact (fill_store HT.out nq im (mid : Int)).1, (fill_store HT.out nq im (mid : Int)).2⟩
    · have HS := Lib.hid (show fillP k r t h 0 m fr im mid T = (false, T) by rw [HFP.out, if_pos ⟨h1, h3⟩])
      go_enter Tryz.func31, Tryz.ntmps31
      go_wp2_with (go_quiet (fail))
      exact bodyPost_ret (v := .bool false) (by simp [results, Tryz.results31, go_sem]) rfl ⟨by rw [HS.out], by rw [HS.out]; exact HT.out, Keeps.of_pure (pure_drewN wz nq) _⟩
  · have h3 : x < 0 := by omega
    have HS := Lib.hid (show fillP k r t h 0 m fr im mid T = (true, T.set im (mid : Int)) by rw [HFP.out, if_neg (fun hh => h1 hh.1)])
    go_enter Tryz.func31, Tryz.ntmps31
    go_wp2_with (go_quiet (fail))
    exact bodyPost_ret (v := .bool true) (by simp [results, Tryz.results31, go_sem]) rfl ⟨by rw [HS.out], by rw [HS.out]; exact (fill_store HT.out nq im (mid : Int)).1, (fill_store HT.out nq im (mid : Int)).2⟩

set_option maxRecDepth 100000 in
set_option maxHeartbeats 8000000 in
theorem fill_succ (k r ρ : Nat) (t : List Nat) (A : Option Addr) (n c g gt S : Nat) (hE : FillEnv k r ρ t A n g gt S) (d : Nat) (ih : FillC k r ρ t A n c g gt S d) : FillC k r ρ t A n c g gt S (d + 1) := by
  intro wz base m fr im mid T hm hfr him hmid hG hA hT
  have hk1 := hE.hr.k1
  have hk4 := hE.hr.k4
  have hr3 := hE.hr.r3
  have hρ3 := hE.hρ
  have hn64 := hE.h64
  have hnN : n = k ^ (2 * r) * k := by rw [← hE.hn, hE.hr.len, Nat.pow_succ]
  obtain ⟨N, hN⟩ : ∃ N, k ^ (2 * r) = N := ⟨_, rfl⟩
  have hN0 : 0 < N := by rw [← hN]; exact Nat.pow_pos hk1
  have hNn : N ≤ n := by rw [hnN, hN]; exact Nat.le_mul_of_pos_right N hk1
  have hdv : n / k = N := by rw [hnN, hN]; exact Nat.mul_div_cancel N hk1
  obtain ⟨h, hh⟩ : ∃ h, r + ρ = h := ⟨_, rfl⟩
  obtain ⟨h2, hh2⟩ : ∃ h2, 2 * h = h2 := ⟨_, rfl⟩
  obtain ⟨W, hW⟩ : ∃ W, h2 + 1 = W := ⟨_, rfl⟩
  obtain ⟨r2, hr2⟩ : ∃ r2, 2 * r = r2 := ⟨_, rfl⟩
  have e1 : IntKind.i64.wrap ((r : Int) + (ρ : Int)) = (h : Int) := by rw [show (r : Int) + (ρ : Int) = (h : Int) by omega]; exact IntWalk.i64_in _ (by omega)
  have e2 : IntKind.i64.wrap (2 * (h : Int)) = (h2 : Int) := by rw [show 2 * (h : Int) = (h2 : Int) by omega]; exact IntWalk.i64_in _ (by omega)
  have e3 : IntKind.i64.wrap ((h2 : Int) + 1) = (W : Int) := by rw [show (h2 : Int) + 1 = (W : Int) by omega]; exact IntWalk.i64_in _ (by omega)
  have e4 : IntKind.i64.wrap (2 * (r : Int)) = (r2 : Int) := by rw [show 2 * (r : Int) = (r2 : Int) by omega]; exact IntWalk.i64_in _ (by omega)
  have e5 : (W : Int).tdiv 2 = (h : Int) := by rw [show (W : Int).tdiv 2 = ((W / 2 : Nat) : Int) from rfl, show W / 2 = h by omega]
  have e6 : (W : Int) / 2 = (h : Int) := by omega
  have e7 : IntKind.i64.wrap (h : Int) = (h : Int) := IntWalk.i64_in _ (by omega)
  have e8 : (n : Int).tdiv (k : Int) = (N : Int) := by rw [show (n : Int).tdiv (k : Int) = ((n / k : Nat) : Int) from rfl, hdv]
  have e9 : (n : Int) / (k : Int) = (N : Int) := by rw [show (n : Int) / (k : Int) = ((n / k : Nat) : Int) from rfl, hdv]
  have e10 : IntKind.i64.wrap (N : Int) = (N : Int) := IntWalk.i64_in _ (by omega)
  obtain ⟨m1, hm1⟩ : ∃ m1, m + 1 = m1 := ⟨_, rfl⟩
  have e11 : IntKind.i64.wrap ((m : Int) + 1) = (m1 : Int) := by rw [show (m : Int) + 1 = (m1 : Int) by omega]; exact IntWalk.i64_in _ (by omega)
  have hnk : N * k = n := by rw [hnN, hN]
  have n1 : ¬ (k : Int) = 0 := by omega
  have n2 : ¬ k = 0 := by omega
  have n3 : ¬ (N : Int) = 0 := by omega
  have n4 : ¬ N = 0 := by omega
  have n5 : ¬ (m : Int) = (W : Int) := by omega
  have n6 : ¬ m = W := by omega
  have n7 : ((m : Int) == (W : Int)) = false := beq_eq_false_iff_ne.2 n5
  obtain ⟨F, hF⟩ : ∃ F : Nat → List Int → Bool × List Int, (fun s T => fillP k r t h d m1 ((fr * k + s) % k ^ (2 * r)) (if 2 * r ≤ m then im * k + t.getD (fr * k + s) 0 else im) (if m = h then s else mid) T) = F := ⟨_, rfl⟩
  have HFP : Hid (fillP k r t h (d + 1) m fr im mid T = fillS F (List.range k) T) := Lib.hid (by rw [fillP, hm1, hF])
  have HIH := Lib.hid (fun (wl : World) (fr' im' mid' : Nat) (T' : List Int) (h1 : fr' < N) (h2 : im' < k ^ (m1 - r2)) (h3 : mid' < k) (hK : Keeps (fun b => b = gt) wz wl) (hO : wl.ownsRow base 3 1 (.slice (some ⟨gt, 0, none⟩) S S) S (T'.map (Value.int .i64))) => (by
    have hh := ih wl base m1 fr' im' mid' T' (by omega) (by rw [hN]; exact h1) (by rw [hr2]; exact h2) h3 (hG.keeps hK hE.hg) (sl_keeps hA hK hE.hA) hO
    rw [‹r + ρ = h›] at hh
    exact hh : Calls Tryz.prog 31 #[.pointer (some ⟨g, 0, none⟩), .int .i64 (fr' : Int), .int .i64 (im' : Int), .int .i64 (mid' : Int), .int .i64 (m1 : Int)] wl fun e w' => e = .returned (.bool (fillP k r t h d m1 fr' im' mid' T').1) ∧ w'.ownsRow base 3 1 (.slice (some ⟨gt, 0, none⟩) S S) S ((fillP k r t h d m1 fr' im' mid' T').2.map (Value.int .i64)) ∧ Keeps (fun b => b = gt) wl w'))
  have HFA := Lib.hid (fun (wl : World) (hK : Keeps (fun b => b = gt) wz wl) => (hG.keeps hK hE.hg).facts)
  have HSL := Lib.hid (fun (wl : World) (hK : Keeps (fun b => b = gt) wz wl) => sl_keeps hA hK hE.hA)
  have HSY := Lib.hid (show ∀ u x, t[u]? = some x → x < k from fun u x hu => hE.hr.sym x (List.mem_of_getElem? hu))
  have HLN := Lib.hid (And.intro hE.hn (And.intro hnk hN))
  have HF := Lib.hid hF
  have HP2 := Lib.hid (fun (a : Nat) (ha : a ≤ 7) => pow4_le hk1 hk4 ha)
  have HIM := Lib.hid (show im < k ^ (m - r2) by rw [← hr2]; exact him)
  have hT0 := hT
  have him4 : im ≤ 16384 := Nat.le_of_lt (Nat.lt_of_lt_of_le him (pow4_le hk1 hk4 (by omega)))
  rw [hN] at hfr
  have HNUM := Lib.hid (And.intro hm1 (And.intro hr2 hm))
  obtain ⟨y0, y1, y2, y3, y4⟩ := hG.facts
  have HT := Lib.hid hT
  rw [hh]
  clear hnk hF hT hT0 hG hA him hE ih hN hdv hnN hh hh2 hW
  go_enter Tryz.func31, Tryz.ntmps31
  go_wp2_with (go_quiet (fail))
  clear y0 y1 y2 y3 y4
  go_loopw [62] (fun iv wl => ∃ (s : Nat) (T' : List Int), s ≤ k ∧ iv = .int .i64 (s : Int) ∧ Hid (fillS F (List.range k) T = fillS F ((List.range k).drop s) T') ∧ Hid (wl.ownsRow base 3 1 (.slice (some ⟨gt, 0, none⟩) S S) S (T'.map (Value.int .i64))) ∧ Hid (Keeps (fun b => b = gt) wz wl)) (fun iv _ => k - (intOf iv).toNat)
  case atStart => exact ⟨0, T, Nat.zero_le _, rfl, Lib.hid rfl, Lib.hid (own_drewN HT.out _), Lib.hid (keeps_drewN (Keeps.refl _ _) _)⟩
  case round =>
    obtain ⟨s, T', hs, rfl, HR, HO, HK⟩ := hrel
    by_cases hlt : s < k
    · have hlt' : (s : Int) < (k : Int) := by omega
      obtain ⟨P, hP⟩ : ∃ P, fr * k = P := ⟨_, rfl⟩
      obtain ⟨u, hu⟩ : ∃ u, P + s = u := ⟨_, rfl⟩
      have hun : u < n := by
        have h1 := Nat.mul_le_mul_right k hfr
        rw [Nat.succ_mul, HLN.out.2.1, hP] at h1
        omega
      have e12 : IntKind.i64.wrap ((fr : Int) * (k : Int)) = (P : Int) := by rw [show (fr : Int) * (k : Int) = (P : Int) by rw [← hP]; rfl]; exact IntWalk.i64_in _ (by omega)
      have e13 : IntKind.i64.wrap ((P : Int) + (s : Int)) = (u : Int) := by rw [show (P : Int) + (s : Int) = (u : Int) by omega]; exact IntWalk.i64_in _ (by omega)
      obtain ⟨fr2, hf2⟩ : ∃ fr2, u % N = fr2 := ⟨_, rfl⟩
      have hfr2 : fr2 < N := by rw [← hf2]; exact Nat.mod_lt _ hN0
      have e14 : (u : Int).tmod (N : Int) = (fr2 : Int) := by rw [← hf2]; rfl
      have e14' : (u : Int) % (N : Int) = (fr2 : Int) := by rw [← hf2]; rfl
      have hsl := HSL.out wr HK.out
      rw [ints_map] at hsl
      obtain ⟨ad, x, rfl, hx, hc⟩ := hsl.word_ hun
      have hxd : t.getD u 0 = x := by rw [List.getD_eq_getElem?_getD, hx]; rfl
      have hxk : x < k := HSY.out u x hx
      obtain ⟨Q, hQ⟩ : ∃ Q, im * k = Q := ⟨_, rfl⟩
      have hQ6 : Q ≤ 65536 := by rw [← hQ]; exact Nat.le_trans (Nat.mul_le_mul him4 hk4) (by decide)
      obtain ⟨im2, hi2⟩ : ∃ im2, Q + x = im2 := ⟨_, rfl⟩
      have e15 : IntKind.i64.wrap ((im : Int) * (k : Int)) = (Q : Int) := by rw [show (im : Int) * (k : Int) = (Q : Int) by rw [← hQ]; rfl]; exact IntWalk.i64_in _ (by omega)
      have e16 : IntKind.i64.wrap ((Q : Int) + (x : Int)) = (im2 : Int) := by rw [show (Q : Int) + (x : Int) = (im2 : Int) by omega]; exact IntWalk.i64_in _ (by omega)
      have hun' : (u : Int) < (n : Int) := by omega
      have hu0 : (0 : Int) ≤ (u : Int) := by omega
      have HPU : Hid ((fr * k + s) % N = fr2 ∧ im * k + t.getD (fr * k + s) 0 = im2) := Lib.hid (by rw [hP, hu, hf2, hQ, hxd, hi2]; exact ⟨rfl, rfl⟩)
      obtain ⟨y0, y1, y2, y3, y4⟩ := HFA.out wr HK.out
      have HIM2 : Hid (r2 ≤ m → im2 < k ^ (m1 - r2)) := Lib.hid (fun h => by
        rw [show m1 - r2 = m - r2 + 1 by have := HNUM.out.1; omega, ← hi2, ← hQ]
        exact pow_next HIM.out hxk)
      have HIM3 : Hid (¬ r2 ≤ m → im < k ^ (m1 - r2)) := Lib.hid (fun h => by
        rw [show m1 - r2 = m - r2 by have := HNUM.out.1; omega]
        exact HIM.out)
      clear hP hu hf2 hsl hx hxd hQ hi2 hxk
      by_cases c1 : r2 ≤ m
      · have c1' : (r2 : Int) ≤ (m : Int) := by omega
        by_cases c2 : m = h
        · subst c2
          have HFS : Hid (F s T' = fillP k r t m d m1 fr2 im2 s T') := Lib.hid (by
            rw [← HF.out]
            dsimp only
            rw [HLN.out.2.2, HNUM.out.2.1, HPU.out.1, HPU.out.2, if_pos c1, if_pos rfl])
          obtain ⟨b, hb⟩ : ∃ b, (fillP k r t m d m1 fr2 im2 s T').1 = b := ⟨_, rfl⟩
          obtain ⟨T2, hT2⟩ : ∃ T2, (fillP k r t m d m1 fr2 im2 s T').2 = T2 := ⟨_, rfl⟩
          have HC := Lib.hid (fun (wl : World) (hK : Keeps (fun b => b = gt) wz wl) (hO : wl.ownsRow base 3 1 (.slice (some ⟨gt, 0, none⟩) S S) S (T'.map (Value.int .i64))) => (by
            have hx := HIH.out wl fr2 im2 s T' hfr2 (HIM2.out c1) hlt hK hO
            rw [hb, hT2] at hx
            exact hx : Calls Tryz.prog 31 #[.pointer (some ⟨g, 0, none⟩), .int .i64 (fr2 : Int), .int .i64 (im2 : Int), .int .i64 (s : Int), .int .i64 (m1 : Int)] wl fun e w' => e = .returned (.bool b) ∧ w'.ownsRow base 3 1 (.slice (some ⟨gt, 0, none⟩) S S) S (T2.map (Value.int .i64)) ∧ Keeps (fun b => b = gt) wl w'))
          have HFT : Hid (F s T' = (b, T2)) := Lib.hid (by rw [HFS.out, ← hb, ← hT2])
          clear hb hT2 HFS
          go_upto_region 17 with (go_quiet (fail))
          go_region_held3 (fun wx => wx.cell? ⟨g, 2, none⟩ = some (.slice (some ad) n c) ∧ wx.cell? ⟨g, 0, none⟩ = some (.int .i64 (k : Int)))
            (first | (refine ⟨?_, ?_⟩ <;> with_reducible assumption) | exact ⟨y2, y0⟩ | go_keep)
            (first
              | (go_simp
                 go_at_call 31
                 with_reducible refine (HC.out _ ?_ ?_).mono ?_
                 · repeat (first | with_reducible exact HK.out | with_reducible refine keeps_drew ?_ | with_reducible refine keeps_drewN ?_ _)
                 · repeat (first | with_reducible exact HO.out | with_reducible refine own_drew ?_ | with_reducible refine own_drewN ?_ _)
                 rintro e w9 ⟨rfl, ho9, hk9⟩
                 have hK9 : Keeps (fun b => b = gt) wz w9 := by
                   refine Keeps.trans (O := fun b => b = gt) ?_ hk9 (fun _ _ h => h)
                   repeat (first | with_reducible exact HK.out | with_reducible refine keeps_drew ?_ | with_reducible refine keeps_drewN ?_ _)
                 obtain ⟨z0, _, z2, _, _⟩ := HFA.out w9 hK9
                 dsimp only)
              | fail)
          have HO9 := Lib.hid ho9
          have HK9 := Lib.hid hK9
          clear ho9 hK9 hk9 z0 z2
          cases b
          · have HEND : Hid (fillP k r t m (d + 1) m fr im mid T = (false, T2)) := Lib.hid (by
              rw [HFP.out, HR.out, range_drop hlt, fillS, HFT.out]
              rfl)
            clear HFT
            go_wp2_with fail
            exact bodyPost_ret (v := .bool false) (by simp [results, Tryz.results31, go_sem]) rfl ⟨by rw [HEND.out], by rw [HEND.out]; exact HO9.out, HK9.out⟩
          · have HNX : Hid (fillS F (List.range k) T = fillS F ((List.range k).drop (s + 1)) T2) := Lib.hid (by
              rw [HR.out, range_drop hlt, fillS, HFT.out]
              rfl)
            clear HFT
            go_wp2_with fail
            exact ⟨⟨s + 1, T2, by omega, by go_num, HNX, HO9, HK9⟩, by simp [intOf]; omega⟩
        · have c2' : ¬ (m : Int) = (h : Int) := by omega
          have HFS : Hid (F s T' = fillP k r t h d m1 fr2 im2 mid T') := Lib.hid (by
            rw [← HF.out]
            dsimp only
            rw [HLN.out.2.2, HNUM.out.2.1, HPU.out.1, HPU.out.2, if_pos c1, if_neg c2])
          obtain ⟨b, hb⟩ : ∃ b, (fillP k r t h d m1 fr2 im2 mid T').1 = b := ⟨_, rfl⟩
          obtain ⟨T2, hT2⟩ : ∃ T2, (fillP k r t h d m1 fr2 im2 mid T').2 = T2 := ⟨_, rfl⟩
          have HC := Lib.hid (fun (wl : World) (hK : Keeps (fun b => b = gt) wz wl) (hO : wl.ownsRow base 3 1 (.slice (some ⟨gt, 0, none⟩) S S) S (T'.map (Value.int .i64))) => (by
            have hx := HIH.out wl fr2 im2 mid T' hfr2 (HIM2.out c1) hmid hK hO
            rw [hb, hT2] at hx
            exact hx : Calls Tryz.prog 31 #[.pointer (some ⟨g, 0, none⟩), .int .i64 (fr2 : Int), .int .i64 (im2 : Int), .int .i64 (mid : Int), .int .i64 (m1 : Int)] wl fun e w' => e = .returned (.bool b) ∧ w'.ownsRow base 3 1 (.slice (some ⟨gt, 0, none⟩) S S) S (T2.map (Value.int .i64)) ∧ Keeps (fun b => b = gt) wl w'))
          have HFT : Hid (F s T' = (b, T2)) := Lib.hid (by rw [HFS.out, ← hb, ← hT2])
          clear hb hT2 HFS
          go_upto_region 17 with (go_quiet (fail))
          go_region_held3 (fun wx => wx.cell? ⟨g, 2, none⟩ = some (.slice (some ad) n c) ∧ wx.cell? ⟨g, 0, none⟩ = some (.int .i64 (k : Int)))
            (first | (refine ⟨?_, ?_⟩ <;> with_reducible assumption) | exact ⟨y2, y0⟩ | go_keep)
            (first
              | (go_simp
                 go_at_call 31
                 with_reducible refine (HC.out _ ?_ ?_).mono ?_
                 · repeat (first | with_reducible exact HK.out | with_reducible refine keeps_drew ?_ | with_reducible refine keeps_drewN ?_ _)
                 · repeat (first | with_reducible exact HO.out | with_reducible refine own_drew ?_ | with_reducible refine own_drewN ?_ _)
                 rintro e w9 ⟨rfl, ho9, hk9⟩
                 have hK9 : Keeps (fun b => b = gt) wz w9 := by
                   refine Keeps.trans (O := fun b => b = gt) ?_ hk9 (fun _ _ h => h)
                   repeat (first | with_reducible exact HK.out | with_reducible refine keeps_drew ?_ | with_reducible refine keeps_drewN ?_ _)
                 obtain ⟨z0, _, z2, _, _⟩ := HFA.out w9 hK9
                 dsimp only)
              | fail)
          have HO9 := Lib.hid ho9
          have HK9 := Lib.hid hK9
          clear ho9 hK9 hk9 z0 z2
          cases b
          · have HEND : Hid (fillP k r t h (d + 1) m fr im mid T = (false, T2)) := Lib.hid (by
              rw [HFP.out, HR.out, range_drop hlt, fillS, HFT.out]
              rfl)
            clear HFT
            go_wp2_with fail
            exact bodyPost_ret (v := .bool false) (by simp [results, Tryz.results31, go_sem]) rfl ⟨by rw [HEND.out], by rw [HEND.out]; exact HO9.out, HK9.out⟩
          · have HNX : Hid (fillS F (List.range k) T = fillS F ((List.range k).drop (s + 1)) T2) := Lib.hid (by
              rw [HR.out, range_drop hlt, fillS, HFT.out]
              rfl)
            clear HFT
            go_wp2_with fail
            exact ⟨⟨s + 1, T2, by omega, by go_num, HNX, HO9, HK9⟩, by simp [intOf]; omega⟩
      · have c1' : ¬ (r2 : Int) ≤ (m : Int) := by omega
        clear hc
        by_cases c2 : m = h
        · subst c2
          have HFS : Hid (F s T' = fillP k r t m d m1 fr2 im s T') := Lib.hid (by
            rw [← HF.out]
            dsimp only
            rw [HLN.out.2.2, HNUM.out.2.1, HPU.out.1, HPU.out.2, if_neg c1, if_pos rfl])
          obtain ⟨b, hb⟩ : ∃ b, (fillP k r t m d m1 fr2 im s T').1 = b := ⟨_, rfl⟩
          obtain ⟨T2, hT2⟩ : ∃ T2, (fillP k r t m d m1 fr2 im s T').2 = T2 := ⟨_, rfl⟩
          have HC := Lib.hid (fun (wl : World) (hK : Keeps (fun b => b = gt) wz wl) (hO : wl.ownsRow base 3 1 (.slice (some ⟨gt, 0, none⟩) S S) S (T'.map (Value.int .i64))) => (by
            have hx := HIH.out wl fr2 im s T' hfr2 (HIM3.out c1) hlt hK hO
            rw [hb, hT2] at hx
            exact hx : Calls Tryz.prog 31 #[.pointer (some ⟨g, 0, none⟩), .int .i64 (fr2 : Int), .int .i64 (im : Int), .int .i64 (s : Int), .int .i64 (m1 : Int)] wl fun e w' => e = .returned (.bool b) ∧ w'.ownsRow base 3 1 (.slice (some ⟨gt, 0, none⟩) S S) S (T2.map (Value.int .i64)) ∧ Keeps (fun b => b = gt) wl w'))
          have HFT : Hid (F s T' = (b, T2)) := Lib.hid (by rw [HFS.out, ← hb, ← hT2])
          clear hb hT2 HFS
          go_upto_region 17 with (go_quiet (fail))
          go_region_held3 (fun wx => wx.cell? ⟨g, 2, none⟩ = some (.slice (some ad) n c) ∧ wx.cell? ⟨g, 0, none⟩ = some (.int .i64 (k : Int)))
            (first | (refine ⟨?_, ?_⟩ <;> with_reducible assumption) | exact ⟨y2, y0⟩ | go_keep)
            (first
              | (go_simp
                 go_at_call 31
                 with_reducible refine (HC.out _ ?_ ?_).mono ?_
                 · repeat (first | with_reducible exact HK.out | with_reducible refine keeps_drew ?_ | with_reducible refine keeps_drewN ?_ _)
                 · repeat (first | with_reducible exact HO.out | with_reducible refine own_drew ?_ | with_reducible refine own_drewN ?_ _)
                 rintro e w9 ⟨rfl, ho9, hk9⟩
                 have hK9 : Keeps (fun b => b = gt) wz w9 := by
                   refine Keeps.trans (O := fun b => b = gt) ?_ hk9 (fun _ _ h => h)
                   repeat (first | with_reducible exact HK.out | with_reducible refine keeps_drew ?_ | with_reducible refine keeps_drewN ?_ _)
                 obtain ⟨z0, _, z2, _, _⟩ := HFA.out w9 hK9
                 dsimp only)
              | fail)
          have HO9 := Lib.hid ho9
          have HK9 := Lib.hid hK9
          clear ho9 hK9 hk9 z0 z2
          cases b
          · have HEND : Hid (fillP k r t m (d + 1) m fr im mid T = (false, T2)) := Lib.hid (by
              rw [HFP.out, HR.out, range_drop hlt, fillS, HFT.out]
              rfl)
            clear HFT
            go_wp2_with fail
            exact bodyPost_ret (v := .bool false) (by simp [results, Tryz.results31, go_sem]) rfl ⟨by rw [HEND.out], by rw [HEND.out]; exact HO9.out, HK9.out⟩
          · have HNX : Hid (fillS F (List.range k) T = fillS F ((List.range k).drop (s + 1)) T2) := Lib.hid (by
              rw [HR.out, range_drop hlt, fillS, HFT.out]
              rfl)
            clear HFT
            go_wp2_with fail
            exact ⟨⟨s + 1, T2, by omega, by go_num, HNX, HO9, HK9⟩, by simp [intOf]; omega⟩
        · have c2' : ¬ (m : Int) = (h : Int) := by omega
          have HFS : Hid (F s T' = fillP k r t h d m1 fr2 im mid T') := Lib.hid (by
            rw [← HF.out]
            dsimp only
            rw [HLN.out.2.2, HNUM.out.2.1, HPU.out.1, HPU.out.2, if_neg c1, if_neg c2])
          obtain ⟨b, hb⟩ : ∃ b, (fillP k r t h d m1 fr2 im mid T').1 = b := ⟨_, rfl⟩
          obtain ⟨T2, hT2⟩ : ∃ T2, (fillP k r t h d m1 fr2 im mid T').2 = T2 := ⟨_, rfl⟩
          have HC := Lib.hid (fun (wl : World) (hK : Keeps (fun b => b = gt) wz wl) (hO : wl.ownsRow base 3 1 (.slice (some ⟨gt, 0, none⟩) S S) S (T'.map (Value.int .i64))) => (by
            have hx := HIH.out wl fr2 im mid T' hfr2 (HIM3.out c1) hmid hK hO
            rw [hb, hT2] at hx
            exact hx : Calls Tryz.prog 31 #[.pointer (some ⟨g, 0, none⟩), .int .i64 (fr2 : Int), .int .i64 (im : Int), .int .i64 (mid : Int), .int .i64 (m1 : Int)] wl fun e w' => e = .returned (.bool b) ∧ w'.ownsRow base 3 1 (.slice (some ⟨gt, 0, none⟩) S S) S (T2.map (Value.int .i64)) ∧ Keeps (fun b => b = gt) wl w'))
          have HFT : Hid (F s T' = (b, T2)) := Lib.hid (by rw [HFS.out, ← hb, ← hT2])
          clear hb hT2 HFS
          go_upto_region 17 with (go_quiet (fail))
          go_region_held3 (fun wx => wx.cell? ⟨g, 2, none⟩ = some (.slice (some ad) n c) ∧ wx.cell? ⟨g, 0, none⟩ = some (.int .i64 (k : Int)))
            (first | (refine ⟨?_, ?_⟩ <;> with_reducible assumption) | exact ⟨y2, y0⟩ | go_keep)
            (first
              | (go_simp
                 go_at_call 31
                 with_reducible refine (HC.out _ ?_ ?_).mono ?_
                 · repeat (first | with_reducible exact HK.out | with_reducible refine keeps_drew ?_ | with_reducible refine keeps_drewN ?_ _)
                 · repeat (first | with_reducible exact HO.out | with_reducible refine own_drew ?_ | with_reducible refine own_drewN ?_ _)
                 rintro e w9 ⟨rfl, ho9, hk9⟩
                 have hK9 : Keeps (fun b => b = gt) wz w9 := by
                   refine Keeps.trans (O := fun b => b = gt) ?_ hk9 (fun _ _ h => h)
                   repeat (first | with_reducible exact HK.out | with_reducible refine keeps_drew ?_ | with_reducible refine keeps_drewN ?_ _)
                 obtain ⟨z0, _, z2, _, _⟩ := HFA.out w9 hK9
                 dsimp only)
              | fail)
          have HO9 := Lib.hid ho9
          have HK9 := Lib.hid hK9
          clear ho9 hK9 hk9 z0 z2
          cases b
          · have HEND : Hid (fillP k r t h (d + 1) m fr im mid T = (false, T2)) := Lib.hid (by
              rw [HFP.out, HR.out, range_drop hlt, fillS, HFT.out]
              rfl)
            clear HFT
            go_wp2_with fail
            exact bodyPost_ret (v := .bool false) (by simp [results, Tryz.results31, go_sem]) rfl ⟨by rw [HEND.out], by rw [HEND.out]; exact HO9.out, HK9.out⟩
          · have HNX : Hid (fillS F (List.range k) T = fillS F ((List.range k).drop (s + 1)) T2) := Lib.hid (by
              rw [HR.out, range_drop hlt, fillS, HFT.out]
              rfl)
            clear HFT
            go_wp2_with fail
            exact ⟨⟨s + 1, T2, by omega, by go_num, HNX, HO9, HK9⟩, by simp [intOf]; omega⟩
    · obtain rfl : s = k := by omega
      have hlt' : ¬ (s : Int) < (s : Int) := by omega
      have HEND : Hid (fillP s r t h (d + 1) m fr im mid T = (true, T')) := Lib.hid (by
        rw [HFP.out, HR.out, List.drop_of_length_le (by rw [List.length_range]; exact Nat.le_refl _), fillS])
      go_wp2_with fail
      exact bodyPost_ret (v := .bool true) (by simp [results, Tryz.results31, go_sem]) rfl ⟨by rw [HEND.out], by rw [HEND.out]; exact HO.out, HK.out⟩
theorem fill_c (k r ρ : Nat) (t : List Nat) (A : Option Addr) (n c g gt S : Nat) (hE : FillEnv k r ρ t A n g gt S) : ∀ d, FillC k r ρ t A n c g gt S d
  | 0 => fill_zero k r ρ t A n c g gt S hE
  | d + 1 => fill_succ k r ρ t A n c g gt S hE d (fill_c k r ρ t A n c g gt S hE d)
end Go.Proofs.YtedmmmlahpmmoaaGreatDoor
