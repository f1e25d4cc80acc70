/- A row's symbols: row.cell, row.piece. Condition: the row's lists read from memory. A row's symbols from a place on: row.piece. Condition: the row's lists read from memory. A ring stepped by a good rule: ring.check, ring.Step. Condition: the table and the ring read from memory; the error variables hold what E says. A row is looked over: row.wrong, row.Check. Condition: the row's lists read from memory; the error variables hold what E says. -/
import Derived.BigQuiet
import Derived.Test.YtedmmmlahpmmoaaGreatDoorV6
import Derived.Test.YtedmmmlahpmmoaaGreatDoorV8
import Derived.Test.YtedmmmlahpmmoaaGreatDoorV24
namespace Go.Proofs.YtedmmmlahpmmoaaGreatDoor
open Go.RowKit RuleP

/-- A row as a call has it. -/
structure RowD where
  at_ : Int
  AL : Option Addr
  nl : Nat
  cl : Nat
  AC : Option Addr
  nc : Nat
  cc : Nat
  AR : Option Addr
  nr : Nat
  cr : Nat
  l : List Nat
  c : List Nat
  r : List Nat
def RowD.val (D : RowD) : Value := .agg #[.int .i64 D.at_, .slice D.AL D.nl D.cl, .slice D.AC D.nc D.cc, .slice D.AR D.nr D.cr]
/-- Its lists read from memory. -/
structure RowIs (w : World) (D : RowD) : Prop where
  l : Sl w D.AL D.nl ((ints D.l).map (Value.int .i64))
  c : Sl w D.AC D.nc ((ints D.c).map (Value.int .i64))
  r : Sl w D.AR D.nr ((ints D.r).map (Value.int .i64))
theorem RowIs.below {w w' : World} {D : RowD} (h : RowIs w D) (hb : Below w.heap.size w w') : RowIs w' D := ⟨h.l.below hb, h.c.below hb, h.r.below hb⟩
/-- Its sizes. -/
structure RowOk (D : RowD) : Prop where
  a1 : -10000 ≤ D.at_
  a2 : D.at_ ≤ 10000
  l0 : 0 < D.nl
  l1 : D.nl ≤ 20000
  c1 : D.nc ≤ 20000
  r0 : 0 < D.nr
  r1 : D.nr ≤ 20000
/-- The symbol at a place. -/
def RowD.sym (D : RowD) (z : Int) : Nat := if z - D.at_ < 0 then cy D.l (z - D.at_) else if z - D.at_ < (D.c.length : Int) then D.c.getD (z - D.at_).toNat 0 else cy D.r (z - D.at_ - (D.c.length : Int))

set_option maxRecDepth 100000 in
set_option maxHeartbeats 2000000 in
theorem cell_c (w : World) (D : RowD) (hD : RowIs w D) (hok : RowOk D) (i : Int) (h1 : -1000000 ≤ i) (h2 : i ≤ 1000000) :
    Calls Tryz.prog 38 #[D.val, .int .i64 i] w fun e w' => e = .returned (.int .i64 ((D.sym i : Nat) : Int)) ∧ Below w.heap.size w w' := by
  obtain ⟨at0, AL, nl, cl, AC, nc, cc, AR, nr, cr, l, c, r⟩ := D
  obtain ⟨hl, hc, hr⟩ := hD
  obtain ⟨a1, a2, l0, l1, c1, r0, r1⟩ := hok
  simp only at hl hc hr a1 a2 l0 l1 c1 r0 r1
  have hll : l.length = nl := by simpa [ints] using hl.1
  have hcl : c.length = nc := by simpa [ints] using hc.1
  have hrl : r.length = nr := by simpa [ints] using hr.1
  have b1 := (Below.refl w.heap.size w).alloc (Nat.le_refl _) (.cells #[.int .i64 at0, .slice AL nl cl, .slice AC nc cc, .slice AR nr cr] 26)
  have hblk := heap_new w (.cells #[.int .i64 at0, .slice AL nl cl, .slice AC nc cc, .slice AR nr cr] 26)
  obtain ⟨w1, hw1⟩ : ∃ w1, w.alloc (.cells #[.int .i64 at0, .slice AL nl cl, .slice AC nc cc, .slice AR nr cr] 26) = w1 := ⟨_, rfl⟩
  rw [hw1] at b1 hblk
  have q0 : w1.cell? ⟨w.heap.size, 0, none⟩ = some (.int .i64 at0) := by rw [cell_of_row w1 _ _ _ _ _ hblk]; rfl
  have q1 : w1.cell? ⟨w.heap.size, 1, none⟩ = some (.slice AL nl cl) := by rw [cell_of_row w1 _ _ _ _ _ hblk]; rfl
  have q2 : w1.cell? ⟨w.heap.size, 2, none⟩ = some (.slice AC nc cc) := by rw [cell_of_row w1 _ _ _ _ _ hblk]; rfl
  have q3 : w1.cell? ⟨w.heap.size, 3, none⟩ = some (.slice AR nr cr) := by rw [cell_of_row w1 _ _ _ _ _ hblk]; rfl
  obtain ⟨z, hz⟩ : ∃ z : Int, i - at0 = z := ⟨_, rfl⟩
  have ez : IntKind.i64.wrap (i - at0) = z := by rw [hz]; exact IntWalk.i64_in _ (by omega)
  have hl1 := hl.below b1
  have hc1 := hc.below b1
  have hr1 := hr.below b1
  rw [ints_map] at hl1 hc1 hr1
  have HW1 := Lib.hid hw1
  have B1 := Lib.hid b1
  unfold RowD.val RowD.sym
  simp only
  rw [hz, hcl]
  by_cases hz0 : z < 0
  · rw [if_pos hz0]
    obtain ⟨m1, m2, m3⟩ := modJ z l0
    obtain ⟨y, hy⟩ : ∃ y : Int, z.tmod (nl : Int) = y := ⟨_, rfl⟩
    rw [hy] at m1 m2 m3
    obtain ⟨y2, hy2⟩ : ∃ y2 : Int, y + (nl : Int) = y2 := ⟨_, rfl⟩
    rw [hy2] at m1
    have hzm0 := Int.emod_nonneg z (show (nl : Int) ≠ 0 by omega)
    have hzm1 := Int.emod_lt_of_pos z (show (0 : Int) < (nl : Int) by omega)
    obtain ⟨ix, hix⟩ : ∃ ix : Nat, z % (nl : Int) = (ix : Int) := ⟨(z % (nl : Int)).toNat, by omega⟩
    rw [hix] at m1 hzm1
    obtain ⟨bd, x, rfl, hx, hcx⟩ := hl1.word_ (show ix < nl by omega)
    have hcyz : cy l z = x := by
      unfold cy
      rw [hll, hix, Int.toNat_natCast, List.getD_eq_getElem?_getD, hx]
      rfl
    rw [hcyz]
    have ey : IntKind.i64.wrap y = y := IntWalk.i64_in _ (by omega)
    have ey2 : IntKind.i64.wrap (y + (nl : Int)) = y2 := by rw [hy2]; exact IntWalk.i64_in _ (by omega)
    have ey3 : wrap64 (y + (nl : Int)) = y2 := by
      rw [Go.IntKind.wrap_i64] at ey2
      unfold wrap64
      exact ey2
    have eix : IntKind.i64.wrap (ix : Int) = (ix : Int) := IntWalk.i64_in _ (by omega)
    have k1 : (ix : Int) < (nl : Int) := by omega
    have k2 : (0 : Int) ≤ (ix : Int) := by omega
    have k3 : ¬ (nl : Int) = 0 := by omega
    have k4 : ¬ nl = 0 := by omega
    clear hl hc hr hl1 hc1 hr1 hll hcl hrl hw1 b1 hblk hz hy2 hix hx hcyz hzm0
    go_enter Tryz.func38, Tryz.ntmps38
    go_wp2_with fail
    rw [HW1.out]
    go_wp2_with (go_quiet (fail))
    go_ret
    exact ⟨rfl, by first | exact below_drewN B1.out _ | exact B1.out⟩
  · rw [if_neg hz0]
    by_cases hz1 : z < (nc : Int)
    · rw [if_pos hz1]
      obtain ⟨ix, rfl⟩ : ∃ ix : Nat, z = (ix : Int) := ⟨z.toNat, by omega⟩
      rw [Int.toNat_natCast]
      obtain ⟨bd, x, rfl, hx, hcx⟩ := hc1.word_ (show ix < nc by omega)
      have hg : c.getD ix 0 = x := by rw [List.getD_eq_getElem?_getD, hx]; rfl
      rw [← hw1] at hcx
      rw [hg]
      have k2 : (0 : Int) ≤ (ix : Int) := by omega
      clear hl hc hr hl1 hc1 hr1 hll hcl hrl hw1 b1 hblk hz hx hg
      go_enter Tryz.func38, Tryz.ntmps38
      go_wp2_with fail
      go_ret
      exact ⟨rfl, by rw [HW1.out]; exact B1.out⟩
    · rw [if_neg hz1]
      obtain ⟨ix, hix⟩ : ∃ ix : Nat, z - (nc : Int) = (ix : Int) := ⟨(z - (nc : Int)).toNat, by omega⟩
      rw [hix]
      have hlt := Nat.mod_lt ix r0
      obtain ⟨iy, hiy⟩ : ∃ iy, ix % nr = iy := ⟨_, rfl⟩
      rw [hiy] at hlt
      obtain ⟨bd, x, rfl, hx, hcx⟩ := hr1.word_ hlt
      have hcyz : cy r (ix : Int) = x := by
        unfold cy
        rw [hrl, ← Int.natCast_emod, Int.toNat_natCast, hiy, List.getD_eq_getElem?_getD, hx]
        rfl
      rw [hcyz]
      have e1 : IntKind.i64.wrap (z - (nc : Int)) = (ix : Int) := by rw [hix]; exact IntWalk.i64_in _ (by omega)
      have e2 : ((ix : Nat) : Int).tmod (nr : Int) = (iy : Int) := by rw [← hiy]; rfl
      have e2' : (z - (nc : Int)).tmod (nr : Int) = (iy : Int) := by rw [hix]; exact e2
      have e3 : IntKind.i64.wrap (iy : Int) = (iy : Int) := IntWalk.i64_in _ (by omega)
      have e4 : wrap64 (z - (nc : Int)) = (ix : Int) := by
        rw [Go.IntKind.wrap_i64] at e1
        unfold wrap64
        exact e1
      have k1 : (iy : Int) < (nr : Int) := by omega
      have k2 : (0 : Int) ≤ (iy : Int) := by omega
      have k3 : ¬ (nr : Int) = 0 := by omega
      have k4 : ¬ nr = 0 := by omega
      clear hl hc hr hl1 hc1 hr1 hll hcl hrl hw1 b1 hblk hz hix hiy hx hcyz
      go_enter Tryz.func38, Tryz.ntmps38
      go_wp2_with fail
      rw [HW1.out]
      go_wp2_with (go_quiet (fail))
      go_ret
      exact ⟨rfl, by first | exact below_drewN B1.out _ | exact B1.out⟩
end Go.Proofs.YtedmmmlahpmmoaaGreatDoor

namespace Go.Proofs.YtedmmmlahpmmoaaGreatDoor
open Go.RowKit RuleP

/-- The block holds a row. -/
def RowAt (w : World) (g : Nat) (x0 x1 x2 x3 : Value) : Prop := w.heap[g]? = some (.cells #[x0, x1, x2, x3] 26 (0, 0))
theorem RowAt.facts {w : World} {g : Nat} {x0 x1 x2 x3 : Value} (h : RowAt w g x0 x1 x2 x3) :
    w.cell? ⟨g, 0, none⟩ = some x0 ∧ w.cell? ⟨g, 1, none⟩ = some x1 ∧ w.cell? ⟨g, 2, none⟩ = some x2 ∧ w.cell? ⟨g, 3, none⟩ = some x3 ∧ w.frozen? ⟨g, 0, none⟩ = false ∧ w.frozen? ⟨g, 1, none⟩ = false ∧ w.frozen? ⟨g, 2, none⟩ = false ∧ w.frozen? ⟨g, 3, none⟩ = false :=
  ⟨by rw [cell_of_row w _ _ _ _ _ h]; rfl, by rw [cell_of_row w _ _ _ _ _ h]; rfl, by rw [cell_of_row w _ _ _ _ _ h]; rfl, by rw [cell_of_row w _ _ _ _ _ h]; rfl, frozen_of_row _ _ 0 _ _ h, frozen_of_row _ _ 1 _ _ h, frozen_of_row _ _ 2 _ _ h, frozen_of_row _ _ 3 _ _ h⟩
theorem RowAt.below {w w' : World} {g B : Nat} {x0 x1 x2 x3 : Value} (h : RowAt w g x0 x1 x2 x3) (hb : Below B w w') (hg : g < B) : RowAt w' g x0 x1 x2 x3 := (hb.block g hg).trans h
theorem RowAt.keeps {w w' : World} {g : Nat} {O : Nat → Prop} {x0 x1 x2 x3 : Value} (h : RowAt w g x0 x1 x2 x3) (hk : Keeps O w w') (ho : ¬ O g) : RowAt w' g x0 x1 x2 x3 := (hk.block g (Array.getElem?_eq_some_iff.1 h).1 ho).trans h
theorem RowAt.new (w : World) (x0 x1 x2 x3 : Value) : RowAt (w.alloc (.cells #[x0, x1, x2, x3] 26)) w.heap.size x0 x1 x2 x3 := heap_new _ _
theorem RowAt.alloc {w : World} {g : Nat} {x0 x1 x2 x3 : Value} (h : RowAt w g x0 x1 x2 x3) (o : Obj) : RowAt (w.alloc o) g x0 x1 x2 x3 := (Below.heap_alloc w o g (Array.getElem?_eq_some_iff.1 h).1).trans h
theorem RowAt.lt {w : World} {g : Nat} {x0 x1 x2 x3 : Value} (h : RowAt w g x0 x1 x2 x3) : g < w.heap.size := (Array.getElem?_eq_some_iff.1 h).1

set_option maxRecDepth 100000 in
set_option maxHeartbeats 2000000 in
theorem piece_c (w : World) (D : RowD) (hD : RowIs w D) (hok : RowOk D) (f : Int) (n : Nat) (h1 : -500000 ≤ f) (h2 : f ≤ 500000) (hn0 : 0 < n) (hn : n ≤ 200000) :
    Calls Tryz.prog 21 #[D.val, .int .i64 f, .int .i64 (n : Int)] w fun e w' => ∃ g, e = .returned (.slice (some ⟨g, 0, none⟩) n n) ∧ w'.ownsRow w.heap.size 3 1 (.slice (some ⟨g, 0, none⟩) n n) n ((ints (winZ D.sym n f)).map (Value.int .i64)) ∧ Below w.heap.size w w' := by
  have hR1 := RowAt.new w (.int .i64 D.at_) (.slice D.AL D.nl D.cl) (.slice D.AC D.nc D.cc) (.slice D.AR D.nr D.cr)
  have b1 := (Below.refl w.heap.size w).alloc (Nat.le_refl _) (.cells #[.int .i64 D.at_, .slice D.AL D.nl D.cl, .slice D.AC D.nc D.cc, .slice D.AR D.nr D.cr] 26)
  have hmk := run_make_row' (P := Tryz.prog) 22 3 (.int .i64 0) 8 tInts.und tInts.info rfl .i64 .i64 n (by omega) (by omega) (w.alloc (.cells #[.int .i64 D.at_, .slice D.AL D.nl D.cl, .slice D.AC D.nc D.cc, .slice D.AR D.nr D.cr] 26))
  have hO := zerosAt (w.alloc (.cells #[.int .i64 D.at_, .slice D.AL D.nl D.cl, .slice D.AC D.nc D.cc, .slice D.AR D.nr D.cr] 26)) w.heap.size (w.heap.size + 1) n (by simp) (by omega) (by simp only [maxLen]; omega)
  have hR2 := hR1.alloc (.cells (madeCells #[.int .i64 0] n) 3)
  have b2 := b1.alloc (by simp) (.cells (madeCells #[.int .i64 0] n) 3)
  obtain ⟨w2, hw2⟩ : ∃ w2, (w.alloc (.cells #[.int .i64 D.at_, .slice D.AL D.nl D.cl, .slice D.AC D.nc D.cc, .slice D.AR D.nr D.cr] 26)).alloc (.cells (madeCells #[.int .i64 0] n) 3) = w2 := ⟨_, rfl⟩
  rw [hw2] at hO hR2 b2
  obtain ⟨g, hg⟩ : ∃ g, w.heap.size + 1 = g := ⟨_, rfl⟩
  rw [hg] at hO
  have HRI := Lib.hid (winZ_len D.sym n f)
  have HO := Lib.hid (show w2.ownsRow w.heap.size 3 1 (.slice (some ⟨g, 0, none⟩) n n) n ((ints ((winZ D.sym n f).take 0 ++ List.replicate (n - 0) 0)).map (Value.int .i64)) by
    rw [List.take_zero, List.nil_append, Nat.sub_zero]
    exact hO)
  have HR2 := Lib.hid hR2
  have B2 := Lib.hid b2
  have HW2 := Lib.hid hw2
  have HG := Lib.hid hg
  have hgw : w.heap.size < g := by omega
  have HCE := Lib.hid (fun (wz : World) (i : Int) (hz : Below w.heap.size w wz) (h1 : -1000000 ≤ i) (h2 : i ≤ 1000000) => by
    have h := cell_c wz D (hD.below hz) hok i h1 h2
    unfold RowD.val at h
    exact h)
  have hx : n ≤ 200000 := hn
  clear hD hR1 hR2 b1 b2 hO hw2 hg
  unfold RowD.val
  go_enter Tryz.func21, Tryz.ntmps21
  go_wp2_with fail
  rw [HW2.out, HG.out]
  clear hmk
  go_loopw [13] (fun iv wl => ∃ i : Nat, i ≤ n ∧ iv = .int .i64 (i : Int) ∧ Hid (wl.ownsRow w.heap.size 3 1 (.slice (some ⟨g, 0, none⟩) n n) n ((ints ((winZ D.sym n f).take i ++ List.replicate (n - i) 0)).map (Value.int .i64))) ∧ Hid (RowAt wl w.heap.size (.int .i64 D.at_) (.slice D.AL D.nl D.cl) (.slice D.AC D.nc D.cc) (.slice D.AR D.nr D.cr)) ∧ Hid (Below w.heap.size w wl)) (fun iv _ => n - (intOf iv).toNat)
  case atStart => exact ⟨0, Nat.zero_le _, rfl, HO, HR2, B2⟩
  case round =>
    clear HO HR2 B2
    obtain ⟨i, hi, rfl, HO, HR, BB⟩ := hrel
    obtain ⟨r0, r1, r2, r3, _⟩ := HR.out.facts
    by_cases hlt : i < n
    · have hlt' : (i : Int) < (n : Int) := by omega
      have hi0 : (0 : Int) ≤ (i : Int) := by omega
      obtain ⟨z, hz⟩ : ∃ z : Int, f + (i : Int) = z := ⟨_, rfl⟩
      have ez : IntKind.i64.wrap (f + (i : Int)) = z := by rw [hz]; exact IntWalk.i64_in _ (by omega)
      have ce := HCE.out wr z BB.out (by omega) (by omega)
      have HZ := Lib.hid hz
      have CE := Lib.hid ce
      have hsz := BB.out.size
      clear hz ce
      go_wp2_with fail
      refine (CE.out).mono ?_
      rintro e w3 ⟨rfl, b3⟩
      have o3 := own_below HO.out b3
      have B3 := Lib.hid (BB.out.trans (b3.mono hsz))
      have hR3 := HR.out.below b3 HR.out.lt
      have hrx : (winZ D.sym n f)[i]? = some (D.sym z) := by
        unfold winZ
        rw [List.getElem?_map, List.getElem?_range hlt, ← HZ.out]
        rfl
      have hput := putQ HRI.out hrx hlt
      have fa := o3.frozenAt i
      have ca : w3.cell? ⟨g, i, none⟩ = some (.int .i64 0) := by
        rw [o3.cellAt i (by omega), ints_map, List.getElem?_map, putQ0 HRI.out hlt]
        rfl
      have o1 := (o3.stored i (.int .i64 ((D.sym z : Nat) : Int))).1
      have e3 : ((ints ((winZ D.sym n f).take i ++ List.replicate (n - i) 0)).map (Value.int .i64)).set i (.int .i64 ((D.sym z : Nat) : Int)) = (ints ((winZ D.sym n f).take (i + 1) ++ List.replicate (n - (i + 1)) 0)).map (Value.int .i64) := by
        rw [← hput, ints_map, ints_map, List.map_set]
      rw [e3] at o1
      have hks := Keeps.of_setCell w3 ⟨g, i, none⟩ (.int .i64 ((D.sym z : Nat) : Int))
      have HO2 := Lib.hid o1
      have HR3 := Lib.hid (hR3.keeps hks (show ¬ w.heap.size = g by omega))
      have HB2 := Lib.hid (B3.out.trans (hks.below B3.out.size (fun b hb => by rw [show b = g from hb]; omega)))
      clear hrx hput o3 b3 hR3 hks o1 e3
      go_wp2_with fail
      exact ⟨⟨i + 1, hlt, by go_num, HO2, HR3, HB2⟩, by simp [intOf]; omega⟩
    · have hlt' : ¬ (i : Int) < (n : Int) := by omega
      obtain rfl : i = n := by omega
      have ho := HO.out
      rw [Nat.sub_self, List.replicate_zero, List.append_nil, List.take_of_length_le (by rw [HRI.out]; exact Nat.le_refl _)] at ho
      have HO2 := Lib.hid ho
      clear ho
      go_wp2_with fail
      go_ret
      exact ⟨g, rfl, HO2.out, BB.out⟩
end Go.Proofs.YtedmmmlahpmmoaaGreatDoor

namespace Go.Proofs.YtedmmmlahpmmoaaGreatDoor
open Go.RowKit RuleP

def sRing : ByteArray := ⟨#[114, 105, 110, 103]⟩
theorem ringWrong_c (w : World) (E : Nat → Addr) (hE : Errs w E) (at' : Int) (n : Nat) (h1 : 1 ≤ n) (h2 : n ≤ 11) :
    Calls Tryz.prog 32 #[.int .i64 at', .int .i64 (n : Int)] w fun e w' => e = .returned (errV w.heap.size) ∧ Below w.heap.size w w' := by
  have HE := Lib.hid hE
  clear hE
  go_enter Tryz.func32, Tryz.ntmps32
  go_wp2_with fail
  refine (new_c w E HE.out sRing at' n h1 h2).mono ?_
  rintro e w' ⟨rfl, rfl⟩
  go_wp2_with fail
  go_ret
  exact ⟨rfl, (Below.refl _ _).alloc (Nat.le_refl _) _⟩
set_option maxHeartbeats 400000 in
theorem ringF_c (w : World) (x k : Int) (b : Nat) (hb : w.cell? ⟨b, 0, none⟩ = some (.int .i64 k)) :
    Calls Tryz.prog 34 #[.int .i64 x, .pointer (some ⟨b, 0, none⟩)] w fun e w' => e = .returned (.bool (decide (x < 0 ∨ k ≤ x))) ∧ w = w' := by
  by_cases h : x < 0
  · have h1 : decide (x < 0) = true := decide_eq_true h
    have hd : Hid (decide (x < 0 ∨ k ≤ x) = true) := Lib.hid (decide_eq_true (.inl h))
    go_enter Tryz.func34, Tryz.ntmps34
    go_wp2_with fail
    go_ret
    exact ⟨by first | rfl | (rw [hd.out]; rfl), rfl⟩
  · have h1 : decide (x < 0) = false := decide_eq_false h
    have hd : Hid (decide (x < 0 ∨ k ≤ x) = decide (k ≤ x)) := Lib.hid (by simp [h])
    go_enter Tryz.func34, Tryz.ntmps34
    go_wp2_with fail
    go_ret
    exact ⟨by first | rfl | (rw [hd.out]; rfl), rfl⟩
/-- The ring's own fault, or none. -/
def RingOk (k m : Nat) (W : List Int) : Prop := 0 < m ∧ m ≤ 4096 ∧ odd (k : Int) W = none
set_option maxRecDepth 100000 in
set_option maxHeartbeats 2000000 in
theorem ringCheck_c (w : World) (E : Nat → Addr) (hE : Errs w E) (k r : Nat) (A B : Option Addr) (n c m d : Nat) (t : List Nat) (W : List Int) (hr : IsRule k r t) (hT : Sl w A n ((ints t).map (Value.int .i64))) (hS : Sl w B m (W.map (Value.int .i64))) (hm : m ≤ 9223372036854775807) :
    Calls Tryz.prog 16 #[ruleV (k : Int) (r : Int) A n c, .slice B m d] w fun e w' => (∃ v, e = .returned v ∧ (RingOk k m W → v = .nilIface) ∧ (¬ RingOk k m W → ∃ b, v = errV b)) ∧ Below w.heap.size w w' := by
  have hn : t.length = n := by simpa [ints] using hT.1
  have hn16 := hr.le
  rw [hn] at hn16
  have b1 := (Below.refl w.heap.size w).alloc (Nat.le_refl _) (.cells #[.int .i64 (k : Int), .int .i64 (r : Int), .slice A n c] 24)
  have hR1 := RuleAt.new w (.int .i64 (k : Int)) (.int .i64 (r : Int)) (.slice A n c)
  obtain ⟨q0, q1, q2, _⟩ := hR1.facts
  obtain ⟨w1, hw1⟩ : ∃ w1, w.alloc (.cells #[.int .i64 (k : Int), .int .i64 (r : Int), .slice A n c] 24) = w1 := ⟨_, rfl⟩
  rw [hw1] at b1 hR1
  have HCK := Lib.hid (show Calls Tryz.prog 19 #[ruleV (k : Int) (r : Int) A n c] w1 fun e w' => e = .returned .nilIface ∧ Below w1.heap.size w1 w' by
    have h := check_c w1 E (hE.below b1) k r A n c (ints t) (hT.below b1) (by omega)
    rw [check_rule hr] at h
    exact h.mono fun e w' ⟨v, he, hv, hb⟩ => ⟨by rw [he, show v = .nilIface from hv], hb⟩)
  have HW1 := Lib.hid hw1
  have HE := Lib.hid (fun (wz : World) (hz : Below w.heap.size w wz) => hE.below hz)
  have HS := Lib.hid (fun (wz : World) (hz : Below w.heap.size w wz) => hS.below hz)
  have HR1 := Lib.hid hR1
  have B1 := Lib.hid b1
  clear hE hT hS hr hn hw1 hR1 b1
  unfold ruleV at *
  go_enter Tryz.func16, Tryz.ntmps16
  go_wp2_with fail
  rw [HW1.out]
  clear q0 q1 q2
  refine (HCK.out).mono ?_
  rintro e w2 ⟨rfl, b2⟩
  have B2 := Lib.hid (B1.out.trans (b2.mono B1.out.size))
  have HR2 := Lib.hid (HR1.out.below b2 HR1.out.lt)
  clear b2 HCK
  by_cases hm0 : m = 0
  · subst hm0
    have HWR := Lib.hid (ringWrong_c w2 E (HE.out w2 B2.out) 0 3 (by decide) (by decide))
    go_wp2_with fail
    refine (HWR.out).mono ?_
    rintro e w3 ⟨rfl, b3⟩
    have B3 := Lib.hid (B2.out.trans (b3.mono B2.out.size))
    clear b3
    go_wp2_with fail
    go_ret
    exact ⟨⟨_, rfl, fun h => absurd h.1 (Nat.lt_irrefl 0), fun _ => ⟨_, rfl⟩⟩, B3.out⟩
  · have h0 : ¬ (m : Int) = 0 := by omega
    by_cases h4 : 4096 < m
    · have h4' : (4096 : Int) < (m : Int) := by omega
      have HWR := Lib.hid (ringWrong_c w2 E (HE.out w2 B2.out) 0 4 (by decide) (by decide))
      go_wp2_with fail
      refine (HWR.out).mono ?_
      rintro e w3 ⟨rfl, b3⟩
      have B3 := Lib.hid (B2.out.trans (b3.mono B2.out.size))
      clear b3
      go_wp2_with fail
      go_ret
      exact ⟨⟨_, rfl, fun h => absurd h.2.1 (by omega), fun _ => ⟨_, rfl⟩⟩, B3.out⟩
    · have h4' : ¬ (4096 : Int) < (m : Int) := by omega
      have hi := indexFunc_c w2 34 ⟨w.heap.size, 0, none⟩ (fun x => decide (x < 0 ∨ (k : Int) ≤ x)) B m d W (HS.out w2 B2.out) hm
        (fun x wz => run_enter Tryz.func34 (by kernel_rfl) (by kernel_rfl) _ _) (fun x => ringF_c w2 x k w.heap.size HR2.out.facts.1)
      change Calls _ _ _ _ (fun e w' => e = .returned (.int .i64 (place (odd (k : Int) W))) ∧ w2 = w') at hi
      have HI := Lib.hid hi
      clear hi
      go_wp2_with fail
      refine (HI.out).mono ?_
      rintro e w3 ⟨rfl, hww⟩
      subst hww
      cases ho : odd (k : Int) W with
      | none =>
        have hp : place none = -1 := rfl
        have HO := Lib.hid ho
        rw [hp]
        clear ho hp
        go_wp2_with fail
        go_ret
        exact ⟨⟨_, rfl, fun _ => rfl, fun h => absurd ⟨by omega, by omega, HO.out⟩ h⟩, B2.out⟩
      | some i =>
        have hp : place (some i) = (i : Int) := rfl
        have HO := Lib.hid ho
        have hi0 : (0 : Int) ≤ (i : Int) := by omega
        have HWR := Lib.hid (ringWrong_c w2 E (HE.out w2 B2.out) i 2 (by decide) (by decide))
        rw [hp]
        clear ho hp
        go_wp2_with fail
        refine (HWR.out).mono ?_
        rintro e w3 ⟨rfl, b3⟩
        have B3 := Lib.hid (B2.out.trans (b3.mono B2.out.size))
        clear b3
        go_wp2_with fail
        go_ret
        exact ⟨⟨_, rfl, fun h => (by have h1 := h.2.2; rw [HO.out] at h1; cases h1), fun _ => ⟨_, rfl⟩⟩, B3.out⟩
theorem odd_syms {k : Nat} {W : List Int} (h : odd (k : Int) W = none) : ∃ s : List Nat, W = ints s ∧ ∀ x ∈ s, x < k := by
  have hall : ∀ x ∈ W, 0 ≤ x ∧ x < (k : Int) := fun x hx => by
    have h1 := List.findIdx?_eq_none_iff.1 h x hx
    simp only [decide_eq_false_iff_not, not_or, Int.not_lt, Int.not_le] at h1
    exact h1
  refine ⟨W.map Int.toNat, ?_, fun x hx => ?_⟩
  · unfold ints
    rw [List.map_map]
    refine (List.map_id _).symm.trans (List.map_congr_left fun y hy => ?_)
    have := hall y hy
    simp only [Function.comp, id]
    omega
  · obtain ⟨y, hy, rfl⟩ := List.mem_map.1 hx
    have := hall y hy
    omega
set_option maxRecDepth 100000 in
set_option maxHeartbeats 2000000 in
theorem ringStep_c (w : World) (E : Nat → Addr) (hE : Errs w E) (k r : Nat) (A B : Option Addr) (n c m d : Nat) (t : List Nat) (W : List Int) (hr : IsRule k r t) (hT : Sl w A n ((ints t).map (Value.int .i64))) (hS : Sl w B m (W.map (Value.int .i64))) (hm : m ≤ 9223372036854775807) :
    Calls Tryz.prog 6 #[ruleV (k : Int) (r : Int) A n c, .slice B m d] w fun e w' => (¬ RingOk k m W → ∃ b, e = .returned (.tuple #[.slice none 0 0, errV b])) ∧
      (∀ s : List Nat, RingOk k m W → W = ints s → ∃ g, e = .returned (.tuple #[.slice (some ⟨g, 0, none⟩) m m, .nilIface]) ∧ w'.ownsRow w.heap.size 3 1 (.slice (some ⟨g, 0, none⟩) m m) m ((ints (ringI k r t s)).map (Value.int .i64))) ∧ Below w.heap.size w w' := by
  have b1 := (Below.refl w.heap.size w).alloc (Nat.le_refl _) (.cells #[.int .i64 (k : Int), .int .i64 (r : Int), .slice A n c] 24)
  have hR1 := RuleAt.new w (.int .i64 (k : Int)) (.int .i64 (r : Int)) (.slice A n c)
  obtain ⟨q0, q1, q2, _⟩ := hR1.facts
  obtain ⟨w1, hw1⟩ : ∃ w1, w.alloc (.cells #[.int .i64 (k : Int), .int .i64 (r : Int), .slice A n c] 24) = w1 := ⟨_, rfl⟩
  rw [hw1] at b1 hR1
  have HCK := Lib.hid (ringCheck_c w1 E (hE.below b1) k r A B n c m d t W hr (hT.below b1) (hS.below b1) hm)
  have HTT := Lib.hid (fun (wz : World) (hz : Below w.heap.size w wz) => (⟨hT.below hz, hS.below hz⟩ : _ ∧ _))
  have HW1 := Lib.hid hw1
  have HR1 := Lib.hid hR1
  have B1 := Lib.hid b1
  have HRU := Lib.hid hr
  clear hE hT hS hr hw1 hR1 b1
  unfold ruleV at *
  go_enter Tryz.func6, Tryz.ntmps6
  go_wp2_with fail
  rw [HW1.out]
  clear q0 q1 q2
  refine (HCK.out).mono ?_
  rintro e w2 ⟨⟨v, rfl, hok, hbad⟩, b2⟩
  have B2 := Lib.hid (B1.out.trans (b2.mono B1.out.size))
  have HR2 := Lib.hid (HR1.out.below b2 HR1.out.lt)
  clear b2 HCK
  by_cases h : RingOk k m W
  · obtain rfl := hok h
    have HK := Lib.hid h
    obtain ⟨s, hs1, hs2⟩ := odd_syms h.2.2
    obtain ⟨r0, r1, r2, _⟩ := HR2.out.facts
    obtain ⟨ht, hss⟩ := HTT.out w2 B2.out
    rw [hs1] at hss
    have him := ringImage_c w2 k r A B n c m d t s HRU.out ht hs2 hss h.1 h.2.1
    unfold ruleV at him
    have HIM := Lib.hid him
    have HS := Lib.hid hs1
    clear him hs1 hs2 ht hss hok hbad h
    go_wp2_with fail
    refine (HIM.out).mono ?_
    rintro e w3 ⟨g, rfl, ho3, b3⟩
    have HO3 := Lib.hid (own_base ho3 B2.out.size)
    have B3 := Lib.hid (B2.out.trans (b3.mono B2.out.size))
    clear ho3 b3
    go_wp2_with fail
    exact bodyPost_ret (v := .tuple #[.slice (some ⟨g, 0, none⟩) m m, .nilIface]) (by simp [results, Tryz.results6, go_sem]) rfl ⟨fun h => absurd HK.out h, fun s' _ hs' => ⟨g, rfl, by
      have e : s' = s := ints_inj (hs'.symm.trans HS.out)
      rw [e]
      exact HO3.out⟩, B3.out⟩
  · obtain ⟨b, rfl⟩ := hbad h
    have HK := Lib.hid h
    clear hok hbad h
    unfold errV
    go_wp2_with fail
    exact bodyPost_ret (v := .tuple #[.slice none 0 0, errV b]) (by simp [results, Tryz.results6, go_sem, errV]) rfl ⟨fun _ => ⟨b, rfl⟩, fun _ h => absurd h HK.out, B2.out⟩
end Go.Proofs.YtedmmmlahpmmoaaGreatDoor

namespace Go.Proofs.YtedmmmlahpmmoaaGreatDoor
open Go.RowKit RuleP

def sRow : ByteArray := ⟨#[114, 111, 119]⟩
theorem rowWrong_c (w : World) (E : Nat → Addr) (hE : Errs w E) (at' : Int) (n : Nat) (h1 : 1 ≤ n) (h2 : n ≤ 11) :
    Calls Tryz.prog 18 #[.int .i64 at', .int .i64 (n : Int)] w fun e w' => e = .returned (errV w.heap.size) ∧ Below w.heap.size w w' := by
  have HE := Lib.hid hE
  clear hE
  go_enter Tryz.func18, Tryz.ntmps18
  go_wp2_with fail
  refine (new_c w E HE.out sRow at' n h1 h2).mono ?_
  rintro e w' ⟨rfl, rfl⟩
  go_wp2_with fail
  go_ret
  exact ⟨rfl, (Below.refl _ _).alloc (Nat.le_refl _) _⟩
/-- A row as it is handed in: any numbers. -/
structure RowV where
  at_ : Int
  AL : Option Addr
  nl : Nat
  cl : Nat
  AC : Option Addr
  nc : Nat
  cc : Nat
  AR : Option Addr
  nr : Nat
  cr : Nat
  l : List Int
  c : List Int
  r : List Int
def RowV.val (D : RowV) : Value := .agg #[.int .i64 D.at_, .slice D.AL D.nl D.cl, .slice D.AC D.nc D.cc, .slice D.AR D.nr D.cr]
structure RowVs (w : World) (D : RowV) : Prop where
  l : Sl w D.AL D.nl (D.l.map (Value.int .i64))
  c : Sl w D.AC D.nc (D.c.map (Value.int .i64))
  r : Sl w D.AR D.nr (D.r.map (Value.int .i64))
theorem RowVs.below {w w' : World} {D : RowV} (h : RowVs w D) (hb : Below w.heap.size w w') : RowVs w' D := ⟨h.l.below hb, h.c.below hb, h.r.below hb⟩
/-- A row over k symbols, of the sizes that are allowed. -/
structure RowFit (k : Nat) (D : RowV) : Prop where
  a1 : -4096 ≤ D.at_
  a2 : D.at_ ≤ 4096
  l0 : 0 < D.nl
  r0 : 0 < D.nr
  l1 : D.nl ≤ 8192
  r1 : D.nr ≤ 8192
  c1 : D.nc ≤ 16384
  l : odd (k : Int) D.l = none
  c : odd (k : Int) D.c = none
  r : odd (k : Int) D.r = none
theorem odd_mem {k : Int} {W : List Int} {x : Int} (h : odd k W = none) (hx : x ∈ W) : 0 ≤ x ∧ x < k := by
  have h1 := List.findIdx?_eq_none_iff.1 h x hx
  simp only [decide_eq_false_iff_not, not_or, Int.not_lt, Int.not_le] at h1
  exact h1
theorem odd_of {k : Int} {W : List Int} (h : ∀ x ∈ W, 0 ≤ x ∧ x < k) : odd k W = none := by
  unfold odd
  rw [List.findIdx?_eq_none_iff]
  intro x hx
  have := h x hx
  simp only [decide_eq_false_iff_not, not_or, Int.not_lt, Int.not_le]
  exact this

set_option maxRecDepth 100000 in
set_option maxHeartbeats 4000000 in
theorem rowCheck_c (w : World) (E : Nat → Addr) (hE : Errs w E) (k : Nat) (hk1 : 1 ≤ k) (hk4 : k ≤ 4) (D : RowV) (hD : RowVs w D) :
    Calls Tryz.prog 8 #[.int .i64 (k : Int), D.val] w fun e w' => (∃ v, e = .returned v ∧ (RowFit k D → v = .nilIface) ∧ (¬ RowFit k D → ∃ b, v = errV b)) ∧ Below w.heap.size w w' := by
  obtain ⟨at0, AL, nl, cl, AC, nc, cc, AR, nr, cr, L, C, R⟩ := D
  have b1 := (Below.refl w.heap.size w).alloc (Nat.le_refl _) (.cells #[.int .i64 at0, .slice AL nl cl, .slice AC nc cc, .slice AR nr cr] 26)
  have hR1 := RowAt.new w (.int .i64 at0) (.slice AL nl cl) (.slice AC nc cc) (.slice AR nr cr)
  obtain ⟨w1, hw1⟩ : ∃ w1, w.alloc (.cells #[.int .i64 at0, .slice AL nl cl, .slice AC nc cc, .slice AR nr cr] 26) = w1 := ⟨_, rfl⟩
  obtain ⟨q0, q1, q2, q3, _⟩ := hR1.facts
  rw [hw1] at b1
  have HE := Lib.hid (hE.below b1)
  have hS : RowVs w1 ⟨at0, AL, nl, cl, AC, nc, cc, AR, nr, cr, L, C, R⟩ := hD.below b1
  have HW1 := Lib.hid hw1
  have B1 := Lib.hid b1
  have hk0 : ¬ (k : Int) < 1 := by omega
  have hk5 : ¬ (4 : Int) < (k : Int) := by omega
  clear hE hD hw1 b1 hR1
  unfold RowV.val
  by_cases ha1 : at0 < -4096
  · have ha1' : at0 < -4096 := ha1
    have HWR := Lib.hid (rowWrong_c w1 E HE.out 1 3 (by decide) (by decide))
    clear hS
    go_enter Tryz.func8, Tryz.ntmps8
    go_wp2_with fail
    rw [HW1.out]
    refine (HWR.out).mono ?_
    rintro e w3 ⟨rfl, b3⟩
    have B3 := Lib.hid (B1.out.trans (b3.mono B1.out.size))
    clear b3
    go_wp2_with fail
    go_ret
    exact ⟨⟨_, rfl, fun h => absurd (show -4096 ≤ at0 from h.a1) (by omega), fun _ => ⟨_, rfl⟩⟩, B3.out⟩
  by_cases ha2 : 4096 < at0
  · have HWR := Lib.hid (rowWrong_c w1 E HE.out 1 3 (by decide) (by decide))
    clear hS
    go_enter Tryz.func8, Tryz.ntmps8
    go_wp2_with fail
    rw [HW1.out]
    refine (HWR.out).mono ?_
    rintro e w3 ⟨rfl, b3⟩
    have B3 := Lib.hid (B1.out.trans (b3.mono B1.out.size))
    clear b3
    go_wp2_with fail
    go_ret
    exact ⟨⟨_, rfl, fun h => absurd (show at0 ≤ 4096 from h.a2) (by omega), fun _ => ⟨_, rfl⟩⟩, B3.out⟩
  by_cases hl0 : nl = 0
  · have hl0' : (nl : Int) = 0 := by omega
    subst hl0
    have HWR := Lib.hid (rowWrong_c w1 E HE.out 2 3 (by decide) (by decide))
    clear hS
    go_enter Tryz.func8, Tryz.ntmps8
    go_wp2_with fail
    rw [HW1.out]
    refine (HWR.out).mono ?_
    rintro e w3 ⟨rfl, b3⟩
    have B3 := Lib.hid (B1.out.trans (b3.mono B1.out.size))
    clear b3
    go_wp2_with fail
    go_ret
    exact ⟨⟨_, rfl, fun h => absurd (show 0 < 0 from h.l0) (by omega), fun _ => ⟨_, rfl⟩⟩, B3.out⟩
  have hl0' : ¬ (nl : Int) = 0 := by omega
  by_cases hr0 : nr = 0
  · subst hr0
    have HWR := Lib.hid (rowWrong_c w1 E HE.out 3 3 (by decide) (by decide))
    clear hS
    go_enter Tryz.func8, Tryz.ntmps8
    go_wp2_with fail
    rw [HW1.out]
    refine (HWR.out).mono ?_
    rintro e w3 ⟨rfl, b3⟩
    have B3 := Lib.hid (B1.out.trans (b3.mono B1.out.size))
    clear b3
    go_wp2_with fail
    go_ret
    exact ⟨⟨_, rfl, fun h => absurd (show 0 < 0 from h.r0) (by omega), fun _ => ⟨_, rfl⟩⟩, B3.out⟩
  have hr0' : ¬ (nr : Int) = 0 := by omega
  by_cases hl1 : 8192 < nl
  · have hl1' : (8192 : Int) < (nl : Int) := by omega
    have HWR := Lib.hid (rowWrong_c w1 E HE.out 2 4 (by decide) (by decide))
    clear hS
    go_enter Tryz.func8, Tryz.ntmps8
    go_wp2_with fail
    rw [HW1.out]
    refine (HWR.out).mono ?_
    rintro e w3 ⟨rfl, b3⟩
    have B3 := Lib.hid (B1.out.trans (b3.mono B1.out.size))
    clear b3
    go_wp2_with fail
    go_ret
    exact ⟨⟨_, rfl, fun h => absurd (show nl ≤ 8192 from h.l1) (by omega), fun _ => ⟨_, rfl⟩⟩, B3.out⟩
  have hl1' : ¬ (8192 : Int) < (nl : Int) := by omega
  by_cases hr1 : 8192 < nr
  · have hr1' : (8192 : Int) < (nr : Int) := by omega
    have HWR := Lib.hid (rowWrong_c w1 E HE.out 3 4 (by decide) (by decide))
    clear hS
    go_enter Tryz.func8, Tryz.ntmps8
    go_wp2_with fail
    rw [HW1.out]
    refine (HWR.out).mono ?_
    rintro e w3 ⟨rfl, b3⟩
    have B3 := Lib.hid (B1.out.trans (b3.mono B1.out.size))
    clear b3
    go_wp2_with fail
    go_ret
    exact ⟨⟨_, rfl, fun h => absurd (show nr ≤ 8192 from h.r1) (by omega), fun _ => ⟨_, rfl⟩⟩, B3.out⟩
  have hr1' : ¬ (8192 : Int) < (nr : Int) := by omega
  by_cases hc1 : 16384 < nc
  · have hc1' : (16384 : Int) < (nc : Int) := by omega
    have HWR := Lib.hid (rowWrong_c w1 E HE.out 4 4 (by decide) (by decide))
    clear hS
    go_enter Tryz.func8, Tryz.ntmps8
    go_wp2_with fail
    rw [HW1.out]
    refine (HWR.out).mono ?_
    rintro e w3 ⟨rfl, b3⟩
    have B3 := Lib.hid (B1.out.trans (b3.mono B1.out.size))
    clear b3
    go_wp2_with fail
    go_ret
    exact ⟨⟨_, rfl, fun h => absurd (show nc ≤ 16384 from h.c1) (by omega), fun _ => ⟨_, rfl⟩⟩, B3.out⟩
  have hc1' : ¬ (16384 : Int) < (nc : Int) := by omega
  -- the symbols
  obtain ⟨P, hP⟩ : ∃ P : List (List Int), [L, C, R] = P := ⟨_, rfl⟩
  have b2 := (Below.refl w1.heap.size w1).alloc (Nat.le_refl _) (.cells #[.slice AL nl cl, .slice AC nc cc, .slice AR nr cr] 22)
  have hS2 := hS.below b2
  have hblk := heap_new w1 (.cells #[.slice AL nl cl, .slice AC nc cc, .slice AR nr cr] 22)
  obtain ⟨w2, hw2⟩ : ∃ w2, w1.alloc (.cells #[.slice AL nl cl, .slice AC nc cc, .slice AR nr cr] 22) = w2 := ⟨_, rfl⟩
  rw [hw2] at b2 hS2 hblk
  have HPT : ∀ j : Nat, j < 3 → ∃ A n c, w2.cell? ⟨w1.heap.size, j, none⟩ = some (.slice A n c) ∧ Sl w2 A n ((P.getD j []).map (Value.int .i64)) ∧ n ≤ 16384 := by
    intro j hj
    subst hP
    match j, hj with
    | 0, _ => exact ⟨AL, nl, cl, by rw [cell_of_row w2 _ _ _ _ _ hblk]; rfl, hS2.l, by omega⟩
    | 1, _ => exact ⟨AC, nc, cc, by rw [cell_of_row w2 _ _ _ _ _ hblk]; rfl, hS2.c, by omega⟩
    | 2, _ => exact ⟨AR, nr, cr, by rw [cell_of_row w2 _ _ _ _ _ hblk]; rfl, hS2.r, by omega⟩
  have HGOOD := Lib.hid (show (∀ j, j < 3 → odd (k : Int) (P.getD j []) = none) → RowFit k ⟨at0, AL, nl, cl, AC, nc, cc, AR, nr, cr, L, C, R⟩ from fun h => by
    subst hP
    exact ⟨by show -4096 ≤ at0; omega, by show at0 ≤ 4096; omega, by show 0 < nl; omega, by show 0 < nr; omega, by show nl ≤ 8192; omega, by show nr ≤ 8192; omega, by show nc ≤ 16384; omega, h 0 (by decide), h 1 (by decide), h 2 (by decide)⟩)
  have HBAD := Lib.hid (show ∀ j, j < 3 → odd (k : Int) (P.getD j []) ≠ none → ¬ RowFit k ⟨at0, AL, nl, cl, AC, nc, cc, AR, nr, cr, L, C, R⟩ from fun j hj hne h => by
    subst hP
    match j, hj with
    | 0, _ => exact hne h.l
    | 1, _ => exact hne h.c
    | 2, _ => exact hne h.r)
  have B2 := Lib.hid (B1.out.trans (b2.mono B1.out.size))
  have HE2 := Lib.hid (HE.out.below b2)
  have HPT2 := Lib.hid HPT
  have HW2 := Lib.hid hw2
  obtain ⟨g, hg⟩ : ∃ g, w.heap.size + 1 = g := ⟨_, rfl⟩
  have hg1 : w1.heap.size = g := by rw [← HW1.out, ← hg]; simp
  rw [hg1] at HPT2
  have HG := Lib.hid hg
  clear hS hS2 hblk b2 hw2 HPT hP hg hg1
  go_enter Tryz.func8, Tryz.ntmps8
  go_wp2_with fail
  rw [HW1.out, HW2.out, HG.out]
  clear q0 q1 q2 q3
  go_loopw [66, 5] (fun jv av wl => wl = w2 ∧ ∃ (j : Nat) (a : Int), j ≤ 3 ∧ jv = .int .i64 (j : Int) ∧ av = .int .i64 a ∧ Hid (∀ i, i < j → odd (k : Int) (P.getD i []) = none)) (fun jv _ _ => 3 - (intOf jv).toNat)
  case atStart => exact ⟨rfl, 0, 0, Nat.zero_le _, rfl, rfl, Lib.hid (fun i hi => absurd hi (Nat.not_lt_zero i))⟩
  case round =>
    obtain ⟨rfl, j, a, hj, rfl, rfl, HJ⟩ := hrel
    by_cases hlt : j < 3
    · have hlt' : (j : Int) < 3 := by omega
      have hj0 : (0 : Int) ≤ (j : Int) := by omega
      obtain ⟨A, n, c, hcell, hsl, hn⟩ := HPT2.out j hlt
      have HSL := Lib.hid hsl
      have hnl : (P.getD j []).length = n := by simpa using hsl.1
      have HNL := Lib.hid hnl
      clear hsl hnl
      go_wp2_with fail
      go_loopw [72] (fun iv wl => wl = wr ∧ ∃ i : Nat, i ≤ n ∧ iv = .int .i64 (i : Int) ∧ Hid (∀ x ∈ (P.getD j []).take i, 0 ≤ x ∧ x < (k : Int))) (fun iv _ => n - (intOf iv).toNat)
      case atStart => exact ⟨rfl, 0, Nat.zero_le _, rfl, Lib.hid (fun x hx => by simp at hx)⟩
      case round =>
        obtain ⟨rfl, i, hi, rfl, HI⟩ := hrel
        by_cases hlt2 : i < n
        · have hlt2' : (i : Int) < (n : Int) := by omega
          have hi0 : (0 : Int) ≤ (i : Int) := by omega
          obtain ⟨ad, x, rfl, hx, hcx⟩ := HSL.out.int_ hlt2
          by_cases hx0 : x < 0
          · have HX := Lib.hid (HBAD.out j hlt (fun h => by
              have := (odd_mem h (List.mem_of_getElem? hx)).1
              omega))
            have HWR := fun (at' : Int) => rowWrong_c wr E HE2.out at' 2 (by decide) (by decide)
            clear hx
            go_wp2_with fail
            refine (HWR _).mono ?_
            rintro e w3 ⟨rfl, b3⟩
            have B3 := Lib.hid (B2.out.trans (b3.mono B2.out.size))
            clear b3
            go_wp2_with fail
            go_ret
            exact ⟨⟨_, rfl, fun h => absurd h HX.out, fun _ => ⟨_, rfl⟩⟩, B3.out⟩
          · by_cases hxk : (k : Int) ≤ x
            · have HX := Lib.hid (HBAD.out j hlt (fun h => by
                have := (odd_mem h (List.mem_of_getElem? hx)).2
                omega))
              have HWR := fun (at' : Int) => rowWrong_c wr E HE2.out at' 2 (by decide) (by decide)
              clear hx
              go_wp2_with fail
              refine (HWR _).mono ?_
              rintro e w3 ⟨rfl, b3⟩
              have B3 := Lib.hid (B2.out.trans (b3.mono B2.out.size))
              clear b3
              go_wp2_with fail
              go_ret
              exact ⟨⟨_, rfl, fun h => absurd h HX.out, fun _ => ⟨_, rfl⟩⟩, B3.out⟩
            · have HI2 := Lib.hid (show ∀ y ∈ (P.getD j []).take (i + 1), 0 ≤ y ∧ y < (k : Int) from fun y hy => by
                rw [List.take_add_one, hx] at hy
                rcases List.mem_append.1 hy with hy | hy
                · exact HI.out y hy
                · simp only [Option.toList_some, List.mem_singleton] at hy
                  subst hy
                  omega)
              clear hx
              go_wp2_with fail
              exact ⟨⟨trivial, i + 1, hlt2, by go_num, HI2⟩, by simp [intOf]; omega⟩
        · have hlt2' : ¬ (i : Int) < (n : Int) := by omega
          have HJ2 := Lib.hid (show ∀ i', i' < j + 1 → odd (k : Int) (P.getD i' []) = none from fun i' hi' => by
            rcases Nat.lt_or_ge i' j with h1 | h1
            · exact HJ.out i' h1
            · obtain rfl : i' = j := by omega
              refine odd_of fun x hx => HI.out x ?_
              rw [List.take_of_length_le (by have := HNL.out; omega)]
              exact hx)
          go_wp2_with fail
          exact ⟨⟨trivial, j + 1, _, hlt, by go_num, rfl, HJ2⟩, by simp [intOf]; omega⟩
    · have hlt' : ¬ (j : Int) < 3 := by omega
      obtain rfl : j = 3 := by omega
      have HF := Lib.hid (HGOOD.out HJ.out)
      go_wp2_with fail
      go_ret
      exact ⟨⟨_, rfl, fun _ => rfl, fun h => absurd HF.out h⟩, B2.out⟩
end Go.Proofs.YtedmmmlahpmmoaaGreatDoor
