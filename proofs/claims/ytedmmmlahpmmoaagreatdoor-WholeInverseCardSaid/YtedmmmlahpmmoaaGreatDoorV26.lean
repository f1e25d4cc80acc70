/- A row's image, piece by piece: the symbols of the stepped row are the image at all places. No program. No condition. A row stepped by a good rule: row.Step. Condition: table and row read from memory; the error variables hold what E says. -/
import Derived.Test.YtedmmmlahpmmoaaGreatDoorV6
import Derived.Test.YtedmmmlahpmmoaaGreatDoorV18
import Derived.Test.YtedmmmlahpmmoaaGreatDoorV24
import Derived.Test.YtedmmmlahpmmoaaGreatDoorV25
namespace Go.Proofs.YtedmmmlahpmmoaaGreatDoor
namespace RuleP

/-- The symbol of a row at a place. -/
def rowSym (a : Int) (l c r : List Nat) (z : Int) : Nat := if z - a < 0 then cy l (z - a) else if z - a < (c.length : Int) then c.getD (z - a).toNat 0 else cy r (z - a - (c.length : Int))
theorem rowSym_lt {k : Nat} {a : Int} {l c r : List Nat} (hl : ∀ x ∈ l, x < k) (hc : ∀ x ∈ c, x < k) (hr : ∀ x ∈ r, x < k) (l0 : 0 < l.length) (r0 : 0 < r.length) (z : Int) : rowSym a l c r z < k := by
  unfold rowSym
  split
  · exact cy_sym hl l0 _
  · split
    · rename_i h1 h2
      rw [List.getD_eq_getElem?_getD, List.getElem?_eq_getElem (by omega)]
      exact hc _ (List.getElem_mem _)
    · exact cy_sym hr r0 _
theorem rowSym_left {a : Int} {l c r : List Nat} {z : Int} (q : Int) (h1 : z < a) (h2 : z + (l.length : Int) * q < a) : rowSym a l c r (z + (l.length : Int) * q) = rowSym a l c r z := by
  unfold rowSym
  rw [if_pos (by omega), if_pos (by omega), show z + (l.length : Int) * q - a = z - a + (l.length : Int) * q by omega, cy_add]
theorem rowSym_right {a : Int} {l c r : List Nat} {z : Int} (q : Int) (h1 : a + (c.length : Int) ≤ z) (h2 : a + (c.length : Int) ≤ z + (r.length : Int) * q) : rowSym a l c r (z + (r.length : Int) * q) = rowSym a l c r z := by
  unfold rowSym
  rw [if_neg (by omega), if_neg (by omega), if_neg (by omega), if_neg (by omega), show z + (r.length : Int) * q - a - (c.length : Int) = z - a - (c.length : Int) + (r.length : Int) * q by omega, cy_add]
theorem stepZ_shift {k r : Nat} {t : List Nat} {c : Int → Nat} {x y : Int} (h : ∀ j : Nat, j < 2 * r + 1 → c (x - (r : Int) + (j : Int)) = c (y - (r : Int) + (j : Int))) : stepZ k r t c x = stepZ k r t c y := by
  unfold stepZ
  congr 1
  unfold winZ
  refine List.map_congr_left fun j hj => ?_
  exact h j (List.mem_range.1 hj)
theorem cy_winZ {c : Int → Nat} {m : Nat} (hm : 0 < m) (a z : Int) : cy (winZ c m a) z = c (a + z % (m : Int)) := by
  have h1 := Int.emod_nonneg z (show (m : Int) ≠ 0 by omega)
  have h2 := Int.emod_lt_of_pos z (show (0 : Int) < (m : Int) by omega)
  unfold cy
  rw [winZ_len, winZ_at c (by omega)]
  congr 1
  omega
/-- The stepped row. -/
theorem row_step {k ρ : Nat} {t : List Nat} {a : Int} {l c r : List Nat} (l0 : 0 < l.length) (r0 : 0 < r.length) :
    rowSym (a - (ρ : Int)) (winZ (stepZ k ρ t (rowSym a l c r)) l.length (a - (ρ : Int) - (l.length : Int))) (winZ (stepZ k ρ t (rowSym a l c r)) (c.length + 2 * ρ) (a - (ρ : Int))) (winZ (stepZ k ρ t (rowSym a l c r)) r.length (a - (ρ : Int) + ((c.length + 2 * ρ : Nat) : Int))) = stepZ k ρ t (rowSym a l c r) := by
  funext z
  obtain ⟨y, hy⟩ : ∃ y, z - (a - (ρ : Int)) = y := ⟨_, rfl⟩
  have hz : z = a - (ρ : Int) + y := by omega
  subst hz
  obtain ⟨S, hS⟩ : ∃ S, stepZ k ρ t (rowSym a l c r) = S := ⟨_, rfl⟩
  rw [hS]
  unfold rowSym at ⊢
  rw [hy, winZ_len]
  split
  · rename_i h0
    rw [cy_winZ l0, ← hS]
    refine stepZ_shift fun j hj => ?_
    have h1 := Int.emod_nonneg y (show (l.length : Int) ≠ 0 by omega)
    have h2 := Int.emod_lt_of_pos y (show (0 : Int) < (l.length : Int) by omega)
    have h3 := Int.mul_ediv_add_emod y (l.length : Int)
    have e : a - (ρ : Int) + y - (ρ : Int) + (j : Int) = (a - (ρ : Int) - (l.length : Int) + y % (l.length : Int) - (ρ : Int) + (j : Int)) + (l.length : Int) * (y / (l.length : Int) + 1) := by
      rw [Int.mul_add, Int.mul_one]
      omega
    rw [e, rowSym_left _ (by omega) (by rw [← e]; omega)]
  · split
    · rename_i h0 h1
      rw [winZ_at _ (by omega)]
      congr 1
      omega
    · rename_i h0 h1
      rw [cy_winZ r0, ← hS]
      refine stepZ_shift fun j hj => ?_
      have h2 := Int.emod_nonneg (y - ((c.length + 2 * ρ : Nat) : Int)) (show (r.length : Int) ≠ 0 by omega)
      have h3 := Int.emod_lt_of_pos (y - ((c.length + 2 * ρ : Nat) : Int)) (show (0 : Int) < (r.length : Int) by omega)
      have h4 := Int.mul_ediv_add_emod (y - ((c.length + 2 * ρ : Nat) : Int)) (r.length : Int)
      have e : a - (ρ : Int) + y - (ρ : Int) + (j : Int) = (a - (ρ : Int) + ((c.length + 2 * ρ : Nat) : Int) + (y - ((c.length + 2 * ρ : Nat) : Int)) % (r.length : Int) - (ρ : Int) + (j : Int)) + (r.length : Int) * ((y - ((c.length + 2 * ρ : Nat) : Int)) / (r.length : Int)) := by
        omega
      rw [e, rowSym_right _ (by omega) (by rw [← e]; omega)]
end RuleP
end Go.Proofs.YtedmmmlahpmmoaaGreatDoor

namespace Go.Proofs.YtedmmmlahpmmoaaGreatDoor
open Go.RowKit RuleP

def RowD.toV (D : RowD) : RowV := ⟨D.at_, D.AL, D.nl, D.cl, D.AC, D.nc, D.cc, D.AR, D.nr, D.cr, ints D.l, ints D.c, ints D.r⟩
/-- The row that a step makes. -/
structure RowTo (k r : Nat) (t : List Nat) (D D' : RowD) : Prop where
  at_ : D'.at_ = D.at_ - (r : Int)
  nl : D'.nl = D.nl
  nc : D'.nc = D.nc + 2 * r
  nr : D'.nr = D.nr
  l : D'.l = winZ (stepZ k r t D.sym) D.nl (D.at_ - (r : Int) - (D.nl : Int))
  c : D'.c = winZ (stepZ k r t D.sym) (D.nc + 2 * r) (D.at_ - (r : Int))
  r : D'.r = winZ (stepZ k r t D.sym) D.nr (D.at_ - (r : Int) + ((D.nc + 2 * r : Nat) : Int))
theorem sl_sub {w : World} {ad : Addr} {n : Nat} {xs : List Value} (h : Sl w (some ad) n xs) {i m : Nat} (hi : i + m ≤ n) : Sl w (some (ad.add i)) m ((xs.drop i).take m) :=
  ⟨by rw [List.length_take, List.length_drop, h.1]; omega, fun j v hj => ⟨_, rfl, sl_part h hi ad rfl j v hj⟩⟩
theorem odd_ints {k : Nat} {l : List Nat} (h : ∀ x ∈ l, x < k) : odd (k : Int) (ints l) = none := odd_of fun x hx => by
  obtain ⟨y, hy, rfl⟩ := List.mem_map.1 hx
  have := h y hy
  omega
/-- A row's lists hold symbols. -/
def RowSym (k : Nat) (D : RowD) : Prop := (∀ x ∈ D.l, x < k) ∧ (∀ x ∈ D.c, x < k) ∧ ∀ x ∈ D.r, x < k
theorem row_fit {k : Nat} {D : RowD} (hs : RowSym k D) (a1 : -4096 ≤ D.at_) (a2 : D.at_ ≤ 4096) (l0 : 0 < D.nl) (l1 : D.nl ≤ 8192) (r0 : 0 < D.nr) (r1 : D.nr ≤ 8192) (c1 : D.nc ≤ 16384) : RowFit k D.toV :=
  ⟨a1, a2, l0, r0, l1, r1, c1, odd_ints hs.1, odd_ints hs.2.1, odd_ints hs.2.2⟩
theorem rowCheck_d (w : World) (E : Nat → Addr) (hE : Errs w E) (k : Nat) (hk1 : 1 ≤ k) (hk4 : k ≤ 4) (D : RowD) (hD : RowIs w D) (hs : RowSym k D) (a1 : -4096 ≤ D.at_) (a2 : D.at_ ≤ 4096) (l0 : 0 < D.nl) (l1 : D.nl ≤ 8192) (r0 : 0 < D.nr) (r1 : D.nr ≤ 8192) (c1 : D.nc ≤ 16384) :
    Calls Tryz.prog 8 #[.int .i64 (k : Int), D.val] w fun e w' => e = .returned .nilIface ∧ Below w.heap.size w w' := by
  refine (rowCheck_c w E hE k hk1 hk4 D.toV ⟨hD.l, hD.c, hD.r⟩).mono ?_
  rintro e w' ⟨⟨v, rfl, h, _⟩, hb⟩
  rw [h (row_fit hs a1 a2 l0 l1 r0 r1 c1)]
  exact ⟨rfl, hb⟩
theorem words_oneI (l : List Nat) : ∀ u ∈ (ints l).map (Value.int .i64), u.oneCell' = true := by
  rw [ints_map]
  exact words_one l
theorem clone_m (w : World) (A : Option Addr) (m c : Nat) (xs : List Nat) (hm : m ≤ 10000) (h : Sl w A m ((ints xs).map (Value.int .i64))) :
    Calls Tryz.prog 23 #[.slice A m c] w fun e w' => ∃ C cc, e = .returned (.slice C m cc) ∧ w'.ownsRow w.heap.size 3 1 (.slice C m cc) m ((ints xs).map (Value.int .i64)) ∧ Below w.heap.size w w' := by
  refine (clone_c w A m c _ (words_oneI _) (by omega) h).mono ?_
  rintro e w' ⟨C, cc, rfl, ho, hb⟩
  exact ⟨C, cc, rfl, ho, hb⟩
theorem RowAt.set4 {w : World} {g : Nat} {x0 x1 x2 x3 : Value} (h : RowAt w g x0 x1 x2 x3) (u0 u1 u2 u3 : Value) : RowAt ((((w.setCell ⟨g, 0, none⟩ u0).setCell ⟨g, 1, none⟩ u1).setCell ⟨g, 2, none⟩ u2).setCell ⟨g, 3, none⟩ u3) g u0 u1 u2 u3 := by
  unfold RowAt at *
  simp only [World.setCell]
  simp [Array.getElem?_modify, h]
theorem keeps_set4 (w : World) (g : Nat) (u0 u1 u2 u3 : Value) : Keeps (fun k => k = g) w ((((w.setCell ⟨g, 0, none⟩ u0).setCell ⟨g, 1, none⟩ u1).setCell ⟨g, 2, none⟩ u2).setCell ⟨g, 3, none⟩ u3) :=
  (keeps_set3 w g u0 u1 u2).trans (Keeps.of_setCell _ ⟨g, 3, none⟩ u3) (fun _ _ h => h)
theorem sl_at {w : World} {g n c base e : Nat} {xs : List Nat} (h : w.ownsRow base e 1 (.slice (some ⟨g, 0, none⟩) n c) n ((ints xs).map (Value.int .i64))) {i m : Nat} (hi : i + m ≤ n) : Sl w (some ⟨g, i, none⟩) m ((ints ((xs.drop i).take m)).map (Value.int .i64)) := by
  have h1 := sl_sub (Sl.of_own h) hi
  have e1 : (⟨g, 0, none⟩ : Addr).add i = ⟨g, i, none⟩ := by
    simp [Addr.add]
    omega
  rw [e1] at h1
  have e2 : (ints ((xs.drop i).take m)).map (Value.int .i64) = (((ints xs).map (Value.int .i64)).drop i).take m := by
    rw [ints_map, ints_map, List.map_take, List.map_drop]
  rw [e2]
  exact h1
/-- How long a slice is. -/
def lenV : Value → Nat
  | .slice _ n _ => n
  | _ => 0

set_option maxRecDepth 100000 in
set_option maxHeartbeats 4000000 in
theorem rowStep_c (w : World) (E : Nat → Addr) (hE : Errs w E) (k r : Nat) (A : Option Addr) (n c : Nat) (t : List Nat) (hr : IsRule k r t) (hT : Sl w A n ((ints t).map (Value.int .i64))) (D : RowD) (hD : RowIs w D) (hs : RowSym k D)
    (a1 : -4096 ≤ D.at_ - (r : Int)) (a2 : D.at_ ≤ 4096) (l0 : 0 < D.nl) (l1 : D.nl ≤ 100) (r0 : 0 < D.nr) (r1 : D.nr ≤ 100) (c1 : D.nc ≤ 1010) :
    Calls Tryz.prog 9 #[ruleV (k : Int) (r : Int) A n c, D.val] w fun e w' => ∃ D' : RowD, e = .returned (.tuple #[D'.val, .nilIface]) ∧ RowIs w' D' ∧ RowTo k r t D D' ∧ Below w.heap.size w w' := by
  have hk1 := hr.k1
  have hk4 := hr.k4
  have hr3 := hr.r3
  have hn16 : n ≤ 9223372036854775807 := by
    have h1 : t.length = n := by simpa [ints] using hT.1
    have h2 := hr.le
    omega
  obtain ⟨ov, hov⟩ : ∃ ov : Obj, Obj.cells #[.int .i64 (k : Int), .int .i64 (r : Int), .slice A n c] 24 = ov := ⟨_, rfl⟩
  obtain ⟨od, hod⟩ : ∃ od : Obj, Obj.cells #[.int .i64 D.at_, .slice D.AL D.nl D.cl, .slice D.AC D.nc D.cc, .slice D.AR D.nr D.cr] 26 = od := ⟨_, rfl⟩
  obtain ⟨oz, hoz⟩ : ∃ oz : Obj, Obj.cells #[.int .i64 0, .slice none 0 0, .slice none 0 0, .slice none 0 0] 26 = oz := ⟨_, rfl⟩
  have hR := (((RuleAt.new w (.int .i64 (k : Int)) (.int .i64 (r : Int)) (.slice A n c)).alloc od).alloc oz)
  have hW := ((RowAt.new (w.alloc ov) (.int .i64 D.at_) (.slice D.AL D.nl D.cl) (.slice D.AC D.nc D.cc) (.slice D.AR D.nr D.cr)).alloc oz)
  have hZ := RowAt.new ((w.alloc ov).alloc od) (.int .i64 0) (.slice none 0 0) (.slice none 0 0) (.slice none 0 0)
  rw [hov] at hR
  rw [hod, World.size_alloc] at hW
  rw [hoz, World.size_alloc, World.size_alloc] at hZ
  have b3 := (((Below.refl w.heap.size w).alloc (Nat.le_refl _) ov).alloc (by simp) od).alloc (by simp; omega) oz
  obtain ⟨w3, hw3⟩ : ∃ w3, ((w.alloc ov).alloc od).alloc oz = w3 := ⟨_, rfl⟩
  rw [hw3] at hR hW hZ b3
  obtain ⟨f0, f1, f2, _⟩ := hR.facts
  have HCK := Lib.hid (show Calls Tryz.prog 19 #[ruleV (k : Int) (r : Int) A n c] w3 fun e w' => e = .returned .nilIface ∧ Below w3.heap.size w3 w' by
    have h := check_c w3 E (hE.below b3) k r A n c (ints t) (hT.below b3) hn16
    rw [check_rule hr] at h
    exact h.mono fun e w' ⟨v, he, hv, hb⟩ => ⟨by rw [he, show v = .nilIface from hv], hb⟩)
  have HROW := Lib.hid (fun (wz : World) (hz : Below w.heap.size w wz) => (by
    have h := rowCheck_d wz E (hE.below hz) k hk1 hk4 D (hD.below hz) hs (by omega) a2 l0 (by omega) r0 (by omega) (by omega)
    unfold RowD.val at h
    exact h : Calls Tryz.prog 8 #[.int .i64 (k : Int), .agg #[.int .i64 D.at_, .slice D.AL D.nl D.cl, .slice D.AC D.nc D.cc, .slice D.AR D.nr D.cr]] wz fun e w' => e = .returned .nilIface ∧ Below wz.heap.size wz w'))
  have HPC := Lib.hid (fun (wz : World) (f : Int) (m : Nat) (hz : Below w.heap.size w wz) (h1 : -500000 ≤ f) (h2 : f ≤ 500000) (h3 : 0 < m) (h4 : m ≤ 200000) => (by
    have h := piece_c wz D (hD.below hz) ⟨by omega, by omega, l0, by omega, by omega, r0, by omega⟩ f m h1 h2 h3 h4
    unfold RowD.val at h
    exact h : Calls Tryz.prog 21 #[.agg #[.int .i64 D.at_, .slice D.AL D.nl D.cl, .slice D.AC D.nc D.cc, .slice D.AR D.nr D.cr], .int .i64 f, .int .i64 (m : Int)] wz fun e w' => ∃ g, e = .returned (.slice (some ⟨g, 0, none⟩) m m) ∧ w'.ownsRow wz.heap.size 3 1 (.slice (some ⟨g, 0, none⟩) m m) m ((ints (winZ D.sym m f)).map (Value.int .i64)) ∧ Below wz.heap.size wz w'))
  -- the numbers
  have hll : D.l.length = D.nl := by simpa [ints] using hD.l.1
  have hcl : D.c.length = D.nc := by simpa [ints] using hD.c.1
  have hrl : D.r.length = D.nr := by simpa [ints] using hD.r.1
  have hlt : ∀ z, D.sym z < k := rowSym_lt hs.1 hs.2.1 hs.2.2 (by omega) (by omega)
  have HTT := Lib.hid (fun (wz : World) (hz : Below w.heap.size w wz) (B : Option Addr) (m d : Nat) (v : List Nat) (M : Nat) (hv : ∀ x ∈ v, x < k) (hB : Sl wz B m ((ints v).map (Value.int .i64))) (hm : m ≤ 4096) (hM : v.length - 2 * r = M) => (by
    have h := step_m wz E (hE.below hz) k r A B n c m d M t v hr hv (hT.below hz) hB hm hM
    unfold ruleV at h
    exact h : Calls Tryz.prog 22 #[.agg #[.int .i64 (k : Int), .int .i64 (r : Int), .slice A n c], .slice B m d] wz fun e w' => ∃ C c', e = .returned (.tuple #[.slice C M c', .nilIface]) ∧ w'.ownsRow wz.heap.size 3 1 (.slice C M c') M ((ints (image k r t v)).map (Value.int .i64)) ∧ Below wz.heap.size wz w'))
  obtain ⟨at0, AL, nl, cl, AC, nc, cc, AR, nr, cr, Ll, Lc, Lr⟩ := D
  simp only at a1 a2 l0 l1 r0 r1 c1 hll hcl hrl f0 f1 f2 hR hW hZ
  obtain ⟨S, hS⟩ : ∃ S, stepZ k r t (RowD.sym ⟨at0, AL, nl, cl, AC, nc, cc, AR, nr, cr, Ll, Lc, Lr⟩) = S := ⟨_, rfl⟩
  obtain ⟨sym, hsym⟩ : ∃ sym, RowD.sym ⟨at0, AL, nl, cl, AC, nc, cc, AR, nr, cr, Ll, Lc, Lr⟩ = sym := ⟨_, rfl⟩
  obtain ⟨x1, hx1⟩ : ∃ x1 : Int, at0 - (r : Int) = x1 := ⟨_, rfl⟩
  obtain ⟨r2, hr2⟩ : ∃ r2 : Nat, 2 * r = r2 := ⟨_, rfl⟩
  obtain ⟨N, hN⟩ : ∃ N : Nat, nc + r2 = N := ⟨_, rfl⟩
  obtain ⟨x2, hx2⟩ : ∃ x2 : Int, x1 - (nl : Int) = x2 := ⟨_, rfl⟩
  obtain ⟨f, hf⟩ : ∃ f : Int, x2 - (r : Int) = f := ⟨_, rfl⟩
  obtain ⟨s1, hs1⟩ : ∃ s1 : Nat, nl + N = s1 := ⟨_, rfl⟩
  obtain ⟨s2, hs2⟩ : ∃ s2 : Nat, s1 + nr = s2 := ⟨_, rfl⟩
  obtain ⟨M, hM⟩ : ∃ M : Nat, s2 + r2 = M := ⟨_, rfl⟩
  have e1 : IntKind.i64.wrap (at0 - (r : Int)) = x1 := by rw [hx1]; exact IntWalk.i64_in _ (by omega)
  have e2 : IntKind.i64.wrap (2 * (r : Int)) = (r2 : Int) := by rw [show 2 * (r : Int) = (r2 : Int) by omega]; exact IntWalk.i64_in _ (by omega)
  have e3 : IntKind.i64.wrap ((nc : Int) + (r2 : Int)) = (N : Int) := by rw [show (nc : Int) + (r2 : Int) = (N : Int) by omega]; exact IntWalk.i64_in _ (by omega)
  have e4 : IntKind.i64.wrap (x1 - (nl : Int)) = x2 := by rw [hx2]; exact IntWalk.i64_in _ (by omega)
  have e5 : IntKind.i64.wrap (x2 - (r : Int)) = f := by rw [hf]; exact IntWalk.i64_in _ (by omega)
  have e6 : IntKind.i64.wrap ((nl : Int) + (N : Int)) = (s1 : Int) := by rw [show (nl : Int) + (N : Int) = (s1 : Int) by omega]; exact IntWalk.i64_in _ (by omega)
  have e7 : IntKind.i64.wrap ((s1 : Int) + (nr : Int)) = (s2 : Int) := by rw [show (s1 : Int) + (nr : Int) = (s2 : Int) by omega]; exact IntWalk.i64_in _ (by omega)
  have e8 : IntKind.i64.wrap ((s2 : Int) + (r2 : Int)) = (M : Int) := by rw [show (s2 : Int) + (r2 : Int) = (M : Int) by omega]; exact IntWalk.i64_in _ (by omega)
  have k1 : ¬ x1 < -4096 := by omega
  have k2 : ¬ (16384 : Int) < (N : Int) := by omega
  have k3 : (r2 : Int) < (M : Int) := by omega
  have k4 : (M : Int) < 4096 := by omega
  have k5 : ¬ (r2 : Int) < (r2 : Int) := by omega
  have HR := Lib.hid hR
  have HW := Lib.hid hW
  have HZ := Lib.hid hZ
  have B3 := Lib.hid b3
  have HW3 := Lib.hid (And.intro hw3 (And.intro hov (And.intro hod hoz)))
  rw [← hw3, ← hov, ← hod, ← hoz] at f0 f1 f2
  clear hE hT hs hR hW hZ b3 hw3 hD hov hod hoz
  unfold ruleV RowD.val at *
  simp only
  go_enter Tryz.func9, Tryz.ntmps9
  go_wp2_with fail
  rw [HW3.out.2.1, HW3.out.2.2.1, HW3.out.2.2.2, HW3.out.1]
  clear f0 f1 f2
  refine (HCK.out).mono ?_
  rintro e w4 ⟨rfl, b4⟩
  have B4 := Lib.hid (B3.out.trans (b4.mono B3.out.size))
  have HR4 := Lib.hid (HR.out.below b4 HR.out.lt)
  have HW4 := Lib.hid (HW.out.below b4 HW.out.lt)
  have HZ4 := Lib.hid (HZ.out.below b4 HZ.out.lt)
  have HRO := Lib.hid (HROW.out w4 B4.out)
  obtain ⟨f0, f1, f2, _⟩ := HR4.out.facts
  obtain ⟨g0, g1, g2, g3, _⟩ := HW4.out.facts
  clear b4
  go_wp2_with fail
  refine (HRO.out).mono ?_
  rintro e w5 ⟨rfl, b5⟩
  have B5 := Lib.hid (B4.out.trans (b5.mono B4.out.size))
  have HR5 := Lib.hid (HR4.out.below b5 HR4.out.lt)
  have HW5 := Lib.hid (HW4.out.below b5 HW4.out.lt)
  have HZ5 := Lib.hid (HZ4.out.below b5 HZ4.out.lt)
  clear b5 f0 f1 f2 g0 g1 g2 g3
  obtain ⟨f0, f1, f2, _⟩ := HR5.out.facts
  obtain ⟨g0, g1, g2, g3, _⟩ := HW5.out.facts
  go_wp2_with (go_quiet (fail))
  obtain ⟨v5, hv5⟩ : ∃ v5, w5.drewN nq = v5 := ⟨_, rfl⟩
  have B6 : Hid (Below w.heap.size w v5) := Lib.hid (by rw [← hv5]; exact below_drewN B5.out _)
  have HR6 : Hid (RuleAt v5 w.heap.size (.int .i64 (k : Int)) (.int .i64 (r : Int)) (.slice A n c)) := Lib.hid (by rw [← hv5]; exact HR5.out)
  have HW6 : Hid (RowAt v5 (w.heap.size + 1) (.int .i64 at0) (.slice AL nl cl) (.slice AC nc cc) (.slice AR nr cr)) := Lib.hid (by rw [← hv5]; exact HW5.out)
  have HZ6 : Hid (RowAt v5 (w.heap.size + 1 + 1) (.int .i64 0) (.slice none 0 0) (.slice none 0 0) (.slice none 0 0)) := Lib.hid (by rw [← hv5]; exact HZ5.out)
  rw [hv5]
  clear f0 f1 f2 g0 g1 g2 g3 hv5
  refine (HPC.out v5 f M B6.out (by omega) (by omega) (by omega) (by omega)).mono ?_
  rintro e w6 ⟨g, rfl, ho, b6⟩
  rw [hsym] at ho
  have hg6 : g < w6.heap.size := (ho.lt g rfl).2
  have B7 := Lib.hid (B6.out.trans (b6.mono B6.out.size))
  have HR7 := Lib.hid (HR6.out.below b6 HR6.out.lt)
  have HW7 := Lib.hid (HW6.out.below b6 HW6.out.lt)
  have HZ7 := Lib.hid (HZ6.out.below b6 HZ6.out.lt)
  have HO7 := Lib.hid (Sl.of_own ho)
  clear b6 ho
  have HIM := Lib.hid (show image k r t (winZ sym M f) = winZ S s2 x2 by
    rw [show M = s2 + 2 * r by omega, image_winZ, ← hS, ← hsym, show f + (r : Int) = x2 by omega])
  have HSY := Lib.hid (show ∀ x ∈ winZ sym M f, x < k from winZ_sym (by rw [← hsym]; exact hlt) _ _)
  have hMs : M - s2 = r2 := by omega
  have hMs' : s2 ≤ M := by omega
  have hMn : ¬ (4096 : Int) < (M : Int) := by omega
  have hMe : ¬ (M : Int) = 4096 := by omega
  have hMi : min (M : Int) 4096 = (M : Int) := by omega
  have hMi' : (if (4096 : Int) < (M : Int) then 4096 else (M : Int)) = (M : Int) := if_neg hMn
  have hs20 : 0 < s2 := by omega
  go_wp2_with fail
  go_loopw [11, 12] (fun xv yv wl => (xv = .slice (some ⟨g, 0, none⟩) M M ∧ yv = .slice none 0 0 ∧ wl = w6) ∨ (∃ (A' : Option Addr) (c' : Nat) (C : Option Addr) (cc : Nat), xv = .slice A' r2 c' ∧ yv = .slice C s2 cc ∧ Hid (wl.ownsRow w.heap.size 3 1 (.slice C s2 cc) s2 ((ints (winZ S s2 x2)).map (Value.int .i64))) ∧ Hid (RuleAt wl w.heap.size (.int .i64 (k : Int)) (.int .i64 (r : Int)) (.slice A n c)) ∧ Hid (RowAt wl (w.heap.size + 1 + 1) (.int .i64 0) (.slice none 0 0) (.slice none 0 0) (.slice none 0 0)) ∧ Hid (Below w.heap.size w wl))) (fun xv _ _ => lenV xv)
  case atStart => exact .inl ⟨rfl, rfl, rfl⟩
  case round =>
    rcases hrel with ⟨rfl, rfl, rfl⟩ | ⟨A', c', C, cc', rfl, rfl, HO, HR8, HZ8, B8⟩
    · obtain ⟨f0, f1, f2, _⟩ := HR7.out.facts
      have HST := Lib.hid (HTT.out wr B7.out (some ⟨g, 0, none⟩) M M (winZ sym M f) s2 HSY.out HO7.out (by omega) (by rw [winZ_len]; omega))
      go_wp2_with fail
      refine (HST.out).mono ?_
      rintro e w8 ⟨C, cc', rfl, ho8, b8⟩
      rw [HIM.out] at ho8
      have B8 := Lib.hid (B7.out.trans (b8.mono B7.out.size))
      have HR8 := Lib.hid (HR7.out.below b8 HR7.out.lt)
      have HZ8 := Lib.hid (HZ7.out.below b8 HZ7.out.lt)
      have HO8 := Lib.hid ho8
      clear b8 ho8 f0 f1 f2
      go_wp2_with (at_builtin; refine wpList_cat rfl _ _ _ rfl tInts (World.ownsRow_nil w8 w.heap.size _ _) rfl (Sl.of_own HO8.out) rfl (words_oneI _) (by simp only [maxLen]; omega) (by omega) B8.out.size ?_; intro v9 w9 hown9 hg9 _ _)
      rw [Nat.zero_add, List.nil_append] at hown9
      obtain ⟨C9, cc9, rfl, _, _⟩ := own_slice hown9
      have hb9 : Below w8.heap.size w8 w9 := (Keeps.of_grown hg9).below (Nat.le_refl _) (fun k hk => by simp [Value.ownBlock] at hk)
      have HO9 := Lib.hid hown9
      have HR9 := Lib.hid (HR8.out.below hb9 HR8.out.lt)
      have HZ9 := Lib.hid (HZ8.out.below hb9 HZ8.out.lt)
      have B9 := Lib.hid (B8.out.trans (hb9.mono B8.out.size))
      refine ⟨.inr ⟨_, _, _, _, rfl, rfl, HO9, HR9, HZ9, B9⟩, ?_⟩
      show r2 < M
      omega
    · obtain ⟨f0, f1, f2, _⟩ := HR8.out.facts
      obtain ⟨g', cap', hCe, _⟩ := HO.out.form hs20
      cases hCe
      have hcap := own_le HO.out
      have hNs : nl ≤ s2 := by omega
      have hss : s1 ≤ s2 := by omega
      have hls : nl ≤ s1 := by omega
      have hlc : nl ≤ cc' := by omega
      have hsc : s1 ≤ cc' := by omega
      have h2c : s2 ≤ cc' := by omega
      have hd1 : s1 - nl = N := by omega
      have hn1 : ¬ cc' = nl := by omega
      have hn2 : ¬ cc' = s1 := by omega
      have hd2 : s2 - s1 = nr := by omega
      have hgw : w.heap.size ≤ g' := (HO.out.lt g' rfl).1
      have hc0 : ∀ (wz : World), Below wr.heap.size wr wz → ∀ cz, Calls Tryz.prog 23 #[.slice (some ⟨g', 0, none⟩) nl cz] wz fun e w' => ∃ C cc, e = .returned (.slice C nl cc) ∧ w'.ownsRow wz.heap.size 3 1 (.slice C nl cc) nl ((ints (((winZ S s2 x2).drop 0).take nl)).map (Value.int .i64)) ∧ Below wz.heap.size wz w' :=
        fun wz hz cz => clone_m wz _ nl cz _ (by omega) ((sl_at HO.out (by omega)).below hz)
      have hc1 : ∀ (wz : World), Below wr.heap.size wr wz → ∀ cz, Calls Tryz.prog 23 #[.slice (some ⟨g', nl, none⟩) N cz] wz fun e w' => ∃ C cc, e = .returned (.slice C N cc) ∧ w'.ownsRow wz.heap.size 3 1 (.slice C N cc) N ((ints (((winZ S s2 x2).drop nl).take N)).map (Value.int .i64)) ∧ Below wz.heap.size wz w' :=
        fun wz hz cz => clone_m wz _ N cz _ (by omega) ((sl_at HO.out (by omega)).below hz)
      have hc2 : ∀ (wz : World), Below wr.heap.size wr wz → ∀ cz, Calls Tryz.prog 23 #[.slice (some ⟨g', s1, none⟩) nr cz] wz fun e w' => ∃ C cc, e = .returned (.slice C nr cc) ∧ w'.ownsRow wz.heap.size 3 1 (.slice C nr cc) nr ((ints (((winZ S s2 x2).drop s1).take nr)).map (Value.int .i64)) ∧ Below wz.heap.size wz w' :=
        fun wz hz cz => clone_m wz _ nr cz _ (by omega) ((sl_at HO.out (by omega)).below hz)
      have HC0 := Lib.hid hc0
      have HC1 := Lib.hid hc1
      have HC2 := Lib.hid hc2
      clear hc0 hc1 hc2
      go_upto_region 20 with fail
      go_region_law (first
        | (go_simp
           go_at_call 23
           with_reducible refine (HC0.out _ ?_ _).mono ?_
           · repeat (first | with_reducible exact Below.refl _ _ | with_reducible refine bl_dr ?_)
           rintro e w10 ⟨C10, cc10, rfl, hs10, hb10⟩
           have hB10 : Below wr.heap.size wr w10 := by
             refine bl_call (Nat.le_refl _) hb10 ?_
             repeat (first | with_reducible exact Below.refl _ _ | with_reducible refine bl_dr ?_)
           have HB10 := Lib.hid hB10
           have HS10 := Lib.hid hs10
           clear hB10 hs10 hb10
           dsimp only)
        | (go_simp
           go_at_call 23
           with_reducible refine (HC1.out _ ?_ _).mono ?_
           · repeat (first | with_reducible exact HB10.out | with_reducible refine bl_dr ?_)
           rintro e w11 ⟨C11, cc11, rfl, hs11, hb11⟩
           have hB11 : Below w10.heap.size w10 w11 := by
             refine bl_call (Nat.le_refl _) hb11 ?_
             repeat (first | with_reducible exact Below.refl _ _ | with_reducible refine bl_dr ?_)
           have HB11 := Lib.hid (HB10.out.trans (hB11.mono HB10.out.size))
           have HS11 := Lib.hid (And.intro (own_below HS10.out hB11) hs11)
           clear hB11 hs11 hb11
           dsimp only)
        | (go_simp
           go_at_call 23
           with_reducible refine (HC2.out _ ?_ _).mono ?_
           · repeat (first | with_reducible exact HB11.out | with_reducible refine bl_dr ?_)
           rintro e w12 ⟨C12, cc12, rfl, hs12, hb12⟩
           have hB12 : Below w11.heap.size w11 w12 := by
             refine bl_call (Nat.le_refl _) hb12 ?_
             repeat (first | with_reducible exact Below.refl _ _ | with_reducible refine bl_dr ?_)
           have HB12 := Lib.hid (HB11.out.trans (hB12.mono HB11.out.size))
           have HS12 := Lib.hid (And.intro (own_below HS11.out.1 hB12) (And.intro (own_below HS11.out.2 hB12) hs12))
           obtain ⟨z0, z1, z2, z3, z4, z5, z6, z7⟩ := (HZ8.out.below HB12.out HZ8.out.lt).facts
           clear hB12 hs12 hb12
           dsimp only)
        | fail)
      all_goals
        have hz12 := HZ8.out.below HB12.out HZ8.out.lt
        have hz := hz12.set4 (.int .i64 x1) (.slice C10 nl cc10) (.slice C11 N cc11) (.slice C12 nr cc12)
        obtain ⟨d0, d1, d2, d3, _⟩ := hz.facts
        have hk := keeps_set4 w12 (w.heap.size + 1 + 1) (.int .i64 x1) (.slice C10 nl cc10) (.slice C11 N cc11) (.slice C12 nr cc12)
        have n10 := own_keeps HS12.out.1 hk (fun g hg e => own_ne_blk HS12.out.1 hz12 (by decide) (by rw [hg, e]))
        have n11 := own_keeps HS12.out.2.1 hk (fun g hg e => own_ne_blk HS12.out.2.1 hz12 (by decide) (by rw [hg, e]))
        have n12 := own_keeps HS12.out.2.2 hk (fun g hg e => own_ne_blk HS12.out.2.2 hz12 (by decide) (by rw [hg, e]))
        have hbb := (B8.out.trans (HB12.out.mono B8.out.size)).trans (hk.below (B8.out.trans (HB12.out.mono B8.out.size)).size (fun j hj => by omega))
        clear hk hz hz12 HB12 HZ8 HS12 z0 z1 z2 z3 z4 z5 z6 z7
        try go_wp2_with fail
        have q0 : ((winZ S s2 x2).drop 0).take nl = winZ S nl x2 := (winZ_win S (show 0 + nl ≤ s2 by omega) x2).trans (by congr 1; omega)
        have q1 : ((winZ S s2 x2).drop nl).take N = winZ S N x1 := (winZ_win S (show nl + N ≤ s2 by omega) x2).trans (by congr 1; omega)
        have q2 : ((winZ S s2 x2).drop s1).take nr = winZ S nr (x1 + (N : Int)) := (winZ_win S (show s1 + nr ≤ s2 by omega) x2).trans (by congr 1; omega)
        rw [q0] at n10
        rw [q1] at n11
        rw [q2] at n12
        exact bodyPost_ret (v := .tuple #[.agg #[.int .i64 x1, .slice C10 nl cc10, .slice C11 N cc11, .slice C12 nr cc12], .nilIface]) (by simp [results, Tryz.results9, go_sem, d0, d1, d2, d3]) rfl ⟨⟨x1, C10, nl, cc10, C11, N, cc11, C12, nr, cc12, winZ S nl x2, winZ S N x1, winZ S nr (x1 + (N : Int))⟩, rfl, ⟨Sl.of_own n10, Sl.of_own n11, Sl.of_own n12⟩, ⟨hx1.symm, rfl, by show N = nc + 2 * r; omega, rfl, by show winZ S nl x2 = winZ (stepZ k r t (RowD.sym _)) nl (at0 - (r : Int) - (nl : Int)); rw [hS, hx1, hx2], by show winZ S N x1 = winZ (stepZ k r t (RowD.sym _)) (nc + 2 * r) (at0 - (r : Int)); rw [hS, hx1, hr2, hN], by show winZ S nr (x1 + (N : Int)) = winZ (stepZ k r t (RowD.sym _)) nr (at0 - (r : Int) + ((nc + 2 * r : Nat) : Int)); rw [hS, hx1, hr2, hN]⟩, hbb⟩
end Go.Proofs.YtedmmmlahpmmoaaGreatDoor
