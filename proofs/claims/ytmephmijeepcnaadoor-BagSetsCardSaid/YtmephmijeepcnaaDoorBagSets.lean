/- The call of BagSets: it returns true. Condition: its two lists read from memory. -/
import Derived.Test.YtmephmijeepcnaaDoorBagLaw
import Derived.Test.YtmephmijeepcnaaDoorSetsP
import Derived.IntWalk
namespace Go.Proofs.YtmephmijeepcnaaDoor
open Go.RowKit BagP

set_option maxRecDepth 100000 in
set_option maxHeartbeats 400000 in
theorem bagSets_long (w : World) (A1 A2 : Option Addr) (n1 n2 c1 c2 : Nat) (h : 100 < n1 ∨ 100 < n2) :
    Calls Tryd.prog 4 #[.slice A1 n1 c1, .slice A2 n2 c2] w fun e w' => e = .returned (.bool true) ∧ Below w.heap.size w w' := by
  have t : (decide ((100 : Int) < (n1 : Int)) || decide ((100 : Int) < (n2 : Int))) = true := by
    rcases h with h | h
    · rw [decide_eq_true (by omega : (100 : Int) < (n1 : Int))]; rfl
    · rw [decide_eq_true (by omega : (100 : Int) < (n2 : Int))]; simp
  by_cases h1 : 100 < n1
  · go_enter Tryd.func4, Tryd.ntmps4
    go_wp2_with fail
    refine (awake_c w).mono ?_
    rintro e w1 ⟨rfl, hb1⟩
    go_wp2_with fail
    go_ret
    exact ⟨rfl, hb1⟩
  · have h2 : 100 < n2 := by omega
    go_enter Tryd.func4, Tryd.ntmps4
    go_wp2_with fail
    refine (awake_c w).mono ?_
    rintro e w1 ⟨rfl, hb1⟩
    go_wp2_with fail
    go_ret
    exact ⟨rfl, hb1⟩

def iv (x : Int) : Value := .int .i64 x

/-- Blocks from H on, but for B, B + 1, B + 2. -/
def OB (H B k : Nat) : Prop := H ≤ k ∧ (k < B ∨ B + 1 + 1 < k)

/-- The three rows that BagSets makes, and its bag, behind k rounds over x and j over y. -/
structure Loop1 (w : World) (B b H : Nat) (xs ys : List Int) (n1 n2 k j : Nat) : Prop where
  rin : w.ownsRow B 3 1 (.slice (some ⟨B, 0, none⟩) 64 64) 64 ((inn ((xs.map md).take k) ((ys.map md).take j)).map (Value.int .i64))
  ra : w.ownsRow B 3 1 (.slice (some ⟨B + 1, 0, none⟩) n1 n1) n1 ((fillTo (xs.map md) n1 0 k).map (Value.int .i64))
  rc : w.ownsRow B 3 1 (.slice (some ⟨B + 1 + 1, 0, none⟩) n2 n2) n2 ((fillTo (ys.map md) n2 0 j).map (Value.int .i64))
  bag : BagIs w (.pointer (some ⟨b, 0, none⟩)) 64 [] (fun k => H ≤ k ∧ k < B)
  lt : B + 1 + 1 < w.heap.size

theorem made3 (w : World) (n1 n2 : Nat) (h1 : n1 ≤ maxLen) (h2 : n2 ≤ maxLen) (w' : World) (hw : w' = ((w.alloc (.cells (madeCells #[.int .i64 0] 64) 3)).alloc (.cells (madeCells #[.int .i64 0] n1) 3)).alloc (.cells (madeCells #[.int .i64 0] n2) 3)) :
    w'.ownsRow w.heap.size 3 1 (.slice (some ⟨w.heap.size, 0, none⟩) 64 64) 64 ((List.replicate 64 (0 : Int)).map (Value.int .i64)) ∧
    w'.ownsRow w.heap.size 3 1 (.slice (some ⟨w.heap.size + 1, 0, none⟩) n1 n1) n1 ((List.replicate n1 (0 : Int)).map (Value.int .i64)) ∧
    w'.ownsRow w.heap.size 3 1 (.slice (some ⟨w.heap.size + 1 + 1, 0, none⟩) n2 n2) n2 ((List.replicate n2 (0 : Int)).map (Value.int .i64)) := by
  subst hw
  have mk : ∀ (u : World) (n : Nat), n ≤ maxLen → w.heap.size ≤ u.heap.size → (u.alloc (.cells (madeCells #[.int .i64 0] n) 3)).ownsRow w.heap.size 3 1 (.slice (some ⟨u.heap.size, 0, none⟩) n n) n ((List.replicate n (0 : Int)).map (Value.int .i64)) := by
    intro u n hn hu
    have := World.ownsRow_lit (base := w.heap.size) (e := 3) (size := 1) u (madeCells #[.int .i64 0] n) n hu hn (by rw [size_madeCells]; simp)
    rwa [toList_madeCells_one, ← List.map_replicate] at this
  have a1 := mk w 64 (by decide) (Nat.le_refl _)
  have a2 := mk (w.alloc (.cells (madeCells #[.int .i64 0] 64) 3)) n1 h1 (by simp)
  have a3 := mk ((w.alloc (.cells (madeCells #[.int .i64 0] 64) 3)).alloc (.cells (madeCells #[.int .i64 0] n1) 3)) n2 h2 (by simp; omega)
  simp only [World.size_alloc] at a2 a3
  exact ⟨(a1.alloc _).alloc _, a2.alloc _, a3⟩

theorem set_row {w : World} {base e g n cap : Nat} {l : List Int} (h : w.ownsRow base e 1 (.slice (some ⟨g, 0, none⟩) n cap) n (l.map (Value.int .i64))) {k : Nat} {x : Int} :
    (w.setCell ⟨g, k, none⟩ (.int .i64 x)).ownsRow base e 1 (.slice (some ⟨g, 0, none⟩) n cap) n ((l.set k x).map (Value.int .i64)) := by
  rw [List.map_set]
  exact (h.stored k _).1
theorem keep_row {w : World} {base e n : Nat} {v : Value} {xs : List Value} (h : w.ownsRow base e 1 v n xs) {a : Addr} {u : Value} (hne : v.ownBlock ≠ some a.block) : (w.setCell a u).ownsRow base e 1 v n xs :=
  own_keeps h (Keeps.of_setCell w a u) (fun g hg e' => hne (by rw [hg, e']))
theorem row_cell {w : World} {base e g n cap : Nat} {l : List Int} (h : w.ownsRow base e 1 (.slice (some ⟨g, 0, none⟩) n cap) n (l.map (Value.int .i64))) {k : Nat} {x : Int} (hk : k < n) (hx : l[k]? = some x) :
    w.cell? ⟨g, k, none⟩ = some (.int .i64 x) := by
  rw [h.cellAt k (by omega), List.getElem?_map, hx]; rfl

theorem Loop1.step1 {w : World} {B b H : Nat} {xs ys : List Int} {n1 n2 k : Nat} (L : Loop1 w B b H xs ys n1 n2 k 0) (hlx : xs.length = n1) (hk : k < n1) {x : Int} (hx : xs[k]? = some x) {y : Nat} (hy : md x = (y : Int)) :
    (∃ u, w.cell? ⟨B + 1, k, none⟩ = some u) ∧ w.frozen? ⟨B + 1, k, none⟩ = false ∧ (w.setCell ⟨B + 1, k, none⟩ (.int .i64 (y : Int))).cell? ⟨B, y, none⟩ = some (.int .i64 (flag ((xs.map md).take k) [] y)) ∧ w.frozen? ⟨B, y, none⟩ = false ∧
    Loop1 ((w.setCell ⟨B + 1, k, none⟩ (.int .i64 (y : Int))).setCell ⟨B, y, none⟩ (.int .i64 1)) B b H xs ys n1 n2 (k + 1) 0 ∧
    ∀ (w0 : World) (H0 : Nat), H0 ≤ B → Below H0 w0 w → Below H0 w0 ((w.setCell ⟨B + 1, k, none⟩ (.int .i64 (y : Int))).setCell ⟨B, y, none⟩ (.int .i64 1)) := by
  have hyl : y < 64 := by have := md_range x; omega
  have hmx : (xs.map md)[k]? = some (y : Int) := by rw [List.getElem?_map, hx]; simp [hy]
  obtain ⟨u, hu⟩ : ∃ u, (fillTo (xs.map md) n1 0 k)[k]? = some u := ⟨_, List.getElem?_eq_getElem (by rw [fillTo_len (by omega) (by simpa using hlx)]; exact hk)⟩
  have hin := L.rin
  simp only [List.take_zero] at hin
  refine ⟨⟨_, row_cell L.ra hk hu⟩, L.ra.frozenAt k, row_cell (keep_row hin (by simp [Value.ownBlock])) hyl (inn_at hyl), hin.frozenAt y, ?_, ?_⟩
  · exact {
      rin := by
        simp only [List.take_zero]
        rw [← inn_set1 hyl hmx]
        exact set_row (keep_row hin (by simp [Value.ownBlock]))
      ra := by
        rw [← fillTo_set hk hmx]
        exact keep_row (set_row L.ra) (by simp [Value.ownBlock])
      rc := keep_row (keep_row L.rc (by simp [Value.ownBlock])) (by simp [Value.ownBlock]; omega)
      bag := (L.bag.keeps (Keeps.of_setCell _ _ _) (fun q hq e => by simp at e; omega)).keeps (Keeps.of_setCell _ _ _) (fun q hq e => by simp at e; omega)
      lt := by have := L.lt; simp only [World.size_setCell]; exact this }
  · intro w0 H0 h0 hb
    exact (hb.setCell (by simp; omega) _).setCell (by simpa using h0) _

theorem Loop1.step2 {w : World} {B b H : Nat} {xs ys : List Int} {n1 n2 k : Nat} (L : Loop1 w B b H xs ys n1 n2 n1 k) (hlx : xs.length = n1) (hly : ys.length = n2) (hk : k < n2) {x : Int} (hx : ys[k]? = some x) {y : Nat} (hy : md x = (y : Int)) :
    (∃ u, w.cell? ⟨B + 1 + 1, k, none⟩ = some u) ∧ w.frozen? ⟨B + 1 + 1, k, none⟩ = false ∧ (w.setCell ⟨B + 1 + 1, k, none⟩ (.int .i64 (y : Int))).cell? ⟨B, y, none⟩ = some (.int .i64 (flag (xs.map md) ((ys.map md).take k) y)) ∧ w.frozen? ⟨B, y, none⟩ = false ∧
    Loop1 ((w.setCell ⟨B + 1 + 1, k, none⟩ (.int .i64 (y : Int))).setCell ⟨B, y, none⟩ (.int .i64 ((if (y : Int) ∈ xs.map md then 1 else 0) + 2))) B b H xs ys n1 n2 n1 (k + 1) ∧
    ∀ (w0 : World) (H0 : Nat), H0 ≤ B → Below H0 w0 w → Below H0 w0 ((w.setCell ⟨B + 1 + 1, k, none⟩ (.int .i64 (y : Int))).setCell ⟨B, y, none⟩ (.int .i64 ((if (y : Int) ∈ xs.map md then 1 else 0) + 2))) := by
  have hyl : y < 64 := by have := md_range x; omega
  have hmx : (ys.map md)[k]? = some (y : Int) := by rw [List.getElem?_map, hx]; simp [hy]
  obtain ⟨u, hu⟩ : ∃ u, (fillTo (ys.map md) n2 0 k)[k]? = some u := ⟨_, List.getElem?_eq_getElem (by rw [fillTo_len (by omega) (by simpa using hly)]; exact hk)⟩
  have hin := L.rin
  have ht : (xs.map md).take n1 = xs.map md := List.take_of_length_le (by simp [hlx])
  rw [ht] at hin
  refine ⟨⟨_, row_cell L.rc hk hu⟩, L.rc.frozenAt k, row_cell (keep_row hin (by simp [Value.ownBlock]; omega)) hyl (inn_at hyl), hin.frozenAt y, ?_, ?_⟩
  · exact {
      rin := by
        rw [ht, ← inn_set2 hyl hmx]
        exact set_row (keep_row hin (by simp [Value.ownBlock]; omega))
      ra := keep_row (keep_row L.ra (by simp [Value.ownBlock])) (by simp [Value.ownBlock])
      rc := by
        rw [← fillTo_set hk hmx]
        exact keep_row (set_row L.rc) (by simp [Value.ownBlock]; omega)
      bag := (L.bag.keeps (Keeps.of_setCell _ _ _) (fun q hq e => by simp at e; omega)).keeps (Keeps.of_setCell _ _ _) (fun q hq e => by simp at e; omega)
      lt := by have := L.lt; simp only [World.size_setCell]; exact this }
  · intro w0 H0 h0 hb
    exact (hb.setCell (by simp; omega) _).setCell (by simpa using h0) _

set_option maxRecDepth 100000 in
set_option maxHeartbeats 4000000 in
theorem bagSets_short (w : World) (A1 A2 : Option Addr) (n1 n2 c1 c2 : Nat) (xs ys : List Int) (hx : Sl w A1 n1 (xs.map (Value.int .i64))) (hy : Sl w A2 n2 (ys.map (Value.int .i64))) (l1 : n1 ≤ 100) (l2 : n2 ≤ 100) :
    Calls Tryd.prog 4 #[.slice A1 n1 c1, .slice A2 n2 c2] w fun e w' => e = .returned (.bool true) ∧ Below w.heap.size w w' := by
  have hlx : xs.length = n1 := by simpa using hx.1
  have hly : ys.length = n2 := by simpa using hy.1
  have HLX := Lib.hid hlx
  have HLY := Lib.hid hly
  clear hlx hly
  go_enter Tryd.func4, Tryd.ntmps4
  go_wp2_with fail
  refine (awake_c w).mono ?_
  rintro e w1 ⟨rfl, hb1⟩
  go_wp2_with fail
  refine (newBag_c w1 64 (by decide)).mono ?_
  rintro e w2 ⟨rfl, hB2, hb2⟩
  have hs1 := hb1.size
  have hs2 := hb2.size
  have hmk0 : ∀ wz : World, (Instr.makeSlice 22 (.int .i64 64) (.int .i64 64)).run Tryd.prog wz = .ok (.slice (some ⟨wz.heap.size, 0, none⟩) 64 64) (wz.alloc (.cells (madeCells #[.int .i64 0] 64) 3)) :=
    run_make_row' (P := Tryd.prog) 22 3 (.int .i64 0) 8 tInts.und tInts.info rfl .i64 .i64 64 (by omega) (by omega)
  have hmk1 := run_make_row' (P := Tryd.prog) 22 3 (.int .i64 0) 8 tInts.und tInts.info rfl .i64 .i64 n1 (by omega) (by omega)
  have hmk2 := run_make_row' (P := Tryd.prog) 22 3 (.int .i64 0) 8 tInts.und tInts.info rfl .i64 .i64 n2 (by omega) (by omega)
  have hB2' := hB2.restrict
  have hbw2 : Below w.heap.size w w2 := hb1.trans (hb2.mono hs1)
  clear hB2 hb2 hb1
  obtain ⟨o1, o2, o3⟩ := made3 w2 n1 n2 (by simp only [maxLen]; omega) (by simp only [maxLen]; omega) _ rfl
  have hBw := BagIs.below (BagIs.below (BagIs.below hB2' ((Below.refl _ _).alloc (Nat.le_refl _) (.cells (madeCells #[.int .i64 0] 64) 3))) ((Below.refl _ _).alloc (Nat.le_refl _) (.cells (madeCells #[.int .i64 0] n1) 3))) ((Below.refl _ _).alloc (Nat.le_refl _) (.cells (madeCells #[.int .i64 0] n2) 3))
  have hb3 : Below w.heap.size w (((w2.alloc (.cells (madeCells #[.int .i64 0] 64) 3)).alloc (.cells (madeCells #[.int .i64 0] n1) 3)).alloc (.cells (madeCells #[.int .i64 0] n2) 3)) := ((hbw2.alloc (by omega) _).alloc (by simp; omega) _).alloc (by simp; omega) _
  go_wp2_with fail
  clear hmk0 hmk1 hmk2
  go_loopw [10] (fun i wr => ∃ k : Nat, k ≤ n1 ∧ i = .int .i64 k ∧ Loop1 wr w2.heap.size (w1.heap.size + 1) w1.heap.size xs ys n1 n2 k 0 ∧ Below w.heap.size w wr) (fun i _ => n1 - (intOf i).toNat)
  case atStart => exact ⟨0, Nat.zero_le _, rfl, ⟨by simpa [inn_nil] using o1, by rw [fillTo_zero]; exact o2, by rw [fillTo_zero]; exact o3, hBw, by simp⟩, hb3⟩
  case round =>
    obtain ⟨k, hk, rfl, L, hb⟩ := hrel
    by_cases hlt : k < n1
    · obtain ⟨ad, x, rfl, hxk, hcx⟩ := (hx.below hb).int_ hlt
      obtain ⟨t1, t2⟩ := tmod_range x
      have hmd := md_tmod x
      obtain ⟨m0, m64⟩ := md_range x
      obtain ⟨y, hy⟩ := Int.eq_ofNat_of_zero_le m0
      have hyl : y < 64 := by omega
      have hst := L.step1 HLX.out hlt hxk hy
      have HY := Lib.hid hy
      rw [hy] at hmd
      clear m0 m64 hy hxk
      obtain ⟨⟨u, ca⟩, fa, cb, fb, L', hb'⟩ := hst
      have R2 := hb' _ _ (by omega) hb
      clear hb' hb L
      have hor := or1 ((xs.map md).take k) y
      go_wp2_with fail
      exact ⟨⟨k + 1, by omega, by go_num, L', R2⟩, by simp [intOf]; omega⟩
    · obtain rfl : k = n1 := by omega
      clear hlt hk
      go_wp2_with fail
      go_loopw [11] (fun i wr => ∃ j : Nat, j ≤ n2 ∧ i = .int .i64 j ∧ Loop1 wr w2.heap.size (w1.heap.size + 1) w1.heap.size xs ys k n2 k j ∧ Below w.heap.size w wr) (fun i _ => n2 - (intOf i).toNat)
      case atStart => exact ⟨0, Nat.zero_le _, rfl, L, hb⟩
      case round =>
        clear L hb
        obtain ⟨j, hj, rfl, L, hb⟩ := hrel
        by_cases hlt : j < n2
        · obtain ⟨ad, x, rfl, hxk, hcx⟩ := (hy.below hb).int_ hlt
          obtain ⟨t1, t2⟩ := tmod_range x
          have hmd := md_tmod x
          obtain ⟨m0, m64⟩ := md_range x
          obtain ⟨y, hy'⟩ := Int.eq_ofNat_of_zero_le m0
          have hyl : y < 64 := by omega
          have hst := L.step2 HLX.out HLY.out hlt hxk hy'
          have hor := or2 (xs.map md) ((ys.map md).take j) y
          have HY := Lib.hid hy'
          rw [hy'] at hmd
          clear m0 m64 hy' hxk
          obtain ⟨⟨u, ca⟩, fa, cb, fb, L', hb'⟩ := hst
          have R2 := hb' _ _ (by omega) hb
          clear hb' hb L
          generalize hv : (if (y : Int) ∈ xs.map md then (1 : Int) else 0) + 2 = v at hor L' R2
          clear hv
          go_wp2_with fail
          exact ⟨⟨j + 1, by omega, by go_num, L', R2⟩, by simp [intOf]; omega⟩
        · obtain rfl : j = n2 := by omega
          clear hlt hj
          obtain ⟨us, hus⟩ : ∃ us, us = xs.map md := ⟨_, rfl⟩
          obtain ⟨cs, hcs⟩ : ∃ cs, cs = ys.map md := ⟨_, rfl⟩
          have hin := L.rin
          have hra := L.ra
          have hrc := L.rc
          have hbag := L.bag
          have hlt' := L.lt
          rw [List.take_of_length_le (by simp [HLX.out]), List.take_of_length_le (by simp [HLY.out]), ← hus, ← hcs] at hin
          rw [fillTo_all _ (by simpa using HLX.out), ← hus] at hra
          rw [fillTo_all _ (by simpa using HLY.out), ← hcs] at hrc
          have ru : ∀ x ∈ us, 0 ≤ x ∧ x < ((64 : Nat) : Int) := by rw [hus]; intro x hx; obtain ⟨z, _, rfl⟩ := List.mem_map.1 hx; exact md_range z
          have rc' : ∀ x ∈ cs, 0 ≤ x ∧ x < ((64 : Nat) : Int) := by rw [hcs]; intro x hx; obtain ⟨z, _, rfl⟩ := List.mem_map.1 hx; exact md_range z
          clear hus hcs L
          have RU := Lib.hid ru
          have RC := Lib.hid rc'
          clear ru rc'
          go_wp2_with fail
          go_loop [12, 13] (fun al i => ∃ q : Nat, q ≤ 64 ∧ i = .int .i64 q ∧ al = .bool (alikeTo us cs q)) (fun _ i => 64 - (intOf i).toNat)
          case atStart => exact ⟨0, by omega, rfl, rfl⟩
          case round =>
            obtain ⟨q, hq, rfl, rfl⟩ := hrel
            by_cases hlt : q < 64
            · have hcell := row_cell hin hlt (inn_at hlt)
              have hstep := alike_step us cs q
              rw [← flag_alike] at hstep
              have HS := Lib.hid hstep
              clear hstep
              cases ha : alikeTo us cs q <;> cases h0 : (flag us cs q == 0) <;> cases h3 : (flag us cs q == 3)
              all_goals
                go_wp2_with fail
                refine ⟨⟨q + 1, by omega, by go_num, ?_⟩, by simp [intOf]; omega⟩
                rw [HS.out, ha, h0, h3]
                rfl
            · obtain rfl : q = 64 := by omega
              clear hlt hq
              obtain ⟨jn, un, S2, S3, F⟩ := five (bitsOf 64 us) (bitsOf 64 cs)
              rw [alike_iff RU.out RC.out]
              rw [← alike_iff RU.out RC.out] at F
              rw [← alike_iff RU.out RC.out]
              generalize hX : bitsOf 64 us = X at F
              generalize hY : bitsOf 64 cs = Y at F
              have HX := Lib.hid hX
              have HY := Lib.hid hY
              clear hX hY
              generalize alikeTo us cs 64 = al at F
              have hO : ∀ k, wr.heap.size ≤ k → OB w1.heap.size w2.heap.size k := fun k h => ⟨by omega, by omega⟩
              have hbag' : BagIs wr (.pointer (some ⟨w1.heap.size + 1, 0, none⟩)) 64 [] (OB w1.heap.size w2.heap.size) := hbag.mono (fun k h => ⟨h.1, .inl h.2⟩)
              go_wp2_with fail
              refine (PutO hbag' hO _ _ _ us (by omega) (Sl.of_own hra) RU.out HX.out (.inr (by decide)) (S' := [X]) rfl (i := 0) (by simp) (f := true) rfl).mono ?_
              rintro e w3 ⟨rfl, hB3, hk3⟩
              have hrc3 := own_keeps hrc hk3 (fun g hg e => by simp [Value.ownBlock] at hg; subst hg; exact absurd e.2 (by omega))
              have hin3 := own_keeps hin hk3 (fun g hg e => by simp [Value.ownBlock] at hg; subst hg; exact absurd e.2 (by omega))
              have hs3 := hk3.size
              have hb3 := hb.trans (hk3.below (B := w.heap.size) (by have := hb.size; omega) (fun k h => by have := h.1; omega))
              clear hrc hra hin hbag hbag' hb
              go_wp2_with fail
              refine (PutO hB3 (fun k h => hO k (by omega)) _ _ _ cs (by omega) (Sl.of_own hrc3) RC.out HY.out (.inr (by simp)) (S' := S2) F.s2 (i := jn) F.j2 (f := !al) F.f2).mono ?_
              rintro e w4 ⟨rfl, hB4, hk4⟩
              have hin4 := own_keeps hin3 hk4 (fun g hg e => by simp [Value.ownBlock] at hg; subst hg; exact absurd e.2 (by omega))
              have hs4 := hk4.size
              have hb4 := hb3.trans (hk4.below (B := w.heap.size) (by omega) (fun k h => by have := h.1; omega))
              clear hrc3 hin3 hB3 hb3
              go_wp2_with fail
              refine (UnionO hB4 (fun k h => hO k (by omega)) 0 jn F.i0 F.j0 rfl (.inr F.room) (S' := S3) F.s3 (k := un) F.u3 (f := !decide (orL X Y ∈ S2)) rfl).mono ?_
              rintro e w5 ⟨rfl, hB5, hk5⟩
              have hin5 := own_keeps hin4 hk5 (fun g hg e => by simp [Value.ownBlock] at hg; subst hg; exact absurd e.2 (by omega))
              have hs5 := hk5.size
              have hb5 := hb4.trans (hk5.below (B := w.heap.size) (by omega) (fun k h => by have := h.1; omega))
              clear hin4 hB4 hb4
              go_wp2_with fail
              refine (UnionO hB5 (fun k h => hO k (by omega)) jn 0 F.j3 F.i3 (orL_comm Y X) (.inl F.mem) (S' := S3) (addS_in F.mem) (k := un) F.u3 (f := false) (by rw [decide_eq_true F.mem]; rfl)).mono ?_
              rintro e w6 ⟨rfl, hB6, hk6⟩
              have hin6 := own_keeps hin5 hk6 (fun g hg e => by simp [Value.ownBlock] at hg; subst hg; exact absurd e.2 (by omega))
              have hs6 := hk6.size
              have hb6 := hb5.trans (hk6.below (B := w.heap.size) (by omega) (fun k h => by have := h.1; omega))
              clear hin5 hB5 hb5
              go_wp2_with fail
              have hXY : X.length = Y.length := by rw [← HX.out, ← HY.out, length_bitsOf, length_bitsOf]
              refine (UnionO hB6 (fun k h => hO k (by omega)) un 0 F.ui F.i3 (orL_absorb hXY) (.inl F.mem) (S' := S3) (addS_in F.mem) (k := un) F.u3 (f := false) (by rw [decide_eq_true F.mem]; rfl)).mono ?_
              rintro e w7 ⟨rfl, hB7, hk7⟩
              have hin7 := own_keeps hin6 hk7 (fun g hg e => by simp [Value.ownBlock] at hg; subst hg; exact absurd e.2 (by omega))
              have hs7 := hk7.size
              have hb7 := hb6.trans (hk7.below (B := w.heap.size) (by omega) (fun k h => by have := h.1; omega))
              clear hin6 hB6 hb6 hk3 hk4 hk5 hk6 hk7
              have hij := F.ij
              have HXY := Lib.hid hXY
              clear hXY
              go_wp2_with fail
              have a01 : bits .and .i64 0 1 = 0 := by decide
              have a11 : bits .and .i64 1 1 = 1 := by decide
              have a21 : bits .and .i64 2 1 = 0 := by decide
              have a31 : bits .and .i64 3 1 = 1 := by decide
              have a02 : bits .and .i64 0 2 = 0 := by decide
              have a12 : bits .and .i64 1 2 = 0 := by decide
              have a22 : bits .and .i64 2 2 = 2 := by decide
              have a32 : bits .and .i64 3 2 = 2 := by decide
              go_loop [28] (fun i => ∃ q : Nat, q ≤ 64 ∧ i = .int .i64 q) (fun i => 64 - (intOf i).toNat)
              case atStart => exact ⟨0, by omega, rfl⟩
              case round =>
                obtain ⟨q, hq, rfl⟩ := hrel
                by_cases hlt : q < 64
                · have hcell := row_cell hin7 hlt (inn_at hlt)
                  have hU : hasB (orL X Y) q = (hasB X q || hasB Y q) := has_orL HXY.out q
                  have hX1 : hasB X q = decide ((q : Int) ∈ us) := by rw [← HX.out]; exact has_bitsOf RU.out q
                  have hY1 : hasB Y q = decide ((q : Int) ∈ cs) := by rw [← HY.out]; exact has_bitsOf RC.out q
                  by_cases h1 : (q : Int) ∈ us <;> by_cases h2 : (q : Int) ∈ cs
                  all_goals
                    simp only [h1, h2, decide_true, decide_false] at hX1 hY1
                    rw [hX1, hY1] at hU
                    simp only [flag, h1, h2, if_true, if_false] at hcell
                    clear h1 h2
                    have c1 := Has_c hB7 0 X F.i3 q hlt
                    have c2 := Has_c hB7 jn Y F.j3 q hlt
                    have c3 := Has_c hB7 un (orL X Y) F.ui q hlt
                    rw [hX1] at c1
                    rw [hY1] at c2
                    rw [hU] at c3
                    clear hX1 hY1 hU
                    have C1 := Lib.hid c1
                    have C2 := Lib.hid c2
                    have C3 := Lib.hid c3
                    clear c1 c2 c3
                    go_wp2_with fail
                    refine (C1.out).mono ?_
                    rintro e w8 ⟨rfl, rfl⟩
                    go_wp2_with fail
                    refine (C2.out).mono ?_
                    rintro e w8 ⟨rfl, rfl⟩
                    go_wp2_with fail
                    refine (C3.out).mono ?_
                    rintro e w8 ⟨rfl, rfl⟩
                    go_wp2_with fail
                    exact ⟨⟨q + 1, by omega, by go_num⟩, by simp [intOf]; omega⟩
                · obtain rfl : q = 64 := by omega
                  clear hlt hq a01 a11 a21 a31 a02 a12 a22 a32
                  go_wp2_with fail
                  refine (Get_c hB7 un (orL X Y) F.ui).mono ?_
                  rintro e w8 ⟨v, rfl, hv, hb8⟩
                  have hrise := getL_rising 64 (orL X Y)
                  have hle := getL_le 64 (orL X Y)
                  rw [List.length_map] at hv
                  generalize getL 64 (orL X Y) = L at hv hrise hle
                  obtain ⟨LA, lc, rfl, _, _⟩ := own_slice hv
                  have hLs := Sl.of_own hv
                  have HR := Lib.hid hrise
                  have hb9 : Below w.heap.size w w8 := hb7.trans (hb8.mono (by omega))
                  clear hrise hv hb8 hb7 hB7 hin7 hij
                  go_wp2_with fail
                  go_loopw [36] (fun i wr => ∃ q r : Nat, q ≤ L.length ∧ i = .int .i64 ((q : Int) + 1) ∧ wr = w8.drewN r) (fun i _ => L.length + 1 - (intOf i).toNat)
                  case atStart => exact ⟨0, 0, Nat.zero_le _, rfl, rfl⟩
                  case round =>
                    obtain ⟨q, r, hq, rfl, rfl⟩ := hrel
                    by_cases hlt : q + 1 < L.length
                    · obtain ⟨ad, a, rfl, hqa, hca⟩ := hLs.int_ (show q < L.length by omega)
                      obtain ⟨ad', b, e', hqb, hcb⟩ := hLs.int_ hlt
                      cases e'
                      have hab := rising_at HR.out hqa hqb
                      clear hqa hqb
                      have s1 : IntKind.i64.wrap (q : Int) = (q : Int) := IntWalk.i64_in _ (by omega)
                      have s2 : IntKind.i64.wrap ((q : Int) + 1 - 1) = (q : Int) := by rw [Int.add_sub_cancel]; exact s1
                      have s3 : (q : Int) < (L.length : Int) := by omega
                      have hcb2 : w8.cell? ⟨ad.block, ad.off + (q + 1), none⟩ = some (.int .i64 b) := by have := hcb; rw [Addr.add, if_neg (by omega)] at this; exact this
                      have s4 : decide (b ≤ a) = false := by simp; omega
                      have s5 : ((q : Int) + 1).toNat = q + 1 := by omega
                      have s6 : 0 ≤ (q : Int) + 1 := by omega
                      have s7 : (q : Int) + 1 < (L.length : Int) := by omega
                      go_wp2_with fail
                      go_region
                      go_wp2_with fail
                      refine ⟨⟨q + 1, _, by omega, by go_num, rfl⟩, by simp [intOf]; omega⟩
                    · go_wp2_with fail
                      go_ret
                      exact ⟨rfl, below_drewN hb9 r⟩

end Go.Proofs.YtmephmijeepcnaaDoor
