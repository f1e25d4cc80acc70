/- The bag in memory, and what each of its methods does. Condition: the numbers handed in are members of the bag's range, where a theorem says so. -/
import Derived.Test.YtlajiblhnkognaaDoorTypes
import Derived.Test.YtlajiblhnkognaaDoorBagP
import Derived.Test.YtlajiblhnkognaaDoorErr
namespace Go.Proofs.YtlajiblhnkognaaDoor
open Go.RowKit Go.Maps BagP

theorem keyLaw : Keyed Tryd.prog 9 := string_keyed Tryd.underlying9
theorem zeroInt (w : World) : (zeroValue 3).run Tryd.prog w = .ok (.int .i64 0) w := by kernel_rfl

/-- A bag for numbers below n that keeps the sets S lies in blocks of O. -/
structure BagAt (w : World) (bb mb : Nat) (sv : Value) (rows : List Value) (D : DataW Unit) (n : Nat) (S : List (List Nat)) (O : Nat → Prop) : Prop where
  blk : w.heap[bb]? = some (.cells #[.int .i64 (n : Int), sv, .map (some mb)] 126 (0, 0))
  map : w.ownsMap Tryd.prog 9 (plainElem (H := Unit) Tryd.prog 3) mb S.length D
  rel : RelMap D S
  own : w.ownsRow 0 127 1 sv S.length rows
  row : ∀ (i : Nat) (l : List Nat), S[i]? = some l → ∃ v, rows[i]? = some v ∧ w.ownsRow 0 130 1 v (wlen n) (l.map uv) ∧ ∀ g, v.ownBlock = some g → O g
  fb : O bb
  fm : O mb
  fs : ∀ g, sv.ownBlock = some g → O g
  okw : ∀ l ∈ S, Ok64 l ∧ l.length = wlen n
  nd : S.Nodup
  big : S.length ≤ 4096
  nn : n ≤ 8192

def BagIs (w : World) (p : Value) (n : Nat) (S : List (List Nat)) (O : Nat → Prop) : Prop :=
  ∃ bb mb sv rows D, p = .pointer (some ⟨bb, 0, none⟩) ∧ BagAt w bb mb sv rows D n S O

theorem BagAt.ltb {w : World} {bb mb : Nat} {sv : Value} {rows : List Value} {D : DataW Unit} {n : Nat} {S : List (List Nat)} {O : Nat → Prop} (h : BagAt w bb mb sv rows D n S O) : bb < w.heap.size :=
  (Array.getElem?_eq_some_iff.1 h.blk).1

theorem BagAt.keeps {w w' : World} {bb mb : Nat} {sv : Value} {rows : List Value} {D : DataW Unit} {n : Nat} {S : List (List Nat)} {O O2 : Nat → Prop} (h : BagAt w bb mb sv rows D n S O) (hk : Keeps O2 w w') (ho : ∀ k, O k → ¬ O2 k) :
    BagAt w' bb mb sv rows D n S O where
  blk := (hk.block bb h.ltb (ho _ h.fb)).trans h.blk
  map := by
    obtain ⟨es, clock, hb, rest⟩ := h.map
    exact ⟨es, clock, (hk.block mb (Array.getElem?_eq_some_iff.1 hb).1 (ho _ h.fm)).trans hb, rest⟩
  rel := h.rel
  own := own_keeps h.own hk (fun g hg => ho _ (h.fs g hg))
  row := fun i l hl => by
    obtain ⟨v, h1, h2, h3⟩ := h.row i l hl
    exact ⟨v, h1, own_keeps h2 hk (fun g hg => ho _ (h3 g hg)), h3⟩
  fb := h.fb
  fm := h.fm
  fs := h.fs
  okw := h.okw
  nd := h.nd
  big := h.big
  nn := h.nn
theorem BagIs.keeps {w w' : World} {p : Value} {n : Nat} {S : List (List Nat)} {O O2 : Nat → Prop} (h : BagIs w p n S O) (hk : Keeps O2 w w') (ho : ∀ k, O k → ¬ O2 k) : BagIs w' p n S O := by
  obtain ⟨bb, mb, sv, rows, D, hp, hb⟩ := h
  exact ⟨bb, mb, sv, rows, D, hp, hb.keeps hk ho⟩
theorem BagIs.below {w w' : World} {p : Value} {n : Nat} {S : List (List Nat)} {O : Nat → Prop} (h : BagIs w p n S O) (hk : Below w.heap.size w w') : BagIs w' p n S O :=
  h.keeps (Keeps.of_pure hk (fun _ => False)) (fun _ _ h => h)

/-- bag.New. -/
theorem newBag_c (w : World) (n : Nat) (hn : n ≤ 8192) :
    Calls Tryd.prog 47 #[.int .i64 (n : Int)] w fun e w' => e = .returned (.tuple #[.pointer (some ⟨w.heap.size + 1, 0, none⟩), .nilIface]) ∧
      BagIs w' (.pointer (some ⟨w.heap.size + 1, 0, none⟩)) n [] (fun k => w.heap.size ≤ k) ∧ Below w.heap.size w w' := by
  have hmm := @run_makeMap Tryd.prog
  have t1 : ¬ ((n : Int) < 0) := by omega
  have t2 : ¬ (8192 < (n : Int)) := by omega
  go_enter Tryd.func47, Tryd.ntmps47
  go_wp2
  go_ret2
  refine ⟨rfl, ⟨w.heap.size + 1, w.heap.size, .slice none 0 0, [], .map [], rfl, ?_⟩, ((Below.refl _ _).alloc (Nat.le_refl _) _).alloc (by simp) _⟩
  exact {
    blk := by rw [show w.heap.size + 1 = (w.alloc (.map #[] 0)).heap.size from by simp]; exact heap_alloc_new _ _
    map := (World.ownsMap_made w Tryd.prog 9 _).alloc _
    rel := rel_nil
    own := World.ownsRow_nil _ _ _ _
    row := fun i l h => by simp at h
    fb := by simp
    fm := Nat.le_refl _
    fs := fun g h => by simp [Value.ownBlock] at h
    okw := fun l h => by simp at h
    nd := List.nodup_nil
    big := by simp
    nn := hn }

theorem wlen_le {n : Nat} (hn : n ≤ 8192) : wlen n ≤ 128 := by unfold wlen; omega

theorem or_shift {u y : Nat} (hu : u < 2 ^ 64) : bits .or .u64 (u : Int) (IntKind.u64.wrap (2 ^ (y % 64))) = ((u ||| 2 ^ (y % 64) : Nat) : Int) := by
  have h2 : (2 : Nat) ^ (y % 64) < 2 ^ 64 := Nat.pow_lt_pow_right (by decide) (Nat.mod_lt _ (by decide))
  have e : IntKind.u64.wrap (2 ^ (y % 64)) = ((2 ^ (y % 64) : Nat) : Int) := by
    have e0 : ((2 : Int) ^ (y % 64)) = ((2 ^ (y % 64) : Nat) : Int) := (Int.natCast_pow 2 (y % 64)).symm
    rw [IntKind.wrap_u64, e0]
    generalize (2 : Nat) ^ (y % 64) = z at h2
    omega
  rw [e, u64_or_nat _ _ hu h2]

/-- The set of a list of members. -/
theorem bits_c (w : World) (bb n : Nat) (hn : n ≤ 8192) (hc : w.cell? ⟨bb, 0, none⟩ = some (.int .i64 (n : Int))) (A : Option Addr) (m c : Nat) (xs : List Int) (hm : m ≤ 140737488355328)
    (h : Sl w A m (xs.map (Value.int .i64))) (hx : ∀ x ∈ xs, 0 ≤ x ∧ x < (n : Int)) :
    Calls Tryd.prog 72 #[.pointer (some ⟨bb, 0, none⟩), .slice A m c] w fun e w' => e = .returned (.tuple #[.slice (some ⟨w.heap.size, 0, none⟩) (wlen n) (wlen n), .nilIface]) ∧
      w'.ownsRow w.heap.size 130 1 (.slice (some ⟨w.heap.size, 0, none⟩) (wlen n) (wlen n)) (wlen n) ((bitsOf n xs).map uv) ∧ Below w.heap.size w w' := by
  have hl : xs.length = m := by simpa using h.1
  have HL := Lib.hid hl
  clear hl
  have hwl := wlen_le hn
  have hmk := run_make_row' (P := Tryd.prog) 127 130 (.int .u64 0) 8 tU64s.und tU64s.info rfl .i64 .i64 (wlen n) (by omega) (by omega)
  have hq : ((n : Int) + 63) / 64 = (wlen n : Int) := by unfold wlen; omega
  go_enter Tryd.func72, Tryd.ntmps72
  go_wp2
  clear hmk hq
  go_loopw [21] (fun i wr => ∃ k : Nat, k ≤ m ∧ i = .int .i64 k ∧ wr.ownsRow w.heap.size 130 1 (.slice (some ⟨w.heap.size, 0, none⟩) (wlen n) (wlen n)) (wlen n) ((bitsTo (zeros n) (xs.take k)).map uv) ∧ Below w.heap.size w wr) (fun i _ => m - (intOf i).toNat)
  case atStart =>
    refine ⟨0, Nat.zero_le _, rfl, ?_, (Below.refl _ _).alloc (Nat.le_refl _) _⟩
    have := World.ownsRow_lit (base := w.heap.size) (e := 130) (size := 1) w (madeCells #[.int .u64 0] (wlen n)) (wlen n) (Nat.le_refl _) (by simp only [maxLen]; omega) (by rw [size_madeCells]; simp)
    rw [toList_madeCells_one] at this
    simpa [bitsTo, zeros, uv] using this
  case round =>
    obtain ⟨k, hk, rfl, hown, hb⟩ := hrel
    by_cases hlt : k < m
    · obtain ⟨ad, x, rfl, hxk, hcx⟩ := (h.below hb).int_ hlt
      obtain ⟨hx0, hxn⟩ := hx x (List.mem_of_getElem? hxk)
      obtain ⟨y, rfl⟩ := Int.eq_ofNat_of_zero_le hx0
      have hcb := cell_later hb hc
      have hL : ((bitsTo (zeros n) (xs.take k)).map uv).length = wlen n := by rw [List.length_map, length_bitsTo]; simp [zeros]
      have hyw : y / 64 < wlen n := wlen_lt (by omega)
      have hcell := hown.cellAt (y / 64) (by omega)
      have hfr := hown.frozenAt (y / 64)
      rw [List.getElem?_map] at hcell
      obtain ⟨u, hu⟩ : ∃ u, (bitsTo (zeros n) (xs.take k))[y / 64]? = some u := ⟨_, List.getElem?_eq_getElem (by rw [List.length_map] at hL; omega)⟩
      rw [hu] at hcell
      simp only [Option.map_some, uv] at hcell
      have HU := Lib.hid hu
      have HX := Lib.hid hxk
      have HL2 := Lib.hid hL
      have HO := Lib.hid hown
      clear hu hxk hL hown hx0
      go_wp2
      go_region
      have hst := HO.out.stored (y / 64) (.int .u64 (bits .or .u64 (u : Int) (IntKind.u64.wrap (2 ^ (y % 64)))))
      have hval : ((bitsTo (zeros n) (xs.take k)).map uv).set (y / 64) (.int .u64 (bits .or .u64 (u : Int) (IntKind.u64.wrap (2 ^ (y % 64))))) = (bitsTo (zeros n) (xs.take (k + 1))).map uv := by
        rw [or_shift (ok_bitsTo _ (ok_zeros n) u (List.mem_of_getElem? HU.out)), bits_step HU.out HX.out, List.map_set]
        rfl
      rw [hval] at hst
      have R1 := hst.1
      have R2 := hb.grown hst.2 hb.size (fun j hj => by cases hj; exact Nat.le_refl _)
      clear hst hval hcell hfr hb HO
      go_wp2
      go_roundw
      case rel => exact ⟨k + 1, by omega, by go_num, R1.drew, R2.drew⟩
      case measure => simp [intOf]; omega
    · have hkm : k = m := by omega
      have E := Lib.hid hkm
      clear hkm
      go_wp2
      go_ret2
      rw [E.out, List.take_of_length_le (by rw [HL.out]; exact Nat.le_refl _)] at hown
      exact ⟨rfl, hown, hb⟩

end Go.Proofs.YtlajiblhnkognaaDoor
