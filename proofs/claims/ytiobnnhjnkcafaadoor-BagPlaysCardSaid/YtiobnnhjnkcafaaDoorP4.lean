/- bag's errors: bag.wrong; put at the limit; bits, Put, Find of lists that are no sets; Find of a set that is not there. Condition: the error variables hold what E says. A part of a slice in memory. Plain lemmas, no program. No condition. append(s, x) of one element in a region that draws its order: what is told of the row, the old one kept. Plain laws, no program. No condition. A bag's blocks told by their kinds: what is of other kinds stays apart from it. Condition: as the bag's contracts say. Which of the numbers below 64 two lists name: plain lists, no program. No condition. Plain law of BagFull: the sets of the numbers below 12, one for each number below 4096. No condition. Rules as plain lists: what is a rule, windows' numbers, images. No program. No condition. The walk over the subsets of nodes: plain lists, no program. What comes behind a set by a label; the walk, round by round; sets as words, as members, as texts. No condition. -/
import Derived.Test.YtiobnnhjnkcafaaDoorP1
import Derived.Test.YtiobnnhjnkcafaaDoorP2
import Derived.Test.YtiobnnhjnkcafaaDoorP3
namespace Go.Proofs.YtiobnnhjnkcafaaDoor
open Go.RowKit Go.WideMaps Go.Maps BagP

def sBag : ByteArray := ⟨#[98, 97, 103]⟩
theorem bagWrong_c (w : World) (E : Nat → Addr) (hE : Errs w E) (at' : Int) (n : Nat) (h1 : 1 ≤ n) (h2 : n ≤ 11) :
    Calls Tryd.prog 13 #[.int .i64 at', .int .i64 (n : Int)] w fun e w' => e = .returned (errV w.heap.size) ∧ ErrIs w' E n [(sBag, at')] (errV w.heap.size) ∧ Below w.heap.size w w' := by
  have HE := Lib.hid hE
  clear hE
  go_enter Tryd.func13, Tryd.ntmps13
  go_wp2_with fail
  refine (new_c w E HE.out sBag at' n h1 h2).mono ?_
  rintro e w' ⟨rfl, rfl⟩
  go_wp2_with fail
  go_ret
  exact ⟨rfl, ⟨w.heap.size, _, rfl, heap_new _ _, rfl⟩, (Below.refl _ _).alloc (Nat.le_refl _) _⟩

set_option maxRecDepth 100000 in
set_option maxHeartbeats 1000000 in
theorem put_full {w : World} {bb mb : Nat} {sv : Value} {rows : List Value} {D : DataW Unit} {n : Nat} {S : List (List Nat)} {O : Nat → Prop} (hB : BagAt w bb mb sv rows D n S O) (E : Nat → Addr) (hE : Errs w E)
    (A : Option Addr) (c : Nat) (l : List Nat) (ho : Ok64 l) (hl : l.length = wlen n) (hr : Sl w A (wlen n) (l.map uv)) (hn : l ∉ S) (hfull : S.length = 4096) :
    Calls Tryd.prog 31 #[.pointer (some ⟨bb, 0, none⟩), .slice A (wlen n) c] w fun e w' => ∃ b, e = .returned (.tuple #[.int .i64 0, .bool false, errV b]) ∧ ErrIs w' E 4 [(sBag, 0)] (errV b) ∧ Below w.heap.size w w' := by
  have hwl := wlen_le hB.nn
  have hkey := key_of l (by omega)
  have hh : Maps.has D (.string (keyB l)) = false := by rw [(hB.rel.2 l ho).1]; exact decide_eq_false hn
  have HH := Lib.hid hh
  have hlen : ((S.length : Int) == 4096) = true := by rw [hfull]; rfl
  have HE := Lib.hid (fun (wz : World) (hz : Below w.heap.size w wz) => bagWrong_c wz E (hE.below hz) 0 4 (by decide) (by decide))
  clear hh hl hfull hE
  go_enter Tryd.func31, Tryd.ntmps31
  go_wp2_with fail
  refine (key_c _ A (wlen n) c l (by omega) hr ho).mono ?_
  rintro e w1 ⟨rfl, hb1⟩
  have hB1 := hB.keeps (Keeps.of_pure hb1 (fun _ => False)) (fun _ _ h => h)
  obtain ⟨c0, c1, c2, f1⟩ := blk_cells hB1.blk
  have hmap := hB1.map
  obtain ⟨SA, sc, rfl, _, _⟩ := own_slice hB1.own
  go_wp2_with (at_lookup; refine wpList_lookup_own_ok_int _ rfl _ _ _ rfl 9 3 .i64 keyLaw Tryd.underlying45 Tryd.underlying3 (zeroInt _) mb _ D rfl hmap _ _ rfl hkey ?_; intro c' hat' _; rw [HH.out])
  refine (HE.out w1 hb1).mono ?_
  rintro e w2 ⟨rfl, he2, hb2⟩
  go_wp2_with fail
  go_ret3
  exact ⟨_, rfl, he2, hb1.trans (hb2.mono hb1.size)⟩

set_option maxRecDepth 100000 in
set_option maxHeartbeats 1000000 in
/-- A bag at its limit refuses a new set. -/
theorem Put_full {w : World} {p : Value} {n : Nat} {S : List (List Nat)} {O : Nat → Prop} (hB : BagIs w p n S O) (E : Nat → Addr) (hE : Errs w E) (A : Option Addr) (m c : Nat) (xs : List Int) (hm : m ≤ 140737488355328)
    (h : Sl w A m (xs.map (Value.int .i64))) (hx : ∀ x ∈ xs, 0 ≤ x ∧ x < (n : Int)) (hn : bitsOf n xs ∉ S) (hfull : S.length = 4096) :
    Calls Tryd.prog 12 #[p, .slice A m c] w fun e w' => ∃ b, e = .returned (.tuple #[.int .i64 0, .bool false, errV b]) ∧ ErrIs w' E 4 [(sBag, 0)] (errV b) ∧ Below w.heap.size w w' := by
  obtain ⟨bb, mb, sv, rows, D, rfl, hb⟩ := hB
  obtain ⟨c0, _, _, _⟩ := blk_cells hb.blk
  have HF := Lib.hid hfull
  have HN := Lib.hid hn
  have HE := Lib.hid (fun (wz : World) (hz : Below w.heap.size w wz) => hE.below hz)
  clear hfull hn hE
  go_enter Tryd.func12, Tryd.ntmps12
  go_wp2_with fail
  refine (bits_c w bb n hb.nn c0 A m c xs hm h hx).mono ?_
  rintro e w1 ⟨rfl, hr1, hb1⟩
  have hB1 := hb.keeps (Keeps.of_pure hb1 (fun _ => False)) (fun _ _ h => h)
  go_wp2_with fail
  refine (put_full hB1 E (HE.out w1 hb1) _ _ (bitsOf n xs) (ok_bitsOf n xs) (length_bitsOf n xs) (Sl.of_own hr1) HN.out HF.out).mono ?_
  rintro e w2 ⟨b, rfl, he2, hb2⟩
  go_wp2_with fail
  go_ret3
  exact ⟨b, rfl, he2, hb1.trans (hb2.mono hb1.size)⟩

/-- v, ok := m[k]: what the operation gives, for a region that draws its order. -/
theorem look_run {w : World} {mb N : Nat} {D : DataW Unit} (hmap : w.ownsMap Tryd.prog 9 (plainElem (H := Unit) Tryd.prog 3) mb N D) (l : List Nat) (hkey : keyOf Tryd.prog 9 (.string ⟨(keyB l).toArray⟩) = some (.string (keyB l))) (r : Bool) (hr : Maps.has D (.string (keyB l)) = r) :
    ∃ c : Int, D.atKey (.string (keyB l)) (.lit (.int .i64 0)) = .lit (.int .i64 c) ∧ (Instr.lookup 45 (.map (some mb)) (.string ⟨(keyB l).toArray⟩) true).run Tryd.prog w = .ok (.tuple #[.int .i64 c, .bool r]) w := by
  subst hr
  obtain ⟨v, ps, hrun, hv⟩ := hmap.look_ok keyLaw Tryd.underlying45 (zeroInt w) (plainElem_int Tryd.underlying3 (by decide)) hkey
  obtain ⟨c, rfl, hc, _⟩ := plainElem_int_inv Tryd.underlying3 hv
  exact ⟨c, congrArg Prod.fst hc, hrun⟩

/-- What Find tells of a list of members: the set's number, or -1. -/
def findI (S : List (List Nat)) (l : List Nat) : Int := if l ∈ S then ((S.idxOf l : Nat) : Int) else -1
set_option maxRecDepth 100000 in
set_option maxHeartbeats 1000000 in
theorem Find_c {w : World} {p : Value} {n : Nat} {S : List (List Nat)} {O : Nat → Prop} (hB : BagIs w p n S O) (A : Option Addr) (m c : Nat) (xs : List Int) (hm : m ≤ 140737488355328)
    (h : Sl w A m (xs.map (Value.int .i64))) (hx : ∀ x ∈ xs, 0 ≤ x ∧ x < (n : Int)) :
    Calls Tryd.prog 20 #[p, .slice A m c] w fun e w' => e = .returned (.tuple #[.int .i64 (findI S (bitsOf n xs)), .nilIface]) ∧ Below w.heap.size w w' := by
  obtain ⟨bb, mb, sv, rows, D, rfl, hb⟩ := hB
  obtain ⟨c0, _, _, _⟩ := blk_cells hb.blk
  have hnn := hb.nn
  have hwl := wlen_le hnn
  have hlb := length_bitsOf n xs
  have hkey := key_of (bitsOf n xs) (by omega)
  obtain ⟨l, hl⟩ : ∃ l, bitsOf n xs = l := ⟨_, rfl⟩
  have HLO := Lib.hid (show Ok64 l by rw [← hl]; exact ok_bitsOf n xs)
  have HBC := Lib.hid (bits_c w bb n hnn c0 A m c xs hm h hx)
  rw [hl] at HBC hkey ⊢
  obtain ⟨fi, hfi⟩ : ∃ fi, findI S l = fi := ⟨_, rfl⟩
  have HFI := Lib.hid hfi
  rw [hfi]
  clear hl hlb h hx hfi
  go_enter Tryd.func20, Tryd.ntmps20
  go_wp2_with fail
  refine (HBC.out).mono ?_
  rintro e w1 ⟨rfl, hr1, hb1⟩
  have hB1 := hb.keeps (Keeps.of_pure hb1 (fun _ => False)) (fun _ _ h => h)
  obtain ⟨d0, d1, d2, f1⟩ := blk_cells hB1.blk
  have HB1 := Lib.hid hB1
  have HR1 := Lib.hid hr1
  have HW1 := Lib.hid hb1
  have HKEY := Lib.hid hkey
  clear c0 hr1 hb1 hB1 hkey HBC
  by_cases hin : l ∈ S
  · obtain ⟨i, hi⟩ := List.getElem?_of_mem hin
    have hf : findI S l = (i : Int) := by unfold findI; rw [if_pos hin, idx_nodup hb.nd hi]
    have HH := Lib.hid (show Maps.has D (.string (keyB l)) = true by rw [(hb.rel.2 l HLO.out).1]; exact decide_eq_true hin)
    have HAT := Lib.hid ((hb.rel.2 l HLO.out).2 i hi)
    have HF := Lib.hid hf
    clear hf hin hi hb
    go_wp2_with fail
    go_region_held3 (fun wz => wz.cell? ⟨bb, 2, none⟩ = some (.map (some mb)))
      (first | exact d2 | exact cell_later ((Below.refl _ _).drew) d2 | exact cell_later hbk d2)
      (first
        | (go_simp
           go_at_call 42
           refine (key_c _ _ (wlen n) _ l (by omega) ((Sl.of_own HR1.out).below ((Below.refl _ _).drew)) HLO.out).mono ?_
           rintro e w2 ⟨rfl, b2⟩
           have hbk : Below w1.heap.size w1 w2 := ((Below.refl w1.heap.size w1).drew).trans b2
           obtain ⟨c', hc', hlk⟩ := look_run (HB1.out.keeps (Keeps.of_pure hbk (fun _ => False)) (fun _ _ h => h)).map l HKEY.out true HH.out
           have HC := Lib.hid hc'
           clear hc'
           dsimp only))
    obtain rfl : c' = (i : Int) := by
      have := HC.out.symm.trans HAT.out
      injection this with this
      injection this
    go_wp2_with fail
    go_ret2
    have e1 := HFI.out.symm.trans HF.out
    subst e1
    exact ⟨rfl, HW1.out.trans (hbk.mono HW1.out.size)⟩
  · have hf : findI S l = -1 := if_neg hin
    have HH := Lib.hid (show Maps.has D (.string (keyB l)) = false by rw [(hb.rel.2 l HLO.out).1]; exact decide_eq_false hin)
    have HF := Lib.hid hf
    clear hf hin hb
    go_wp2_with fail
    go_region_held3 (fun wz => wz.cell? ⟨bb, 2, none⟩ = some (.map (some mb)))
      (first | exact d2 | exact cell_later ((Below.refl _ _).drew) d2 | exact cell_later hbk d2)
      (first
        | (go_simp
           go_at_call 42
           refine (key_c _ _ (wlen n) _ l (by omega) ((Sl.of_own HR1.out).below ((Below.refl _ _).drew)) HLO.out).mono ?_
           rintro e w2 ⟨rfl, b2⟩
           have hbk : Below w1.heap.size w1 w2 := ((Below.refl w1.heap.size w1).drew).trans b2
           obtain ⟨c', hc', hlk⟩ := look_run (HB1.out.keeps (Keeps.of_pure hbk (fun _ => False)) (fun _ _ h => h)).map l HKEY.out false HH.out
           have HC := Lib.hid hc'
           clear hc'
           dsimp only))
    go_wp2_with fail
    go_ret2
    have e1 := HFI.out.symm.trans HF.out
    subst e1
    exact ⟨rfl, HW1.out.trans (hbk.mono HW1.out.size)⟩
end Go.Proofs.YtiobnnhjnkcafaaDoor

namespace Go.Proofs.YtiobnnhjnkcafaaDoor
open Go.RowKit

theorem grown_keeps {w w1 : World} {o : Obj} {row : Option Nat} (h : ((w.alloc o).drew).grownBy w1 row) : Keeps (fun b => row = some b) w w1 :=
  (Keeps.of_pure (((Below.refl _ _).alloc (Nat.le_refl _) o).drew) (fun b => row = some b)).trans (Keeps.of_grown h) (fun _ _ h => h)

end Go.Proofs.YtiobnnhjnkcafaaDoor

namespace Go.Proofs.YtiobnnhjnkcafaaDoor
open Go.RowKit

/-- The row as a block of its type. -/
theorem own_block {w : World} {base e n g : Nat} {v : Value} {xs : List Value} (h : w.ownsRow base e 1 v n xs) (hg : v.ownBlock = some g) : ∃ cs, w.heap[g]? = some (.cells cs e (0, 0)) := by
  rcases h.2 with ⟨rfl, _⟩ | ⟨g', cap, cur, rfl, _, hh, _⟩
  · cases hg
  · have e' : g' = g := by simpa [Value.ownBlock] using hg
    subst e'
    exact ⟨_, hh⟩
end Go.Proofs.YtiobnnhjnkcafaaDoor

namespace Go.Proofs.YtiobnnhjnkcafaaDoor
open Go.RowKit BagP

/-- The block is of one of a bag's kinds. -/
def BT (w : World) (k : Nat) : Prop :=
  (∃ cs e, w.heap[k]? = some (.cells cs e (0, 0)) ∧ (e = 55 ∨ e = 79 ∨ e = 82)) ∨ ∃ es c, w.heap[k]? = some (.map es c)
/-- A bag's blocks, told by their kinds, from B on. -/
def BOwn (w : World) (B k : Nat) : Prop := BT w k ∧ B ≤ k
def BagT (w : World) (B : Nat) (p : Value) (n : Nat) (S : List (List Nat)) : Prop := BagIs w p n S (BOwn w B)
theorem BagIs.bt {w : World} {B : Nat} {p : Value} {n : Nat} {S : List (List Nat)} {O : Nat → Prop} (h : BagIs w p n S O) (hO : ∀ k, O k → B ≤ k) : BagT w B p n S := by
  obtain ⟨bb, mb, sv, rows, D, hp, hb⟩ := h
  refine ⟨bb, mb, sv, rows, D, hp, { hb with row := fun i l hl => ?_, fb := ⟨.inl ⟨_, _, hb.blk, .inl rfl⟩, hO _ hb.fb⟩, fm := ⟨?_, hO _ hb.fm⟩, fs := fun g hg => ⟨?_, hO _ (hb.fs g hg)⟩ }⟩
  · obtain ⟨v, h1, h2, h3⟩ := hb.row i l hl
    refine ⟨v, h1, h2, fun g hg => ⟨?_, hO _ (h3 g hg)⟩⟩
    obtain ⟨cs, hc⟩ := own_block h2 hg
    exact .inl ⟨cs, _, hc, .inr (.inr rfl)⟩
  · obtain ⟨es, c, hm, _⟩ := hb.map
    exact .inr ⟨es, c, hm⟩
  · obtain ⟨cs, hc⟩ := own_block hb.own hg
    exact .inl ⟨cs, _, hc, .inr (.inl rfl)⟩
theorem BagT.keeps {w w' : World} {B : Nat} {p : Value} {n : Nat} {S : List (List Nat)} {Q : Nat → Prop} (h : BagT w B p n S) (hk : Keeps Q w w') (hq : ∀ b, Q b → ¬ BOwn w B b) : BagT w' B p n S :=
  BagIs.bt (BagIs.keeps h hk (fun k hb hQ => hq k hQ hb)) (fun _ h => h.2)
theorem BagT.below {w w' : World} {B : Nat} {p : Value} {n : Nat} {S : List (List Nat)} (h : BagT w B p n S) (hb : Below w.heap.size w w') : BagT w' B p n S :=
  h.keeps (Keeps.of_pure hb (fun _ => False)) (fun _ hf => hf.elim)
end Go.Proofs.YtiobnnhjnkcafaaDoor

namespace Go.Proofs.YtiobnnhjnkcafaaDoor
namespace BagP

def md (x : Int) : Int := x % 64
theorem getL_rising (n : Nat) (l : List Nat) : (getL n l).Pairwise (· < ·) := by
  unfold getL
  rw [List.pairwise_map]
  refine List.Pairwise.imp (fun h => by omega) (List.Pairwise.filter _ List.pairwise_lt_range)
end BagP
end Go.Proofs.YtiobnnhjnkcafaaDoor

namespace Go.Proofs.YtiobnnhjnkcafaaDoor
open BagP

theorem mem_getL {n : Nat} {l : List Nat} {x : Int} : x ∈ getL n l ↔ ∃ y : Nat, y < n ∧ hasB l y = true ∧ x = (y : Int) := by
  unfold getL
  simp only [List.mem_map, List.mem_filter, List.mem_range]
  constructor
  · rintro ⟨y, ⟨a, b⟩, c⟩; exact ⟨y, a, b, c.symm⟩
  · rintro ⟨y, a, b, c⟩; exact ⟨y, ⟨a, b⟩, c.symm⟩
end Go.Proofs.YtiobnnhjnkcafaaDoor

namespace Go.Proofs.YtiobnnhjnkcafaaDoor
namespace RuleP

def sRule : ByteArray := ⟨#[114, 117, 108, 101]⟩
/-- It is a rule of k symbols and radius r. -/
structure IsRule (k r : Nat) (t : List Nat) : Prop where
  k1 : 1 ≤ k
  k4 : k ≤ 4
  r3 : r ≤ 3
  len : t.length = k ^ (2 * r + 1)
  sym : ∀ x ∈ t, x < k
def ints (l : List Nat) : List Int := l.map fun (x : Nat) => (x : Int)
theorem ints_len (l : List Nat) : (ints l).length = l.length := by simp [ints]
theorem pow_le {k r : Nat} (hk : k ≤ 4) (hr : r ≤ 3) : k ^ (2 * r + 1) ≤ 16384 := by
  have h1 : k ^ (2 * r + 1) ≤ 4 ^ (2 * r + 1) := Nat.pow_le_pow_left hk _
  have h2 : 4 ^ (2 * r + 1) ≤ 4 ^ 7 := Nat.pow_le_pow_right (by decide) (by omega)
  have h3 : 4 ^ 7 = 16384 := by decide
  omega
theorem IsRule.le {k r : Nat} {t : List Nat} (h : IsRule k r t) : t.length ≤ 16384 := by rw [h.len]; exact pow_le h.k4 h.r3
theorem IsRule.pos {k r : Nat} {t : List Nat} (h : IsRule k r t) : 0 < t.length := by rw [h.len]; exact Nat.pow_pos h.k1

end RuleP
end Go.Proofs.YtiobnnhjnkcafaaDoor

namespace Go.Proofs.YtiobnnhjnkcafaaDoor
open BagP RuleP
namespace SubP

/-! ### a map of texts -/
/-- The map has just the texts of the list, each with its place. -/
def RelK {α : Type} [DecidableEq α] (key : α → List UInt8) (ok : α → Prop) (D : DataW Unit) (S : List α) : Prop :=
  Maps.IsMap D ∧ ∀ l, ok l → Maps.has D (.string (key l)) = decide (l ∈ S) ∧ ∀ i : Nat, S[i]? = some l → D.atKey (.string (key l)) (.lit (.int .i64 0)) = .lit (.int .i64 (i : Int))
theorem relK_nil {α : Type} [DecidableEq α] (key : α → List UInt8) (ok : α → Prop) : RelK key ok (.map []) [] := ⟨Maps.isMap_empty, fun l _ => ⟨rfl, fun i h => by simp at h⟩⟩
theorem relK_snoc {α : Type} [DecidableEq α] {key : α → List UInt8} {ok : α → Prop} (inj : ∀ a b, ok a → ok b → key a = key b → a = b) {D : DataW Unit} {S : List α} (h : RelK key ok D S) {l : α} (hl : ok l) (hn : l ∉ S) :
    RelK key ok (D.put (.string (key l)) (.lit (.int .i64 (S.length : Int)))) (S ++ [l]) := by
  refine ⟨h.1.put _ _, fun l' hl' => ?_⟩
  by_cases e : l' = l
  · subst e
    refine ⟨?_, fun i hi => ?_⟩
    · rw [Maps.has_put_same h.1 (by simp [WideAt.IsKeyLit])]; simp
    · rw [Maps.atKey_put_same h.1 (by simp [WideAt.IsKeyLit])]
      rcases Nat.lt_or_ge i S.length with hlt | hge
      · rw [List.getElem?_append_left hlt] at hi
        exact absurd (List.mem_of_getElem? hi) hn
      · rw [List.getElem?_append_right hge] at hi
        have : i - S.length = 0 := by
          rcases Nat.eq_zero_or_pos (i - S.length) with h0 | h0
          · exact h0
          · rw [List.getElem?_eq_none (by simp; omega)] at hi; cases hi
        rw [show S.length = i from by omega]
  · have hne : (Lit.string (key l')) ≠ Lit.string (key l) := by
      intro e'; injection e' with e'; exact e (inj _ _ hl' hl e')
    refine ⟨?_, fun i hi => ?_⟩
    · rw [Maps.has_put_other hne, (h.2 l' hl').1, decide_eq_decide]; simp [e]
    · rw [Maps.atKey_put_other hne]
      refine (h.2 l' hl').2 i ?_
      rcases Nat.lt_or_ge i S.length with hlt | hge
      · rwa [List.getElem?_append_left hlt] at hi
      · rw [List.getElem?_append_right hge] at hi
        rcases Nat.eq_zero_or_pos (i - S.length) with h0 | h0
        · rw [h0] at hi; simp at hi; exact absurd hi.symm e
        · rw [List.getElem?_eq_none (by simp; omega)] at hi; cases hi

theorem getD_app {α : Type} {l m : List α} {i : Nat} {d : α} (h : i < l.length) : (l ++ m).getD i d = l.getD i d := by
  rw [List.getD_eq_getElem?_getD, List.getElem?_append_left h, ← List.getD_eq_getElem?_getD]
theorem get_app {α : Type} {l m : List α} {i : Nat} {x : α} (h : l[i]? = some x) : (l ++ m)[i]? = some x := by
  rw [List.getElem?_append_left (List.getElem?_eq_some_iff.1 h).1]; exact h
theorem get_last {α : Type} (l : List α) (x : α) : (l ++ [x])[l.length]? = some x := by simp
/-! ### sets of nodes -/
/-- The members below m. -/
def nodesTo (B : List Bool) (m : Nat) : List Nat := (List.range m).filter fun u => B.getD u false
def nodesOf (B : List Bool) : List Nat := nodesTo B B.length
theorem mem_nodesTo {B : List Bool} {m u : Nat} : u ∈ nodesTo B m ↔ u < m ∧ B.getD u false = true := by simp [nodesTo]
theorem mem_nodesOf {B : List Bool} {u : Nat} : u ∈ nodesOf B ↔ u < B.length ∧ B.getD u false = true := mem_nodesTo
/-- Edges of label s from node u, by the symbols below c. -/
def outTo (k N : Nat) (t : List Nat) (s u c : Nat) : List Nat := ((List.range c).filter fun c => decide (t.getD (u * k + c) 0 = s)).map fun c => (u * k + c) % N
/-- Where the edges of label s lead, from these nodes. -/
def behF (k N : Nat) (t : List Nat) (s : Nat) (M : List Nat) : List Nat := M.flatMap fun u => outTo k N t s u k
/-- N places, those of the list marked. -/
def mark (N : Nat) (L : List Nat) : List Bool := L.foldl (fun o v => o.set v true) (List.replicate N false)
theorem mark_len (N : Nat) (L : List Nat) : (mark N L).length = N := by
  have : ∀ (L : List Nat) (o : List Bool), (L.foldl (fun o v => o.set v true) o).length = o.length := by
    intro L
    induction L with
    | nil => intro o; rfl
    | cons v L ih => intro o; simp only [List.foldl_cons]; rw [ih]; simp
  rw [mark, this]; simp
/-- What comes behind a set by label s. -/
def beh (k N : Nat) (t : List Nat) (B : List Bool) (s : Nat) : List Bool := mark N (behF k N t s (nodesOf B))
theorem beh_len (k N : Nat) (t : List Nat) (B : List Bool) (s : Nat) : (beh k N t B s).length = N := mark_len _ _
theorem nodes_eq_nil {B : List Bool} : nodesOf B = [] ↔ ∀ u, u < B.length → B.getD u false = false := by
  constructor
  · intro h u hu
    cases hb : B.getD u false with
    | false => rfl
    | true => exact absurd (mem_nodesOf.2 ⟨hu, hb⟩) (by rw [h]; simp)
  · intro h
    refine List.eq_nil_iff_forall_not_mem.2 fun u hu => ?_
    obtain ⟨h1, h2⟩ := mem_nodesOf.1 hu
    rw [h u h1] at h2
    cases h2
/-! ### the walk -/
structure St where
  sets : List (List Bool)
  words : List (List Nat)
  next : List (List Int)
inductive Out
  | go (S : St) (row : List Int)
  | orphan (x : List Nat)
  | over

/-- One symbol: the set behind set i by symbol s. -/
def sym (k N : Nat) (t : List Nat) (stop : Bool) (i : Nat) (S : St) (row : List Int) (s : Nat) : Out :=
  if nodesOf (beh k N t (S.sets.getD i []) s) = [] then
    (if stop then .orphan (S.words.getD i [] ++ [s]) else .go S (row ++ [-1]))
  else if beh k N t (S.sets.getD i []) s ∈ S.sets then .go S (row ++ [((S.sets.idxOf (beh k N t (S.sets.getD i []) s) : Nat) : Int)])
  else if 4096 ≤ S.sets.length then .over
  else .go ⟨S.sets ++ [beh k N t (S.sets.getD i []) s], S.words ++ [S.words.getD i [] ++ [s]], S.next⟩ (row ++ [((S.sets.length : Nat) : Int)])
/-- The first s symbols of set i. -/
def rowTo (k N : Nat) (t : List Nat) (stop : Bool) (i : Nat) (S : St) : Nat → Out
  | 0 => .go S []
  | s + 1 => match rowTo k N t stop i S s with
    | .go S' row => sym k N t stop i S' row s
    | .orphan x => .orphan x
    | .over => .over
def init (N : Nat) : St := ⟨[List.replicate N true], [[]], []⟩
/-- Ahead of round i. -/
def roundTo (k N : Nat) (t : List Nat) (stop : Bool) : Nat → Out
  | 0 => .go (init N) []
  | i + 1 => match roundTo k N t stop i with
    | .go S row => if i < S.sets.length then
        (match rowTo k N t stop i S k with
         | .go S' row => .go ⟨S'.sets, S'.words, S'.next ++ [row]⟩ []
         | .orphan x => .orphan x
         | .over => .over)
      else .go S row
    | .orphan x => .orphan x
    | .over => .over
/-- What holds ahead of round i. -/
structure Inv (N i : Nat) (S : St) : Prop where
  len : S.words.length = S.sets.length
  ok : ∀ B ∈ S.sets, B.length = N
  some : ∀ B ∈ S.sets, nodesOf B ≠ []
  nd : S.sets.Nodup
  big : S.sets.length ≤ 4096
  next : S.next.length = i
  le : i ≤ S.sets.length
theorem Inv.init {N : Nat} (h : 0 < N) : Inv N 0 (init N) where
  len := rfl
  ok := fun B hB => by simp [SubP.init] at hB; simp [hB]
  some := fun B hB => by
    simp [SubP.init] at hB
    subst hB
    intro e
    have := nodes_eq_nil.1 e 0 (by simpa using h)
    rw [List.getD_eq_getElem?_getD, List.getElem?_replicate, if_pos h] at this
    cases this
  nd := by simp [SubP.init]
  big := by show 1 ≤ 4096; decide
  next := rfl
  le := Nat.zero_le _
theorem Inv.sym {k N : Nat} {t : List Nat} {stop : Bool} {i j s : Nat} {S S' : St} {row row' : List Int} (h : Inv N j S) (e : sym k N t stop i S row s = .go S' row') : Inv N j S' ∧ row'.length = row.length + 1 ∧ S.sets.length ≤ S'.sets.length := by
  unfold SubP.sym at e
  split at e
  · split at e
    · cases e
    · injection e with e1 e2; subst e1 e2; exact ⟨h, by simp, Nat.le_refl _⟩
  · rename_i h1
    split at e
    · injection e with e1 e2; subst e1 e2; exact ⟨h, by simp, Nat.le_refl _⟩
    · rename_i h2
      split at e
      · cases e
      · rename_i h3
        injection e with e1 e2
        subst e1 e2
        refine ⟨⟨?_, ?_, ?_, ?_, ?_, h.next, ?_⟩, by simp, by simp⟩
        · simp [h.len]
        · intro B hB
          rcases List.mem_append.1 hB with hB | hB
          · exact h.ok B hB
          · simp at hB; subst hB; exact beh_len _ _ _ _ _
        · intro B hB
          rcases List.mem_append.1 hB with hB | hB
          · exact h.some B hB
          · simp at hB; subst hB; exact h1
        · rw [List.nodup_append]
          exact ⟨h.nd, by simp, fun a ha b hb e => by simp at hb; subst hb; subst e; exact h2 ha⟩
        · simp; omega
        · have := h.le; simp; omega
theorem Inv.rowTo {k N : Nat} {t : List Nat} {stop : Bool} {i j : Nat} {S : St} (h : Inv N j S) : ∀ {s : Nat} {S' : St} {row : List Int}, rowTo k N t stop i S s = .go S' row → Inv N j S' ∧ row.length = s ∧ S.sets.length ≤ S'.sets.length
  | 0, S', row, e => by injection e with e1 e2; subst e1 e2; exact ⟨h, rfl, Nat.le_refl _⟩
  | s + 1, S', row, e => by
    unfold SubP.rowTo at e
    split at e
    · rename_i S1 row1 e1
      obtain ⟨h1, h2, h3⟩ := Inv.rowTo h e1
      obtain ⟨h4, h5, h6⟩ := h1.sym e
      exact ⟨h4, by omega, by omega⟩
    · cases e
    · cases e
theorem Inv.round {k N : Nat} {t : List Nat} {stop : Bool} (hN : 0 < N) : ∀ {i : Nat} {S : St} {row : List Int}, roundTo k N t stop i = .go S row → row = [] ∧ ∃ j, Inv N j S ∧ j ≤ i ∧ (j < i → j = S.sets.length)
  | 0, S, row, e => by injection e with e1 e2; subst e1 e2; exact ⟨rfl, 0, Inv.init hN, Nat.le_refl _, fun h => by omega⟩
  | i + 1, S, row, e => by
    unfold roundTo at e
    split at e
    · rename_i S1 row1 e1
      obtain ⟨rfl, j, hj, hji, hjs⟩ := Inv.round hN e1
      split at e
      · rename_i hlt
        have hji' : j = i := by
          rcases Nat.lt_or_ge j i with h | h
          · have := hjs h; omega
          · omega
        subst hji'
        split at e
        · rename_i S2 row2 e2
          injection e with e3 e4
          subst e3 e4
          obtain ⟨h1, h2, h3⟩ := hj.rowTo e2
          exact ⟨rfl, j + 1, ⟨h1.len, h1.ok, h1.some, h1.nd, h1.big, by simp [h1.next], by show j + 1 ≤ S2.sets.length; omega⟩, Nat.le_refl _, fun h => by omega⟩
        · cases e
        · cases e
      · rename_i hlt
        injection e with e3 e4
        subst e3 e4
        refine ⟨rfl, j, hj, by omega, fun _ => ?_⟩
        have := hj.le
        rcases Nat.lt_or_ge j i with h | h
        · exact hjs h
        · omega
    · cases e
    · cases e

end SubP
end Go.Proofs.YtiobnnhjnkcafaaDoor
