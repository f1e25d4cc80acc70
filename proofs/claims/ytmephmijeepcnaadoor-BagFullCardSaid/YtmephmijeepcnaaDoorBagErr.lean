/- bag's errors: bag.wrong; put at the limit; bits, Put, Find of lists that are no sets; Find of a set that is not there. Condition: the error variables hold what E says. -/
import Derived.Test.YtmephmijeepcnaaDoorBagUni
import Derived.Test.YtmephmijeepcnaaDoorRawErr
namespace Go.Proofs.YtmephmijeepcnaaDoor
open Go.RowKit Go.WideMaps Go.Maps BagP

def sBag : ByteArray := ⟨#[98, 97, 103]⟩
theorem bagWrong_c (w : World) (E : Nat → Addr) (hE : Errs w E) (at' : Int) (n : Nat) (h1 : 1 ≤ n) (h2 : n ≤ 11) :
    Calls Tryd.prog 23 #[.int .i64 at', .int .i64 (n : Int)] w fun e w' => e = .returned (errV w.heap.size) ∧ ErrIs w' E n [(sBag, at')] (errV w.heap.size) ∧ Below w.heap.size w w' := by
  have HE := Lib.hid hE
  clear hE
  go_enter Tryd.func23, Tryd.ntmps23
  go_wp2_with fail
  refine (new_c w E HE.out sBag at' n h1 h2).mono ?_
  rintro e w' ⟨rfl, rfl⟩
  go_wp2_with fail
  go_ret
  exact ⟨rfl, ⟨w.heap.size, _, rfl, heap_new _ _, rfl⟩, (Below.refl _ _).alloc (Nat.le_refl _) _⟩

set_option maxRecDepth 100000 in
set_option maxHeartbeats 1000000 in
theorem put_full {w : World} {bb mb : Nat} {sv : Value} {rows : List Value} {D : DataW Unit} {n : Nat} {S : List (List Nat)} {O : Nat → Prop} (hB : BagAt w bb mb sv rows D n S O) (E : Nat → Addr) (hE : Errs w E)
    (A : Option Addr) (c : Nat) (l : List Nat) (ho : Ok64 l) (hl : l.length = wlen n) (hr : Sl w A (wlen n) (l.map uv)) (hn : l ∉ S) (hfull : S.length = 4096) :
    Calls Tryd.prog 25 #[.pointer (some ⟨bb, 0, none⟩), .slice A (wlen n) c] w fun e w' => ∃ b, e = .returned (.tuple #[.int .i64 0, .bool false, errV b]) ∧ ErrIs w' E 4 [(sBag, 0)] (errV b) ∧ Below w.heap.size w w' := by
  have hwl := wlen_le hB.nn
  have hkey := key_of l (by omega)
  have hh : Maps.has D (.string (keyB l)) = false := by rw [(hB.rel.2 l ho).1]; exact decide_eq_false hn
  have HH := Lib.hid hh
  have hlen : ((S.length : Int) == 4096) = true := by rw [hfull]; rfl
  have HE := Lib.hid (fun (wz : World) (hz : Below w.heap.size w wz) => bagWrong_c wz E (hE.below hz) 0 4 (by decide) (by decide))
  clear hh hl hfull hE
  go_enter Tryd.func25, Tryd.ntmps25
  go_wp2_with fail
  refine (key_c _ A (wlen n) c l (by omega) hr ho).mono ?_
  rintro e w1 ⟨rfl, hb1⟩
  have hB1 := hB.keeps (Keeps.of_pure hb1 (fun _ => False)) (fun _ _ h => h)
  obtain ⟨c0, c1, c2, f1⟩ := blk_cells hB1.blk
  have hmap := hB1.map
  obtain ⟨SA, sc, rfl, _, _⟩ := own_slice hB1.own
  go_wp2_with (at_lookup; refine wpList_lookup_own_ok_int _ rfl _ _ _ rfl 9 3 .i64 keyLaw Tryd.underlying56 Tryd.underlying3 (zeroInt _) mb _ D rfl hmap _ _ rfl hkey ?_; intro c' hat' _; rw [HH.out])
  refine (HE.out w1 hb1).mono ?_
  rintro e w2 ⟨rfl, he2, hb2⟩
  go_wp2_with fail
  go_ret3
  exact ⟨_, rfl, he2, hb1.trans (hb2.mono hb1.size)⟩

set_option maxRecDepth 100000 in
set_option maxHeartbeats 1000000 in
/-- A bag at its limit refuses a new set. -/
theorem Put_full {w : World} {p : Value} {n : Nat} {S : List (List Nat)} {O : Nat → Prop} (hB : BagIs w p n S O) (E : Nat → Addr) (hE : Errs w E) (A : Option Addr) (m c : Nat) (xs : List Int) (hm : m ≤ 140737488355328)
    (h : Sl w A m (xs.map (Value.int .i64))) (hx : ∀ x ∈ xs, 0 ≤ x ∧ x < (n : Int)) (hn : bitsOf n xs ∉ S) (hfull : S.length = 4096) :
    Calls Tryd.prog 9 #[p, .slice A m c] w fun e w' => ∃ b, e = .returned (.tuple #[.int .i64 0, .bool false, errV b]) ∧ ErrIs w' E 4 [(sBag, 0)] (errV b) ∧ Below w.heap.size w w' := by
  obtain ⟨bb, mb, sv, rows, D, rfl, hb⟩ := hB
  obtain ⟨c0, _, _, _⟩ := blk_cells hb.blk
  have HF := Lib.hid hfull
  have HN := Lib.hid hn
  have HE := Lib.hid (fun (wz : World) (hz : Below w.heap.size w wz) => hE.below hz)
  clear hfull hn hE
  go_enter Tryd.func9, Tryd.ntmps9
  go_wp2_with fail
  refine (bits_c w bb n hb.nn c0 A m c xs hm h hx).mono ?_
  rintro e w1 ⟨rfl, hr1, hb1⟩
  have hB1 := hb.keeps (Keeps.of_pure hb1 (fun _ => False)) (fun _ _ h => h)
  go_wp2_with fail
  refine (put_full hB1 E (HE.out w1 hb1) _ _ (bitsOf n xs) (ok_bitsOf n xs) (length_bitsOf n xs) (Sl.of_own hr1) HN.out HF.out).mono ?_
  rintro e w2 ⟨b, rfl, he2, hb2⟩
  go_wp2_with fail
  go_ret3
  exact ⟨b, rfl, he2, hb1.trans (hb2.mono hb1.size)⟩

set_option maxRecDepth 100000 in
set_option maxHeartbeats 1000000 in
/-- Put of a set that is there: its number; memory stays. -/
theorem Put_in {w : World} {p : Value} {n : Nat} {S : List (List Nat)} {O : Nat → Prop} (hB : BagIs w p n S O) (A : Option Addr) (m c : Nat) (xs : List Int) (hm : m ≤ 140737488355328)
    (h : Sl w A m (xs.map (Value.int .i64))) (hx : ∀ x ∈ xs, 0 ≤ x ∧ x < (n : Int)) (i : Nat) (hi : S[i]? = some (bitsOf n xs)) :
    Calls Tryd.prog 9 #[p, .slice A m c] w fun e w' => e = .returned (.tuple #[.int .i64 (i : Int), .bool false, .nilIface]) ∧ Below w.heap.size w w' := by
  obtain ⟨bb, mb, sv, rows, D, rfl, hb⟩ := hB
  obtain ⟨c0, _, _, _⟩ := blk_cells hb.blk
  have HI := Lib.hid hi
  clear hi
  go_enter Tryd.func9, Tryd.ntmps9
  go_wp2_with fail
  refine (bits_c w bb n hb.nn c0 A m c xs hm h hx).mono ?_
  rintro e w1 ⟨rfl, hr1, hb1⟩
  have hB1 := hb.keeps (Keeps.of_pure hb1 (fun _ => False)) (fun _ _ h => h)
  go_wp2_with fail
  refine (put_old hB1 _ _ (bitsOf n xs) (ok_bitsOf n xs) (length_bitsOf n xs) (Sl.of_own hr1) i HI.out).mono ?_
  rintro e w2 ⟨rfl, hb2⟩
  go_wp2_with fail
  go_ret3
  exact ⟨rfl, hb1.trans (hb2.mono hb1.size)⟩

/-- v, ok := m[k]: what the operation gives, for a region that draws its order. -/
theorem look_run {w : World} {mb N : Nat} {D : DataW Unit} (hmap : w.ownsMap Tryd.prog 9 (plainElem (H := Unit) Tryd.prog 3) mb N D) (l : List Nat) (hkey : keyOf Tryd.prog 9 (.string ⟨(keyB l).toArray⟩) = some (.string (keyB l))) (r : Bool) (hr : Maps.has D (.string (keyB l)) = r) :
    ∃ c : Int, D.atKey (.string (keyB l)) (.lit (.int .i64 0)) = .lit (.int .i64 c) ∧ (Instr.lookup 56 (.map (some mb)) (.string ⟨(keyB l).toArray⟩) true).run Tryd.prog w = .ok (.tuple #[.int .i64 c, .bool r]) w := by
  subst hr
  obtain ⟨v, ps, hrun, hv⟩ := hmap.look_ok keyLaw Tryd.underlying56 (zeroInt w) (plainElem_int Tryd.underlying3 (by decide)) hkey
  obtain ⟨c, rfl, hc, _⟩ := plainElem_int_inv Tryd.underlying3 hv
  exact ⟨c, congrArg Prod.fst hc, hrun⟩

/-- What Find tells of a list of members: the set's number, or -1. -/
def findI (S : List (List Nat)) (l : List Nat) : Int := if l ∈ S then ((S.idxOf l : Nat) : Int) else -1
set_option maxRecDepth 100000 in
set_option maxHeartbeats 1000000 in
theorem Find_c {w : World} {p : Value} {n : Nat} {S : List (List Nat)} {O : Nat → Prop} (hB : BagIs w p n S O) (A : Option Addr) (m c : Nat) (xs : List Int) (hm : m ≤ 140737488355328)
    (h : Sl w A m (xs.map (Value.int .i64))) (hx : ∀ x ∈ xs, 0 ≤ x ∧ x < (n : Int)) :
    Calls Tryd.prog 17 #[p, .slice A m c] w fun e w' => e = .returned (.tuple #[.int .i64 (findI S (bitsOf n xs)), .nilIface]) ∧ Below w.heap.size w w' := by
  obtain ⟨bb, mb, sv, rows, D, rfl, hb⟩ := hB
  obtain ⟨c0, _, _, _⟩ := blk_cells hb.blk
  have hnn := hb.nn
  have hwl := wlen_le hnn
  have hlb := length_bitsOf n xs
  have hkey := key_of (bitsOf n xs) (by omega)
  obtain ⟨l, hl⟩ : ∃ l, bitsOf n xs = l := ⟨_, rfl⟩
  have HLO := Lib.hid (show Ok64 l by rw [← hl]; exact ok_bitsOf n xs)
  have HBC := Lib.hid (bits_c w bb n hnn c0 A m c xs hm h hx)
  rw [hl] at HBC hkey ⊢
  obtain ⟨fi, hfi⟩ : ∃ fi, findI S l = fi := ⟨_, rfl⟩
  have HFI := Lib.hid hfi
  rw [hfi]
  clear hl hlb h hx hfi
  go_enter Tryd.func17, Tryd.ntmps17
  go_wp2_with fail
  refine (HBC.out).mono ?_
  rintro e w1 ⟨rfl, hr1, hb1⟩
  have hB1 := hb.keeps (Keeps.of_pure hb1 (fun _ => False)) (fun _ _ h => h)
  obtain ⟨d0, d1, d2, f1⟩ := blk_cells hB1.blk
  have HB1 := Lib.hid hB1
  have HR1 := Lib.hid hr1
  have HW1 := Lib.hid hb1
  have HKEY := Lib.hid hkey
  clear c0 hr1 hb1 hB1 hkey HBC
  by_cases hin : l ∈ S
  · obtain ⟨i, hi⟩ := List.getElem?_of_mem hin
    have hf : findI S l = (i : Int) := by unfold findI; rw [if_pos hin, idx_nodup hb.nd hi]
    have HH := Lib.hid (show Maps.has D (.string (keyB l)) = true by rw [(hb.rel.2 l HLO.out).1]; exact decide_eq_true hin)
    have HAT := Lib.hid ((hb.rel.2 l HLO.out).2 i hi)
    have HF := Lib.hid hf
    clear hf hin hi hb
    go_wp2_with fail
    go_region_held3 (fun wz => wz.cell? ⟨bb, 2, none⟩ = some (.map (some mb)))
      (first | exact d2 | exact cell_later ((Below.refl _ _).drew) d2 | exact cell_later hbk d2)
      (first
        | (go_simp
           go_at_call 28
           refine (key_c _ _ (wlen n) _ l (by omega) ((Sl.of_own HR1.out).below ((Below.refl _ _).drew)) HLO.out).mono ?_
           rintro e w2 ⟨rfl, b2⟩
           have hbk : Below w1.heap.size w1 w2 := ((Below.refl w1.heap.size w1).drew).trans b2
           obtain ⟨c', hc', hlk⟩ := look_run (HB1.out.keeps (Keeps.of_pure hbk (fun _ => False)) (fun _ _ h => h)).map l HKEY.out true HH.out
           have HC := Lib.hid hc'
           clear hc'
           dsimp only))
    obtain rfl : c' = (i : Int) := by
      have := HC.out.symm.trans HAT.out
      injection this with this
      injection this
    go_wp2_with fail
    go_ret2
    have e1 := HFI.out.symm.trans HF.out
    subst e1
    exact ⟨rfl, HW1.out.trans (hbk.mono HW1.out.size)⟩
  · have hf : findI S l = -1 := if_neg hin
    have HH := Lib.hid (show Maps.has D (.string (keyB l)) = false by rw [(hb.rel.2 l HLO.out).1]; exact decide_eq_false hin)
    have HF := Lib.hid hf
    clear hf hin hb
    go_wp2_with fail
    go_region_held3 (fun wz => wz.cell? ⟨bb, 2, none⟩ = some (.map (some mb)))
      (first | exact d2 | exact cell_later ((Below.refl _ _).drew) d2 | exact cell_later hbk d2)
      (first
        | (go_simp
           go_at_call 28
           refine (key_c _ _ (wlen n) _ l (by omega) ((Sl.of_own HR1.out).below ((Below.refl _ _).drew)) HLO.out).mono ?_
           rintro e w2 ⟨rfl, b2⟩
           have hbk : Below w1.heap.size w1 w2 := ((Below.refl w1.heap.size w1).drew).trans b2
           obtain ⟨c', hc', hlk⟩ := look_run (HB1.out.keeps (Keeps.of_pure hbk (fun _ => False)) (fun _ _ h => h)).map l HKEY.out false HH.out
           have HC := Lib.hid hc'
           clear hc'
           dsimp only))
    go_wp2_with fail
    go_ret2
    have e1 := HFI.out.symm.trans HF.out
    subst e1
    exact ⟨rfl, HW1.out.trans (hbk.mono HW1.out.size)⟩
end Go.Proofs.YtmephmijeepcnaaDoor
