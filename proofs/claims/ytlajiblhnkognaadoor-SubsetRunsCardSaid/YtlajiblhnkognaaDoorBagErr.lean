/- bag's errors: bag.wrong; put at the limit; bits, Put, Find of lists that are no sets; Find of a set that is not there. Condition: the error variables hold what E says. -/
import Derived.Test.YtlajiblhnkognaaDoorBagUni
import Derived.Test.YtlajiblhnkognaaDoorRawErr
namespace Go.Proofs.YtlajiblhnkognaaDoor
open Go.RowKit Go.WideMaps Go.Maps BagP

def sBag : ByteArray := ⟨#[98, 97, 103]⟩
theorem bagWrong_c (w : World) (E : Nat → Addr) (hE : Errs w E) (at' : Int) (n : Nat) (h1 : 1 ≤ n) (h2 : n ≤ 11) :
    Calls Tryd.prog 71 #[.int .i64 at', .int .i64 (n : Int)] w fun e w' => e = .returned (errV w.heap.size) ∧ ErrIs w' E n [(sBag, at')] (errV w.heap.size) ∧ Below w.heap.size w w' := by
  have HE := Lib.hid hE
  clear hE
  go_enter Tryd.func71, Tryd.ntmps71
  go_wp2_with fail
  refine (new_c w E HE.out sBag at' n h1 h2).mono ?_
  rintro e w' ⟨rfl, rfl⟩
  go_wp2_with fail
  go_ret
  exact ⟨rfl, ⟨w.heap.size, _, rfl, heap_new _ _, rfl⟩, (Below.refl _ _).alloc (Nat.le_refl _) _⟩

set_option maxRecDepth 100000 in
set_option maxHeartbeats 1000000 in
theorem put_full {w : World} {bb mb : Nat} {sv : Value} {rows : List Value} {D : DataW Unit} {n : Nat} {S : List (List Nat)} {O : Nat → Prop} (hB : BagAt w bb mb sv rows D n S O) (E : Nat → Addr) (hE : Errs w E)
    (A : Option Addr) (c : Nat) (l : List Nat) (ho : Ok64 l) (hl : l.length = wlen n) (hr : Sl w A (wlen n) (l.map uv)) (hn : l ∉ S) (hfull : S.length = 4096) :
    Calls Tryd.prog 73 #[.pointer (some ⟨bb, 0, none⟩), .slice A (wlen n) c] w fun e w' => ∃ b, e = .returned (.tuple #[.int .i64 0, .bool false, errV b]) ∧ ErrIs w' E 4 [(sBag, 0)] (errV b) ∧ Below w.heap.size w w' := by
  have hwl := wlen_le hB.nn
  have hkey := key_of l (by omega)
  have hh : Maps.has D (.string (keyB l)) = false := by rw [(hB.rel.2 l ho).1]; exact decide_eq_false hn
  have HH := Lib.hid hh
  have hlen : ((S.length : Int) == 4096) = true := by rw [hfull]; rfl
  have HE := Lib.hid (fun (wz : World) (hz : Below w.heap.size w wz) => bagWrong_c wz E (hE.below hz) 0 4 (by decide) (by decide))
  clear hh hl hfull hE
  go_enter Tryd.func73, Tryd.ntmps73
  go_wp2_with fail
  refine (key_c _ A (wlen n) c l (by omega) hr ho).mono ?_
  rintro e w1 ⟨rfl, hb1⟩
  have hB1 := hB.keeps (Keeps.of_pure hb1 (fun _ => False)) (fun _ _ h => h)
  obtain ⟨c0, c1, c2, f1⟩ := blk_cells hB1.blk
  have hmap := hB1.map
  obtain ⟨SA, sc, rfl, _, _⟩ := own_slice hB1.own
  go_wp2_with (at_lookup; refine wpList_lookup_own_ok_int _ rfl _ _ _ rfl 9 3 .i64 keyLaw Tryd.underlying118 Tryd.underlying3 (zeroInt _) mb _ D rfl hmap _ _ rfl hkey ?_; intro c' hat' _; rw [HH.out])
  refine (HE.out w1 hb1).mono ?_
  rintro e w2 ⟨rfl, he2, hb2⟩
  go_wp2_with fail
  go_ret3
  exact ⟨_, rfl, he2, hb1.trans (hb2.mono hb1.size)⟩

set_option maxRecDepth 100000 in
set_option maxHeartbeats 1000000 in
/-- A bag at its limit refuses a new set. -/
theorem Put_full {w : World} {p : Value} {n : Nat} {S : List (List Nat)} {O : Nat → Prop} (hB : BagIs w p n S O) (E : Nat → Addr) (hE : Errs w E) (A : Option Addr) (m c : Nat) (xs : List Int) (hm : m ≤ 140737488355328)
    (h : Sl w A m (xs.map (Value.int .i64))) (hx : ∀ x ∈ xs, 0 ≤ x ∧ x < (n : Int)) (hn : bitsOf n xs ∉ S) (hfull : S.length = 4096) :
    Calls Tryd.prog 48 #[p, .slice A m c] w fun e w' => ∃ b, e = .returned (.tuple #[.int .i64 0, .bool false, errV b]) ∧ ErrIs w' E 4 [(sBag, 0)] (errV b) ∧ Below w.heap.size w w' := by
  obtain ⟨bb, mb, sv, rows, D, rfl, hb⟩ := hB
  obtain ⟨c0, _, _, _⟩ := blk_cells hb.blk
  have HF := Lib.hid hfull
  have HN := Lib.hid hn
  have HE := Lib.hid (fun (wz : World) (hz : Below w.heap.size w wz) => hE.below hz)
  clear hfull hn hE
  go_enter Tryd.func48, Tryd.ntmps48
  go_wp2_with fail
  refine (bits_c w bb n hb.nn c0 A m c xs hm h hx).mono ?_
  rintro e w1 ⟨rfl, hr1, hb1⟩
  have hB1 := hb.keeps (Keeps.of_pure hb1 (fun _ => False)) (fun _ _ h => h)
  go_wp2_with fail
  refine (put_full hB1 E (HE.out w1 hb1) _ _ (bitsOf n xs) (ok_bitsOf n xs) (length_bitsOf n xs) (Sl.of_own hr1) HN.out HF.out).mono ?_
  rintro e w2 ⟨b, rfl, he2, hb2⟩
  go_wp2_with fail
  go_ret3
  exact ⟨b, rfl, he2, hb1.trans (hb2.mono hb1.size)⟩

set_option maxRecDepth 100000 in
set_option maxHeartbeats 1000000 in
/-- Put of a set that is there: its number; memory stays. -/
theorem Put_in {w : World} {p : Value} {n : Nat} {S : List (List Nat)} {O : Nat → Prop} (hB : BagIs w p n S O) (A : Option Addr) (m c : Nat) (xs : List Int) (hm : m ≤ 140737488355328)
    (h : Sl w A m (xs.map (Value.int .i64))) (hx : ∀ x ∈ xs, 0 ≤ x ∧ x < (n : Int)) (i : Nat) (hi : S[i]? = some (bitsOf n xs)) :
    Calls Tryd.prog 48 #[p, .slice A m c] w fun e w' => e = .returned (.tuple #[.int .i64 (i : Int), .bool false, .nilIface]) ∧ Below w.heap.size w w' := by
  obtain ⟨bb, mb, sv, rows, D, rfl, hb⟩ := hB
  obtain ⟨c0, _, _, _⟩ := blk_cells hb.blk
  have HI := Lib.hid hi
  clear hi
  go_enter Tryd.func48, Tryd.ntmps48
  go_wp2_with fail
  refine (bits_c w bb n hb.nn c0 A m c xs hm h hx).mono ?_
  rintro e w1 ⟨rfl, hr1, hb1⟩
  have hB1 := hb.keeps (Keeps.of_pure hb1 (fun _ => False)) (fun _ _ h => h)
  go_wp2_with fail
  refine (put_old hB1 _ _ (bitsOf n xs) (ok_bitsOf n xs) (length_bitsOf n xs) (Sl.of_own hr1) i HI.out).mono ?_
  rintro e w2 ⟨rfl, hb2⟩
  go_wp2_with fail
  go_ret3
  exact ⟨rfl, hb1.trans (hb2.mono hb1.size)⟩

/-- v, ok := m[k]: what the operation gives, for a region that draws its order. -/
theorem look_run {w : World} {mb N : Nat} {D : DataW Unit} (hmap : w.ownsMap Tryd.prog 9 (plainElem (H := Unit) Tryd.prog 3) mb N D) (l : List Nat) (hkey : keyOf Tryd.prog 9 (.string ⟨(keyB l).toArray⟩) = some (.string (keyB l))) (r : Bool) (hr : Maps.has D (.string (keyB l)) = r) :
    ∃ c : Int, D.atKey (.string (keyB l)) (.lit (.int .i64 0)) = .lit (.int .i64 c) ∧ (Instr.lookup 118 (.map (some mb)) (.string ⟨(keyB l).toArray⟩) true).run Tryd.prog w = .ok (.tuple #[.int .i64 c, .bool r]) w := by
  subst hr
  obtain ⟨v, ps, hrun, hv⟩ := hmap.look_ok keyLaw Tryd.underlying118 (zeroInt w) (plainElem_int Tryd.underlying3 (by decide)) hkey
  obtain ⟨c, rfl, hc, _⟩ := plainElem_int_inv Tryd.underlying3 hv
  exact ⟨c, congrArg Prod.fst hc, hrun⟩

/-- What Find tells of a list of members: the set's number, or -1. -/
def findI (S : List (List Nat)) (l : List Nat) : Int := if l ∈ S then ((S.idxOf l : Nat) : Int) else -1
end Go.Proofs.YtlajiblhnkognaaDoor
