/- What strings.TrimLeft returns at the cutset "0". No condition. Bytes that the call owns, as a text. Plain lemmas over memory. No condition. The text of a set: bag.key returns the bytes of its words. Condition: at most 1048576 words. What bag.put does with the words of a set: a set that is there keeps its number, a new one gets the next. Condition: there is room. What the bag's methods answer: Put, Len, Get, Has. Condition: the numbers are in range and there is room. What the bag's methods answer: Has and Union. Condition: the numbers are in range and there is room. -/
import Derived.Lib.Strings
import Derived.Lib.Walk
import Derived.Lib.TrimByte
import Derived.Laws.Strings3
import Derived.Laws.BytesArg
import Derived.Test.YtiobnnhjnkcafaaDoorP1
namespace Go.Proofs.YtiobnnhjnkcafaaDoor
open Go.RowKit

end Go.Proofs.YtiobnnhjnkcafaaDoor

namespace Go.Proofs.YtiobnnhjnkcafaaDoor
open Go.RowKit

def bv (b : UInt8) : Value := .int .u8 (b.toNat : Int)

theorem run_own_string {P : Program} (w : World) (src dst e : TypeId) (hs : P.underlying src = some (.slice e)) (he : P.underlying e = some (.int .u8)) (hd : P.underlying dst = some .string)
    {base : Nat} {A : Option Addr} {n c : Nat} {bs : List UInt8} (h : w.ownsRow base e 1 (.slice A n c) n (bs.map bv)) :
    (convert src dst (.slice A n c)).run P w = .ok (.string ⟨bs.toArray⟩) w := by
  have hl : bs.length = n := by simpa using h.1
  have hsl := Sl.of_own h
  cases A with
  | none =>
    have hb : bs = [] := by
      cases bs with
      | nil => rfl
      | cons b bs =>
        obtain ⟨ad, e', _⟩ := hsl.2 0 (bv b) (by simp)
        cases e'
    subst hb
    rw [run_convert_bytes_nil w src e hs he n c dst hd]
    rfl
  | some ad =>
    have hcells : (loadCells ad n).run P w = .ok ((bs.map (fun b => (b.toNat : Int))).map (Value.int .u8)).toArray w := by
      have := run_loadCells_list (P := P) w ad (bs.map bv) (fun j v hj => by
        obtain ⟨ad', e', hc⟩ := hsl.2 j v hj
        cases e'
        exact hc)
      rw [List.length_map, hl] at this
      rw [this, List.map_map]
      rfl
    rw [run_convert_bytes_string w src dst e _ n c hs he hd, run_bytesToString w _ n c _ hcells, foldl_push_bytes]
    congr 1
    congr 1
    simp only [ByteArray.empty, ByteArray.emptyWithCapacity, List.map_map]
    have : (bs.map ((fun (n : Int) => UInt8.ofNat n.toNat) ∘ fun b => (b.toNat : Int))) = bs := by
      conv => rhs; rw [← List.map_id bs]
      apply List.map_congr_left
      intro b _
      simp
    rw [this]
    simp
    rfl

end Go.Proofs.YtiobnnhjnkcafaaDoor

namespace Go.Proofs.YtiobnnhjnkcafaaDoor
open Go.RowKit BagP

theorem shr_step (u j : Nat) : Value.int .u64 ((u : Int) / 256 ^ j / 256) = Value.int .u64 ((u / 256 ^ (j + 1) : Nat) : Int) := by
  rw [Nat.pow_succ, ← Nat.div_div_eq_div_mul]
  simp
theorem byte_step {A : List UInt8} (u j : Nat) (hj : j < 8) : (A ++ (keyW u).take j).map bv ++ [Value.int .u8 ((u : Int) / 256 ^ j % 256)] = (A ++ (keyW u).take (j + 1)).map bv := by
  have : (keyW u)[j]? = some (keyByte u j) := by rw [keyW, List.getElem?_map, List.getElem?_range hj]; rfl
  rw [List.take_add_one, this]
  simp [bv, toNat_keyByte]
theorem key_step {l : List Nat} {k u : Nat} (h : l[k]? = some u) : keyB (l.take (k + 1)) = keyB (l.take k) ++ (keyW u).take 8 := by
  rw [List.take_add_one, h]
  have h8 : (keyW u).take 8 = keyW u := List.take_of_length_le (by rw [length_keyW]; exact Nat.le_refl _)
  rw [h8]
  simp [keyB]

set_option maxRecDepth 100000 in
set_option maxHeartbeats 400000 in
theorem key_c (w : World) (A : Option Addr) (m c : Nat) (l : List Nat) (hm : m ≤ 1048576) (h : Sl w A m (l.map uv)) (ho : Ok64 l) :
    Calls Tryd.prog 42 #[.slice A m c] w fun e w' => e = .returned (.string ⟨(keyB l).toArray⟩) ∧ Below w.heap.size w w' := by
  have hl : l.length = m := by simpa using h.1
  have HL := Lib.hid hl
  clear hl
  obtain ⟨i0, hi, hz0, hz1, hz2⟩ := info_parts tBytes.info
  go_enter Tryd.func42, Tryd.ntmps42
  go_wp2_with (at_make; refine wpList_make_own _ rfl _ _ _ rfl w.heap.size 5 i0 (.int .u8 0) 1 tBytes.und hi hz0 hz1 _ _ (8 * (m : Int)) (8 * m) rfl rfl (by simp) (by rw [hz2]; omega) (by simp only [maxLen]; omega) (Nat.le_refl _) ?_; intro w1 hown1 hg1)
  go_loopw [3, 12] (fun s i wr => ∃ k : Nat, k ≤ m ∧ i = .int .i64 k ∧ wr.ownsRow w.heap.size 5 1 s (8 * k) ((keyB (l.take k)).map bv) ∧ Below w.heap.size w wr) (fun _ i _ => m - (intOf i).toNat)
  case atStart => exact ⟨0, Nat.zero_le _, rfl, hown1, (Below.refl _ _).grown hg1 (Nat.le_refl _) (by simp)⟩
  case round =>
    obtain ⟨k, hk, rfl, hown, hb⟩ := hrel
    clear hown1 hg1 
    by_cases hlt : k < m
    · obtain ⟨ad, u, rfl, hxk, hcx⟩ := (h.below hb).word_ hlt
      have hu := ho u (List.mem_of_getElem? hxk)
      have HX := Lib.hid hxk
      have HU := Lib.hid hu
      clear hxk hu
      obtain ⟨wo, rfl⟩ : ∃ wo : World, wo = wr := ⟨_, rfl⟩
      go_wp2
      go_loopw [3, 5, 16] (fun s x i wr => ∃ j : Nat, j ≤ 8 ∧ i = .int .i64 j ∧ x = .int .u64 ((u / 256 ^ j : Nat) : Int) ∧ wr.ownsRow w.heap.size 5 1 s (8 * k + j) ((keyB (l.take k) ++ (keyW u).take j).map bv) ∧ Below w.heap.size w wr) (fun _ _ i _ => 8 - (intOf i).toNat)
      case atStart => exact ⟨0, by omega, rfl, by simp, by simpa using hown, hb⟩
      case round =>
        obtain ⟨j, hj, rfl, rfl, hown2, hb2⟩ := hrel
        clear hown hb hcx
        by_cases hj8 : j < 8
        · go_wp2_with (at_builtin; refine wpList_push rfl _ _ _ rfl tBytes hown2 rfl _ 0 rfl rfl rfl (by simp only [maxLen]; omega) (by omega) hb2.size ?_; intro g cap w2 hown3 hg3 hat3 hlt3)
          have hb3 := hb2.grown hg3 hb2.size (fun q hq => (hown2.lt q hq).1)
          refine ⟨⟨j + 1, by omega, by go_num, shr_step u j, ?_, hb3⟩, by simp [intOf]; omega⟩
          rw [byte_step u j hj8] at hown3
          exact hown3
        · have E := Lib.hid (show j = 8 by omega)
          go_wp2
          refine ⟨⟨k + 1, by omega, by go_num, ?_, hb2⟩, by simp [intOf]; omega⟩
          have e2 := key_step (l := l) HX.out
          rw [E.out] at hown2
          rw [e2]
          exact hown2
    · have E := Lib.hid (show k = m by omega)
      rw [show keyB (l.take k) = keyB l from by rw [E.out, List.take_of_length_le (by rw [HL.out]; exact Nat.le_refl _)]] at hown
      obtain ⟨A', c', rfl, _, _⟩ := own_slice hown
      have hconv := run_own_string (P := Tryd.prog) wr 123 9 5 tBytes.und Tryd.underlying5 Tryd.underlying9 hown
      go_wp2
      go_ret
      exact ⟨rfl, hb⟩

end Go.Proofs.YtiobnnhjnkcafaaDoor

namespace Go.Proofs.YtiobnnhjnkcafaaDoor
open Go.RowKit Go.WideMaps Go.Maps BagP

/-- A new set is kept behind the others. -/
def bagMore (O : Nat → Prop) (H : Nat) (A : Option Addr) (k : Nat) : Prop := O k ∨ H ≤ k ∨ ∃ ad, A = some ad ∧ k = ad.block

theorem put_end {w w1 w2 w3 : World} {bb mb : Nat} {SA : Option Addr} {sc : Nat} {rows : List Value} {D : DataW Unit} {n : Nat} {S : List (List Nat)} {O : Nat → Prop} (hB : BagAt w bb mb (.slice SA S.length sc) rows D n S O)
    {A : Option Addr} {c : Nat} {l : List Nat} (ho : Ok64 l) (hl : l.length = wlen n) (hr : w.ownsRow 0 82 1 (.slice A (wlen n) c) (wlen n) (l.map uv)) (hn : l ∉ S) (hroom : S.length < 4096)
    (hb1 : Below w.heap.size w w1) (hne : bb ≠ mb)
    (hmap2 : w2.ownsMap Tryd.prog 9 (plainElem (H := Unit) Tryd.prog 3) mb (S.length + 1) (D.put (.string (keyB l)) (.lit (.int .i64 (S.length : Int))))) (hg2 : w1.grownBy w2 (some mb))
    {g cap : Nat} (hown3 : w3.ownsRow 0 79 1 (.slice (some ⟨g, 0, none⟩) (S.length + 1) cap) (S.length + 1) (rows ++ [.slice A (wlen n) c])) (hg3 : w2.grownBy w3 (Value.slice SA S.length sc).ownBlock)
    (hat3 : (Value.slice SA S.length sc).ownBlock = some g ∨ w2.heap.size < g) (blk3 : w3.heap[bb]? = some (.cells #[.int .i64 (n : Int), .slice SA S.length sc, .map (some mb)] 55 (0, 0))) :
    BagIs (w3.setCell ⟨bb, 1, none⟩ (.slice (some ⟨g, 0, none⟩) (S.length + 1) cap)) (.pointer (some ⟨bb, 0, none⟩)) n (S ++ [l]) (bagMore O w.heap.size A) ∧
      Keeps O w (w3.setCell ⟨bb, 1, none⟩ (.slice (some ⟨g, 0, none⟩) (S.length + 1) cap)) := by
  have k1 : Keeps (fun _ => False) w w1 := Keeps.of_pure hb1 _
  have k2 := Keeps.of_grown hg2
  have k3 := Keeps.of_grown hg3
  have k4 := Keeps.of_setCell w3 ⟨bb, 1, none⟩ (.slice (some ⟨g, 0, none⟩) (S.length + 1) cap)
  have hB1 := hB.keeps k1 (fun _ _ h => h)
  obtain ⟨es1, ck1, hm1, _⟩ := hB1.map
  obtain ⟨es2, ck2, hm2, hm2'⟩ := hmap2
  have hs2 := own_keeps hB1.own k2 (fun g' hg' e => by cases e; exact own_ne_map hB1.own hm1 hg')
  have blk2 := (hg2.block bb hB1.ltb (by simpa using hne)).trans hB1.blk
  have keepRow : ∀ {v : Value} {m : Nat} {xs : List Value}, w.ownsRow 0 82 1 v m xs → (w3.setCell ⟨bb, 1, none⟩ (.slice (some ⟨g, 0, none⟩) (S.length + 1) cap)).ownsRow 0 82 1 v m xs := by
    intro v m xs hv
    have h1 := own_keeps hv k1 (fun _ _ h => h)
    have h2 := own_keeps h1 k2 (fun g' hg' e => by cases e; exact own_ne_map h1 hm1 hg')
    have h3 := own_keeps h2 k3 (fun g' hg' e => own_ne_own h2 hs2 (by decide) hg' e)
    exact own_keeps h3 k4 (fun g' hg' e => by subst e; exact own_ne_blk h3 blk3 (by decide) hg')
  have hrl : rows.length = S.length := by simpa using hB.own.1
  refine ⟨⟨bb, mb, .slice (some ⟨g, 0, none⟩) (S.length + 1) cap, rows ++ [.slice A (wlen n) c], D.put (.string (keyB l)) (.lit (.int .i64 (S.length : Int))), rfl, ?_⟩, ?_⟩
  · exact {
      blk := heap_setCell_same w3 bb 1 _ _ _ blk3
      map := by
        rw [List.length_append]
        refine ⟨es2, ck2, ?_, hm2'⟩
        rw [k4.block mb (Nat.lt_of_lt_of_le (Array.getElem?_eq_some_iff.1 hm2).1 k3.size) (fun e => hne e.symm), k3.block mb (Array.getElem?_eq_some_iff.1 hm2).1 (fun e => own_ne_map hs2 hm2 e)]
        exact hm2
      rel := rel_snoc hB.rel (fun l' hl' => (hB.okw l' hl').1) ho hn
      own := by
        rw [List.length_append]
        exact own_keeps hown3 k4 (fun g' hg' e => by subst e; exact own_ne_blk hown3 blk3 (by decide) hg')
      row := fun i l' hl' => by
        rcases Nat.lt_or_ge i S.length with hlt | hge
        · rw [List.getElem?_append_left hlt] at hl'
          obtain ⟨v, h1, h2, h3⟩ := hB.row i l' hl'
          exact ⟨v, by rw [List.getElem?_append_left (by omega)]; exact h1, keepRow h2, fun g' hg' => .inl (h3 g' hg')⟩
        · rw [List.getElem?_append_right hge] at hl'
          rcases Nat.eq_zero_or_pos (i - S.length) with h0 | h0
          · rw [h0] at hl'
            simp at hl'
            subst hl'
            refine ⟨.slice A (wlen n) c, by rw [List.getElem?_append_right (by omega), hrl, h0]; rfl, keepRow hr, fun g' hg' => ?_⟩
            cases A with
            | none => simp [Value.ownBlock] at hg'
            | some ad => exact .inr (.inr ⟨ad, rfl, by simpa [Value.ownBlock] using hg'.symm⟩)
          · rw [List.getElem?_eq_none (by simp; omega)] at hl'; cases hl'
      fb := .inl hB.fb
      fm := .inl hB.fm
      fs := fun g' hg' => by
        have e : g = g' := by simpa [Value.ownBlock] using hg'
        subst e
        rcases hat3 with h | h
        · exact .inl (hB.fs g h)
        · exact .inr (.inl (by have := hb1.size; have := hg2.size; omega))
      okw := fun l' hl' => by
        rcases List.mem_append.1 hl' with h | h
        · exact hB.okw l' h
        · simp at h; subst h; exact ⟨ho, hl⟩
      nd := by
        rw [List.nodup_append]
        exact ⟨hB.nd, by simp, fun a ha b hb e => by simp at hb; subst hb; subst e; exact hn ha⟩
      big := by rw [List.length_append]; simp; omega
      nn := hB.nn }
  · have j1 : Keeps O w w1 := k1.mono (fun _ _ h => h.elim)
    have j2 : Keeps O w1 w2 := k2.mono (fun k _ e => by cases e; exact hB.fm)
    have j3 : Keeps O w2 w3 := k3.mono (fun k _ e => hB.fs k e)
    have j4 : Keeps O w3 (w3.setCell ⟨bb, 1, none⟩ (.slice (some ⟨g, 0, none⟩) (S.length + 1) cap)) := k4.mono (fun k _ e => by subst e; exact hB.fb)
    exact ((j1.trans j2 (fun _ _ h => h)).trans j3 (fun _ _ h => h)).trans j4 (fun _ _ h => h)

theorem key_of (l : List Nat) (h : 8 * l.length ≤ 1048576) : keyOf Tryd.prog 9 (.string ⟨(keyB l).toArray⟩) = some (.string (keyB l)) := by
  have := keyOf_string_mk Tryd.underlying9 (s := ⟨(keyB l).toArray⟩) (by simp only [ByteArray.size, List.size_toArray, length_keyB, maxLen]; omega)
  simpa using this

set_option maxRecDepth 100000 in
set_option maxHeartbeats 400000 in
theorem put_old {w : World} {bb mb : Nat} {sv : Value} {rows : List Value} {D : DataW Unit} {n : Nat} {S : List (List Nat)} {O : Nat → Prop} (hB : BagAt w bb mb sv rows D n S O)
    (A : Option Addr) (c : Nat) (l : List Nat) (ho : Ok64 l) (hl : l.length = wlen n) (hr : Sl w A (wlen n) (l.map uv)) (i : Nat) (hi : S[i]? = some l) :
    Calls Tryd.prog 31 #[.pointer (some ⟨bb, 0, none⟩), .slice A (wlen n) c] w fun e w' => e = .returned (.tuple #[.int .i64 (i : Int), .bool false, .nilIface]) ∧ Below w.heap.size w w' := by
  have hwl := wlen_le hB.nn
  have hkey := key_of l (by omega)
  obtain ⟨hrel1, hrel2⟩ := hB.rel.2 l ho
  have hh : Maps.has D (.string (keyB l)) = true := by rw [hrel1]; exact decide_eq_true (List.mem_of_getElem? hi)
  have hat := hrel2 i hi
  clear hrel1 hrel2
  have HAT := Lib.hid hat
  have HH := Lib.hid hh
  have HL := Lib.hid hl
  have HI := Lib.hid hi
  clear hat hh hl hi
  go_enter Tryd.func31, Tryd.ntmps31
  go_wp2_with fail
  refine (key_c _ A (wlen n) c l (by omega) hr ho).mono ?_
  rintro e w1 ⟨rfl, hb1⟩
  have hB1 := hB.keeps (Keeps.of_pure hb1 (fun _ => False)) (fun _ _ h => h)
  obtain ⟨c0, c1, c2, f1⟩ := blk_cells hB1.blk
  have hmap := hB1.map
  go_wp2_with (at_lookup; refine wpList_lookup_own_ok_int _ rfl _ _ _ rfl 9 3 .i64 keyLaw Tryd.underlying45 Tryd.underlying3 (zeroInt _) mb _ D rfl hmap _ _ rfl hkey ?_; intro c' hat' _; rw [HH.out])
  obtain rfl : c' = (i : Int) := by
    have := hat'.symm.trans HAT.out
    injection this with this
    injection this
  go_ret3
  exact ⟨rfl, hb1⟩

set_option maxRecDepth 100000 in
set_option maxHeartbeats 1000000 in
theorem put_new {w : World} {bb mb : Nat} {sv : Value} {rows : List Value} {D : DataW Unit} {n : Nat} {S : List (List Nat)} {O : Nat → Prop} (hB : BagAt w bb mb sv rows D n S O)
    (A : Option Addr) (c : Nat) (l : List Nat) (ho : Ok64 l) (hl : l.length = wlen n) (hr : w.ownsRow 0 82 1 (.slice A (wlen n) c) (wlen n) (l.map uv)) (hn : l ∉ S) (hroom : S.length < 4096) :
    Calls Tryd.prog 31 #[.pointer (some ⟨bb, 0, none⟩), .slice A (wlen n) c] w fun e w' => e = .returned (.tuple #[.int .i64 (S.length : Int), .bool true, .nilIface]) ∧
      BagIs w' (.pointer (some ⟨bb, 0, none⟩)) n (S ++ [l]) (bagMore O w.heap.size A) ∧ Keeps O w w' := by
  have hwl := wlen_le hB.nn
  have hkey := key_of l (by omega)
  have hh : Maps.has D (.string (keyB l)) = false := by rw [(hB.rel.2 l ho).1]; exact decide_eq_false hn
  have HH := Lib.hid hh
  have HL := Lib.hid hl
  have hlen : ((S.length : Int) == 4096) = false := by simp; omega
  clear hh hl
  go_enter Tryd.func31, Tryd.ntmps31
  go_wp2_with fail
  refine (key_c _ A (wlen n) c l (by omega) (Sl.of_own hr) ho).mono ?_
  rintro e w1 ⟨rfl, hb1⟩
  have hB1 := hB.keeps (Keeps.of_pure hb1 (fun _ => False)) (fun _ _ h => h)
  have hr1 := own_below hr hb1
  obtain ⟨c0, c1, c2, f1⟩ := blk_cells hB1.blk
  have hmap := hB1.map
  obtain ⟨SA, sc, rfl, _, _⟩ := own_slice hB1.own
  have hne : bb ≠ mb := by
    intro e
    obtain ⟨es, ck, hm, _⟩ := hmap
    have := hB1.blk
    rw [e, hm] at this
    cases this
  have h62 : ∀ v : Value, v.oneCell' = true → True := fun _ _ => trivial
  go_wp2_with (first
    | (at_lookup; refine wpList_lookup_own_ok_int _ rfl _ _ _ rfl 9 3 .i64 keyLaw Tryd.underlying45 Tryd.underlying3 (zeroInt _) mb _ D rfl hmap _ _ rfl hkey ?_; intro c' hat' _; rw [HH.out])
    | (at_mapUpdate; refine wpList_mapUpdate_own _ rfl _ _ _ 45 rfl 9 3 keyLaw Tryd.underlying45 _ mb S.length D rfl hmap (by simp only [maxLen]; omega) _ _ _ rfl rfl hkey _ [] (plainElem_int Tryd.underlying3 (WalkArith.wf_i64 (by omega))) ?_; intro w2 hmap2 hg2; have blk2 := (hg2.block bb hB1.ltb (by simpa using hne)).trans hB1.blk; obtain ⟨d0, d1, d2, g1⟩ := blk_cells blk2; have hown2 := own_keeps hB1.own (Keeps.of_grown hg2) (fun g hg e => by cases e; exact own_ne_map hB1.own hmap.choose_spec.choose_spec.1 hg))
    | (at_builtin; refine wpList_push rfl _ _ _ rfl tU64ss hown2 rfl _ 0 rfl rfl rfl (by simp only [maxLen]; omega) (by omega) (Nat.zero_le _) ?_; intro g cap w3 hown3 hg3 hat3 hlt3; have blk3 := (hg3.block bb (Array.getElem?_eq_some_iff.1 blk2).1 (fun e => own_ne_blk hown2 blk2 (by decide) e.symm)).trans blk2; obtain ⟨e0, e1, e2, i1⟩ := blk_cells blk3))
  go_ret3
  exact ⟨rfl, put_end hB ho HL.out hr hn hroom hb1 hne hmap2 hg2 hown3 hg3 hat3 blk3⟩

end Go.Proofs.YtiobnnhjnkcafaaDoor

namespace Go.Proofs.YtiobnnhjnkcafaaDoor
open Go.RowKit BagP

theorem BagIs.mono {w : World} {p : Value} {n : Nat} {S : List (List Nat)} {O O' : Nat → Prop} (h : BagIs w p n S O) (ho : ∀ k, O k → O' k) : BagIs w p n S O' := by
  obtain ⟨bb, mb, sv, rows, D, hp, hb⟩ := h
  exact ⟨bb, mb, sv, rows, D, hp, { hb with row := fun i l hl => (let ⟨v, h1, h2, h3⟩ := hb.row i l hl; ⟨v, h1, h2, fun g hg => ho _ (h3 g hg)⟩), fb := ho _ hb.fb, fm := ho _ hb.fm, fs := fun g hg => ho _ (hb.fs g hg) }⟩

def addS (S : List (List Nat)) (l : List Nat) : List (List Nat) := if l ∈ S then S else S ++ [l]
theorem addS_in {S : List (List Nat)} {l : List Nat} (h : l ∈ S) : addS S l = S := if_pos h
theorem addS_new {S : List (List Nat)} {l : List Nat} (h : l ∉ S) : addS S l = S ++ [l] := if_neg h

set_option maxHeartbeats 400000 in
theorem Put_c {w : World} {p : Value} {n : Nat} {S : List (List Nat)} {O : Nat → Prop} (hB : BagIs w p n S O) (A : Option Addr) (m c : Nat) (xs : List Int) (hm : m ≤ 140737488355328)
    (h : Sl w A m (xs.map (Value.int .i64))) (hx : ∀ x ∈ xs, 0 ≤ x ∧ x < (n : Int)) (hroom : bitsOf n xs ∈ S ∨ S.length < 4096) :
    Calls Tryd.prog 12 #[p, .slice A m c] w fun e w' => e = .returned (.tuple #[.int .i64 (((addS S (bitsOf n xs)).idxOf (bitsOf n xs) : Nat) : Int), .bool (!decide (bitsOf n xs ∈ S)), .nilIface]) ∧
      BagIs w' p n (addS S (bitsOf n xs)) (fun k => O k ∨ w.heap.size ≤ k) ∧ Keeps O w w' := by
  obtain ⟨bb, mb, sv, rows, D, rfl, hb⟩ := hB
  obtain ⟨c0, _, _, _⟩ := blk_cells hb.blk
  go_enter Tryd.func12, Tryd.ntmps12
  go_wp2_with fail
  refine (bits_c w bb n hb.nn c0 A m c xs hm h hx).mono ?_
  rintro e w1 ⟨rfl, hr1, hb1⟩
  have hk1 := Keeps.of_pure hb1 (fun _ => False)
  have hB1 := hb.keeps hk1 (fun _ _ h => h)
  have hs1 := hb1.size
  go_wp2_with fail
  by_cases hin : bitsOf n xs ∈ S
  · obtain ⟨i, hi⟩ := List.getElem?_of_mem hin
    refine (put_old hB1 _ _ (bitsOf n xs) (ok_bitsOf n xs) (length_bitsOf n xs) (Sl.of_own hr1) i hi).mono ?_
    rintro e w2 ⟨rfl, hb2⟩
    have HI := Lib.hid hin
    have HJ := Lib.hid hi
    have hB2 : BagIs w2 (.pointer (some ⟨bb, 0, none⟩)) n S O := ⟨bb, mb, sv, rows, D, rfl, hB1.keeps (Keeps.of_pure hb2 (fun _ => False)) (fun _ _ h => h)⟩
    clear hin hi
    go_wp2_with fail
    go_ret3
    refine ⟨?_, ?_, Keeps.of_pure (pure_trans hb1 hb2) O⟩
    · have e1 : (addS S (bitsOf n xs)).idxOf (bitsOf n xs) = i := by
        rw [addS_in HI.out]
        exact idx_nodup hb.nd HJ.out
      rw [e1, decide_eq_true HI.out]
      rfl
    · rw [addS_in HI.out]
      exact hB2.mono (fun k h => .inl h)
  · have hroom' : S.length < 4096 := hroom.resolve_left hin
    refine (put_new hB1 _ _ (bitsOf n xs) (ok_bitsOf n xs) (length_bitsOf n xs) (own_base hr1 (Nat.zero_le _)) hin hroom').mono ?_
    rintro e w2 ⟨rfl, hB2, hk2⟩
    have HI := Lib.hid hin
    clear hin
    go_wp2_with fail
    go_ret3
    refine ⟨?_, ?_, (hk1.mono (fun _ _ h => h.elim)).trans hk2 (fun _ _ h => h)⟩
    · have e1 : (addS S (bitsOf n xs)).idxOf (bitsOf n xs) = S.length := by
        rw [addS_new HI.out, List.idxOf_append, if_neg HI.out]
        simp
      rw [e1, decide_eq_false HI.out]
      rfl
    · rw [addS_new HI.out]
      refine hB2.mono (fun k h => ?_)
      rcases h with h | h | ⟨ad, e, h⟩
      · exact .inl h
      · right; omega
      · right; cases e; rw [h]; exact Nat.le_refl _

theorem Len_c {w : World} {p : Value} {n : Nat} {S : List (List Nat)} {O : Nat → Prop} (hB : BagIs w p n S O) :
    Calls Tryd.prog 28 #[p] w fun e w' => e = .returned (.int .i64 (S.length : Int)) ∧ w = w' := by
  obtain ⟨bb, mb, sv, rows, D, rfl, hb⟩ := hB
  obtain ⟨A, c, rfl, _, _⟩ := own_slice hb.own
  obtain ⟨_, c1, _, _⟩ := blk_cells hb.blk
  go_enter Tryd.func28, Tryd.ntmps28
  go_wp2
  go_ret
  exact ⟨rfl, rfl⟩

theorem set_c {w : World} {bb mb : Nat} {sv : Value} {rows : List Value} {D : DataW Unit} {n : Nat} {S : List (List Nat)} {O : Nat → Prop} (hB : BagAt w bb mb sv rows D n S O)
    (i : Nat) (hi : i < S.length) (at' : Int) (v : Value) (hv : rows[i]? = some v) :
    Calls Tryd.prog 29 #[.pointer (some ⟨bb, 0, none⟩), .int .i64 (i : Int), .int .i64 at'] w fun e w' => e = .returned (.tuple #[v, .nilIface]) ∧ w = w' := by
  have hbig := hB.big
  obtain ⟨A, c, rfl, _, _⟩ := own_slice hB.own
  obtain ⟨_, c1, _, _⟩ := blk_cells hB.blk
  obtain ⟨ad, rfl, hc⟩ := (Sl.of_own hB.own).2 i v hv
  clear hv
  go_enter Tryd.func29, Tryd.ntmps29
  go_wp2
  go_ret2
  exact ⟨rfl, rfl⟩

theorem bit_test {u j : Nat} (hu : u < 2 ^ 64) : (bits .and .u64 ((u : Int) / 2 ^ j) 1 == 1) = u.testBit j := by
  have e0 : ((2 : Int) ^ j) = ((2 ^ j : Nat) : Int) := (Int.natCast_pow 2 j).symm
  have e1 : ((u : Int) / ((2 ^ j : Nat) : Int)) = ((u / 2 ^ j : Nat) : Int) := by simp
  have h1 : u / 2 ^ j < 18446744073709551616 := Nat.lt_of_le_of_lt (Nat.div_le_self _ _) hu
  have e2 := u64_and_nat (u / 2 ^ j) 1 h1 (by decide)
  rw [e0, e1, show (1 : Int) = ((1 : Nat) : Int) from rfl, e2, nat_mask1, Nat.testBit_eq_decide_div_mod_eq]
  by_cases h : u / 2 ^ j % 2 = 1
  · rw [decide_eq_true h, h]; rfl
  · rw [decide_eq_false h]
    have : u / 2 ^ j % 2 = 0 := by omega
    rw [this]; rfl
theorem getL_step (k : Nat) (l : List Nat) : getL (k + 1) l = getL k l ++ (if hasB l k = true then [(k : Int)] else []) := by
  unfold getL
  rw [List.range_succ, List.filter_append, List.map_append]
  congr 1
  cases h : hasB l k <;> simp [h]

set_option maxRecDepth 100000 in
set_option maxHeartbeats 400000 in
theorem Get_c {w : World} {p : Value} {n : Nat} {S : List (List Nat)} {O : Nat → Prop} (hB : BagIs w p n S O) (i : Nat) (l : List Nat) (hi : S[i]? = some l) :
    Calls Tryd.prog 10 #[p, .int .i64 (i : Int)] w fun e w' => SomeRow w 3 ((getL n l).map (Value.int .i64)) e w' := by
  obtain ⟨bb, mb, sv, rows, D, rfl, hb⟩ := hB
  obtain ⟨v, hv, hr, _⟩ := hb.row i l hi
  obtain ⟨hok, hlen⟩ := hb.okw l (List.mem_of_getElem? hi)
  have hil : i < S.length := (List.getElem?_eq_some_iff.1 hi).1
  obtain ⟨c0, _, _, _⟩ := blk_cells hb.blk
  have hn := hb.nn
  obtain ⟨A, c, rfl, _, _⟩ := own_slice hr
  have hs := Sl.of_own hr
  clear hi
  go_enter Tryd.func10, Tryd.ntmps10
  go_wp2_with (go_at_call 29; refine (set_c hb i hil _ _ hv).mono ?_; rintro e w1 ⟨rfl, rfl⟩)
  go_loopw [8, 23] (fun s i wr => ∃ k : Nat, k ≤ n ∧ i = .int .i64 k ∧ wr.ownsRow w.heap.size 3 1 s ((getL k l).map (Value.int .i64)).length ((getL k l).map (Value.int .i64)) ∧ Below w.heap.size w wr) (fun _ i _ => n - (intOf i).toNat)
  case atStart => exact ⟨0, Nat.zero_le _, rfl, World.ownsRow_nil _ _ _ _, Below.refl _ _⟩
  case round =>
    obtain ⟨k, hk, rfl, hown, hb'⟩ := hrel
    have hkl : ((getL k l).map (Value.int .i64)).length ≤ k := by simp only [getL, List.length_map]; exact Nat.le_trans (List.length_filter_le _ _) (by simp)
    by_cases hlt : k < n
    · obtain ⟨ad, u, rfl, hu, hcu⟩ := (hs.below hb').word_ (wlen_lt hlt)
      have hu64 := hok u (List.mem_of_getElem? hu)
      have HU := Lib.hid hu
      have HV := Lib.hid hu64
      clear hu hu64
      have hkw : k / 64 < wlen n := wlen_lt hlt
      have T := bit_test (j := k % 64) HV.out
      have Hst := getL_step k l
      have hbit : hasB l k = u.testBit (k % 64) := by unfold hasB; rw [List.getD_eq_getElem?_getD, HU.out]; rfl
      rw [← hbit] at T
      have HSt := Lib.hid Hst
      clear hbit Hst
      cases hc : hasB l k
      · rw [hc] at T
        have HC := Lib.hid hc
        clear hc
        go_wp2
        rw [HC.out, if_neg (by simp), List.append_nil] at HSt
        refine ⟨⟨k + 1, by omega, by go_num, by rw [HSt.out]; exact hown, hb'⟩, by simp [intOf]; omega⟩
      · rw [hc] at T
        have HC := Lib.hid hc
        clear hc
        go_wp2_with (at_builtin; refine wpList_push rfl _ _ _ rfl tInts hown rfl _ 0 rfl rfl rfl (by simp only [maxLen]; omega) (by omega) hb'.size ?_; intro g cap w3 hown3 hg3 hat3 hlt3)
        rw [HC.out, if_pos rfl] at HSt
        refine ⟨⟨k + 1, by omega, by go_num, ?_, hb'.grown hg3 hb'.size (fun q hq => (hown.lt q hq).1)⟩, by simp [intOf]; omega⟩
        rw [HSt.out]
        simpa using hown3
    · have hkn : k = n := by omega
      have E := Lib.hid hkn
      clear hkn
      go_wp2
      go_ret2
      rw [E.out] at hown
      exact ⟨_, rfl, hown, hb'⟩

end Go.Proofs.YtiobnnhjnkcafaaDoor

namespace Go.Proofs.YtiobnnhjnkcafaaDoor
open Go.RowKit BagP

set_option maxRecDepth 100000 in
set_option maxHeartbeats 400000 in
theorem Has_c {w : World} {p : Value} {n : Nat} {S : List (List Nat)} {O : Nat → Prop} (hB : BagIs w p n S O) (i : Nat) (l : List Nat) (hi : S[i]? = some l) (x : Nat) (hx : x < n) :
    Calls Tryd.prog 23 #[p, .int .i64 (i : Int), .int .i64 (x : Int)] w fun e w' => e = .returned (.tuple #[.bool (hasB l x), .nilIface]) ∧ w = w' := by
  obtain ⟨bb, mb, sv, rows, D, rfl, hb⟩ := hB
  obtain ⟨v, hv, hr, _⟩ := hb.row i l hi
  obtain ⟨hok, hlen⟩ := hb.okw l (List.mem_of_getElem? hi)
  have hil : i < S.length := (List.getElem?_eq_some_iff.1 hi).1
  obtain ⟨c0, _, _, _⟩ := blk_cells hb.blk
  have hn := hb.nn
  obtain ⟨A, c, rfl, _, _⟩ := own_slice hr
  have hkw : x / 64 < wlen n := wlen_lt hx
  obtain ⟨ad, u, rfl, hu, hcu⟩ := (Sl.of_own hr).word_ hkw
  have T := bit_test (j := x % 64) (hok u (List.mem_of_getElem? hu))
  have hbit : hasB l x = u.testBit (x % 64) := by unfold hasB; rw [List.getD_eq_getElem?_getD, hu]; rfl
  rw [← hbit] at T
  clear hbit hi hu
  go_enter Tryd.func23, Tryd.ntmps23
  go_wp2_with (go_at_call 29; refine (set_c hb i hil _ _ hv).mono ?_; rintro e w1 ⟨rfl, rfl⟩)
  go_ret2
  exact ⟨rfl, rfl⟩

set_option maxRecDepth 100000 in
/-- slices.Clone of words. -/
theorem clone64_c (w : World) (A : Option Addr) (m c : Nat) (l : List Nat) (hm : m ≤ 1048576) (h : Sl w A m (l.map uv)) :
    Calls Tryd.prog 44 #[.slice A m c] w fun e w' => OneRow w 82 (l.map uv) e w' := by
  have hl : l.length = m := by simpa using h.1
  have HL := Lib.hid hl
  clear hl
  cases A with
  | none =>
    have hle : l = [] := by
      cases l with
      | nil => rfl
      | cons y ys => obtain ⟨ad, e', _⟩ := h.2 0 (uv y) (by simp); cases e'
    subst hle
    have he := Lib.run_eql_slice_nil (P := Tryd.prog) w 79 82 none m c 0 0 tU64s.und
    go_enter Tryd.func44, Tryd.ntmps44
    go_wp2
    go_ret
    exact ⟨_, rfl, World.ownsRow_nil _ _ _ _, Below.refl _ _⟩
  | some ad =>
    have he := Lib.run_eql_slice_nil (P := Tryd.prog) w 79 82 (some ad) m c 0 0 tU64s.und
    have hown0 := World.ownsRow_lit (base := w.heap.size) (e := 82) (size := 1) w #[] 0 (Nat.le_refl _) (Nat.zero_le _) rfl
    have h1 := h.alloc (.cells #[] 82)
    go_enter Tryd.func44, Tryd.ntmps44
    go_wp2_with (at_builtin; refine wpList_cat rfl _ _ _ rfl tU64s hown0 rfl h1 rfl (words_one l) (by simp only [maxLen]; omega) (by omega) (by simp) ?_; intro v' w3 hown3 hg3 hat3 _)
    go_ret
    refine ⟨_, rfl, ?_, ((Below.refl _ _).alloc (Nat.le_refl _) _).grown hg3 (by simp) (fun k hk => by simp [Value.ownBlock] at hk; omega)⟩
    simpa [HL.out] using hown3

theorem put_c {w : World} {bb mb : Nat} {sv : Value} {rows : List Value} {D : DataW Unit} {n : Nat} {S : List (List Nat)} {O : Nat → Prop} (hB : BagAt w bb mb sv rows D n S O)
    (A : Option Addr) (c : Nat) (l : List Nat) (ho : Ok64 l) (hl : l.length = wlen n) (hr : w.ownsRow 0 82 1 (.slice A (wlen n) c) (wlen n) (l.map uv)) (H : Nat) (hA : ∀ ad, A = some ad → H ≤ ad.block) (hH : H ≤ w.heap.size) (hroom : l ∈ S ∨ S.length < 4096) :
    Calls Tryd.prog 31 #[.pointer (some ⟨bb, 0, none⟩), .slice A (wlen n) c] w fun e w' => e = .returned (.tuple #[.int .i64 (((addS S l).idxOf l : Nat) : Int), .bool (!decide (l ∈ S)), .nilIface]) ∧
      BagIs w' (.pointer (some ⟨bb, 0, none⟩)) n (addS S l) (fun k => O k ∨ H ≤ k) ∧ Keeps O w w' := by
  by_cases hin : l ∈ S
  · obtain ⟨i, hi⟩ := List.getElem?_of_mem hin
    refine (put_old hB A c l ho hl (Sl.of_own hr) i hi).mono ?_
    rintro e w2 ⟨rfl, hb2⟩
    rw [addS_in hin, idx_nodup hB.nd hi, decide_eq_true hin]
    exact ⟨rfl, BagIs.mono ⟨bb, mb, sv, rows, D, rfl, hB.keeps (Keeps.of_pure hb2 (fun _ => False)) (fun _ _ h => h)⟩ (fun k h => .inl h), Keeps.of_pure hb2 O⟩
  · refine (put_new hB A c l ho hl hr hin (hroom.resolve_left hin)).mono ?_
    rintro e w2 ⟨rfl, hB2, hk2⟩
    have e1 : (addS S l).idxOf l = S.length := by
      rw [addS_new hin, List.idxOf_append, if_neg hin]
      simp
    rw [e1, addS_new hin, decide_eq_false hin]
    refine ⟨rfl, hB2.mono (fun k h => ?_), hk2⟩
    rcases h with h | h | ⟨ad, e, h⟩
    · exact .inl h
    · right; omega
    · right; rw [h]; exact hA ad e

theorem or_words (a b : Nat) (ha : a < 2 ^ 64) (hb : b < 2 ^ 64) : bits .or .u64 (a : Int) (b : Int) = ((a ||| b : Nat) : Int) := u64_or_nat a b ha hb

def orTo (x y : List Nat) (k : Nat) : List Nat := orL (x.take k) (y.take k) ++ x.drop k
theorem orTo_zero (x y : List Nat) : orTo x y 0 = x := by simp [orTo, orL]
theorem orTo_all {x y : List Nat} {m : Nat} (hx : x.length = m) (hy : y.length = m) : orTo x y m = orL x y := by
  unfold orTo
  rw [List.take_of_length_le (by omega), List.take_of_length_le (by omega), List.drop_eq_nil_of_le (by omega), List.append_nil]
theorem orTo_at {x y : List Nat} {k a b : Nat} (hx : x[k]? = some a) (hy : y[k]? = some b) : (orTo x y k)[k]? = some a ∧ (orTo x y k).set k (a ||| b) = orTo x y (k + 1) := by
  have h1 : k < x.length := (List.getElem?_eq_some_iff.1 hx).1
  have h2 : k < y.length := (List.getElem?_eq_some_iff.1 hy).1
  have hl : (orL (x.take k) (y.take k)).length = k := by simp [orL]; omega
  have hd : x.drop k = a :: x.drop (k + 1) := by
    rw [List.drop_eq_getElem_cons h1]
    congr 1
    rw [List.getElem?_eq_getElem h1] at hx
    exact Option.some.inj hx
  constructor
  · unfold orTo
    rw [List.getElem?_append_right (by omega), hl, hd]
    simp
  · unfold orTo
    rw [List.set_append_right _ _ (by omega), hl, hd, Nat.sub_self, List.set_cons_zero, List.take_add_one, List.take_add_one, hx, hy]
    unfold orL
    rw [List.zipWith_append (by simp; omega)]
    simp
theorem ok_orL {x y : List Nat} (hx : Ok64 x) (hy : Ok64 y) : Ok64 (orL x y) := by
  intro z hz
  obtain ⟨i, hi⟩ := List.getElem?_of_mem hz
  unfold orL at hi
  rw [List.getElem?_zipWith] at hi
  cases h1 : x[i]? with
  | none => rw [h1] at hi; simp at hi
  | some a => cases h2 : y[i]? with
    | none => rw [h1, h2] at hi; simp at hi
    | some b =>
      rw [h1, h2] at hi
      simp at hi
      subst hi
      exact Nat.or_lt_two_pow (hx a (List.mem_of_getElem? h1)) (hy b (List.mem_of_getElem? h2))
end Go.Proofs.YtiobnnhjnkcafaaDoor
