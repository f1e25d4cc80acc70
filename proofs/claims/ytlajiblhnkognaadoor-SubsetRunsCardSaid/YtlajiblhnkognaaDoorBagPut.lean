/- What bag.put does with the words of a set: a set that is there keeps its number, a new one gets the next. Condition: there is room. -/
import Derived.Test.YtlajiblhnkognaaDoorBagKey
namespace Go.Proofs.YtlajiblhnkognaaDoor
open Go.RowKit Go.WideMaps Go.Maps BagP

/-- A new set is kept behind the others. -/
def bagMore (O : Nat → Prop) (H : Nat) (A : Option Addr) (k : Nat) : Prop := O k ∨ H ≤ k ∨ ∃ ad, A = some ad ∧ k = ad.block

theorem put_end {w w1 w2 w3 : World} {bb mb : Nat} {SA : Option Addr} {sc : Nat} {rows : List Value} {D : DataW Unit} {n : Nat} {S : List (List Nat)} {O : Nat → Prop} (hB : BagAt w bb mb (.slice SA S.length sc) rows D n S O)
    {A : Option Addr} {c : Nat} {l : List Nat} (ho : Ok64 l) (hl : l.length = wlen n) (hr : w.ownsRow 0 130 1 (.slice A (wlen n) c) (wlen n) (l.map uv)) (hn : l ∉ S) (hroom : S.length < 4096)
    (hb1 : Below w.heap.size w w1) (hne : bb ≠ mb)
    (hmap2 : w2.ownsMap Tryd.prog 9 (plainElem (H := Unit) Tryd.prog 3) mb (S.length + 1) (D.put (.string (keyB l)) (.lit (.int .i64 (S.length : Int))))) (hg2 : w1.grownBy w2 (some mb))
    {g cap : Nat} (hown3 : w3.ownsRow 0 127 1 (.slice (some ⟨g, 0, none⟩) (S.length + 1) cap) (S.length + 1) (rows ++ [.slice A (wlen n) c])) (hg3 : w2.grownBy w3 (Value.slice SA S.length sc).ownBlock)
    (hat3 : (Value.slice SA S.length sc).ownBlock = some g ∨ w2.heap.size < g) (blk3 : w3.heap[bb]? = some (.cells #[.int .i64 (n : Int), .slice SA S.length sc, .map (some mb)] 126 (0, 0))) :
    BagIs (w3.setCell ⟨bb, 1, none⟩ (.slice (some ⟨g, 0, none⟩) (S.length + 1) cap)) (.pointer (some ⟨bb, 0, none⟩)) n (S ++ [l]) (bagMore O w.heap.size A) ∧
      Keeps O w (w3.setCell ⟨bb, 1, none⟩ (.slice (some ⟨g, 0, none⟩) (S.length + 1) cap)) := by
  have k1 : Keeps (fun _ => False) w w1 := Keeps.of_pure hb1 _
  have k2 := Keeps.of_grown hg2
  have k3 := Keeps.of_grown hg3
  have k4 := Keeps.of_setCell w3 ⟨bb, 1, none⟩ (.slice (some ⟨g, 0, none⟩) (S.length + 1) cap)
  have hB1 := hB.keeps k1 (fun _ _ h => h)
  obtain ⟨es1, ck1, hm1, _⟩ := hB1.map
  obtain ⟨es2, ck2, hm2, hm2'⟩ := hmap2
  have hs2 := own_keeps hB1.own k2 (fun g' hg' e => by cases e; exact own_ne_map hB1.own hm1 hg')
  have blk2 := (hg2.block bb hB1.ltb (by simpa using hne)).trans hB1.blk
  have keepRow : ∀ {v : Value} {m : Nat} {xs : List Value}, w.ownsRow 0 130 1 v m xs → (w3.setCell ⟨bb, 1, none⟩ (.slice (some ⟨g, 0, none⟩) (S.length + 1) cap)).ownsRow 0 130 1 v m xs := by
    intro v m xs hv
    have h1 := own_keeps hv k1 (fun _ _ h => h)
    have h2 := own_keeps h1 k2 (fun g' hg' e => by cases e; exact own_ne_map h1 hm1 hg')
    have h3 := own_keeps h2 k3 (fun g' hg' e => own_ne_own h2 hs2 (by decide) hg' e)
    exact own_keeps h3 k4 (fun g' hg' e => by subst e; exact own_ne_blk h3 blk3 (by decide) hg')
  have hrl : rows.length = S.length := by simpa using hB.own.1
  refine ⟨⟨bb, mb, .slice (some ⟨g, 0, none⟩) (S.length + 1) cap, rows ++ [.slice A (wlen n) c], D.put (.string (keyB l)) (.lit (.int .i64 (S.length : Int))), rfl, ?_⟩, ?_⟩
  · exact {
      blk := heap_setCell_same w3 bb 1 _ _ _ blk3
      map := by
        rw [List.length_append]
        refine ⟨es2, ck2, ?_, hm2'⟩
        rw [k4.block mb (Nat.lt_of_lt_of_le (Array.getElem?_eq_some_iff.1 hm2).1 k3.size) (fun e => hne e.symm), k3.block mb (Array.getElem?_eq_some_iff.1 hm2).1 (fun e => own_ne_map hs2 hm2 e)]
        exact hm2
      rel := rel_snoc hB.rel (fun l' hl' => (hB.okw l' hl').1) ho hn
      own := by
        rw [List.length_append]
        exact own_keeps hown3 k4 (fun g' hg' e => by subst e; exact own_ne_blk hown3 blk3 (by decide) hg')
      row := fun i l' hl' => by
        rcases Nat.lt_or_ge i S.length with hlt | hge
        · rw [List.getElem?_append_left hlt] at hl'
          obtain ⟨v, h1, h2, h3⟩ := hB.row i l' hl'
          exact ⟨v, by rw [List.getElem?_append_left (by omega)]; exact h1, keepRow h2, fun g' hg' => .inl (h3 g' hg')⟩
        · rw [List.getElem?_append_right hge] at hl'
          rcases Nat.eq_zero_or_pos (i - S.length) with h0 | h0
          · rw [h0] at hl'
            simp at hl'
            subst hl'
            refine ⟨.slice A (wlen n) c, by rw [List.getElem?_append_right (by omega), hrl, h0]; rfl, keepRow hr, fun g' hg' => ?_⟩
            cases A with
            | none => simp [Value.ownBlock] at hg'
            | some ad => exact .inr (.inr ⟨ad, rfl, by simpa [Value.ownBlock] using hg'.symm⟩)
          · rw [List.getElem?_eq_none (by simp; omega)] at hl'; cases hl'
      fb := .inl hB.fb
      fm := .inl hB.fm
      fs := fun g' hg' => by
        have e : g = g' := by simpa [Value.ownBlock] using hg'
        subst e
        rcases hat3 with h | h
        · exact .inl (hB.fs g h)
        · exact .inr (.inl (by have := hb1.size; have := hg2.size; omega))
      okw := fun l' hl' => by
        rcases List.mem_append.1 hl' with h | h
        · exact hB.okw l' h
        · simp at h; subst h; exact ⟨ho, hl⟩
      nd := by
        rw [List.nodup_append]
        exact ⟨hB.nd, by simp, fun a ha b hb e => by simp at hb; subst hb; subst e; exact hn ha⟩
      big := by rw [List.length_append]; simp; omega
      nn := hB.nn }
  · have j1 : Keeps O w w1 := k1.mono (fun _ _ h => h.elim)
    have j2 : Keeps O w1 w2 := k2.mono (fun k _ e => by cases e; exact hB.fm)
    have j3 : Keeps O w2 w3 := k3.mono (fun k _ e => hB.fs k e)
    have j4 : Keeps O w3 (w3.setCell ⟨bb, 1, none⟩ (.slice (some ⟨g, 0, none⟩) (S.length + 1) cap)) := k4.mono (fun k _ e => by subst e; exact hB.fb)
    exact ((j1.trans j2 (fun _ _ h => h)).trans j3 (fun _ _ h => h)).trans j4 (fun _ _ h => h)

theorem key_of (l : List Nat) (h : 8 * l.length ≤ 1048576) : keyOf Tryd.prog 9 (.string ⟨(keyB l).toArray⟩) = some (.string (keyB l)) := by
  have := keyOf_string_mk Tryd.underlying9 (s := ⟨(keyB l).toArray⟩) (by simp only [ByteArray.size, List.size_toArray, length_keyB, maxLen]; omega)
  simpa using this

set_option maxRecDepth 100000 in
set_option maxHeartbeats 400000 in
theorem put_old {w : World} {bb mb : Nat} {sv : Value} {rows : List Value} {D : DataW Unit} {n : Nat} {S : List (List Nat)} {O : Nat → Prop} (hB : BagAt w bb mb sv rows D n S O)
    (A : Option Addr) (c : Nat) (l : List Nat) (ho : Ok64 l) (hl : l.length = wlen n) (hr : Sl w A (wlen n) (l.map uv)) (i : Nat) (hi : S[i]? = some l) :
    Calls Tryd.prog 73 #[.pointer (some ⟨bb, 0, none⟩), .slice A (wlen n) c] w fun e w' => e = .returned (.tuple #[.int .i64 (i : Int), .bool false, .nilIface]) ∧ Below w.heap.size w w' := by
  have hwl := wlen_le hB.nn
  have hkey := key_of l (by omega)
  obtain ⟨hrel1, hrel2⟩ := hB.rel.2 l ho
  have hh : Maps.has D (.string (keyB l)) = true := by rw [hrel1]; exact decide_eq_true (List.mem_of_getElem? hi)
  have hat := hrel2 i hi
  clear hrel1 hrel2
  have HAT := Lib.hid hat
  have HH := Lib.hid hh
  have HL := Lib.hid hl
  have HI := Lib.hid hi
  clear hat hh hl hi
  go_enter Tryd.func73, Tryd.ntmps73
  go_wp2_with fail
  refine (key_c _ A (wlen n) c l (by omega) hr ho).mono ?_
  rintro e w1 ⟨rfl, hb1⟩
  have hB1 := hB.keeps (Keeps.of_pure hb1 (fun _ => False)) (fun _ _ h => h)
  obtain ⟨c0, c1, c2, f1⟩ := blk_cells hB1.blk
  have hmap := hB1.map
  go_wp2_with (at_lookup; refine wpList_lookup_own_ok_int _ rfl _ _ _ rfl 9 3 .i64 keyLaw Tryd.underlying118 Tryd.underlying3 (zeroInt _) mb _ D rfl hmap _ _ rfl hkey ?_; intro c' hat' _; rw [HH.out])
  obtain rfl : c' = (i : Int) := by
    have := hat'.symm.trans HAT.out
    injection this with this
    injection this
  go_ret3
  exact ⟨rfl, hb1⟩

set_option maxRecDepth 100000 in
set_option maxHeartbeats 1000000 in
theorem put_new {w : World} {bb mb : Nat} {sv : Value} {rows : List Value} {D : DataW Unit} {n : Nat} {S : List (List Nat)} {O : Nat → Prop} (hB : BagAt w bb mb sv rows D n S O)
    (A : Option Addr) (c : Nat) (l : List Nat) (ho : Ok64 l) (hl : l.length = wlen n) (hr : w.ownsRow 0 130 1 (.slice A (wlen n) c) (wlen n) (l.map uv)) (hn : l ∉ S) (hroom : S.length < 4096) :
    Calls Tryd.prog 73 #[.pointer (some ⟨bb, 0, none⟩), .slice A (wlen n) c] w fun e w' => e = .returned (.tuple #[.int .i64 (S.length : Int), .bool true, .nilIface]) ∧
      BagIs w' (.pointer (some ⟨bb, 0, none⟩)) n (S ++ [l]) (bagMore O w.heap.size A) ∧ Keeps O w w' := by
  have hwl := wlen_le hB.nn
  have hkey := key_of l (by omega)
  have hh : Maps.has D (.string (keyB l)) = false := by rw [(hB.rel.2 l ho).1]; exact decide_eq_false hn
  have HH := Lib.hid hh
  have HL := Lib.hid hl
  have hlen : ((S.length : Int) == 4096) = false := by simp; omega
  clear hh hl
  go_enter Tryd.func73, Tryd.ntmps73
  go_wp2_with fail
  refine (key_c _ A (wlen n) c l (by omega) (Sl.of_own hr) ho).mono ?_
  rintro e w1 ⟨rfl, hb1⟩
  have hB1 := hB.keeps (Keeps.of_pure hb1 (fun _ => False)) (fun _ _ h => h)
  have hr1 := own_below hr hb1
  obtain ⟨c0, c1, c2, f1⟩ := blk_cells hB1.blk
  have hmap := hB1.map
  obtain ⟨SA, sc, rfl, _, _⟩ := own_slice hB1.own
  have hne : bb ≠ mb := by
    intro e
    obtain ⟨es, ck, hm, _⟩ := hmap
    have := hB1.blk
    rw [e, hm] at this
    cases this
  have h62 : ∀ v : Value, v.oneCell' = true → True := fun _ _ => trivial
  go_wp2_with (first
    | (at_lookup; refine wpList_lookup_own_ok_int _ rfl _ _ _ rfl 9 3 .i64 keyLaw Tryd.underlying118 Tryd.underlying3 (zeroInt _) mb _ D rfl hmap _ _ rfl hkey ?_; intro c' hat' _; rw [HH.out])
    | (at_mapUpdate; refine wpList_mapUpdate_own _ rfl _ _ _ 118 rfl 9 3 keyLaw Tryd.underlying118 _ mb S.length D rfl hmap (by simp only [maxLen]; omega) _ _ _ rfl rfl hkey _ [] (plainElem_int Tryd.underlying3 (WalkArith.wf_i64 (by omega))) ?_; intro w2 hmap2 hg2; have blk2 := (hg2.block bb hB1.ltb (by simpa using hne)).trans hB1.blk; obtain ⟨d0, d1, d2, g1⟩ := blk_cells blk2; have hown2 := own_keeps hB1.own (Keeps.of_grown hg2) (fun g hg e => by cases e; exact own_ne_map hB1.own hmap.choose_spec.choose_spec.1 hg))
    | (at_builtin; refine wpList_push rfl _ _ _ rfl tU64ss hown2 rfl _ 0 rfl rfl rfl (by simp only [maxLen]; omega) (by omega) (Nat.zero_le _) ?_; intro g cap w3 hown3 hg3 hat3 hlt3; have blk3 := (hg3.block bb (Array.getElem?_eq_some_iff.1 blk2).1 (fun e => own_ne_blk hown2 blk2 (by decide) e.symm)).trans blk2; obtain ⟨e0, e1, e2, i1⟩ := blk_cells blk3))
  go_ret3
  exact ⟨rfl, put_end hB ho HL.out hr hn hroom hb1 hne hmap2 hg2 hown3 hg3 hat3 blk3⟩

end Go.Proofs.YtlajiblhnkognaaDoor
