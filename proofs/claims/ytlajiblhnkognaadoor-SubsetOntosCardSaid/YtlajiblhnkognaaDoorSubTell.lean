/- errors.Is of an error that is another: false; errors.Unwrap of a Fault; errors.As at an *api.Fault that misses nothing. Condition: the errors' own memory. The walk's error as subset tells it: subset.told; the walk of what is no small rule. Condition: the error variables hold what E says. -/
import Derived.Test.YtlajiblhnkognaaDoorIs
import Derived.Test.YtlajiblhnkognaaDoorLaid
import Derived.Test.YtlajiblhnkognaaDoorSubAll
import Derived.Test.YtlajiblhnkognaaDoorAs
namespace Go.Proofs.YtlajiblhnkognaaDoor
open Go.RowKit Go.Extern.Stop Go.Stop Go.Extern

theorem noUnwrapE (v : Value) (xT : TypeId) (w : World) : (Instr.typeAssert (.iface 167 v) xT 140 true).run Tryd.prog w = .ok (.tuple #[.nilIface, .bool false]) w := run_typeAssert_lacksB Tryd.underlying140 (by kernel_rfl) (by kernel_rfl) v xT w
theorem noUnwrapsE (v : Value) (xT : TypeId) (w : World) : (Instr.typeAssert (.iface 167 v) xT 154 true).run Tryd.prog w = .ok (.tuple #[.nilIface, .bool false]) w := run_typeAssert_lacksB Tryd.underlying154 (by kernel_rfl) (by kernel_rfl) v xT w

set_option maxRecDepth 1000000 in
theorem is_chain_no (w : World) (E : Nat → Addr) (n m : Nat) (l : List (ByteArray × Int)) (v : Value) (h : ErrIs w E n l v) (hne : E n ≠ E m) {c1 c2 : Array Value} {t1 t2 : TypeId} (h1 : w.heap[(E n).block]? = some (.cells c1 t1 (0, 0))) (h2 : w.heap[(E m).block]? = some (.cells c2 t2 (0, 0))) :
    Calls Tryd.prog 62 #[v, .iface 167 (.pointer (some (E m))), .bool true] w fun e w' => e = .returned (.bool false) ∧ w = w' := by
  obtain ⟨i, hi, hcmp⟩ := Option.map_eq_some_iff.1 is_comp
  obtain ⟨j, hj, hjs⟩ := Option.map_eq_some_iff.1 is_size
  have hjz : j.size ≠ 0 := by rw [hjs]; decide
  have heq := run_eql_iface_ptr_other (P := Tryd.prog) (w := w) Tryd.underlying28 Tryd.underlying167 hi hcmp hj hjz hne h1 h2
  have nE := noIsE
  have nF := noIsF
  have uF := hasUnwrapF
  have uE := noUnwrapE
  have sE := noUnwrapsE
  have mU := methodUnwrapF
  clear h1 h2 hne hi hcmp hj hjs hjz
  go_enter Tryd.func62, Tryd.ntmps62
  go_wp2
  go_loopw [0] (fun v wl => wl = w ∧ ∃ l, ErrIs w E n l v) (fun v _ => errLen w E n v)
  case atStart => exact ⟨rfl, l, h⟩
  case round =>
    clear h
    obtain ⟨rfl, l, h⟩ := hrel
    cases l with
    | nil =>
      obtain rfl := h
      go_wp2
      go_ret
      exact ⟨rfl, rfl⟩
    | cons x l =>
      obtain ⟨op, at'⟩ := x
      have hlen0 := errLen_eq h
      obtain ⟨b, v', rfl, hb, h1⟩ := h
      have hlen := errLen_eq h1
      obtain ⟨u1, p1, rfl⟩ := h1.iface
      have hty := run_eql_iface_types (P := Tryd.prog) 82 167 (.pointer (some ⟨b, 0, none⟩)) (.pointer (some (E m))) Tryd.underlying28 (by decide) wr
      have hcell := (blk_cells hb).2.2.1
      have H1 := Lib.hid h1
      have HL := Lib.hid hlen
      have HL0 := Lib.hid hlen0
      clear h1 hb hlen hlen0
      unfold errV at *
      go_wp2
      exact ⟨⟨trivial, l, H1.out⟩, by show errLen wr E n (.iface u1 p1) < _; rw [HL.out, HL0.out]; simp⟩

set_option maxRecDepth 1000000 in
theorem errorsIsNo_c (w : World) (E : Nat → Addr) (n m : Nat) (l : List (ByteArray × Int)) (v : Value) (h : ErrIs w E n l v) (hne : E n ≠ E m) {c1 c2 : Array Value} {t1 t2 : TypeId} (h1 : w.heap[(E n).block]? = some (.cells c1 t1 (0, 0))) (h2 : w.heap[(E m).block]? = some (.cells c2 t2 (0, 0))) :
    Calls Tryd.prog 35 #[v, .iface 167 (.pointer (some (E m)))] w fun e w' => e = .returned (.bool false) ∧ w = w' := by
  have HC := Lib.hid (is_chain_no w E n m l v h hne h1 h2)
  obtain ⟨u1, p1, rfl⟩ := h.iface
  have tO := is_typeOf
  have mC := methodComparable
  have iC := is_comparable
  have hT := @run_callFunc_extern Tryd.prog 61 _ ReflectliteType.typeOf Tryd.func61 (by kernel_rfl) (by kernel_rfl) (by kernel_rfl) (by kernel_rfl)
  have hC := @run_callFunc_extern Tryd.prog 119 _ (ReflectliteType.method fun t => do Rtype.noPackHeld "Comparable" t; pure (.bool (← typeInfo t).comparable)) Tryd.func119 (by kernel_rfl) (by kernel_rfl) (by kernel_rfl) (by kernel_rfl)
  clear h h1 h2 hne
  go_enter Tryd.func35, Tryd.ntmps35
  go_wp2_with (go_at_call 62; refine (HC.out).mono ?_; rintro e w' ⟨rfl, rfl⟩)
  go_ret
  exact ⟨rfl, rfl⟩

/-- errors.Is, whatever the error's number. -/
theorem errorsIs_b (w : World) (E : Nat → Addr) (hA : Apart12 E) (hB : ErrBlk w E) (n m : Nat) (hn : 1 ≤ n ∧ n ≤ 11) (hm : 1 ≤ m ∧ m ≤ 11) (l : List (ByteArray × Int)) (v : Value) (h : ErrIs w E n l v) :
    Calls Tryd.prog 35 #[v, .iface 167 (.pointer (some (E m)))] w fun e w' => e = .returned (.bool (decide (n = m))) ∧ w = w' := by
  by_cases e : n = m
  · subst e
    rw [decide_eq_true rfl]
    exact errorsIs_c w E n l v h
  · rw [decide_eq_false e]
    obtain ⟨c1, t1, h1⟩ := hB n (.inl hn)
    obtain ⟨c2, t2, h2⟩ := hB m (.inl hm)
    exact errorsIsNo_c w E n m l v h (fun h => e (hA n m (.inl hn) (.inl hm) h)) h1 h2

theorem unwrap_c (w : World) (E : Nat → Addr) (n : Nat) (op : ByteArray) (at' : Int) (l : List (ByteArray × Int)) (v : Value) (h : ErrIs w E n ((op, at') :: l) v) :
    Calls Tryd.prog 46 #[v] w fun e w' => ∃ v', e = .returned v' ∧ ErrIs w E n l v' ∧ w = w' := by
  obtain ⟨b, v', rfl, hb, h1⟩ := h
  have uF := hasUnwrapF
  have mU := methodUnwrapF
  have hcell := (blk_cells hb).2.2.1
  have H1 := Lib.hid h1
  clear hb h1
  unfold errV
  go_enter Tryd.func46, Tryd.ntmps46
  go_wp2
  go_ret
  exact ⟨_, rfl, H1.out, rfl⟩
end Go.Proofs.YtlajiblhnkognaaDoor

namespace Go.Proofs.YtlajiblhnkognaaDoor
open Go.RowKit BagP RuleP SubP

/-- Of the bag's limit: subset's own. -/
def toldT (op : ByteArray) (n : Nat) (l : List (ByteArray × Int)) : List (ByteArray × Int) := if n = 4 ∧ op = sBag then [(sSubset, 0)] else l

theorem op_same : (sBag.toList == [98, 97, 103]) = true := by rw [ByteArray.toList_eq]; rfl
theorem op_other {op : ByteArray} (h : op ≠ sBag) : (op.toList == [98, 97, 103]) = false := by
  rw [Bool.eq_false_iff]
  intro e
  have e := eq_of_beq e
  rw [ByteArray.toList_eq] at e
  refine h ?_
  obtain ⟨⟨l⟩⟩ := op
  simp only at e
  subst e
  rfl
theorem told_end {w w3 : World} {E : Nat → Addr} {n : Nat} {op : ByteArray} {i : Int} {l : List (ByteArray × Int)} {v : Value} (h : ErrIs w E n ((op, i) :: l) v) (hb : Below w.heap.size w w3) (hn : ¬ (n = 4 ∧ op = sBag)) :
    ErrIs w3 E n (toldT op n ((op, i) :: l)) v := by
  unfold toldT
  rw [if_neg hn]
  exact h.below hb

/-- errors.As finds a Fault at once. -/
theorem as_fault (w : World) (b g : Nat) (old : Value) {T : TypeId} (hT : ErrT w) (hg : w.heap[g]? = some (.cells #[old] T (0, 0))) :
    Calls Tryd.prog 29 #[errV b, .iface 83 (.pointer (some ⟨g, 0, none⟩))] w fun e w' => e = .returned (.bool true) ∧ Below g w w' ∧ w'.heap[g]? = some (.cells #[.pointer (some ⟨b, 0, none⟩)] T (0, 0)) := by
  have hlt : g < w.heap.size := (Array.getElem?_eq_some_iff.1 hg).1
  refine (as_hit ⟨b, 0, none⟩ ⟨g, 0, none⟩ old w hT (by rw [cell_of_row w g _ _ _ _ hg]; rfl) (frozen_of_row _ _ 0 _ _ hg)).mono ?_
  rintro e w' ⟨rfl, rfl⟩
  obtain ⟨w4, hw4⟩ : ∃ w4, (((w.alloc (.cells #[.pointer (some ⟨g, 0, none⟩)] 83)).alloc (.cells #[.pointer (some ⟨13, 83, none⟩), .pointer (some ⟨w.heap.size, 0, none⟩), .int .u64 150] 103)).alloc (.cells #[.pointer (some ⟨13, 83, none⟩), .pointer (some ⟨w.heap.size, 0, none⟩), .int .u64 150] 103)).alloc (.cells #[.pointer (some ⟨b, 0, none⟩)] 82) = w4 := ⟨_, rfl⟩
  have hb4 : Below w.heap.size w w4 := by
    rw [← hw4]
    exact ((((Below.refl _ _).alloc (Nat.le_refl _) _).alloc (by simp) _).alloc (by simp; omega) _).alloc (by simp; omega) _
  rw [hw4]
  have hg4 := (hb4.block g hlt).trans hg
  exact ⟨rfl, (hb4.mono (Nat.le_of_lt hlt)).setCell (p := ⟨g, 0, none⟩) (Nat.le_refl _) _, heap_setCell_same w4 g 0 _ _ _ hg4⟩

set_option maxRecDepth 100000 in
set_option maxHeartbeats 2000000 in
theorem told_c (w : World) (E : Nat → Addr) (hE : Errs w E) (hT : ErrT w) (hA : Apart12 E) (hB : ErrBlk w E) (n : Nat) (h1 : 1 ≤ n) (h2 : n ≤ 11) (op : ByteArray) (i : Int) (l : List (ByteArray × Int)) (v : Value) (h : ErrIs w E n ((op, i) :: l) v) :
    Calls Tryd.prog 30 #[v] w fun e w' => ∃ v', e = .returned v' ∧ ErrIs w' E n (toldT op n ((op, i) :: l)) v' ∧ Below w.heap.size w w' := by
  have HIS := Lib.hid (errorsIs_b w E hA hB n 4 ⟨h1, h2⟩ (by decide) _ _ h)
  have e4 := hE.e4
  have HH := Lib.hid h
  have HE := Lib.hid (fun (wz : World) (hz : Below w.heap.size w wz) => hE.below hz)
  obtain ⟨b, v', rfl, hb, _⟩ := h
  have hbl : b < w.heap.size := (Array.getElem?_eq_some_iff.1 hb).1
  by_cases h4 : n = 4
  · rw [decide_eq_true h4] at HIS
    have hb0 := (Below.refl w.heap.size w).alloc (Nat.le_refl _) (.cells #[.pointer none] 82)
    have hT0 : ErrT (w.alloc (.cells #[.pointer none] 82)) := hT.below hb0
    have HAS := Lib.hid ((as_fault (w.alloc (.cells #[.pointer none] 82)) b w.heap.size (.pointer none) hT0 (heap_new _ _)).mono fun e w' (h : _ ∧ _ ∧ _) =>
      (⟨h.1, ((Below.refl w.heap.size w).alloc (Nat.le_refl _) _).trans h.2.1, by rw [cell_of_row w' w.heap.size _ _ _ _ h.2.2]; rfl⟩ : e = .returned (.bool true) ∧ Below w.heap.size w w' ∧ w'.cell? ⟨w.heap.size, 0, none⟩ = some (.pointer (some ⟨b, 0, none⟩))))
    have HC := Lib.hid (fun (w3 : World) (hz : Below w.heap.size w w3) => cell_later hz (blk_cells hb).1)
    have HB0 := Lib.hid hb0
    by_cases hop : op = sBag
    · subst hop
      have HN := Lib.hid h4
      have hsm := op_same
      clear hE hT hA hB hb hT0 hb0 h4
      unfold errV at *
      go_enter Tryd.func30, Tryd.ntmps30
      go_wp2_with fail
      refine (HIS.out).mono ?_
      rintro e w2 ⟨rfl, rfl⟩
      go_wp2_with fail
      refine (HAS.out).mono ?_
      rintro e w3 ⟨rfl, hb3, ht3⟩
      have hc3 := HC.out w3 hb3
      have HN3 := Lib.hid (new_c w3 E (HE.out w3 hb3) sSubset 0 4 (by decide) (by decide))
      go_wp2_with fail
      refine (HN3.out).mono ?_
      rintro e w4 ⟨rfl, rfl⟩
      go_wp2_with fail
      go_ret
      refine ⟨_, rfl, ?_, hb3.alloc hb3.size _⟩
      unfold toldT
      rw [if_pos ⟨HN.out, rfl⟩, HN.out]
      exact ⟨w3.heap.size, _, rfl, heap_new _ _, rfl⟩
    · have hne := op_other hop
      have HOP := Lib.hid hop
      clear hE hT hA hB hb hT0 hb0 h4 hop
      unfold errV at *
      go_enter Tryd.func30, Tryd.ntmps30
      go_wp2_with fail
      refine (HIS.out).mono ?_
      rintro e w2 ⟨rfl, rfl⟩
      go_wp2_with fail
      refine (HAS.out).mono ?_
      rintro e w3 ⟨rfl, hb3, ht3⟩
      have hc3 := HC.out w3 hb3
      go_wp2_with fail
      go_ret
      exact ⟨_, rfl, told_end HH.out hb3 (fun h => HOP.out h.2), hb3⟩
  · rw [decide_eq_false h4] at HIS
    have HN := Lib.hid h4
    clear hE hT hA hB hb h4
    unfold errV at *
    go_enter Tryd.func30, Tryd.ntmps30
    go_wp2_with fail
    refine (HIS.out).mono ?_
    rintro e w2 ⟨rfl, rfl⟩
    go_wp2_with fail
    go_ret
    exact ⟨_, rfl, told_end HH.out (Below.refl _ _) (fun h => HN.out h.1), Below.refl _ _⟩
end Go.Proofs.YtlajiblhnkognaaDoor
