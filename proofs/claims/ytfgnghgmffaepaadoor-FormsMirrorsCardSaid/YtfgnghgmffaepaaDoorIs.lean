/- errors.Is over Faults, one within another, around an error variable's error: true. After the kit's worked proofs of errors.Is. Condition: the blocks hold them. -/
import Derived.Test.YtfgnghgmffaepaaDoorErr
import Derived.Test.YtfgnghgmffaepaaDoorTypes
import Derived.Test.YtfgnghgmffaepaaDoorNatP
import Derived.LaidEql
import Derived.Stop.Asserts
import Derived.RowKitTokens
namespace Go.Proofs.YtfgnghgmffaepaaDoor
open Go.RowKit Go.Extern.Stop Go.Stop Go.Extern

/-- The value is an error: Faults with these packages and places, one within another, and then the error of number n. -/
def ErrIs (w : World) (E : Nat → Addr) (n : Nat) : List (ByteArray × Int) → Value → Prop
  | [], v => v = .iface 184 (.pointer (some (E n)))
  | (op, i) :: r, v => ∃ b v', v = errV b ∧ w.heap[b]? = some (.cells #[.string op, .int .i64 i, v'] 71 (0, 0)) ∧ ErrIs w E n r v'
theorem ErrIs.below {w w' : World} {E : Nat → Addr} {n : Nat} (hb : Below w.heap.size w w') : ∀ {l : List (ByteArray × Int)} {v : Value}, ErrIs w E n l v → ErrIs w' E n l v
  | [], _, h => h
  | (_, _) :: _, _, ⟨b, v', h1, h2, h3⟩ => ⟨b, v', h1, (hb.block b (Array.getElem?_eq_some_iff.1 h2).1).trans h2, ErrIs.below hb h3⟩
theorem ErrIs.keep {w w' : World} {E : Nat → Addr} {n : Nat} {l : List (ByteArray × Int)} {v : Value} (h : ErrIs w E n l v) (hb : Below w.heap.size w w') : ErrIs w' E n l v := ErrIs.below hb h
theorem ErrIs.keeps' {w w' : World} {E : Nat → Addr} {n : Nat} {O : Nat → Prop} (hk : Keeps O w w') (ho : ∀ k cs, O k → w.heap[k]? ≠ some (.cells cs 71 (0, 0))) : ∀ {l : List (ByteArray × Int)} {v : Value}, ErrIs w E n l v → ErrIs w' E n l v
  | [], _, h => h
  | (_, _) :: _, _, ⟨b, v', h1, h2, h3⟩ => ⟨b, v', h1, (hk.block b (Array.getElem?_eq_some_iff.1 h2).1 (fun hO => ho b _ hO h2)).trans h2, ErrIs.keeps' hk ho h3⟩
theorem ErrIs.iface {w : World} {E : Nat → Addr} {n : Nat} {l : List (ByteArray × Int)} {v : Value} (h : ErrIs w E n l v) : ∃ u p, v = .iface u p := by
  cases l with
  | nil => exact ⟨_, _, h⟩
  | cons x l => obtain ⟨b, v', rfl, _⟩ := h; exact ⟨_, _, rfl⟩

theorem is_typeOf (v : Value) (w : World) : (Extern.ReflectliteType.typeOf #[.iface 184 v]).run Tryd.prog w = .ok (.iface 123 (.agg #[.pointer (some ⟨17, 184, none⟩)])) w := by kernel_rfl
theorem is_comparable (w : World) : ((Extern.ReflectliteType.method fun t => do Rtype.noPackHeld "Comparable" t; (fun a => Value.bool a.comparable) <$> typeInfo t) #[.agg #[.pointer (some ⟨17, 184, none⟩)]]).run Tryd.prog w = .ok (.bool true) w := by kernel_rfl
theorem is_comp : (Tryd.prog.info? 184).map (·.comparable) = some true := by kernel_rfl
theorem is_size : (Tryd.prog.info? 205).map (·.size) = some 1 := by kernel_rfl
theorem noIsE (v : Value) (xT : TypeId) (w : World) : (Instr.typeAssert (.iface 184 v) xT 125 true).run Tryd.prog w = .ok (.tuple #[.nilIface, .bool false]) w := run_typeAssert_lacksB Tryd.underlying125 (by kernel_rfl) (by kernel_rfl) v xT w
theorem noIsF (v : Value) (xT : TypeId) (w : World) : (Instr.typeAssert (.iface 67 v) xT 125 true).run Tryd.prog w = .ok (.tuple #[.nilIface, .bool false]) w := run_typeAssert_lacksB Tryd.underlying125 (by kernel_rfl) (by kernel_rfl) v xT w
theorem hasUnwrapF (v : Value) (xT : TypeId) (w : World) : (Instr.typeAssert (.iface 67 v) xT 128 true).run Tryd.prog w = .ok (.tuple #[.iface 67 v, .bool true]) w := run_typeAssert_hasB Tryd.underlying128 (by kernel_rfl) v xT w
theorem methodUnwrapF (v : Value) (w : World) : (Go.method 317 67 v "Unwrap").run Tryd.prog w = .ok (140, v) w := by kernel_rfl
theorem methodComparable (v : Value) (w : World) : (Go.method 317 123 v "Comparable").run Tryd.prog w = .ok (146, v) w := by kernel_rfl

theorem ErrIs.len {w : World} {E : Nat → Addr} {n : Nat} : ∀ {l l' : List (ByteArray × Int)} {v : Value}, ErrIs w E n l v → ErrIs w E n l' v → l.length = l'.length
  | [], [], _, _, _ => rfl
  | [], _ :: _, _, h, ⟨b, v', h', _⟩ => by
    rw [show _ = _ from h] at h'
    simp [errV] at h'
  | _ :: _, [], _, ⟨b, v', h', _⟩, h => by
    rw [show _ = _ from h] at h'
    simp [errV] at h'
  | (_, _) :: _, (_, _) :: _, _, ⟨b, v', h1, h2, h3⟩, ⟨b2, v2, h4, h5, h6⟩ => by
    rw [h1] at h4
    have hb : b = b2 := by simpa [errV] using h4
    subst hb
    rw [h2] at h5
    have hv : v' = v2 := by
      injection h5 with h5
      injection h5 with h5
      simp at h5
      exact h5.2.2
    subst hv
    simp [ErrIs.len h3 h6]
open Classical in
noncomputable def errLen (w : World) (E : Nat → Addr) (n : Nat) (v : Value) : Nat := if h : ∃ l, ErrIs w E n l v then h.choose.length else 0
theorem errLen_eq {w : World} {E : Nat → Addr} {n : Nat} {l : List (ByteArray × Int)} {v : Value} (h : ErrIs w E n l v) : errLen w E n v = l.length := by
  unfold errLen
  have hx : ∃ l, ErrIs w E n l v := ⟨l, h⟩
  rw [dif_pos hx]
  exact ErrIs.len hx.choose_spec h

set_option maxRecDepth 1000000 in
theorem is_chain (w : World) (E : Nat → Addr) (n : Nat) (l : List (ByteArray × Int)) (v : Value) (h : ErrIs w E n l v) :
    Calls Tryd.prog 59 #[v, .iface 184 (.pointer (some (E n))), .bool true] w fun e w' => e = .returned (.bool true) ∧ w = w' := by
  obtain ⟨i, hi, hcmp⟩ := Option.map_eq_some_iff.1 is_comp
  obtain ⟨j, hj, hjs⟩ := Option.map_eq_some_iff.1 is_size
  have nE := noIsE
  have nF := noIsF
  have uF := hasUnwrapF
  have mU := methodUnwrapF
  go_enter Tryd.func59, Tryd.ntmps59
  go_wp2
  go_loopw [0] (fun v wl => wl = w ∧ ∃ l, ErrIs w E n l v) (fun v _ => errLen w E n v)
  case atStart => exact ⟨rfl, l, h⟩
  case round =>
    clear h
    obtain ⟨rfl, l, h⟩ := hrel
    cases l with
    | nil =>
      obtain rfl := h
      have heq := run_eql_iface_ptr_same (P := Tryd.prog) wr (E n) Tryd.underlying27 Tryd.underlying184 hi hcmp hj
      go_wp2
      go_ret
      exact ⟨rfl, rfl⟩
    | cons x l =>
      obtain ⟨op, at'⟩ := x
      have hlen0 := errLen_eq h
      obtain ⟨b, v', rfl, hb, h1⟩ := h
      have hlen := errLen_eq h1
      obtain ⟨u1, p1, rfl⟩ := h1.iface
      have hty := run_eql_iface_types (P := Tryd.prog) 67 184 (.pointer (some ⟨b, 0, none⟩)) (.pointer (some (E n))) Tryd.underlying27 (by decide) wr
      have hcell := (blk_cells hb).2.2.1
      have H1 := Lib.hid h1
      have HL := Lib.hid hlen
      have HL0 := Lib.hid hlen0
      clear h1 hb hlen hlen0
      unfold errV at *
      go_wp2
      exact ⟨⟨trivial, l, H1.out⟩, by show errLen wr E n (.iface u1 p1) < _; rw [HL.out, HL0.out]; simp⟩

set_option maxRecDepth 1000000 in
/-- errors.Is. -/
theorem errorsIs_c (w : World) (E : Nat → Addr) (n : Nat) (l : List (ByteArray × Int)) (v : Value) (h : ErrIs w E n l v) :
    Calls Tryd.prog 34 #[v, .iface 184 (.pointer (some (E n)))] w fun e w' => e = .returned (.bool true) ∧ w = w' := by
  obtain ⟨u1, p1, rfl⟩ := h.iface
  have tO := is_typeOf
  have mC := methodComparable
  have iC := is_comparable
  have hT := @run_callFunc_extern Tryd.prog 58 _ ReflectliteType.typeOf Tryd.func58 (by kernel_rfl) (by kernel_rfl) (by kernel_rfl) (by kernel_rfl)
  have hC := @run_callFunc_extern Tryd.prog 146 _ (ReflectliteType.method fun t => do Rtype.noPackHeld "Comparable" t; pure (.bool (← typeInfo t).comparable)) Tryd.func146 (by kernel_rfl) (by kernel_rfl) (by kernel_rfl) (by kernel_rfl)
  have H := Lib.hid h
  clear h
  go_enter Tryd.func34, Tryd.ntmps34
  go_wp2_with (go_at_call 59; refine (is_chain w E n l _ H.out).mono ?_; rintro e w' ⟨rfl, rfl⟩)
  go_ret
  exact ⟨rfl, rfl⟩
end Go.Proofs.YtfgnghgmffaepaaDoor
