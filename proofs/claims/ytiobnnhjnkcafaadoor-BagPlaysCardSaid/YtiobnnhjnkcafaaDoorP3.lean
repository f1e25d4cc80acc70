/- errors.As at an *api.Fault: nil, and the hit. After the kit's worked proof of errors.As at a concrete target. Condition: the variable that As reads, the target's cell. Numbers as digits, the lowest first: plain lists, no program. A list without a nought at its end is the digits of its value. No condition. errors.Is over Faults, one within another, around an error variable's error: true. After the kit's worked proofs of errors.Is. Condition: the blocks hold them. edenraw.Root, edenraw.Is, edenraw.New: what is asked of an error, and that the error is just that one. Condition: the error variables hold what E says; the variable that errors.As reads. -/
import Derived.LaidEql
import Derived.Stop.Asserts
import Derived.RowKitTokens
import Derived.Test.YtiobnnhjnkcafaaDoorProg
import Derived.Deep.RegionWith
import Derived.Deep.RegionHeld3
import Derived.OpenShut
import Derived.Test.YtiobnnhjnkcafaaDoorP1
namespace Go.Proofs.YtiobnnhjnkcafaaDoor
open Go.RowKit Go.Extern.Stop Go.Stop Go.Extern

/-! ### CLOSED FACTS ON THE MODEL's ENTRIES FOR internal/reflectlite, at this program's types: 25: *p.E · 27: **p.E · 23: error · 45: reflectlite's rtype · 1: how many package-level variables the dump has -/
theorem As.valueOf27 (t : Addr) (w : World) : (ReflectliteValue.unpack (.iface 61 (.pointer (some t)))).run Tryd.prog w
    = .ok (.agg #[.pointer (some ⟨13, 61, none⟩), .pointer (some ⟨w.heap.size, 0, none⟩), .int .u64 150]) (w.alloc (.cells #[.pointer (some t)] 61)) := by kernel_rfl
theorem As.type27 (a : Addr) (w : World) : (ReflectliteValue.methodAny (ReflectliteValue.valueError "reflectlite.Value.Type" 0) (fun t _ _ _ => ReflectliteType.toType t) #[.agg #[.pointer (some ⟨13, 61, none⟩), .pointer (some a), .int .u64 150]]).run Tryd.prog w
    = .ok (.iface 107 (.agg #[.pointer (some ⟨13, 61, none⟩)])) w := by kernel_rfl
theorem As.methodKind (h : Value) (w : World) : (Go.method 280 107 (.agg #[h]) "Kind").run Tryd.prog w = .ok (85, h) w := by kernel_rfl
theorem As.kind27 (w : World) : ((ReflectliteType.abiMethod fun t => (fun a : Nat => Value.int IntKind.u8 (a : Int)) <$> Rtype.kind t) #[.pointer (some ⟨13, 61, none⟩)]).run Tryd.prog w = .ok (.int .u8 22) w := by kernel_rfl
theorem As.kind25 (w : World) : ((ReflectliteType.abiMethod fun t => (fun a : Nat => Value.int IntKind.u8 (a : Int)) <$> Rtype.kind t) #[.pointer (some ⟨13, 59, none⟩)]).run Tryd.prog w = .ok (.int .u8 22) w := by kernel_rfl

/-! ### THE ENTRIES THAT READ OR WRITE MEMORY: laws with a premise on the cell (after Derived/Lib/ReflectliteSlice.lean's manner: each unfolding a lemma of its own, by rfl) -/
theorem rlm (z : Sem Value) (f : TypeId → Addr → Nat → Nat → Sem Value) (v : Value) :
    ReflectliteValue.method z f #[v] = (do match ← ReflectliteValue.parts v with | none => z | some (t, a, fl) => f t a fl (fl % 32)) := rfl
theorem As.parts27 (a : Addr) (w : World) : (ReflectliteValue.parts (.agg #[.pointer (some ⟨13, 61, none⟩), .pointer (some a), .int .u64 150])).run Tryd.prog w = .ok (some (61, a, 150)) w := by kernel_rfl
/-- (Value).IsNil at the Value of a **p.E that is not nil. -/
theorem As.isNil27 (a p : Addr) (W : World) (ha : W.cell? a = some (.pointer (some p))) :
    (ReflectliteValue.method (ReflectliteValue.valueError "reflectlite.Value.IsNil" 0) ReflectliteValue.isNil #[.agg #[.pointer (some ⟨13, 61, none⟩), .pointer (some a), .int .u64 150]]).run Tryd.prog W = .ok (.bool false) W := by
  rw [rlm]
  simp only [Sem.run_bind, As.parts27, Result.andThen]
  simp [ReflectliteValue.isNil, loadVar, isAgg, underlying, Tryd.underlying61, ha, Result.andThen]

theorem As.methodElem (h : Value) (w : World) : (Go.method 280 107 (.agg #[h]) "Elem").run Tryd.prog w = .ok (96, .agg #[h]) w := by kernel_rfl
theorem As.methodImplements (h : Value) (w : World) : (Go.method 280 107 (.agg #[h]) "Implements").run Tryd.prog w = .ok (97, .agg #[h]) w := by kernel_rfl
theorem As.methodAssignableTo (h : Value) (w : World) : (Go.method 280 107 (.agg #[h]) "AssignableTo").run Tryd.prog w = .ok (94, .agg #[h]) w := by kernel_rfl
theorem As.elem27 (w : World) : (ReflectliteType.method ReflectliteType.elem #[.agg #[.pointer (some ⟨13, 61, none⟩)]]).run Tryd.prog w = .ok (.iface 107 (.agg #[.pointer (some ⟨13, 59, none⟩)])) w := by kernel_rfl
theorem As.implements25 (w : World) : (ReflectliteType.relation "Implements" ReflectliteType.implements_ #[.agg #[.pointer (some ⟨13, 59, none⟩)], .iface 107 (.agg #[.pointer (some ⟨13, 26, none⟩)])]).run Tryd.prog w = .ok (.bool true) w := by kernel_rfl
theorem As.typeOf25 (v : Value) (w : World) : (ReflectliteType.typeOf #[.iface 59 v]).run Tryd.prog w = .ok (.iface 107 (.agg #[.pointer (some ⟨13, 59, none⟩)])) w := by kernel_rfl
theorem As.assignable25 (w : World) : (ReflectliteType.relation "AssignableTo" ReflectliteType.assignableTo #[.agg #[.pointer (some ⟨13, 59, none⟩)], .iface 107 (.agg #[.pointer (some ⟨13, 59, none⟩)])]).run Tryd.prog w = .ok (.bool true) w := by kernel_rfl
theorem As.valueOf25 (e : Addr) (w : World) : (ReflectliteValue.unpack (.iface 59 (.pointer (some e)))).run Tryd.prog w
    = .ok (.agg #[.pointer (some ⟨13, 59, none⟩), .pointer (some ⟨w.heap.size, 0, none⟩), .int .u64 150]) (w.alloc (.cells #[.pointer (some e)] 59)) := by kernel_rfl

theorem As.elemOf27 (w : World) : (Rtype.elem? 61).run Tryd.prog w = .ok (some 59) w := by kernel_rfl
theorem As.mk25 (p : Addr) (w : World) : (ReflectliteValue.mk 59 p ReflectliteValue.flagAddr).run Tryd.prog w = .ok (.agg #[.pointer (some ⟨13, 59, none⟩), .pointer (some p), .int .u64 406]) w := by kernel_rfl
/-- (Value).Elem at the Value of a **p.E that is not nil: the Value of the *p.E variable that it points to, addressable. -/
theorem As.elemV27 (a p : Addr) (W : World) (ha : W.cell? a = some (.pointer (some p))) :
    (ReflectliteValue.method (ReflectliteValue.valueError "reflectlite.Value.Elem" 0) ReflectliteValue.elem #[.agg #[.pointer (some ⟨13, 61, none⟩), .pointer (some a), .int .u64 150]]).run Tryd.prog W
      = .ok (.agg #[.pointer (some ⟨13, 59, none⟩), .pointer (some p), .int .u64 406]) W := by
  rw [rlm]
  simp only [Sem.run_bind, As.parts27, Result.andThen]
  simp [ReflectliteValue.elem, loadVar, isAgg, underlying, Tryd.underlying61, ha, Result.andThen, As.elemOf27, As.mk25]
theorem rls (v x : Value) : ReflectliteValue.set #[v, x] = (do
    let (some (dst, a, fl), some (src, b, _)) := (← ReflectliteValue.parts v, ← ReflectliteValue.parts x)
      | unsupported (.noEntry "extern/(internal/reflectlite.Value).Set.zeroValue")
    if fl / ReflectliteValue.flagAddr % 2 == 0 then unsupported (.noEntry "extern/(internal/reflectlite.Value).Set.unaddressable")
    let val ← loadVar src b
    if ← Rtype.directlyAssignable dst src then storeVar dst a val
    else if ← Rtype.implements dst src then
      if (← Rtype.kind src) == 20 then
        match val with
        | .nilIface => unsupported (.noEntry "extern/reflectlite: a nil value of one interface type handed on as a value of another")
        | _ => storeVar dst a val
      else storeVar dst a (.iface src val)
    else panicString ("reflectlite.Set: value of type " ++ (← Rtype.spelt src) ++ " is not assignable to type " ++ (← Rtype.spelt dst))
    pure (.tuple #[])) := rfl
theorem As.parts25a (a : Addr) (w : World) : (ReflectliteValue.parts (.agg #[.pointer (some ⟨13, 59, none⟩), .pointer (some a), .int .u64 406])).run Tryd.prog w = .ok (some (59, a, 406)) w := by kernel_rfl
theorem As.parts25 (a : Addr) (w : World) : (ReflectliteValue.parts (.agg #[.pointer (some ⟨13, 59, none⟩), .pointer (some a), .int .u64 150])).run Tryd.prog w = .ok (some (59, a, 150)) w := by kernel_rfl
theorem As.direct25 (w : World) : (Rtype.directlyAssignable 59 59).run Tryd.prog w = .ok true w := by kernel_rfl
/-- (Value).Set: the *p.E variable at 'ta' gets what the Value's own variable 'b' holds. -/
theorem As.set25 (ta b e : Addr) (old : Value) (W : World) (hb : W.cell? b = some (.pointer (some e))) (ht : W.cell? ta = some old) (hf : W.frozen? ta = false) :
    (ReflectliteValue.set #[.agg #[.pointer (some ⟨13, 59, none⟩), .pointer (some ta), .int .u64 406], .agg #[.pointer (some ⟨13, 59, none⟩), .pointer (some b), .int .u64 150]]).run Tryd.prog W
      = .ok (.tuple #[]) (W.setCell ta (.pointer (some e))) := by
  rw [rls]
  simp only [Sem.run_bind, As.parts25a, As.parts25, Result.andThen]
  simp [ReflectliteValue.flagAddr, loadVar, isAgg, underlying, Tryd.underlying59, hb, Result.andThen, As.direct25, storeVar, Value.cells, storeCells, Addr.add]
  rw [run_store Tryd.prog W ta _ _ (by rfl)]
  simp [ht, hf]

set_option maxHeartbeats 4000000 in
theorem as_hit (e t : Addr) (old : Value) (w : World) (hg : w.cell? ⟨12, 0, none⟩ = some (.iface 107 (.agg #[.pointer (some ⟨13, 26, none⟩)]))) (ht0 : w.cell? t = some old) (hf0 : w.frozen? t = false) :
    Calls Tryd.prog 17 #[.iface 59 (.pointer (some e)), .iface 61 (.pointer (some t))] w fun ev w' => ev = .returned (.bool true) ∧ w' = ((((w.alloc (.cells #[.pointer (some t)] 61)).alloc (.cells #[.pointer (some ⟨13, 61, none⟩), .pointer (some ⟨w.heap.size, 0, none⟩), .int .u64 150] 93)).alloc (.cells #[.pointer (some ⟨13, 61, none⟩), .pointer (some ⟨w.heap.size, 0, none⟩), .int .u64 150] 93)).alloc (.cells #[.pointer (some e)] 59)).setCell t (.pointer (some e)) := by
  have h6 := @run_callFunc_extern Tryd.prog 35 _ (fun args => ReflectliteValue.unpack (args.getD 0 (.tuple #[]))) Tryd.func35 (by kernel_rfl) (by kernel_rfl) (by kernel_rfl) (by kernel_rfl)
  have h7 := @run_callFunc_extern Tryd.prog 36 _ (ReflectliteValue.methodAny (ReflectliteValue.valueError "reflectlite.Value.Type" 0) (fun t _ _ _ => ReflectliteType.toType t)) Tryd.func36 (by kernel_rfl) (by kernel_rfl) (by kernel_rfl) (by kernel_rfl)
  have h8 := @run_callFunc_extern Tryd.prog 37 _ (ReflectliteValue.method (ReflectliteValue.valueError "reflectlite.Value.IsNil" 0) ReflectliteValue.isNil) Tryd.func37 (by kernel_rfl) (by kernel_rfl) (by kernel_rfl) (by kernel_rfl)
  have h27 := @run_callFunc_extern Tryd.prog 85 _ (ReflectliteType.abiMethod fun t => do pure (.int .u8 (← Rtype.kind t))) Tryd.func85 (by kernel_rfl) (by kernel_rfl) (by kernel_rfl) (by kernel_rfl)
  have h37 := @run_callFunc_extern Tryd.prog 96 _ (ReflectliteType.method ReflectliteType.elem) Tryd.func96 (by kernel_rfl) (by kernel_rfl) (by kernel_rfl) (by kernel_rfl)
  have h38 := @run_callFunc_extern Tryd.prog 97 _ (ReflectliteType.relation "Implements" ReflectliteType.implements_) Tryd.func97 (by kernel_rfl) (by kernel_rfl) (by kernel_rfl) (by kernel_rfl)
  have h10 := @run_callFunc_extern Tryd.prog 33 _ ReflectliteType.typeOf Tryd.func33 (by kernel_rfl) (by kernel_rfl) (by kernel_rfl) (by kernel_rfl)
  have h35 := @run_callFunc_extern Tryd.prog 94 _ (ReflectliteType.relation "AssignableTo" ReflectliteType.assignableTo) Tryd.func94 (by kernel_rfl) (by kernel_rfl) (by kernel_rfl) (by kernel_rfl)
  have h11 := @run_callFunc_extern Tryd.prog 47 _ (ReflectliteValue.method (ReflectliteValue.valueError "reflectlite.Value.Elem" 0) ReflectliteValue.elem) Tryd.func47 (by kernel_rfl) (by kernel_rfl) (by kernel_rfl) (by kernel_rfl)
  have h12 := @run_callFunc_extern Tryd.prog 48 _ ReflectliteValue.set Tryd.func48 (by kernel_rfl) (by kernel_rfl) (by kernel_rfl) (by kernel_rfl)
  have tO := As.typeOf25
  have mA := As.methodAssignableTo
  have a25 := As.assignable25
  have v25 := As.valueOf25
  have f6 := As.valueOf27
  have f7 := As.type27
  have mK := As.methodKind
  have mE := As.methodElem
  have mI := As.methodImplements
  have k27 := As.kind27
  have k25 := As.kind25
  have e27 := As.elem27
  have i25 := As.implements25
  have n8 := As.isNil27 ⟨w.heap.size, 0, none⟩ t ((w.alloc (.cells #[.pointer (some t)] 61)).alloc (.cells #[.pointer (some ⟨13, 61, none⟩), .pointer (some ⟨w.heap.size, 0, none⟩), .int .u64 150] 93)) (by simp)
  have hlt : 12 < w.heap.size := World.block_lt_of_cell? _ _ hg
  have hg2 : ((w.alloc (.cells #[.pointer (some t)] 61)).alloc (.cells #[.pointer (some ⟨13, 61, none⟩), .pointer (some ⟨w.heap.size, 0, none⟩), .int .u64 150] 93)).cell? ⟨12, 0, none⟩ = some (.iface 107 (.agg #[.pointer (some ⟨13, 26, none⟩)])) := by
    rw [World.cell?_alloc_lt _ _ ⟨12, 0, none⟩ (by simp <;> omega), World.cell?_alloc_lt _ _ ⟨12, 0, none⟩ hlt]; exact hg
  have htl : t.block < w.heap.size := by
    rcases Nat.lt_or_ge t.block w.heap.size with h | h
    · exact h
    · simp [World.cell?, Array.getElem?_eq_none h] at ht0
  have el := As.elemV27 ⟨w.heap.size, 0, none⟩ t (((w.alloc (.cells #[.pointer (some t)] 61)).alloc (.cells #[.pointer (some ⟨13, 61, none⟩), .pointer (some ⟨w.heap.size, 0, none⟩), .int .u64 150] 93)).alloc (.cells #[.pointer (some ⟨13, 61, none⟩), .pointer (some ⟨w.heap.size, 0, none⟩), .int .u64 150] 93)) (by rw [World.cell?_alloc_lt _ _ ⟨w.heap.size, 0, none⟩ (by simp; omega)]; simp)
  have st := As.set25 t ⟨w.heap.size + 1 + 1 + 1, 0, none⟩ e old ((((w.alloc (.cells #[.pointer (some t)] 61)).alloc (.cells #[.pointer (some ⟨13, 61, none⟩), .pointer (some ⟨w.heap.size, 0, none⟩), .int .u64 150] 93)).alloc (.cells #[.pointer (some ⟨13, 61, none⟩), .pointer (some ⟨w.heap.size, 0, none⟩), .int .u64 150] 93)).alloc (.cells #[.pointer (some e)] 59))
    (by rw [World.cell?_alloc_at _ _ _ _ (by simp)]; rfl)
    (by rw [World.cell?_alloc_lt _ _ t (by simp; omega), World.cell?_alloc_lt _ _ t (by simp; omega), World.cell?_alloc_lt _ _ t (by simp; omega), World.cell?_alloc_lt _ _ t htl]; exact ht0)
    (by rw [World.frozen?_alloc_old _ _ t (by simp; omega), World.frozen?_alloc_old _ _ t (by simp; omega), World.frozen?_alloc_old _ _ t (by simp; omega), World.frozen?_alloc_old _ _ t (Nat.ne_of_lt htl)]; exact hf0)
  go_enter Tryd.func17, Tryd.ntmps17
  go_wp2
  refine wp_loop_rounds 1 ?_
  rw [rounds_succ]
  go_wp2
  go_ret
  exact ⟨rfl, rfl⟩

end Go.Proofs.YtiobnnhjnkcafaaDoor

namespace Go.Proofs.YtiobnnhjnkcafaaDoor
/-- Of one number, told by these packages at these places, from the outermost on. -/
abbrev Tale := Nat × List (ByteArray × Int)
/-- The number is one of the errors'. -/
def TaleOk (t : Option Tale) : Prop := ∀ x, t = some x → 1 ≤ x.1 ∧ x.1 ≤ 11
namespace NatP

def OkB (b : Nat) (l : List Nat) : Prop := ∀ x ∈ l, x < b
theorem ok_getD {b : Nat} (hb : 0 < b) {l : List Nat} (h : OkB b l) (k : Nat) : l.getD k 0 < b := by
  rw [List.getD_eq_getElem?_getD]
  cases hk : l[k]? with
  | none => simpa using hb
  | some x => simpa using h x (List.mem_of_getElem? hk)
theorem ok_zeros {b : Nat} (hb : 0 < b) (n : Nat) : OkB b (List.replicate n 0) := by
  intro x hx; rw [List.eq_of_mem_replicate hx]; exact hb

end NatP
end Go.Proofs.YtiobnnhjnkcafaaDoor

namespace Go.Proofs.YtiobnnhjnkcafaaDoor
open Go.RowKit Go.Extern.Stop Go.Stop Go.Extern

/-- The value is an error: Faults with these packages and places, one within another, and then the error of number n. -/
def ErrIs (w : World) (E : Nat → Addr) (n : Nat) : List (ByteArray × Int) → Value → Prop
  | [], v => v = .iface 148 (.pointer (some (E n)))
  | (op, i) :: r, v => ∃ b v', v = errV b ∧ w.heap[b]? = some (.cells #[.string op, .int .i64 i, v'] 63 (0, 0)) ∧ ErrIs w E n r v'
theorem ErrIs.below {w w' : World} {E : Nat → Addr} {n : Nat} (hb : Below w.heap.size w w') : ∀ {l : List (ByteArray × Int)} {v : Value}, ErrIs w E n l v → ErrIs w' E n l v
  | [], _, h => h
  | (_, _) :: _, _, ⟨b, v', h1, h2, h3⟩ => ⟨b, v', h1, (hb.block b (Array.getElem?_eq_some_iff.1 h2).1).trans h2, ErrIs.below hb h3⟩
theorem ErrIs.keep {w w' : World} {E : Nat → Addr} {n : Nat} {l : List (ByteArray × Int)} {v : Value} (h : ErrIs w E n l v) (hb : Below w.heap.size w w') : ErrIs w' E n l v := ErrIs.below hb h
theorem ErrIs.iface {w : World} {E : Nat → Addr} {n : Nat} {l : List (ByteArray × Int)} {v : Value} (h : ErrIs w E n l v) : ∃ u p, v = .iface u p := by
  cases l with
  | nil => exact ⟨_, _, h⟩
  | cons x l => obtain ⟨b, v', rfl, _⟩ := h; exact ⟨_, _, rfl⟩

theorem is_typeOf (v : Value) (w : World) : (Extern.ReflectliteType.typeOf #[.iface 148 v]).run Tryd.prog w = .ok (.iface 107 (.agg #[.pointer (some ⟨13, 148, none⟩)])) w := by kernel_rfl
theorem is_comparable (w : World) : ((Extern.ReflectliteType.method fun t => do Rtype.noPackHeld "Comparable" t; (fun a => Value.bool a.comparable) <$> typeInfo t) #[.agg #[.pointer (some ⟨13, 148, none⟩)]]).run Tryd.prog w = .ok (.bool true) w := by kernel_rfl
theorem is_comp : (Tryd.prog.info? 148).map (·.comparable) = some true := by kernel_rfl
theorem is_size : (Tryd.prog.info? 168).map (·.size) = some 1 := by kernel_rfl
theorem noIsE (v : Value) (xT : TypeId) (w : World) : (Instr.typeAssert (.iface 148 v) xT 109 true).run Tryd.prog w = .ok (.tuple #[.nilIface, .bool false]) w := run_typeAssert_lacksB Tryd.underlying109 (by kernel_rfl) (by kernel_rfl) v xT w
theorem noIsF (v : Value) (xT : TypeId) (w : World) : (Instr.typeAssert (.iface 59 v) xT 109 true).run Tryd.prog w = .ok (.tuple #[.nilIface, .bool false]) w := run_typeAssert_lacksB Tryd.underlying109 (by kernel_rfl) (by kernel_rfl) v xT w
theorem hasUnwrapF (v : Value) (xT : TypeId) (w : World) : (Instr.typeAssert (.iface 59 v) xT 112 true).run Tryd.prog w = .ok (.tuple #[.iface 59 v, .bool true]) w := run_typeAssert_hasB Tryd.underlying112 (by kernel_rfl) v xT w
theorem methodUnwrapF (v : Value) (w : World) : (Go.method 280 59 v "Unwrap").run Tryd.prog w = .ok (89, v) w := by kernel_rfl
theorem methodComparable (v : Value) (w : World) : (Go.method 280 107 v "Comparable").run Tryd.prog w = .ok (95, v) w := by kernel_rfl

theorem ErrIs.len {w : World} {E : Nat → Addr} {n : Nat} : ∀ {l l' : List (ByteArray × Int)} {v : Value}, ErrIs w E n l v → ErrIs w E n l' v → l.length = l'.length
  | [], [], _, _, _ => rfl
  | [], _ :: _, _, h, ⟨b, v', h', _⟩ => by
    rw [show _ = _ from h] at h'
    simp [errV] at h'
  | _ :: _, [], _, ⟨b, v', h', _⟩, h => by
    rw [show _ = _ from h] at h'
    simp [errV] at h'
  | (_, _) :: _, (_, _) :: _, _, ⟨b, v', h1, h2, h3⟩, ⟨b2, v2, h4, h5, h6⟩ => by
    rw [h1] at h4
    have hb : b = b2 := by simpa [errV] using h4
    subst hb
    rw [h2] at h5
    have hv : v' = v2 := by
      injection h5 with h5
      injection h5 with h5
      simp at h5
      exact h5.2.2
    subst hv
    simp [ErrIs.len h3 h6]
open Classical in
noncomputable def errLen (w : World) (E : Nat → Addr) (n : Nat) (v : Value) : Nat := if h : ∃ l, ErrIs w E n l v then h.choose.length else 0
theorem errLen_eq {w : World} {E : Nat → Addr} {n : Nat} {l : List (ByteArray × Int)} {v : Value} (h : ErrIs w E n l v) : errLen w E n v = l.length := by
  unfold errLen
  have hx : ∃ l, ErrIs w E n l v := ⟨l, h⟩
  rw [dif_pos hx]
  exact ErrIs.len hx.choose_spec h

set_option maxRecDepth 1000000 in
theorem is_chain (w : World) (E : Nat → Addr) (n : Nat) (l : List (ByteArray × Int)) (v : Value) (h : ErrIs w E n l v) :
    Calls Tryd.prog 34 #[v, .iface 148 (.pointer (some (E n))), .bool true] w fun e w' => e = .returned (.bool true) ∧ w = w' := by
  obtain ⟨i, hi, hcmp⟩ := Option.map_eq_some_iff.1 is_comp
  obtain ⟨j, hj, hjs⟩ := Option.map_eq_some_iff.1 is_size
  have nE := noIsE
  have nF := noIsF
  have uF := hasUnwrapF
  have mU := methodUnwrapF
  go_enter Tryd.func34, Tryd.ntmps34
  go_wp2
  go_loopw [0] (fun v wl => wl = w ∧ ∃ l, ErrIs w E n l v) (fun v _ => errLen w E n v)
  case atStart => exact ⟨rfl, l, h⟩
  case round =>
    clear h
    obtain ⟨rfl, l, h⟩ := hrel
    cases l with
    | nil =>
      obtain rfl := h
      have heq := run_eql_iface_ptr_same (P := Tryd.prog) wr (E n) Tryd.underlying26 Tryd.underlying148 hi hcmp hj
      go_wp2
      go_ret
      exact ⟨rfl, rfl⟩
    | cons x l =>
      obtain ⟨op, at'⟩ := x
      have hlen0 := errLen_eq h
      obtain ⟨b, v', rfl, hb, h1⟩ := h
      have hlen := errLen_eq h1
      obtain ⟨u1, p1, rfl⟩ := h1.iface
      have hty := run_eql_iface_types (P := Tryd.prog) 59 148 (.pointer (some ⟨b, 0, none⟩)) (.pointer (some (E n))) Tryd.underlying26 (by decide) wr
      have hcell := (blk_cells hb).2.2.1
      have H1 := Lib.hid h1
      have HL := Lib.hid hlen
      have HL0 := Lib.hid hlen0
      clear h1 hb hlen hlen0
      unfold errV at *
      go_wp2
      exact ⟨⟨trivial, l, H1.out⟩, by show errLen wr E n (.iface u1 p1) < _; rw [HL.out, HL0.out]; simp⟩

set_option maxRecDepth 1000000 in
/-- errors.Is. -/
theorem errorsIs_c (w : World) (E : Nat → Addr) (n : Nat) (l : List (ByteArray × Int)) (v : Value) (h : ErrIs w E n l v) :
    Calls Tryd.prog 15 #[v, .iface 148 (.pointer (some (E n)))] w fun e w' => e = .returned (.bool true) ∧ w = w' := by
  obtain ⟨u1, p1, rfl⟩ := h.iface
  have tO := is_typeOf
  have mC := methodComparable
  have iC := is_comparable
  have hT := @run_callFunc_extern Tryd.prog 33 _ ReflectliteType.typeOf Tryd.func33 (by kernel_rfl) (by kernel_rfl) (by kernel_rfl) (by kernel_rfl)
  have hC := @run_callFunc_extern Tryd.prog 95 _ (ReflectliteType.method fun t => do Rtype.noPackHeld "Comparable" t; pure (.bool (← typeInfo t).comparable)) Tryd.func95 (by kernel_rfl) (by kernel_rfl) (by kernel_rfl) (by kernel_rfl)
  have H := Lib.hid h
  clear h
  go_enter Tryd.func15, Tryd.ntmps15
  go_wp2_with (go_at_call 34; refine (is_chain w E n l _ H.out).mono ?_; rintro e w' ⟨rfl, rfl⟩)
  go_ret
  exact ⟨rfl, rfl⟩
end Go.Proofs.YtiobnnhjnkcafaaDoor

namespace Go.Proofs.YtiobnnhjnkcafaaDoor
open Go.RowKit

set_option maxHeartbeats 1000000 in
theorem rawRoot_c (w : World) (E : Nat → Addr) (hE : Errs w E) (n : Nat) (h1 : 1 ≤ n) (h2 : n ≤ 11) :
    Calls Tryd.prog 16 #[.int .i64 (n : Int)] w fun e w' => e = .returned (.iface 148 (.pointer (some (E n)))) ∧ w = w' := by
  obtain ⟨e1, e2, e3, e4, e5, e6, e7, e8, e9, e10, e11, e99⟩ := hE
  have hn : n = 1 ∨ n = 2 ∨ n = 3 ∨ n = 4 ∨ n = 5 ∨ n = 6 ∨ n = 7 ∨ n = 8 ∨ n = 9 ∨ n = 10 ∨ n = 11 := by omega
  clear h1 h2
  rcases hn with rfl | rfl | rfl | rfl | rfl | rfl | rfl | rfl | rfl | rfl | rfl
  all_goals
    go_enter Tryd.func16, Tryd.ntmps16
    go_wp2
    go_ret
    exact ⟨rfl, rfl⟩

/-- What errors.As reads of the package's own variable. -/
def ErrT (w : World) : Prop := w.cell? ⟨12, 0, none⟩ = some (.iface 107 (.agg #[.pointer (some ⟨13, 26, none⟩)]))
theorem ErrT.below {w w' : World} (h : ErrT w) (hb : Below w.heap.size w w') : ErrT w' := cell_later hb h

/-- The value is no error, or the error of the tale. -/
def ErrV (w : World) (E : Nat → Addr) : Option Tale → Value → Prop
  | none, v => v = .nilIface
  | some t, v => ErrIs w E t.1 t.2 v
/-- The value asks for no error, or for the error of the tale. -/
def WantV (w : World) : Option Tale → Value → Prop
  | none, u => u = .agg #[.int .i64 0, .slice none 0 0, .slice none 0 0]
  | some t, u => ∃ A1 c1 A2 c2, u = .agg #[.int .i64 (t.1 : Int), .slice A1 t.2.length c1, .slice A2 t.2.length c2] ∧ t.2.length ≤ c1 ∧ c1 ≤ 9223372036854775807 ∧ t.2.length ≤ c2 ∧ c2 ≤ 9223372036854775807 ∧ Sl w A1 t.2.length (t.2.map fun x => .string x.1) ∧ Sl w A2 t.2.length (t.2.map fun x => .int .i64 x.2)
theorem ErrV.below {w w' : World} {E : Nat → Addr} {t : Option Tale} {v : Value} (h : ErrV w E t v) (hb : Below w.heap.size w w') : ErrV w' E t v := by
  cases t with
  | none => exact h
  | some t => exact ErrIs.below hb h
theorem WantV.below {w w' : World} {t : Option Tale} {v : Value} (h : WantV w t v) (hb : Below w.heap.size w w') : WantV w' t v := by
  cases t with
  | none => exact h
  | some t =>
    obtain ⟨A1, c1, A2, c2, h1, p1, p2, p3, p4, h2, h3⟩ := h
    exact ⟨A1, c1, A2, c2, h1, p1, p2, p3, p4, h2.below hb, h3.below hb⟩

theorem as_b (w : World) (t : Addr) (b : Nat) (old : Value) (hT : ErrT w) (ht0 : w.cell? t = some old) (hf0 : w.frozen? t = false) :
    Calls Tryd.prog 17 #[errV b, .iface 61 (.pointer (some t))] w fun ev w' => ev = .returned (.bool true) ∧ w'.cell? t = some (.pointer (some ⟨b, 0, none⟩)) ∧ Keeps (fun k => k = t.block) w w' := by
  refine (as_hit ⟨b, 0, none⟩ t old w hT ht0 hf0).mono ?_
  rintro ev w' ⟨rfl, rfl⟩
  have htl : t.block < w.heap.size := World.block_lt_of_cell? _ _ ht0
  refine ⟨rfl, ?_, ?_⟩
  · refine World.cell?_setCell_same _ _ _ (u := old) ?_
    rw [World.cell?_alloc_lt _ _ t (by simp; omega), World.cell?_alloc_lt _ _ t (by simp; omega), World.cell?_alloc_lt _ _ t (by simp; omega), World.cell?_alloc_lt _ _ t htl, ht0]
  · refine Keeps.trans (O := fun k => k = t.block) (Keeps.of_pure ?_ (fun k => k = t.block)) (Keeps.of_setCell _ _ _) (fun _ _ h => h)
    exact ((((Below.refl _ _).alloc (Nat.le_refl _) _).alloc (by simp) _).alloc (by simp; omega) _).alloc (by simp; omega) _

set_option maxHeartbeats 1000000 in
theorem rawIs_none (w : World) (u : Value) (hu : WantV w none u) :
    Calls Tryd.prog 7 #[.nilIface, u] w fun e w' => e = .returned (.bool true) ∧ Below w.heap.size w w' := by
  obtain rfl := hu
  go_enter Tryd.func7, Tryd.ntmps7
  go_wp2_with fail
  go_ret
  exact ⟨rfl, (Below.refl _ _).alloc (Nat.le_refl _) _⟩

set_option maxRecDepth 100000 in
set_option maxHeartbeats 600000 in
theorem rawIs_some (w : World) (E : Nat → Addr) (hE : Errs w E) (hT : ErrT w) (n : Nat) (l : List (ByteArray × Int)) (h1 : 1 ≤ n) (h2 : n ≤ 11) (v u : Value) (hv : ErrIs w E n l v) (hu : WantV w (some (n, l)) u) :
    Calls Tryd.prog 7 #[v, u] w fun e w' => e = .returned (.bool true) ∧ Below w.heap.size w w' := by
  obtain ⟨A1, c1, A2, c2, rfl, p1, p2, p3, p4, s1, s2⟩ := hu
  obtain ⟨u1, q1, rfl⟩ := hv.iface
  simp only at p1 p3 s1 s2 ⊢
  have hn0 : ((n : Int) == 0) = false := by rw [beq_eq_false_iff_ne]; omega
  obtain ⟨L, hL⟩ : ∃ L, l.length = L := ⟨_, rfl⟩
  rw [hL] at p1 p3 s1 s2 ⊢
  have HL := Lib.hid hL
  have HV := Lib.hid hv
  have HE := Lib.hid hE
  have HT := Lib.hid hT
  clear hv hE hL hT
  have hb0 : Below w.heap.size w (w.alloc (.cells #[.int .i64 (n : Int), .slice A1 L c1, .slice A2 L c2] 33)) := (Below.refl _ _).alloc (Nat.le_refl _) _
  have hbox0 := heap_new w (.cells #[.int .i64 (n : Int), .slice A1 L c1, .slice A2 L c2] 33)
  have HB0 := Lib.hid hb0
  have HBX := Lib.hid hbox0
  clear hb0 hbox0
  go_enter Tryd.func7, Tryd.ntmps7
  go_wp2_with fail
  refine (rawRoot_c _ E (HE.out.below HB0.out) n h1 h2).mono ?_
  rintro e w' ⟨rfl, rfl⟩
  go_wp2_with fail
  refine (errorsIs_c _ E n l _ (HV.out.below HB0.out)).mono ?_
  rintro e w' ⟨rfl, rfl⟩
  go_wp2_with fail
  go_loopw [0, 5] (fun v i wr => ∃ (k : Nat) (u2 : TypeId) (q2 : Value), k ≤ L ∧ i = .int .i64 (k : Int) ∧ v = .iface u2 q2 ∧ Hid (ErrIs wr E n (l.drop k) (.iface u2 q2)) ∧ Hid (wr.heap[w.heap.size]? = some (.cells #[.int .i64 (n : Int), .slice A1 L c1, .slice A2 L c2] 33 (0, 0))) ∧ w.heap.size < wr.heap.size ∧ Below w.heap.size w wr) (fun _ i _ => L - (intOf i).toNat)
  case atStart => exact ⟨0, u1, q1, Nat.zero_le _, rfl, rfl, Lib.hid (by simpa using HV.out.below HB0.out), HBX, by simp, HB0.out⟩
  case round =>
    obtain ⟨k, u2, q2, hk, rfl, rfl, hv, hbox, hsz, hb⟩ := hrel
    obtain ⟨b0, b1, b2, _⟩ := blk_cells hbox.out
    by_cases hlt : k < L
    · obtain ⟨⟨op, at'⟩, hlk⟩ : ∃ x, l[k]? = some x := ⟨_, List.getElem?_eq_getElem (by rw [HL.out]; exact hlt)⟩
      have hdrop : l.drop k = (op, at') :: l.drop (k + 1) := by
        obtain ⟨hh, he⟩ := List.getElem?_eq_some_iff.1 hlk
        rw [List.drop_eq_getElem_cons hh, he]
      have hv2 := hv.out
      rw [hdrop] at hv2
      obtain ⟨b, v', hv3, hblk, hrest⟩ := hv2
      obtain ⟨rfl, rfl⟩ : u2 = 59 ∧ q2 = .pointer (some ⟨b, 0, none⟩) := by simpa [errV] using hv3
      obtain ⟨u3, q3, rfl⟩ := hrest.iface
      obtain ⟨ad1, x1, rfl, hx1, hc1⟩ := (s1.below hb).at_ hlt
      obtain ⟨ad2, x2, rfl, hx2, hc2⟩ := (s2.below hb).at_ hlt
      rw [List.getElem?_map, hlk] at hx1 hx2
      obtain rfl := Option.some.inj hx1
      obtain rfl := Option.some.inj hx2
      simp only at hc1 hc2
      obtain ⟨f0, f1, f2, _⟩ := blk_cells hblk
      have hwf : Below wr.heap.size wr (wr.alloc (.cells #[.pointer none] 59)) := (Below.refl _ _).alloc (Nat.le_refl _) _
      have has : ∀ wz, Below (wr.heap.size + 1) (wr.alloc (.cells #[.pointer none] 59)) wz → Calls Tryd.prog 17 #[errV b, .iface 61 (.pointer (some ⟨wr.heap.size, 0, none⟩))] wz fun ev w2 => ev = .returned (.bool true) ∧ w2.cell? ⟨wr.heap.size, 0, none⟩ = some (.pointer (some ⟨b, 0, none⟩)) ∧
          w2.cell? ⟨b, 0, none⟩ = some (.string op) ∧ w2.cell? ⟨b, 1, none⟩ = some (.int .i64 at') ∧ w2.cell? ⟨b, 2, none⟩ = some (.iface u3 q3) ∧ w2.cell? ⟨w.heap.size, 1, none⟩ = some (.slice (some ad1) L c1) ∧ w2.cell? ⟨w.heap.size, 2, none⟩ = some (.slice (some ad2) L c2) ∧
          w2.cell? (ad1.add k) = some (.string op) ∧ w2.cell? (ad2.add k) = some (.int .i64 at') ∧ Below wr.heap.size wr w2 := fun wz hz => (as_b wz ⟨wr.heap.size, 0, none⟩ b (.pointer none) ((HT.out.below hb).below (hwf.trans (hz.mono (by omega)))) (by rw [hz.cell (by simp)]; simp) (by rw [hz.frozen (by simp)]; exact frozen_of_row _ _ 0 _ _ (heap_new _ _))).mono fun ev w2 ⟨he, hc, hk⟩ => by
        have hB : Below wr.heap.size wr w2 := (hwf.trans (hz.mono (by omega))).trans (hk.below (by have := hwf.size; have := hz.size; omega) (fun k hk => by simp at hk; omega))
        exact ⟨he, hc, cell_later hB f0, cell_later hB f1, cell_later hB f2, cell_later hB b1, cell_later hB b2, cell_later hB hc1, cell_later hB hc2, hB⟩
      have HAS := Lib.hid has
      have HR := Lib.hid hrest
      have hnop : (op.toList != op.toList) = false := by simp
      have hnat : (at' != at') = false := by simp
      clear has hlk hdrop hrest hwf hv hx1 hx2 hv3 hblk
      unfold errV at HAS
      go_wp2_with fail
      refine wp_region_any (by kernel_rfl) ?_
      change wpAny _ _ _ _ _ _ _ (World.drew _)
      refine wpAny_take (i := 0) (v := ?_) rfl (by kernel_rfl) (by kernel_rfl) (by kernel_rfl) (fun _ _ _ h => h) (Or.inl ⟨by rfl, ?_⟩) ?_
      rotate_left
      · intro w; go_simp; with_reducible rfl
      refine wpAny_take (i := 1) (v := ?_) rfl (by kernel_rfl) (by kernel_rfl) (by kernel_rfl) (fun _ _ _ h => h) (Or.inl ⟨by rfl, ?_⟩) ?_
      rotate_left
      · intro w; go_simp; with_reducible rfl
      refine wpAny_ready (rs := [2]) (by kernel_rfl) (by simp) ?_
      refine AllReady.cons rfl (fun K hK => ?_) AllReady.nil
      go_simp
      refine (HAS.out _ (Below.refl _ _).drew).mono ?_
      rintro e w2 ⟨rfl, hcf, z0, z1, z2, z3, z4, z5, z6, hB⟩
      go_simp
      refine hK _ _ ?_
      clear hK K
      refine wpAny_quiet_from _ 3 (by kernel_rfl) rfl rfl (by kernel_rfl) ?_
      repeat (first | go_big_quiet_step (fail) | quiet_step (fail))
      refine wpQuiet_nil ?_
      intro _ hw'
      obtain ⟨nq, hw''⟩ := hw'
      subst hw''
      have hB2 := below_drewN hB nq
      have hsz2 := hB.size
      have hv2 : Hid (ErrIs (w2.drewN nq) E n (l.drop (k + 1)) (.iface u3 q3)) := Lib.hid (HR.out.below hB2)
      have hbox2 : Hid ((w2.drewN nq).heap[w.heap.size]? = some (.cells #[.int .i64 (n : Int), .slice (some ad1) L c1, .slice (some ad2) L c2] 33 (0, 0))) := Lib.hid ((hB2.block _ hsz).trans hbox.out)
      have hb2 := hb.trans (hB2.mono hb.size)
      clear HAS HR hB hB2 hbox hb
      go_wp2_with fail
      go_roundw
      case rel => exact ⟨k + 1, u3, q3, by omega, by go_num, rfl, hv2, hbox2, by simp; omega, hb2⟩
      case measure => simp [intOf]; omega
    · obtain rfl : k = L := by omega
      have hv2 := hv.out
      rw [List.drop_of_length_le (by rw [HL.out]; exact Nat.le_refl _)] at hv2
      obtain ⟨rfl, rfl⟩ : u2 = 148 ∧ q2 = .pointer (some (E n)) := by simpa [ErrIs] using hv2
      have HEb := Lib.hid (HE.out.below hb)
      clear hv hv2
      obtain ⟨i, hi, hcmp⟩ := Option.map_eq_some_iff.1 is_comp
      obtain ⟨j, hj, hjs⟩ := Option.map_eq_some_iff.1 is_size
      have heq := run_eql_iface_ptr_same (P := Tryd.prog) wr (E n) Tryd.underlying26 Tryd.underlying148 hi hcmp hj
      go_wp2_with fail
      refine (rawRoot_c _ E HEb.out n h1 h2).mono ?_
      rintro e w' ⟨rfl, rfl⟩
      go_wp2_with fail
      go_ret
      exact ⟨rfl, hb⟩

/-- edenraw.Is of the error that is asked for. -/
theorem rawIs_c (w : World) (E : Nat → Addr) (hE : Errs w E) (hT : ErrT w) (t : Option Tale) (ht : TaleOk t) (v u : Value) (hv : ErrV w E t v) (hu : WantV w t u) :
    Calls Tryd.prog 7 #[v, u] w fun e w' => e = .returned (.bool true) ∧ Below w.heap.size w w' := by
  cases t with
  | none => obtain rfl : v = .nilIface := hv; exact rawIs_none w u hu
  | some t => exact rawIs_some w E hE hT t.1 t.2 (ht t rfl).1 (ht t rfl).2 v u hv hu

/-- edenraw.New: what an error must be that one package tells. -/
theorem rawNew_x (w : World) (op : ByteArray) (at' : Int) (n : Nat) :
    Calls Tryd.prog 14 #[.string op, .int .i64 at', .int .i64 (n : Int)] w fun e w' => e = .returned (.agg #[.int .i64 (n : Int), .slice (some ⟨w.heap.size + 1, 0, none⟩) 1 1, .slice (some ⟨w.heap.size + 1 + 1, 0, none⟩) 1 1]) ∧
      Sl w' (some ⟨w.heap.size + 1, 0, none⟩) 1 [.string op] ∧ Sl w' (some ⟨w.heap.size + 1 + 1, 0, none⟩) 1 [.int .i64 at'] ∧ Below w.heap.size w w' := by
  go_enter Tryd.func14, Tryd.ntmps14
  go_wp2_with fail
  have hl1 : Sl (((w.alloc (.cells #[.int .i64 (n : Int), .slice (some ⟨w.heap.size + 1, 0, none⟩) 1 1, .slice (some ⟨w.heap.size + 1 + 1, 0, none⟩) 1 1] 33)).alloc (.cells #[.string op] 9)).alloc (.cells #[.int .i64 at'] 3)) (some ⟨w.heap.size + 1, 0, none⟩) 1 [.string op] :=
    Sl.alloc ⟨rfl, fun k v hv => ⟨_, rfl, by rcases k with _ | k; simp at hv; subst hv; simp [Addr.add, World.cell?_alloc_at]; simp at hv⟩⟩ _
  have hl2 : Sl (((w.alloc (.cells #[.int .i64 (n : Int), .slice (some ⟨w.heap.size + 1, 0, none⟩) 1 1, .slice (some ⟨w.heap.size + 1 + 1, 0, none⟩) 1 1] 33)).alloc (.cells #[.string op] 9)).alloc (.cells #[.int .i64 at'] 3)) (some ⟨w.heap.size + 1 + 1, 0, none⟩) 1 [.int .i64 at'] :=
    ⟨rfl, fun k v hv => ⟨_, rfl, by rcases k with _ | k; simp at hv; subst hv; simp [Addr.add, World.cell?_alloc_at]; simp at hv⟩⟩
  exact bodyPost_ret (v := .agg #[.int .i64 (n : Int), .slice (some ⟨w.heap.size + 1, 0, none⟩) 1 1, .slice (some ⟨w.heap.size + 1 + 1, 0, none⟩) 1 1]) (by simp [results, Tryd.results14, go_sem]) rfl
    ⟨rfl, hl1, hl2, (((Below.refl _ _).alloc (Nat.le_refl _) _).alloc (by simp) _).alloc (by simp; omega) _⟩
theorem want_of {w : World} {n : Nat} {op : ByteArray} {i : Int} {A B : Option Addr} (h1 : Sl w A 1 [.string op]) (h2 : Sl w B 1 [.int .i64 i]) : WantV w (some (n, [(op, i)])) (.agg #[.int .i64 (n : Int), .slice A 1 1, .slice B 1 1]) :=
  ⟨_, _, _, _, rfl, Nat.le_refl _, by decide, Nat.le_refl _, by decide, h1, h2⟩
end Go.Proofs.YtiobnnhjnkcafaaDoor
