/- The first place of a list that holds no symbol: rule.odd, word.Check's and overlap.check's search, slices.IndexFunc. Condition: the list reads from memory. errors.As at an *api.Fault: nil, and the hit. After the kit's worked proof of errors.As at a concrete target. Condition: the variable that As reads, the target's cell. errors.Is over Faults, one within another, around an error variable's error: true. After the kit's worked proofs of errors.Is. Condition: the blocks hold them. edenraw.Root, edenraw.Is, edenraw.New: what is asked of an error, and that the error is just that one. Condition: the error variables hold what E says; the variable that errors.As reads. What is a rule: rule.wrong, Size, Check, Small. Condition: the table reads from memory; the error variables hold what E says. What is a rule: rule.Check, rule.Small. Condition: the table reads from memory; the error variables hold what E says. Errors told further: fault.Under, edenraw.Under, Err.Bad. Condition: the error reads from memory. What is asked of an error, kept beside other writes: edenraw.New, Err.Bad. Condition: the value reads from memory. -/
import Derived.Lib.Hide
import Derived.LaidEql
import Derived.Stop.Asserts
import Derived.RowKitTokens
import Derived.Deep.RegionWith
import Derived.Deep.RegionHeld3
import Derived.OpenShut
import Derived.Test.YtibplgpolmplpaaGreatDoorX1
namespace Go.Proofs.YtibplgpolmplpaaGreatDoor
open Go.RowKit RuleP

theorem run_enter {P : Program} {f : FuncId} {fn : Func} (hf : P.funcs[f]? = some fn) (hname : (fn.name == "runtime.NumGoroutine") = false) (hb : fn.body.isSome = true) (args : Array Value) (w : World) :
    (callFunc f args).run P w = .ok (.enter f args) w := by
  have h1 : fn.name ≠ "runtime.NumGoroutine" := by simpa using hname
  obtain ⟨c, hc⟩ := Option.isSome_iff_exists.1 hb
  simp [callFunc, hf, h1, hc]

/-- The place, or -1. -/
def place : Option Nat → Int
  | some i => (i : Int)
  | none => -1

set_option maxRecDepth 100000 in
set_option maxHeartbeats 400000 in
/-- slices.IndexFunc by a closure of one captured value, whose body is a test of the element. -/
theorem indexFunc_c (w : World) (F : FuncId) (b : Addr) (p : Int → Bool) (A : Option Addr) (n c : Nat) (xs : List Int) (h : Sl w A n (xs.map (Value.int .i64))) (hm : n ≤ 9223372036854775807)
    (he : ∀ (x : Int) (wz : World), (callFunc F #[.int .i64 x, .pointer (some b)]).run Tryz.prog wz = .ok (.enter F #[.int .i64 x, .pointer (some b)]) wz)
    (hf : ∀ (x : Int), Calls Tryz.prog F #[.int .i64 x, .pointer (some b)] w fun e w' => e = .returned (.bool (p x)) ∧ w = w') :
    Calls Tryz.prog 87 #[.slice A n c, .func (.func F) #[] #[.pointer (some b)]] w fun e w' => e = .returned (.int .i64 (place (xs.findIdx? p))) ∧ w = w' := by
  have hl : xs.length = n := by simpa using h.1
  have HL := Lib.hid hl
  have HF := Lib.hid hf
  have HE := Lib.hid he
  clear hl hf he
  go_enter Tryz.func87, Tryz.ntmps87
  go_wp2_with fail
  go_loop [8] (fun i => ∃ k : Nat, k ≤ n ∧ i = .int .i64 (k : Int) ∧ Hid (∀ (j : Nat) (x : Int), j < k → xs[j]? = some x → p x = false)) (fun i => n - (intOf i).toNat)
  case atStart => exact ⟨0, Nat.zero_le _, rfl, Lib.hid (fun j x hj => by omega)⟩
  case round =>
    obtain ⟨k, hk, rfl, hs⟩ := hrel
    by_cases hlt : k < n
    · obtain ⟨ad, x, rfl, hxk, hcx⟩ := h.int_ hlt
      have hx := HE.out x
      cases hpx : p x with
      | false =>
        have hc := HF.out x
        rw [hpx] at hc
        have HC := Lib.hid hc
        have hs2 : Hid (∀ (j : Nat) (y : Int), j < k + 1 → xs[j]? = some y → p y = false) := Lib.hid (fun j y hj hy => by
          rcases Nat.lt_or_ge j k with h1 | h1
          · exact hs.out j y h1 hy
          · obtain rfl : j = k := by omega
            rw [hxk] at hy
            cases hy; exact hpx)
        clear hc hpx hxk hs
        go_wp2_with fail
        refine (HC.out).mono ?_
        rintro e w' ⟨rfl, rfl⟩
        go_wp2_with fail
        exact ⟨⟨k + 1, by omega, by go_num, hs2⟩, by simp [intOf]; omega⟩
      | true =>
        have hc := HF.out x
        rw [hpx] at hc
        have HC := Lib.hid hc
        have hp : Hid (place (xs.findIdx? p) = (k : Int)) := Lib.hid (by
          rw [List.findIdx?_eq_some_iff_getElem.2 ⟨by rw [HL.out]; exact hlt, by rw [(List.getElem?_eq_some_iff.1 hxk).2]; exact hpx, fun j hj => by
            have := hs.out j _ hj (List.getElem?_eq_getElem (by have := HL.out; omega))
            simp [this]⟩]
          rfl)
        clear hc hpx hxk hs
        go_wp2_with fail
        refine (HC.out).mono ?_
        rintro e w' ⟨rfl, rfl⟩
        go_wp2_with fail
        go_ret
        exact ⟨by rw [hp.out]; rfl, rfl⟩
    · obtain rfl : k = n := by omega
      have hp : Hid (place (xs.findIdx? p) = -1) := Lib.hid (by
        rw [List.findIdx?_eq_none_iff.2 fun x hx => by
          obtain ⟨j, hj⟩ := List.getElem?_of_mem hx
          exact hs.out j x (by rw [← HL.out]; exact (List.getElem?_eq_some_iff.1 hj).1) hj]
        rfl)
      clear hs
      go_wp2_with fail
      go_ret
      exact ⟨by rw [hp.out]; rfl, rfl⟩

set_option maxHeartbeats 400000 in
theorem ruleOddF_c (w : World) (x k : Int) (b : Addr) (hb : w.cell? b = some (.int .i64 k)) :
    Calls Tryz.prog 122 #[.int .i64 x, .pointer (some b)] w fun e w' => e = .returned (.bool (decide (x < 0 ∨ k ≤ x))) ∧ w = w' := by
  by_cases h : x < 0
  · have h1 : decide (x < 0) = true := decide_eq_true h
    have hd : Hid (decide (x < 0 ∨ k ≤ x) = true) := Lib.hid (decide_eq_true (.inl h))
    go_enter Tryz.func122, Tryz.ntmps122
    go_wp2_with fail
    go_ret
    exact ⟨by first | rfl | (rw [hd.out]; rfl), rfl⟩
  · have h1 : decide (x < 0) = false := decide_eq_false h
    have hd : Hid (decide (x < 0 ∨ k ≤ x) = decide (k ≤ x)) := Lib.hid (by simp [h])
    go_enter Tryz.func122, Tryz.ntmps122
    go_wp2_with fail
    go_ret
    exact ⟨by first | rfl | (rw [hd.out]; rfl), rfl⟩

theorem ruleOdd_c (w : World) (k : Int) (A : Option Addr) (n c : Nat) (xs : List Int) (h : Sl w A n (xs.map (Value.int .i64))) (hm : n ≤ 9223372036854775807) :
    Calls Tryz.prog 86 #[.int .i64 k, .slice A n c] w fun e w' => e = .returned (.int .i64 (place (odd k xs))) ∧ Below w.heap.size w w' := by
  have hi := indexFunc_c (w.alloc (.cells #[.int .i64 k] 3)) 122 ⟨w.heap.size, 0, none⟩ (fun x => decide (x < 0 ∨ k ≤ x)) A n c xs (h.alloc _) hm
    (fun x wz => run_enter Tryz.func122 (by kernel_rfl) (by kernel_rfl) _ _) (fun x => ruleOddF_c _ x k _ (by simp))
  change Calls _ _ _ _ (fun e w' => e = .returned (.int .i64 (place (odd k xs))) ∧ _ = w') at hi
  have HI := Lib.hid hi
  clear hi
  go_enter Tryz.func86, Tryz.ntmps86
  go_wp2_with fail
  refine (HI.out).mono ?_
  rintro e w' ⟨rfl, rfl⟩
  go_wp2_with fail
  go_ret
  exact ⟨rfl, (Below.refl _ _).alloc (Nat.le_refl _) _⟩
end Go.Proofs.YtibplgpolmplpaaGreatDoor

namespace Go.Proofs.YtibplgpolmplpaaGreatDoor
open Go.RowKit Go.Extern.Stop Go.Stop Go.Extern

/-- errors.As(nil, target). -/
theorem as_nil (t : Value) (w : World) :
    Calls Tryz.prog 32 #[.nilIface, t] w fun e w' => e = .returned (.bool false) ∧ w' = w := by
  go_enter Tryz.func32, Tryz.ntmps32
  go_wp2
  go_ret
  exact ⟨rfl, rfl⟩

/-! ### CLOSED FACTS ON THE MODEL's ENTRIES FOR internal/reflectlite, at this program's types: 25: *p.E · 27: **p.E · 23: error · 45: reflectlite's rtype · 1: how many package-level variables the dump has -/
theorem As.valueOf27 (t : Addr) (w : World) : (ReflectliteValue.unpack (.iface 132 (.pointer (some t)))).run Tryz.prog w
    = .ok (.agg #[.pointer (some ⟨13, 132, none⟩), .pointer (some ⟨w.heap.size, 0, none⟩), .int .u64 150]) (w.alloc (.cells #[.pointer (some t)] 132)) := by kernel_rfl
theorem As.type27 (a : Addr) (w : World) : (ReflectliteValue.methodAny (ReflectliteValue.valueError "reflectlite.Value.Type" 0) (fun t _ _ _ => ReflectliteType.toType t) #[.agg #[.pointer (some ⟨13, 132, none⟩), .pointer (some a), .int .u64 150]]).run Tryz.prog w
    = .ok (.iface 138 (.agg #[.pointer (some ⟨13, 132, none⟩)])) w := by kernel_rfl
theorem As.methodKind (h : Value) (w : World) : (Go.method 351 138 (.agg #[h]) "Kind").run Tryz.prog w = .ok (170, h) w := by kernel_rfl
theorem As.kind27 (w : World) : ((ReflectliteType.abiMethod fun t => (fun a : Nat => Value.int IntKind.u8 (a : Int)) <$> Rtype.kind t) #[.pointer (some ⟨13, 132, none⟩)]).run Tryz.prog w = .ok (.int .u8 22) w := by kernel_rfl
theorem As.kind25 (w : World) : ((ReflectliteType.abiMethod fun t => (fun a : Nat => Value.int IntKind.u8 (a : Int)) <$> Rtype.kind t) #[.pointer (some ⟨13, 131, none⟩)]).run Tryz.prog w = .ok (.int .u8 22) w := by kernel_rfl

/-! ### THE ENTRIES THAT READ OR WRITE MEMORY: laws with a premise on the cell (after Derived/Lib/ReflectliteSlice.lean's manner: each unfolding a lemma of its own, by rfl) -/
theorem rlm (z : Sem Value) (f : TypeId → Addr → Nat → Nat → Sem Value) (v : Value) :
    ReflectliteValue.method z f #[v] = (do match ← ReflectliteValue.parts v with | none => z | some (t, a, fl) => f t a fl (fl % 32)) := rfl
theorem As.parts27 (a : Addr) (w : World) : (ReflectliteValue.parts (.agg #[.pointer (some ⟨13, 132, none⟩), .pointer (some a), .int .u64 150])).run Tryz.prog w = .ok (some (132, a, 150)) w := by kernel_rfl
/-- (Value).IsNil at the Value of a **p.E that is not nil. -/
theorem As.isNil27 (a p : Addr) (W : World) (ha : W.cell? a = some (.pointer (some p))) :
    (ReflectliteValue.method (ReflectliteValue.valueError "reflectlite.Value.IsNil" 0) ReflectliteValue.isNil #[.agg #[.pointer (some ⟨13, 132, none⟩), .pointer (some a), .int .u64 150]]).run Tryz.prog W = .ok (.bool false) W := by
  rw [rlm]
  simp only [Sem.run_bind, As.parts27, Result.andThen]
  simp [ReflectliteValue.isNil, loadVar, isAgg, underlying, Tryz.underlying132, ha, Result.andThen]

theorem As.methodElem (h : Value) (w : World) : (Go.method 351 138 (.agg #[h]) "Elem").run Tryz.prog w = .ok (182, .agg #[h]) w := by kernel_rfl
theorem As.methodImplements (h : Value) (w : World) : (Go.method 351 138 (.agg #[h]) "Implements").run Tryz.prog w = .ok (183, .agg #[h]) w := by kernel_rfl
theorem As.methodAssignableTo (h : Value) (w : World) : (Go.method 351 138 (.agg #[h]) "AssignableTo").run Tryz.prog w = .ok (180, .agg #[h]) w := by kernel_rfl
theorem As.elem27 (w : World) : (ReflectliteType.method ReflectliteType.elem #[.agg #[.pointer (some ⟨13, 132, none⟩)]]).run Tryz.prog w = .ok (.iface 138 (.agg #[.pointer (some ⟨13, 131, none⟩)])) w := by kernel_rfl
theorem As.implements25 (w : World) : (ReflectliteType.relation "Implements" ReflectliteType.implements_ #[.agg #[.pointer (some ⟨13, 131, none⟩)], .iface 138 (.agg #[.pointer (some ⟨13, 27, none⟩)])]).run Tryz.prog w = .ok (.bool true) w := by kernel_rfl
theorem As.typeOf25 (v : Value) (w : World) : (ReflectliteType.typeOf #[.iface 131 v]).run Tryz.prog w = .ok (.iface 138 (.agg #[.pointer (some ⟨13, 131, none⟩)])) w := by kernel_rfl
theorem As.assignable25 (w : World) : (ReflectliteType.relation "AssignableTo" ReflectliteType.assignableTo #[.agg #[.pointer (some ⟨13, 131, none⟩)], .iface 138 (.agg #[.pointer (some ⟨13, 131, none⟩)])]).run Tryz.prog w = .ok (.bool true) w := by kernel_rfl
theorem As.valueOf25 (e : Addr) (w : World) : (ReflectliteValue.unpack (.iface 131 (.pointer (some e)))).run Tryz.prog w
    = .ok (.agg #[.pointer (some ⟨13, 131, none⟩), .pointer (some ⟨w.heap.size, 0, none⟩), .int .u64 150]) (w.alloc (.cells #[.pointer (some e)] 131)) := by kernel_rfl

theorem As.elemOf27 (w : World) : (Rtype.elem? 132).run Tryz.prog w = .ok (some 131) w := by kernel_rfl
theorem As.mk25 (p : Addr) (w : World) : (ReflectliteValue.mk 131 p ReflectliteValue.flagAddr).run Tryz.prog w = .ok (.agg #[.pointer (some ⟨13, 131, none⟩), .pointer (some p), .int .u64 406]) w := by kernel_rfl
/-- (Value).Elem at the Value of a **p.E that is not nil: the Value of the *p.E variable that it points to, addressable. -/
theorem As.elemV27 (a p : Addr) (W : World) (ha : W.cell? a = some (.pointer (some p))) :
    (ReflectliteValue.method (ReflectliteValue.valueError "reflectlite.Value.Elem" 0) ReflectliteValue.elem #[.agg #[.pointer (some ⟨13, 132, none⟩), .pointer (some a), .int .u64 150]]).run Tryz.prog W
      = .ok (.agg #[.pointer (some ⟨13, 131, none⟩), .pointer (some p), .int .u64 406]) W := by
  rw [rlm]
  simp only [Sem.run_bind, As.parts27, Result.andThen]
  simp [ReflectliteValue.elem, loadVar, isAgg, underlying, Tryz.underlying132, ha, Result.andThen, As.elemOf27, As.mk25]
theorem rls (v x : Value) : ReflectliteValue.set #[v, x] = (do
    let (some (dst, a, fl), some (src, b, _)) := (← ReflectliteValue.parts v, ← ReflectliteValue.parts x)
      | unsupported (.noEntry "extern/(internal/reflectlite.Value).Set.zeroValue")
    if fl / ReflectliteValue.flagAddr % 2 == 0 then unsupported (.noEntry "extern/(internal/reflectlite.Value).Set.unaddressable")
    let val ← loadVar src b
    if ← Rtype.directlyAssignable dst src then storeVar dst a val
    else if ← Rtype.implements dst src then
      if (← Rtype.kind src) == 20 then
        match val with
        | .nilIface => unsupported (.noEntry "extern/reflectlite: a nil value of one interface type handed on as a value of another")
        | _ => storeVar dst a val
      else storeVar dst a (.iface src val)
    else panicString ("reflectlite.Set: value of type " ++ (← Rtype.spelt src) ++ " is not assignable to type " ++ (← Rtype.spelt dst))
    pure (.tuple #[])) := rfl
theorem As.parts25a (a : Addr) (w : World) : (ReflectliteValue.parts (.agg #[.pointer (some ⟨13, 131, none⟩), .pointer (some a), .int .u64 406])).run Tryz.prog w = .ok (some (131, a, 406)) w := by kernel_rfl
theorem As.parts25 (a : Addr) (w : World) : (ReflectliteValue.parts (.agg #[.pointer (some ⟨13, 131, none⟩), .pointer (some a), .int .u64 150])).run Tryz.prog w = .ok (some (131, a, 150)) w := by kernel_rfl
theorem As.direct25 (w : World) : (Rtype.directlyAssignable 131 131).run Tryz.prog w = .ok true w := by kernel_rfl
/-- (Value).Set: the *p.E variable at 'ta' gets what the Value's own variable 'b' holds. -/
theorem As.set25 (ta b e : Addr) (old : Value) (W : World) (hb : W.cell? b = some (.pointer (some e))) (ht : W.cell? ta = some old) (hf : W.frozen? ta = false) :
    (ReflectliteValue.set #[.agg #[.pointer (some ⟨13, 131, none⟩), .pointer (some ta), .int .u64 406], .agg #[.pointer (some ⟨13, 131, none⟩), .pointer (some b), .int .u64 150]]).run Tryz.prog W
      = .ok (.tuple #[]) (W.setCell ta (.pointer (some e))) := by
  rw [rls]
  simp only [Sem.run_bind, As.parts25a, As.parts25, Result.andThen]
  simp [ReflectliteValue.flagAddr, loadVar, isAgg, underlying, Tryz.underlying131, hb, Result.andThen, As.direct25, storeVar, Value.cells, storeCells, Addr.add]
  rw [run_store Tryz.prog W ta _ _ (by rfl)]
  simp [ht, hf]

set_option maxHeartbeats 4000000 in
theorem as_hit (e t : Addr) (old : Value) (w : World) (hg : w.cell? ⟨1, 0, none⟩ = some (.iface 138 (.agg #[.pointer (some ⟨13, 27, none⟩)]))) (ht0 : w.cell? t = some old) (hf0 : w.frozen? t = false) :
    Calls Tryz.prog 32 #[.iface 131 (.pointer (some e)), .iface 132 (.pointer (some t))] w fun ev w' => ev = .returned (.bool true) ∧ w' = ((((w.alloc (.cells #[.pointer (some t)] 132)).alloc (.cells #[.pointer (some ⟨13, 132, none⟩), .pointer (some ⟨w.heap.size, 0, none⟩), .int .u64 150] 124)).alloc (.cells #[.pointer (some ⟨13, 132, none⟩), .pointer (some ⟨w.heap.size, 0, none⟩), .int .u64 150] 124)).alloc (.cells #[.pointer (some e)] 131)).setCell t (.pointer (some e)) := by
  have h6 := @run_callFunc_extern Tryz.prog 81 _ (fun args => ReflectliteValue.unpack (args.getD 0 (.tuple #[]))) Tryz.func81 (by kernel_rfl) (by kernel_rfl) (by kernel_rfl) (by kernel_rfl)
  have h7 := @run_callFunc_extern Tryz.prog 82 _ (ReflectliteValue.methodAny (ReflectliteValue.valueError "reflectlite.Value.Type" 0) (fun t _ _ _ => ReflectliteType.toType t)) Tryz.func82 (by kernel_rfl) (by kernel_rfl) (by kernel_rfl) (by kernel_rfl)
  have h8 := @run_callFunc_extern Tryz.prog 83 _ (ReflectliteValue.method (ReflectliteValue.valueError "reflectlite.Value.IsNil" 0) ReflectliteValue.isNil) Tryz.func83 (by kernel_rfl) (by kernel_rfl) (by kernel_rfl) (by kernel_rfl)
  have h27 := @run_callFunc_extern Tryz.prog 170 _ (ReflectliteType.abiMethod fun t => do pure (.int .u8 (← Rtype.kind t))) Tryz.func170 (by kernel_rfl) (by kernel_rfl) (by kernel_rfl) (by kernel_rfl)
  have h37 := @run_callFunc_extern Tryz.prog 182 _ (ReflectliteType.method ReflectliteType.elem) Tryz.func182 (by kernel_rfl) (by kernel_rfl) (by kernel_rfl) (by kernel_rfl)
  have h38 := @run_callFunc_extern Tryz.prog 183 _ (ReflectliteType.relation "Implements" ReflectliteType.implements_) Tryz.func183 (by kernel_rfl) (by kernel_rfl) (by kernel_rfl) (by kernel_rfl)
  have h10 := @run_callFunc_extern Tryz.prog 36 _ ReflectliteType.typeOf Tryz.func36 (by kernel_rfl) (by kernel_rfl) (by kernel_rfl) (by kernel_rfl)
  have h35 := @run_callFunc_extern Tryz.prog 180 _ (ReflectliteType.relation "AssignableTo" ReflectliteType.assignableTo) Tryz.func180 (by kernel_rfl) (by kernel_rfl) (by kernel_rfl) (by kernel_rfl)
  have h11 := @run_callFunc_extern Tryz.prog 119 _ (ReflectliteValue.method (ReflectliteValue.valueError "reflectlite.Value.Elem" 0) ReflectliteValue.elem) Tryz.func119 (by kernel_rfl) (by kernel_rfl) (by kernel_rfl) (by kernel_rfl)
  have h12 := @run_callFunc_extern Tryz.prog 120 _ ReflectliteValue.set Tryz.func120 (by kernel_rfl) (by kernel_rfl) (by kernel_rfl) (by kernel_rfl)
  have tO := As.typeOf25
  have mA := As.methodAssignableTo
  have a25 := As.assignable25
  have v25 := As.valueOf25
  have f6 := As.valueOf27
  have f7 := As.type27
  have mK := As.methodKind
  have mE := As.methodElem
  have mI := As.methodImplements
  have k27 := As.kind27
  have k25 := As.kind25
  have e27 := As.elem27
  have i25 := As.implements25
  have n8 := As.isNil27 ⟨w.heap.size, 0, none⟩ t ((w.alloc (.cells #[.pointer (some t)] 132)).alloc (.cells #[.pointer (some ⟨13, 132, none⟩), .pointer (some ⟨w.heap.size, 0, none⟩), .int .u64 150] 124)) (by simp)
  have hlt : 1 < w.heap.size := World.block_lt_of_cell? _ _ hg
  have hg2 : ((w.alloc (.cells #[.pointer (some t)] 132)).alloc (.cells #[.pointer (some ⟨13, 132, none⟩), .pointer (some ⟨w.heap.size, 0, none⟩), .int .u64 150] 124)).cell? ⟨1, 0, none⟩ = some (.iface 138 (.agg #[.pointer (some ⟨13, 27, none⟩)])) := by
    rw [World.cell?_alloc_lt _ _ ⟨1, 0, none⟩ (by simp <;> omega), World.cell?_alloc_lt _ _ ⟨1, 0, none⟩ hlt]; exact hg
  have htl : t.block < w.heap.size := by
    rcases Nat.lt_or_ge t.block w.heap.size with h | h
    · exact h
    · simp [World.cell?, Array.getElem?_eq_none h] at ht0
  have el := As.elemV27 ⟨w.heap.size, 0, none⟩ t (((w.alloc (.cells #[.pointer (some t)] 132)).alloc (.cells #[.pointer (some ⟨13, 132, none⟩), .pointer (some ⟨w.heap.size, 0, none⟩), .int .u64 150] 124)).alloc (.cells #[.pointer (some ⟨13, 132, none⟩), .pointer (some ⟨w.heap.size, 0, none⟩), .int .u64 150] 124)) (by rw [World.cell?_alloc_lt _ _ ⟨w.heap.size, 0, none⟩ (by simp; omega)]; simp)
  have st := As.set25 t ⟨w.heap.size + 1 + 1 + 1, 0, none⟩ e old ((((w.alloc (.cells #[.pointer (some t)] 132)).alloc (.cells #[.pointer (some ⟨13, 132, none⟩), .pointer (some ⟨w.heap.size, 0, none⟩), .int .u64 150] 124)).alloc (.cells #[.pointer (some ⟨13, 132, none⟩), .pointer (some ⟨w.heap.size, 0, none⟩), .int .u64 150] 124)).alloc (.cells #[.pointer (some e)] 131))
    (by rw [World.cell?_alloc_at _ _ _ _ (by simp)]; rfl)
    (by rw [World.cell?_alloc_lt _ _ t (by simp; omega), World.cell?_alloc_lt _ _ t (by simp; omega), World.cell?_alloc_lt _ _ t (by simp; omega), World.cell?_alloc_lt _ _ t htl]; exact ht0)
    (by rw [World.frozen?_alloc_old _ _ t (by simp; omega), World.frozen?_alloc_old _ _ t (by simp; omega), World.frozen?_alloc_old _ _ t (by simp; omega), World.frozen?_alloc_old _ _ t (Nat.ne_of_lt htl)]; exact hf0)
  go_enter Tryz.func32, Tryz.ntmps32
  go_wp2
  refine wp_loop_rounds 1 ?_
  rw [rounds_succ]
  go_wp2
  go_ret
  exact ⟨rfl, rfl⟩

end Go.Proofs.YtibplgpolmplpaaGreatDoor

namespace Go.Proofs.YtibplgpolmplpaaGreatDoor
open Go.RowKit Go.Extern.Stop Go.Stop Go.Extern

/-- The value is an error: Faults with these packages and places, one within another, and then the error of number n. -/
def ErrIs (w : World) (E : Nat → Addr) (n : Nat) : List (ByteArray × Int) → Value → Prop
  | [], v => v = .iface 219 (.pointer (some (E n)))
  | (op, i) :: r, v => ∃ b v', v = errV b ∧ w.heap[b]? = some (.cells #[.string op, .int .i64 i, v'] 134 (0, 0)) ∧ ErrIs w E n r v'
theorem ErrIs.below {w w' : World} {E : Nat → Addr} {n : Nat} (hb : Below w.heap.size w w') : ∀ {l : List (ByteArray × Int)} {v : Value}, ErrIs w E n l v → ErrIs w' E n l v
  | [], _, h => h
  | (_, _) :: _, _, ⟨b, v', h1, h2, h3⟩ => ⟨b, v', h1, (hb.block b (Array.getElem?_eq_some_iff.1 h2).1).trans h2, ErrIs.below hb h3⟩
theorem ErrIs.keep {w w' : World} {E : Nat → Addr} {n : Nat} {l : List (ByteArray × Int)} {v : Value} (h : ErrIs w E n l v) (hb : Below w.heap.size w w') : ErrIs w' E n l v := ErrIs.below hb h
theorem ErrIs.keeps' {w w' : World} {E : Nat → Addr} {n : Nat} {O : Nat → Prop} (hk : Keeps O w w') (ho : ∀ k cs, O k → w.heap[k]? ≠ some (.cells cs 134 (0, 0))) : ∀ {l : List (ByteArray × Int)} {v : Value}, ErrIs w E n l v → ErrIs w' E n l v
  | [], _, h => h
  | (_, _) :: _, _, ⟨b, v', h1, h2, h3⟩ => ⟨b, v', h1, (hk.block b (Array.getElem?_eq_some_iff.1 h2).1 (fun hO => ho b _ hO h2)).trans h2, ErrIs.keeps' hk ho h3⟩
theorem ErrIs.iface {w : World} {E : Nat → Addr} {n : Nat} {l : List (ByteArray × Int)} {v : Value} (h : ErrIs w E n l v) : ∃ u p, v = .iface u p := by
  cases l with
  | nil => exact ⟨_, _, h⟩
  | cons x l => obtain ⟨b, v', rfl, _⟩ := h; exact ⟨_, _, rfl⟩

theorem is_typeOf (v : Value) (w : World) : (Extern.ReflectliteType.typeOf #[.iface 219 v]).run Tryz.prog w = .ok (.iface 138 (.agg #[.pointer (some ⟨13, 219, none⟩)])) w := by kernel_rfl
theorem is_comparable (w : World) : ((Extern.ReflectliteType.method fun t => do Rtype.noPackHeld "Comparable" t; (fun a => Value.bool a.comparable) <$> typeInfo t) #[.agg #[.pointer (some ⟨13, 219, none⟩)]]).run Tryz.prog w = .ok (.bool true) w := by kernel_rfl
theorem is_comp : (Tryz.prog.info? 219).map (·.comparable) = some true := by kernel_rfl
theorem is_size : (Tryz.prog.info? 239).map (·.size) = some 1 := by kernel_rfl
theorem noIsE (v : Value) (xT : TypeId) (w : World) : (Instr.typeAssert (.iface 219 v) xT 140 true).run Tryz.prog w = .ok (.tuple #[.nilIface, .bool false]) w := run_typeAssert_lacksB Tryz.underlying140 (by kernel_rfl) (by kernel_rfl) v xT w
theorem noIsF (v : Value) (xT : TypeId) (w : World) : (Instr.typeAssert (.iface 131 v) xT 140 true).run Tryz.prog w = .ok (.tuple #[.nilIface, .bool false]) w := run_typeAssert_lacksB Tryz.underlying140 (by kernel_rfl) (by kernel_rfl) v xT w
theorem hasUnwrapF (v : Value) (xT : TypeId) (w : World) : (Instr.typeAssert (.iface 131 v) xT 143 true).run Tryz.prog w = .ok (.tuple #[.iface 131 v, .bool true]) w := run_typeAssert_hasB Tryz.underlying143 (by kernel_rfl) v xT w
theorem methodUnwrapF (v : Value) (w : World) : (Go.method 351 131 v "Unwrap").run Tryz.prog w = .ok (178, v) w := by kernel_rfl
theorem methodComparable (v : Value) (w : World) : (Go.method 351 138 v "Comparable").run Tryz.prog w = .ok (181, v) w := by kernel_rfl

theorem ErrIs.len {w : World} {E : Nat → Addr} {n : Nat} : ∀ {l l' : List (ByteArray × Int)} {v : Value}, ErrIs w E n l v → ErrIs w E n l' v → l.length = l'.length
  | [], [], _, _, _ => rfl
  | [], _ :: _, _, h, ⟨b, v', h', _⟩ => by
    rw [show _ = _ from h] at h'
    simp [errV] at h'
  | _ :: _, [], _, ⟨b, v', h', _⟩, h => by
    rw [show _ = _ from h] at h'
    simp [errV] at h'
  | (_, _) :: _, (_, _) :: _, _, ⟨b, v', h1, h2, h3⟩, ⟨b2, v2, h4, h5, h6⟩ => by
    rw [h1] at h4
    have hb : b = b2 := by simpa [errV] using h4
    subst hb
    rw [h2] at h5
    have hv : v' = v2 := by
      injection h5 with h5
      injection h5 with h5
      simp at h5
      exact h5.2.2
    subst hv
    simp [ErrIs.len h3 h6]
open Classical in
noncomputable def errLen (w : World) (E : Nat → Addr) (n : Nat) (v : Value) : Nat := if h : ∃ l, ErrIs w E n l v then h.choose.length else 0
theorem errLen_eq {w : World} {E : Nat → Addr} {n : Nat} {l : List (ByteArray × Int)} {v : Value} (h : ErrIs w E n l v) : errLen w E n v = l.length := by
  unfold errLen
  have hx : ∃ l, ErrIs w E n l v := ⟨l, h⟩
  rw [dif_pos hx]
  exact ErrIs.len hx.choose_spec h

set_option maxRecDepth 1000000 in
theorem is_chain (w : World) (E : Nat → Addr) (n : Nat) (l : List (ByteArray × Int)) (v : Value) (h : ErrIs w E n l v) :
    Calls Tryz.prog 37 #[v, .iface 219 (.pointer (some (E n))), .bool true] w fun e w' => e = .returned (.bool true) ∧ w = w' := by
  obtain ⟨i, hi, hcmp⟩ := Option.map_eq_some_iff.1 is_comp
  obtain ⟨j, hj, hjs⟩ := Option.map_eq_some_iff.1 is_size
  have nE := noIsE
  have nF := noIsF
  have uF := hasUnwrapF
  have mU := methodUnwrapF
  go_enter Tryz.func37, Tryz.ntmps37
  go_wp2
  go_loopw [0] (fun v wl => wl = w ∧ ∃ l, ErrIs w E n l v) (fun v _ => errLen w E n v)
  case atStart => exact ⟨rfl, l, h⟩
  case round =>
    clear h
    obtain ⟨rfl, l, h⟩ := hrel
    cases l with
    | nil =>
      obtain rfl := h
      have heq := run_eql_iface_ptr_same (P := Tryz.prog) wr (E n) Tryz.underlying27 Tryz.underlying219 hi hcmp hj
      go_wp2
      go_ret
      exact ⟨rfl, rfl⟩
    | cons x l =>
      obtain ⟨op, at'⟩ := x
      have hlen0 := errLen_eq h
      obtain ⟨b, v', rfl, hb, h1⟩ := h
      have hlen := errLen_eq h1
      obtain ⟨u1, p1, rfl⟩ := h1.iface
      have hty := run_eql_iface_types (P := Tryz.prog) 131 219 (.pointer (some ⟨b, 0, none⟩)) (.pointer (some (E n))) Tryz.underlying27 (by decide) wr
      have hcell := (blk_cells hb).2.2.1
      have H1 := Lib.hid h1
      have HL := Lib.hid hlen
      have HL0 := Lib.hid hlen0
      clear h1 hb hlen hlen0
      unfold errV at *
      go_wp2
      exact ⟨⟨trivial, l, H1.out⟩, by show errLen wr E n (.iface u1 p1) < _; rw [HL.out, HL0.out]; simp⟩

set_option maxRecDepth 1000000 in
/-- errors.Is. -/
theorem errorsIs_c (w : World) (E : Nat → Addr) (n : Nat) (l : List (ByteArray × Int)) (v : Value) (h : ErrIs w E n l v) :
    Calls Tryz.prog 12 #[v, .iface 219 (.pointer (some (E n)))] w fun e w' => e = .returned (.bool true) ∧ w = w' := by
  obtain ⟨u1, p1, rfl⟩ := h.iface
  have tO := is_typeOf
  have mC := methodComparable
  have iC := is_comparable
  have hT := @run_callFunc_extern Tryz.prog 36 _ ReflectliteType.typeOf Tryz.func36 (by kernel_rfl) (by kernel_rfl) (by kernel_rfl) (by kernel_rfl)
  have hC := @run_callFunc_extern Tryz.prog 181 _ (ReflectliteType.method fun t => do Rtype.noPackHeld "Comparable" t; pure (.bool (← typeInfo t).comparable)) Tryz.func181 (by kernel_rfl) (by kernel_rfl) (by kernel_rfl) (by kernel_rfl)
  have H := Lib.hid h
  clear h
  go_enter Tryz.func12, Tryz.ntmps12
  go_wp2_with (go_at_call 37; refine (is_chain w E n l _ H.out).mono ?_; rintro e w' ⟨rfl, rfl⟩)
  go_ret
  exact ⟨rfl, rfl⟩
end Go.Proofs.YtibplgpolmplpaaGreatDoor

namespace Go.Proofs.YtibplgpolmplpaaGreatDoor
open Go.RowKit

/-- What errors.As reads of the package's own variable. -/
def ErrT (w : World) : Prop := w.cell? ⟨1, 0, none⟩ = some (.iface 138 (.agg #[.pointer (some ⟨13, 27, none⟩)]))
theorem ErrT.below {w w' : World} (h : ErrT w) (hb : Below w.heap.size w w') : ErrT w' := cell_later hb h

/-- The value is no error, or the error of the tale. -/
def ErrV (w : World) (E : Nat → Addr) : Option Tale → Value → Prop
  | none, v => v = .nilIface
  | some t, v => ErrIs w E t.1 t.2 v
/-- The value asks for no error, or for the error of the tale. -/
def WantV (w : World) : Option Tale → Value → Prop
  | none, u => u = .agg #[.int .i64 0, .slice none 0 0, .slice none 0 0]
  | some t, u => ∃ A1 c1 A2 c2, u = .agg #[.int .i64 (t.1 : Int), .slice A1 t.2.length c1, .slice A2 t.2.length c2] ∧ t.2.length ≤ c1 ∧ c1 ≤ 9223372036854775807 ∧ t.2.length ≤ c2 ∧ c2 ≤ 9223372036854775807 ∧ Sl w A1 t.2.length (t.2.map fun x => .string x.1) ∧ Sl w A2 t.2.length (t.2.map fun x => .int .i64 x.2)
theorem ErrV.below {w w' : World} {E : Nat → Addr} {t : Option Tale} {v : Value} (h : ErrV w E t v) (hb : Below w.heap.size w w') : ErrV w' E t v := by
  cases t with
  | none => exact h
  | some t => exact ErrIs.below hb h
theorem WantV.below {w w' : World} {t : Option Tale} {v : Value} (h : WantV w t v) (hb : Below w.heap.size w w') : WantV w' t v := by
  cases t with
  | none => exact h
  | some t =>
    obtain ⟨A1, c1, A2, c2, h1, p1, p2, p3, p4, h2, h3⟩ := h
    exact ⟨A1, c1, A2, c2, h1, p1, p2, p3, p4, h2.below hb, h3.below hb⟩

end Go.Proofs.YtibplgpolmplpaaGreatDoor

namespace Go.Proofs.YtibplgpolmplpaaGreatDoor
open Go.RowKit RuleP

theorem ruleWrong_c (w : World) (E : Nat → Addr) (hE : Errs w E) (at' : Int) (n : Nat) (h1 : 1 ≤ n) (h2 : n ≤ 11) :
    Calls Tryz.prog 35 #[.int .i64 at', .int .i64 (n : Int)] w fun e w' => e = .returned (errV w.heap.size) ∧ ErrIs w' E n [(sRule, at')] (errV w.heap.size) ∧ Below w.heap.size w w' := by
  have HE := Lib.hid hE
  clear hE
  go_enter Tryz.func35, Tryz.ntmps35
  go_wp2_with fail
  refine (new_c w E HE.out sRule at' n h1 h2).mono ?_
  rintro e w' ⟨rfl, rfl⟩
  go_wp2_with fail
  go_ret
  exact ⟨rfl, ⟨w.heap.size, _, rfl, heap_new _ _, rfl⟩, (Below.refl _ _).alloc (Nat.le_refl _) _⟩

def size (k r : Int) : Except Tale Int := if k < 1 ∨ 4 < k ∨ r < 0 ∨ 3 < r then .error (3, [(sRule, 0)]) else .ok ((k.toNat ^ (2 * r.toNat + 1) : Nat) : Int)

set_option maxRecDepth 100000 in
set_option maxHeartbeats 1000000 in
theorem size_err (w : World) (E : Nat → Addr) (hE : Errs w E) (k r : Int) (h : k < 1 ∨ 4 < k ∨ r < 0 ∨ 3 < r) :
    Calls Tryz.prog 46 #[.int .i64 k, .int .i64 r] w fun e w' => ∃ b, e = .returned (.tuple #[.int .i64 0, errV b]) ∧ ErrIs w' E 3 [(sRule, 0)] (errV b) ∧ Below w.heap.size w w' := by
  have HE := Lib.hid hE
  clear hE
  have hc : k < 1 ∨ (1 ≤ k ∧ 4 < k) ∨ (1 ≤ k ∧ k ≤ 4 ∧ r < 0) ∨ (1 ≤ k ∧ k ≤ 4 ∧ 0 ≤ r ∧ 3 < r) := by omega
  clear h
  rcases hc with h | ⟨h, h'⟩ | ⟨h, h', h''⟩ | ⟨h, h', h'', h'''⟩
  all_goals
    go_enter Tryz.func46, Tryz.ntmps46
    go_wp2_with fail
    refine (ruleWrong_c w E HE.out 0 3 (by decide) (by decide)).mono ?_
    rintro e w' ⟨rfl, he, hb⟩
    go_wp2_with fail
    go_ret2
    exact ⟨_, rfl, he, hb⟩
set_option maxRecDepth 100000 in
set_option maxHeartbeats 1000000 in
theorem size_ok (w : World) (k r : Nat) (h1 : 1 ≤ k) (h2 : k ≤ 4) (h3 : r ≤ 3) :
    Calls Tryz.prog 46 #[.int .i64 (k : Int), .int .i64 (r : Int)] w fun e w' => e = .returned (.tuple #[.int .i64 ((k ^ (2 * r + 1) : Nat) : Int), .nilIface]) ∧ w = w' := by
  go_enter Tryz.func46, Tryz.ntmps46
  go_wp2_with fail
  go_loop [6, 25] (fun n i => ∃ j : Nat, j ≤ 2 * r ∧ i = .int .i64 (j : Int) ∧ n = .int .i64 ((k ^ (j + 1) : Nat) : Int)) (fun _ i => 2 * r - (intOf i).toNat)
  case atStart => exact ⟨0, by omega, rfl, by simp⟩
  case round =>
    obtain ⟨j, hj, rfl, rfl⟩ := hrel
    by_cases hlt : j < 2 * r
    · have hp : ((k ^ (j + 1) : Nat) : Int) * (k : Int) = ((k ^ (j + 1 + 1) : Nat) : Int) := by rw [Nat.pow_succ k (j + 1)]; simp
      have hle : k ^ (j + 1 + 1) ≤ 65536 := Nat.le_trans (Nat.pow_le_pow_right h1 (show j + 1 + 1 ≤ 8 by omega)) (Nat.le_trans (Nat.pow_le_pow_left h2 8) (by decide))
      generalize k ^ (j + 1) = P at hp ⊢
      obtain ⟨Q, hQ⟩ : ∃ Q, k ^ (j + 1 + 1) = Q := ⟨_, rfl⟩
      rw [hQ] at hp hle
      have HQ := Lib.hid hQ
      clear hQ
      go_wp2_with fail
      exact ⟨⟨j + 1, by omega, by go_num, by rw [HQ.out]⟩, by simp [intOf]; omega⟩
    · obtain rfl : j = 2 * r := by omega
      go_wp2_with fail
      go_ret2
      exact ⟨rfl, rfl⟩
end Go.Proofs.YtibplgpolmplpaaGreatDoor

namespace Go.Proofs.YtibplgpolmplpaaGreatDoor
open Go.RowKit RuleP

/-- A rule as a value. -/
def ruleV (K R : Int) (A : Option Addr) (n c : Nat) : Value := .agg #[.int .i64 K, .int .i64 R, .slice A n c]
theorem below_box {w w1 : World} {o : Obj} (h : Below (w.alloc o).heap.size (w.alloc o) w1) : Below w.heap.size w w1 := ((Below.refl _ _).alloc (Nat.le_refl _) o).trans (h.mono (by simp))
theorem box_cells {w w1 : World} {x0 x1 x2 : Value} {t : TypeId} (h : Below (w.alloc (.cells #[x0, x1, x2] t)).heap.size (w.alloc (.cells #[x0, x1, x2] t)) w1) :
    w1.cell? ⟨w.heap.size, 0, none⟩ = some x0 ∧ w1.cell? ⟨w.heap.size, 1, none⟩ = some x1 ∧ w1.cell? ⟨w.heap.size, 2, none⟩ = some x2 := by
  obtain ⟨a, b, c, _⟩ := blk_cells (heap_new w (.cells #[x0, x1, x2] t))
  exact ⟨cell_later h a, cell_later h b, cell_later h c⟩

theorem ErrV.some {w : World} {E : Nat → Addr} {n : Nat} {l : List (ByteArray × Int)} {v : Value} (h : ErrIs w E n l v) : ErrV w E (some (n, l)) v := h
set_option maxRecDepth 100000 in
set_option maxHeartbeats 2000000 in
theorem check_c (w : World) (E : Nat → Addr) (hE : Errs w E) (K R : Int) (A : Option Addr) (n c : Nat) (T : List Int) (hT : Sl w A n (T.map (Value.int .i64))) (hm : n ≤ 9223372036854775807) :
    Calls Tryz.prog 34 #[ruleV K R A n c] w fun e w' => ∃ v, e = .returned v ∧ ErrV w' E (check K R T) v ∧ Below w.heap.size w w' := by
  have hl : T.length = n := by simpa using hT.1
  have HL := Lib.hid hl
  clear hl
  have hE1 : Errs (w.alloc (.cells #[.int .i64 K, .int .i64 R, .slice A n c] 24)) E := hE.below ((Below.refl _ _).alloc (Nat.le_refl _) _)
  have HE := Lib.hid hE1
  have hT1 := hT.alloc (.cells #[.int .i64 K, .int .i64 R, .slice A n c] 24)
  have HT := Lib.hid hT1
  clear hE hE1 hT hT1
  unfold ruleV
  by_cases hk : K < 1 ∨ 4 < K
  · have hc : Hid (check K R T = some (1, [(sRule, 0)])) := Lib.hid (by unfold check; rw [if_pos hk])
    have hk' : K < 1 ∨ (1 ≤ K ∧ 4 < K) := by omega
    clear hk
    rcases hk' with hk | ⟨hk, hk'⟩
    all_goals
      go_enter Tryz.func34, Tryz.ntmps34
      go_wp2_with fail
      refine (ruleWrong_c _ E HE.out 0 1 (by decide) (by decide)).mono ?_
      rintro e w1 ⟨rfl, he, hb⟩
      have hP := ErrV.some he; rw [← hc.out] at hP; rw [World.size_alloc] at hP
      have HP := Lib.hid hP
      have HB := Lib.hid (below_box hb)
      clear he hb hP
      go_wp2_with fail
      go_ret
      exact ⟨_, rfl, HP.out, HB.out⟩
  by_cases hr : R < 0 ∨ 3 < R
  · have hc : Hid (check K R T = some (1, [(sRule, 1)])) := Lib.hid (by unfold check; rw [if_neg hk, if_pos hr])
    have hs : K < 1 ∨ 4 < K ∨ R < 0 ∨ 3 < R := by omega
    have hk1 : 1 ≤ K := by omega
    have hk4 : K ≤ 4 := by omega
    clear hk hr
    go_enter Tryz.func34, Tryz.ntmps34
    go_wp2_with fail
    refine (size_err _ E HE.out K R hs).mono ?_
    rintro e w1 ⟨b, rfl, _, hb⟩
    have HE1 := Lib.hid (HE.out.below hb)
    unfold errV
    go_wp2_with fail
    refine (ruleWrong_c _ E HE1.out 1 1 (by decide) (by decide)).mono ?_
    rintro e w2 ⟨rfl, he, hb2⟩
    have hP := ErrV.some he; rw [← hc.out] at hP
    have HP := Lib.hid hP
    have HB := Lib.hid ((below_box hb).trans (hb2.mono (below_box hb).size))
    clear he hb hb2 hP
    go_wp2_with fail
    go_ret
    exact ⟨_, rfl, HP.out, HB.out⟩
  obtain ⟨k, rfl⟩ : ∃ k : Nat, K = (k : Int) := ⟨K.toNat, by omega⟩
  obtain ⟨r, rfl⟩ : ∃ r : Nat, R = (r : Int) := ⟨R.toNat, by omega⟩
  have hk1 : 1 ≤ k := by omega
  have hk4 : k ≤ 4 := by omega
  have hr3 : r ≤ 3 := by omega
  have hsz := size_ok (w.alloc (.cells #[.int .i64 (k : Int), .int .i64 (r : Int), .slice A n c] 24)) k r hk1 hk4 hr3
  have HSZ := Lib.hid hsz
  by_cases hn : T.length ≠ k ^ (2 * r + 1)
  · have hc : Hid (check (k : Int) (r : Int) T = some (1, [(sRule, 2)])) := Lib.hid (by unfold check; rw [if_neg hk, if_neg hr, if_pos (by simpa using hn)])
    obtain ⟨L, hL⟩ : ∃ L, k ^ (2 * r + 1) = L := ⟨_, rfl⟩
    rw [hL] at hn HSZ
    have hne : ((n : Int) != (L : Int)) = true := by have := HL.out; simp; omega
    clear hk hr hL hsz hn
    go_enter Tryz.func34, Tryz.ntmps34
    go_wp2_with fail
    refine (HSZ.out).mono ?_
    rintro e w1 ⟨rfl, rfl⟩
    go_wp2_with fail
    refine (ruleWrong_c _ E HE.out 2 1 (by decide) (by decide)).mono ?_
    rintro e w1 ⟨rfl, he, hb⟩
    have hP := ErrV.some he; rw [← hc.out] at hP; rw [World.size_alloc] at hP
    have HP := Lib.hid hP
    have HB := Lib.hid (below_box hb)
    clear he hb hP
    go_wp2_with fail
    go_ret
    exact ⟨_, rfl, HP.out, HB.out⟩
  have hn' : T.length = k ^ (2 * r + 1) := Decidable.not_not.1 hn
  have hc : check (k : Int) (r : Int) T = match odd (k : Int) T with
      | some i => some (1, [(sRule, 3 + (i : Int))])
      | none => none := by unfold check; rw [if_neg hk, if_neg hr, if_neg (by simpa using hn)]; cases odd (k : Int) T <;> rfl
  rw [← hn', HL.out] at HSZ
  have hnn : ((n : Int) != (n : Int)) = false := by simp
  have hle : n ≤ 16384 := by
    have := pow_le (k := k) (r := r) hk4 hr3
    rw [← hn', HL.out] at this
    exact this
  have hod := ruleOdd_c (w.alloc (.cells #[.int .i64 (k : Int), .int .i64 (r : Int), .slice A n c] 24)) (k : Int) A n c T HT.out hm
  have HOD := Lib.hid hod
  clear hk hr hsz hn hn' hod
  cases ho : odd (k : Int) T with
  | some i =>
    rw [ho] at hc HOD
    have HC := Lib.hid hc
    have hi : i < n := by have := odd_some ho; have := HL.out; omega
    have hpl : place (some i) = (i : Int) := rfl
    rw [hpl] at HOD
    clear hc ho hpl
    go_enter Tryz.func34, Tryz.ntmps34
    go_wp2_with fail
    refine (HSZ.out).mono ?_
    rintro e w1 ⟨rfl, rfl⟩
    go_wp2_with fail
    refine (HOD.out).mono ?_
    rintro e w1 ⟨rfl, hb1⟩
    have HE1 := Lib.hid (HE.out.below hb1)
    go_wp2_with fail
    refine (ruleWrong_c _ E HE1.out (3 + (i : Int)) 1 (by decide) (by decide)).mono ?_
    rintro e w2 ⟨rfl, he, hb2⟩
    have hP := ErrV.some he; rw [← HC.out] at hP
    have HP := Lib.hid hP
    have HB := Lib.hid ((below_box hb1).trans (hb2.mono (below_box hb1).size))
    clear he hb1 hb2 hP
    go_wp2_with fail
    go_ret
    exact ⟨_, rfl, HP.out, HB.out⟩
  | none =>
    rw [ho] at hc HOD
    have HC := Lib.hid hc
    have hpl : place none = -1 := rfl
    rw [hpl] at HOD
    clear hc ho hpl
    go_enter Tryz.func34, Tryz.ntmps34
    go_wp2_with fail
    refine (HSZ.out).mono ?_
    rintro e w1 ⟨rfl, rfl⟩
    go_wp2_with fail
    refine (HOD.out).mono ?_
    rintro e w1 ⟨rfl, hb1⟩
    have HB := Lib.hid (below_box hb1)
    clear hb1
    go_wp2_with fail
    go_ret
    exact ⟨_, rfl, by rw [HC.out]; rfl, HB.out⟩

set_option maxRecDepth 100000 in
set_option maxHeartbeats 1000000 in
theorem small_c (w : World) (E : Nat → Addr) (hE : Errs w E) (K R : Int) (A : Option Addr) (n c : Nat) (T : List Int) (hT : Sl w A n (T.map (Value.int .i64))) (hm : n ≤ 9223372036854775807) :
    Calls Tryz.prog 10 #[ruleV K R A n c] w fun e w' => ∃ v, e = .returned v ∧ ErrV w' E (small K R T) v ∧ Below w.heap.size w w' := by
  have hl : T.length = n := by simpa using hT.1
  have HL := Lib.hid hl
  clear hl
  have hE1 : Errs (w.alloc (.cells #[.int .i64 K, .int .i64 R, .slice A n c] 24)) E := hE.below ((Below.refl _ _).alloc (Nat.le_refl _) _)
  have HE := Lib.hid hE1
  have hT1 := hT.alloc (.cells #[.int .i64 K, .int .i64 R, .slice A n c] 24)
  have HCK := Lib.hid (check_c _ E hE1 K R A n c T hT1 hm)
  clear hE hE1 hT hT1
  unfold ruleV at *
  cases ho : check K R T with
  | some t =>
    have hs : Hid (small K R T = some t) := Lib.hid (by unfold small; rw [ho])
    rw [ho] at HCK
    clear ho
    go_enter Tryz.func10, Tryz.ntmps10
    go_wp2_with fail
    refine (HCK.out).mono ?_
    rintro e w1 ⟨v, rfl, he, hb⟩
    obtain ⟨u, p, rfl⟩ := ErrIs.iface (show ErrIs w1 E t.1 t.2 v from he)
    have hP : ErrV w1 E (some t) (.iface u p) := he
    rw [← hs.out] at hP
    have HP := Lib.hid hP
    have HB := Lib.hid (below_box hb)
    clear he hb hP
    go_wp2_with fail
    go_ret
    exact ⟨_, rfl, HP.out, HB.out⟩
  | none =>
    rw [ho] at HCK
    by_cases h256 : 256 < n
    · have hs : Hid (small K R T = some (4, [(sRule, 0)])) := Lib.hid (by unfold small; rw [ho]; simp only; rw [if_pos (by rw [HL.out]; exact h256)])
      clear ho
      go_enter Tryz.func10, Tryz.ntmps10
      go_wp2_with fail
      refine (HCK.out).mono ?_
      rintro e w1 ⟨v, rfl, rfl, hb⟩
      obtain ⟨b0, b1, b2⟩ := box_cells hb
      have HE1 := Lib.hid (HE.out.below hb)
      have HB1 := Lib.hid (below_box hb)
      clear hb
      go_wp2_with fail
      refine (ruleWrong_c _ E HE1.out 0 4 (by decide) (by decide)).mono ?_
      rintro e w2 ⟨rfl, he, hb2⟩
      have hP := ErrV.some he; rw [← hs.out] at hP
      have HP := Lib.hid hP
      have HB := Lib.hid (HB1.out.trans (hb2.mono HB1.out.size))
      clear he hb2 hP
      go_wp2_with fail
      go_ret
      exact ⟨_, rfl, HP.out, HB.out⟩
    · have hs : Hid (small K R T = none) := Lib.hid (by unfold small; rw [ho]; simp only; rw [if_neg (by rw [HL.out]; exact h256)])
      clear ho
      go_enter Tryz.func10, Tryz.ntmps10
      go_wp2_with fail
      refine (HCK.out).mono ?_
      rintro e w1 ⟨v, rfl, rfl, hb⟩
      obtain ⟨b0, b1, b2⟩ := box_cells hb
      have HB := Lib.hid (below_box hb)
      clear hb
      go_wp2_with fail
      go_ret
      exact ⟨_, rfl, by rw [hs.out]; rfl, HB.out⟩
end Go.Proofs.YtibplgpolmplpaaGreatDoor

namespace Go.Proofs.YtibplgpolmplpaaGreatDoor
open Go.RowKit

/-- An error told further by another package. -/
def under (op : ByteArray) (i : Int) : Option Tale → Option Tale
  | none => none
  | some t => some (t.1, (op, i) :: t.2)
theorem under_c (w : World) (E : Nat → Addr) (op : ByteArray) (i : Int) (t : Option Tale) (v : Value) (h : ErrV w E t v) :
    Calls Tryz.prog 54 #[.string op, .int .i64 i, v] w fun e w' => ∃ v', e = .returned v' ∧ ErrV w' E (under op i t) v' ∧ Below w.heap.size w w' := by
  cases t with
  | none =>
    obtain rfl : v = .nilIface := h
    go_enter Tryz.func54, Tryz.ntmps54
    go_wp2_with fail
    go_ret
    exact ⟨_, rfl, rfl, Below.refl _ _⟩
  | some t =>
    have h' : ErrIs w E t.1 t.2 v := h
    obtain ⟨u, p, rfl⟩ := h'.iface
    have HP := Lib.hid h'
    clear h h'
    go_enter Tryz.func54, Tryz.ntmps54
    go_wp2_with fail
    go_ret
    have hb := (Below.refl w.heap.size w).alloc (Nat.le_refl _) (.cells #[.string op, .int .i64 i, .iface u p] 134)
    exact ⟨_, rfl, ⟨w.heap.size, _, rfl, heap_new _ _, ErrIs.below hb HP.out⟩, hb⟩
end Go.Proofs.YtibplgpolmplpaaGreatDoor

namespace Go.Proofs.YtibplgpolmplpaaGreatDoor
open Go.RowKit

/-- The number of an error; nought for none. -/
def tnum : Option Tale → Nat
  | none => 0
  | some t => t.1
/-- The value asks for no error, or for the error of the tale; its lists lie from block base on. -/
def WantB (w : World) (base : Nat) (t : Option Tale) (u : Value) : Prop :=
  ∃ (N : Nat) (A1 : Option Addr) (n1 c1 : Nat) (A2 : Option Addr) (n2 c2 : Nat), u = .agg #[.int .i64 (N : Int), .slice A1 n1 c1, .slice A2 n2 c2] ∧ WantV w t u ∧ (∀ ad, A1 = some ad → base ≤ ad.block) ∧ (∀ ad, A2 = some ad → base ≤ ad.block) ∧
    N = tnum t
theorem WantB.keeps {w w' : World} {O : Nat → Prop} {base : Nat} {t : Option Tale} {u : Value} (h : WantB w base t u) (hk : Keeps O w w') (ho : ∀ b, O b → b < base) : WantB w' base t u := by
  obtain ⟨N, A1, n1, c1, A2, n2, c2, rfl, hw, b1, b2, hN⟩ := h
  refine ⟨N, A1, n1, c1, A2, n2, c2, rfl, ?_, b1, b2, hN⟩
  cases t with
  | none => exact hw
  | some t =>
    obtain ⟨A1', c1', A2', c2', e, p1, p2, p3, p4, s1, s2⟩ := hw
    injection e with e
    injection e with e
    injection e with e0 e
    injection e with e1 e
    injection e with e2 e
    injection e1 with f1 f2 f3
    injection e2 with g1 g2 g3
    subst f1 f3 g1 g3
    refine ⟨A1, c1, A2, c2, by rw [e0, f2, g2], p1, p2, p3, p4, s1.keeps hk (fun ad e' hO => ?_), s2.keeps hk (fun ad e' hO => ?_)⟩
    · have := b1 ad e'; have := ho _ hO; omega
    · have := b2 ad e'; have := ho _ hO; omega
theorem WantB.below {w w' : World} {base : Nat} {t : Option Tale} {u : Value} (h : WantB w base t u) (hb : Below w.heap.size w w') : WantB w' base t u := by
  obtain ⟨N, A1, n1, c1, A2, n2, c2, rfl, hw, b1, b2, hN⟩ := h
  exact ⟨N, A1, n1, c1, A2, n2, c2, rfl, hw.below hb, b1, b2, hN⟩
theorem WantB.base {w : World} {base base' : Nat} {t : Option Tale} {u : Value} (h : WantB w base t u) (hb : base' ≤ base) : WantB w base' t u := by
  obtain ⟨N, A1, n1, c1, A2, n2, c2, rfl, hw, b1, b2, hN⟩ := h
  exact ⟨N, A1, n1, c1, A2, n2, c2, rfl, hw, fun ad e => Nat.le_trans hb (b1 ad e), fun ad e => Nat.le_trans hb (b2 ad e), hN⟩
/-- No error asked for. -/
theorem WantB.zero (w : World) (base : Nat) : WantB w base none (.agg #[.int .i64 0, .slice none 0 0, .slice none 0 0]) :=
  ⟨0, none, 0, 0, none, 0, 0, rfl, rfl, fun _ e => (by cases e), fun _ e => (by cases e), rfl⟩
theorem WantB.set3 {w : World} {base g : Nat} {t : Option Tale} {u : Value} (h : WantB w base t u) (hg : g < base) (u0 u1 u2 : Value) : WantB (((w.setCell ⟨g, 0, none⟩ u0).setCell ⟨g, 1, none⟩ u1).setCell ⟨g, 2, none⟩ u2) base t u :=
  h.keeps (keeps_set3 w g u0 u1 u2) (fun b e => by omega)

namespace WantAt
variable {w w' : World} {g : Nat} {x0 x1 x2 : Value}
end WantAt

end Go.Proofs.YtibplgpolmplpaaGreatDoor
