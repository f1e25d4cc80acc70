/- errors.Is over Faults, one within another, around an error variable's error: true. After the kit's worked proofs of errors.Is. Condition: the blocks hold them. edenraw.Root, edenraw.Is, edenraw.New: what is asked of an error, and that the error is just that one. Condition: the error variables hold what E says; the variable that errors.As reads. What is a rule: rule.wrong, Size, Check, Small. Condition: the table reads from memory; the error variables hold what E says. What is a rule: rule.Check, rule.Small. Condition: the table reads from memory; the error variables hold what E says. A struct of three cells in a block of the call's own: read, written, and the errors beside it. No condition. A part of a slice in memory. Plain lemmas, no program. No condition. Rows of numbers that the call makes. Plain lemmas, no program. No condition. A list of numbers copied: slices.Clone. Condition: the list reads from memory. A list copied: edenraw.Copy. Condition: the list reads from memory. -/
import Derived.LaidEql
import Derived.Stop.Asserts
import Derived.RowKitTokens
import Derived.Deep.RegionWith
import Derived.Deep.RegionHeld3
import Derived.OpenShut
import Derived.Test.YtpllojpgpejfmaaGreatDoorF1
import Derived.Test.YtpllojpgpejfmaaGreatDoorF2
namespace Go.Proofs.YtpllojpgpejfmaaGreatDoor
open Go.RowKit Go.Extern.Stop Go.Stop Go.Extern

/-- The value is an error: Faults with these packages and places, one within another, and then the error of number n. -/
def ErrIs (w : World) (E : Nat → Addr) (n : Nat) : List (ByteArray × Int) → Value → Prop
  | [], v => v = .iface 199 (.pointer (some (E n)))
  | (op, i) :: r, v => ∃ b v', v = errV b ∧ w.heap[b]? = some (.cells #[.string op, .int .i64 i, v'] 99 (0, 0)) ∧ ErrIs w E n r v'
theorem ErrIs.below {w w' : World} {E : Nat → Addr} {n : Nat} (hb : Below w.heap.size w w') : ∀ {l : List (ByteArray × Int)} {v : Value}, ErrIs w E n l v → ErrIs w' E n l v
  | [], _, h => h
  | (_, _) :: _, _, ⟨b, v', h1, h2, h3⟩ => ⟨b, v', h1, (hb.block b (Array.getElem?_eq_some_iff.1 h2).1).trans h2, ErrIs.below hb h3⟩
theorem ErrIs.keep {w w' : World} {E : Nat → Addr} {n : Nat} {l : List (ByteArray × Int)} {v : Value} (h : ErrIs w E n l v) (hb : Below w.heap.size w w') : ErrIs w' E n l v := ErrIs.below hb h
theorem ErrIs.iface {w : World} {E : Nat → Addr} {n : Nat} {l : List (ByteArray × Int)} {v : Value} (h : ErrIs w E n l v) : ∃ u p, v = .iface u p := by
  cases l with
  | nil => exact ⟨_, _, h⟩
  | cons x l => obtain ⟨b, v', rfl, _⟩ := h; exact ⟨_, _, rfl⟩

theorem is_typeOf (v : Value) (w : World) : (Extern.ReflectliteType.typeOf #[.iface 199 v]).run Tryz.prog w = .ok (.iface 152 (.agg #[.pointer (some ⟨17, 199, none⟩)])) w := by kernel_rfl
theorem is_comparable (w : World) : ((Extern.ReflectliteType.method fun t => do Rtype.noPackHeld "Comparable" t; (fun a => Value.bool a.comparable) <$> typeInfo t) #[.agg #[.pointer (some ⟨17, 199, none⟩)]]).run Tryz.prog w = .ok (.bool true) w := by kernel_rfl
theorem is_comp : (Tryz.prog.info? 199).map (·.comparable) = some true := by kernel_rfl
theorem is_size : (Tryz.prog.info? 220).map (·.size) = some 1 := by kernel_rfl
theorem noIsE (v : Value) (xT : TypeId) (w : World) : (Instr.typeAssert (.iface 199 v) xT 154 true).run Tryz.prog w = .ok (.tuple #[.nilIface, .bool false]) w := run_typeAssert_lacksB Tryz.underlying154 (by kernel_rfl) (by kernel_rfl) v xT w
theorem noIsF (v : Value) (xT : TypeId) (w : World) : (Instr.typeAssert (.iface 95 v) xT 154 true).run Tryz.prog w = .ok (.tuple #[.nilIface, .bool false]) w := run_typeAssert_lacksB Tryz.underlying154 (by kernel_rfl) (by kernel_rfl) v xT w
theorem hasUnwrapF (v : Value) (xT : TypeId) (w : World) : (Instr.typeAssert (.iface 95 v) xT 157 true).run Tryz.prog w = .ok (.tuple #[.iface 95 v, .bool true]) w := run_typeAssert_hasB Tryz.underlying157 (by kernel_rfl) v xT w
theorem methodUnwrapF (v : Value) (w : World) : (Go.method 332 95 v "Unwrap").run Tryz.prog w = .ok (161, v) w := by kernel_rfl
theorem methodComparable (v : Value) (w : World) : (Go.method 332 152 v "Comparable").run Tryz.prog w = .ok (167, v) w := by kernel_rfl

theorem ErrIs.len {w : World} {E : Nat → Addr} {n : Nat} : ∀ {l l' : List (ByteArray × Int)} {v : Value}, ErrIs w E n l v → ErrIs w E n l' v → l.length = l'.length
  | [], [], _, _, _ => rfl
  | [], _ :: _, _, h, ⟨b, v', h', _⟩ => by
    rw [show _ = _ from h] at h'
    simp [errV] at h'
  | _ :: _, [], _, ⟨b, v', h', _⟩, h => by
    rw [show _ = _ from h] at h'
    simp [errV] at h'
  | (_, _) :: _, (_, _) :: _, _, ⟨b, v', h1, h2, h3⟩, ⟨b2, v2, h4, h5, h6⟩ => by
    rw [h1] at h4
    have hb : b = b2 := by simpa [errV] using h4
    subst hb
    rw [h2] at h5
    have hv : v' = v2 := by
      injection h5 with h5
      injection h5 with h5
      simp at h5
      exact h5.2.2
    subst hv
    simp [ErrIs.len h3 h6]
open Classical in
noncomputable def errLen (w : World) (E : Nat → Addr) (n : Nat) (v : Value) : Nat := if h : ∃ l, ErrIs w E n l v then h.choose.length else 0
theorem errLen_eq {w : World} {E : Nat → Addr} {n : Nat} {l : List (ByteArray × Int)} {v : Value} (h : ErrIs w E n l v) : errLen w E n v = l.length := by
  unfold errLen
  have hx : ∃ l, ErrIs w E n l v := ⟨l, h⟩
  rw [dif_pos hx]
  exact ErrIs.len hx.choose_spec h

set_option maxRecDepth 1000000 in
theorem is_chain (w : World) (E : Nat → Addr) (n : Nat) (l : List (ByteArray × Int)) (v : Value) (h : ErrIs w E n l v) :
    Calls Tryz.prog 92 #[v, .iface 199 (.pointer (some (E n))), .bool true] w fun e w' => e = .returned (.bool true) ∧ w = w' := by
  obtain ⟨i, hi, hcmp⟩ := Option.map_eq_some_iff.1 is_comp
  obtain ⟨j, hj, hjs⟩ := Option.map_eq_some_iff.1 is_size
  have nE := noIsE
  have nF := noIsF
  have uF := hasUnwrapF
  have mU := methodUnwrapF
  go_enter Tryz.func92, Tryz.ntmps92
  go_wp2
  go_loopw [0] (fun v wl => wl = w ∧ ∃ l, ErrIs w E n l v) (fun v _ => errLen w E n v)
  case atStart => exact ⟨rfl, l, h⟩
  case round =>
    clear h
    obtain ⟨rfl, l, h⟩ := hrel
    cases l with
    | nil =>
      obtain rfl := h
      have heq := run_eql_iface_ptr_same (P := Tryz.prog) wr (E n) Tryz.underlying36 Tryz.underlying199 hi hcmp hj
      go_wp2
      go_ret
      exact ⟨rfl, rfl⟩
    | cons x l =>
      obtain ⟨op, at'⟩ := x
      have hlen0 := errLen_eq h
      obtain ⟨b, v', rfl, hb, h1⟩ := h
      have hlen := errLen_eq h1
      obtain ⟨u1, p1, rfl⟩ := h1.iface
      have hty := run_eql_iface_types (P := Tryz.prog) 95 199 (.pointer (some ⟨b, 0, none⟩)) (.pointer (some (E n))) Tryz.underlying36 (by decide) wr
      have hcell := (blk_cells hb).2.2.1
      have H1 := Lib.hid h1
      have HL := Lib.hid hlen
      have HL0 := Lib.hid hlen0
      clear h1 hb hlen hlen0
      unfold errV at *
      go_wp2
      exact ⟨⟨trivial, l, H1.out⟩, by show errLen wr E n (.iface u1 p1) < _; rw [HL.out, HL0.out]; simp⟩

set_option maxRecDepth 1000000 in
/-- errors.Is. -/
theorem errorsIs_c (w : World) (E : Nat → Addr) (n : Nat) (l : List (ByteArray × Int)) (v : Value) (h : ErrIs w E n l v) :
    Calls Tryz.prog 65 #[v, .iface 199 (.pointer (some (E n)))] w fun e w' => e = .returned (.bool true) ∧ w = w' := by
  obtain ⟨u1, p1, rfl⟩ := h.iface
  have tO := is_typeOf
  have mC := methodComparable
  have iC := is_comparable
  have hT := @run_callFunc_extern Tryz.prog 91 _ ReflectliteType.typeOf Tryz.func91 (by kernel_rfl) (by kernel_rfl) (by kernel_rfl) (by kernel_rfl)
  have hC := @run_callFunc_extern Tryz.prog 167 _ (ReflectliteType.method fun t => do Rtype.noPackHeld "Comparable" t; pure (.bool (← typeInfo t).comparable)) Tryz.func167 (by kernel_rfl) (by kernel_rfl) (by kernel_rfl) (by kernel_rfl)
  have H := Lib.hid h
  clear h
  go_enter Tryz.func65, Tryz.ntmps65
  go_wp2_with (go_at_call 92; refine (is_chain w E n l _ H.out).mono ?_; rintro e w' ⟨rfl, rfl⟩)
  go_ret
  exact ⟨rfl, rfl⟩
end Go.Proofs.YtpllojpgpejfmaaGreatDoor

namespace Go.Proofs.YtpllojpgpejfmaaGreatDoor
open Go.RowKit

set_option maxHeartbeats 1000000 in
theorem rawRoot_c (w : World) (E : Nat → Addr) (hE : Errs w E) (n : Nat) (h1 : 1 ≤ n) (h2 : n ≤ 11) :
    Calls Tryz.prog 66 #[.int .i64 (n : Int)] w fun e w' => e = .returned (.iface 199 (.pointer (some (E n)))) ∧ w = w' := by
  obtain ⟨e1, e2, e3, e4, e5, e6, e7, e8, e9, e10, e11, e99⟩ := hE
  have hn : n = 1 ∨ n = 2 ∨ n = 3 ∨ n = 4 ∨ n = 5 ∨ n = 6 ∨ n = 7 ∨ n = 8 ∨ n = 9 ∨ n = 10 ∨ n = 11 := by omega
  clear h1 h2
  rcases hn with rfl | rfl | rfl | rfl | rfl | rfl | rfl | rfl | rfl | rfl | rfl
  all_goals
    go_enter Tryz.func66, Tryz.ntmps66
    go_wp2
    go_ret
    exact ⟨rfl, rfl⟩

/-- What errors.As reads of the package's own variable. -/
def ErrT (w : World) : Prop := w.cell? ⟨12, 0, none⟩ = some (.iface 152 (.agg #[.pointer (some ⟨17, 36, none⟩)]))
theorem ErrT.below {w w' : World} (h : ErrT w) (hb : Below w.heap.size w w') : ErrT w' := cell_later hb h

/-- The value is no error, or the error of the tale. -/
def ErrV (w : World) (E : Nat → Addr) : Option Tale → Value → Prop
  | none, v => v = .nilIface
  | some t, v => ErrIs w E t.1 t.2 v
/-- The value asks for no error, or for the error of the tale. -/
def WantV (w : World) : Option Tale → Value → Prop
  | none, u => u = .agg #[.int .i64 0, .slice none 0 0, .slice none 0 0]
  | some t, u => ∃ A1 c1 A2 c2, u = .agg #[.int .i64 (t.1 : Int), .slice A1 t.2.length c1, .slice A2 t.2.length c2] ∧ t.2.length ≤ c1 ∧ c1 ≤ 9223372036854775807 ∧ t.2.length ≤ c2 ∧ c2 ≤ 9223372036854775807 ∧ Sl w A1 t.2.length (t.2.map fun x => .string x.1) ∧ Sl w A2 t.2.length (t.2.map fun x => .int .i64 x.2)
theorem ErrV.below {w w' : World} {E : Nat → Addr} {t : Option Tale} {v : Value} (h : ErrV w E t v) (hb : Below w.heap.size w w') : ErrV w' E t v := by
  cases t with
  | none => exact h
  | some t => exact ErrIs.below hb h
theorem WantV.below {w w' : World} {t : Option Tale} {v : Value} (h : WantV w t v) (hb : Below w.heap.size w w') : WantV w' t v := by
  cases t with
  | none => exact h
  | some t =>
    obtain ⟨A1, c1, A2, c2, h1, p1, p2, p3, p4, h2, h3⟩ := h
    exact ⟨A1, c1, A2, c2, h1, p1, p2, p3, p4, h2.below hb, h3.below hb⟩

theorem as_b (w : World) (t : Addr) (b : Nat) (old : Value) (hT : ErrT w) (ht0 : w.cell? t = some old) (hf0 : w.frozen? t = false) :
    Calls Tryz.prog 67 #[errV b, .iface 97 (.pointer (some t))] w fun ev w' => ev = .returned (.bool true) ∧ w'.cell? t = some (.pointer (some ⟨b, 0, none⟩)) ∧ Keeps (fun k => k = t.block) w w' := by
  refine (as_hit ⟨b, 0, none⟩ t old w hT ht0 hf0).mono ?_
  rintro ev w' ⟨rfl, rfl⟩
  have htl : t.block < w.heap.size := World.block_lt_of_cell? _ _ ht0
  refine ⟨rfl, ?_, ?_⟩
  · refine World.cell?_setCell_same _ _ _ (u := old) ?_
    rw [World.cell?_alloc_lt _ _ t (by simp; omega), World.cell?_alloc_lt _ _ t (by simp; omega), World.cell?_alloc_lt _ _ t (by simp; omega), World.cell?_alloc_lt _ _ t htl, ht0]
  · refine Keeps.trans (O := fun k => k = t.block) (Keeps.of_pure ?_ (fun k => k = t.block)) (Keeps.of_setCell _ _ _) (fun _ _ h => h)
    exact ((((Below.refl _ _).alloc (Nat.le_refl _) _).alloc (by simp) _).alloc (by simp; omega) _).alloc (by simp; omega) _

set_option maxHeartbeats 1000000 in
theorem rawIs_none (w : World) (u : Value) (hu : WantV w none u) :
    Calls Tryz.prog 28 #[.nilIface, u] w fun e w' => e = .returned (.bool true) ∧ Below w.heap.size w w' := by
  obtain rfl := hu
  go_enter Tryz.func28, Tryz.ntmps28
  go_wp2_with fail
  go_ret
  exact ⟨rfl, (Below.refl _ _).alloc (Nat.le_refl _) _⟩

set_option maxRecDepth 100000 in
set_option maxHeartbeats 600000 in
theorem rawIs_some (w : World) (E : Nat → Addr) (hE : Errs w E) (hT : ErrT w) (n : Nat) (l : List (ByteArray × Int)) (h1 : 1 ≤ n) (h2 : n ≤ 11) (v u : Value) (hv : ErrIs w E n l v) (hu : WantV w (some (n, l)) u) :
    Calls Tryz.prog 28 #[v, u] w fun e w' => e = .returned (.bool true) ∧ Below w.heap.size w w' := by
  obtain ⟨A1, c1, A2, c2, rfl, p1, p2, p3, p4, s1, s2⟩ := hu
  obtain ⟨u1, q1, rfl⟩ := hv.iface
  simp only at p1 p3 s1 s2 ⊢
  have hn0 : ((n : Int) == 0) = false := by rw [beq_eq_false_iff_ne]; omega
  obtain ⟨L, hL⟩ : ∃ L, l.length = L := ⟨_, rfl⟩
  rw [hL] at p1 p3 s1 s2 ⊢
  have HL := Lib.hid hL
  have HV := Lib.hid hv
  have HE := Lib.hid hE
  have HT := Lib.hid hT
  clear hv hE hL hT
  have hb0 : Below w.heap.size w (w.alloc (.cells #[.int .i64 (n : Int), .slice A1 L c1, .slice A2 L c2] 45)) := (Below.refl _ _).alloc (Nat.le_refl _) _
  have hbox0 := heap_new w (.cells #[.int .i64 (n : Int), .slice A1 L c1, .slice A2 L c2] 45)
  have HB0 := Lib.hid hb0
  have HBX := Lib.hid hbox0
  clear hb0 hbox0
  go_enter Tryz.func28, Tryz.ntmps28
  go_wp2_with fail
  refine (rawRoot_c _ E (HE.out.below HB0.out) n h1 h2).mono ?_
  rintro e w' ⟨rfl, rfl⟩
  go_wp2_with fail
  refine (errorsIs_c _ E n l _ (HV.out.below HB0.out)).mono ?_
  rintro e w' ⟨rfl, rfl⟩
  go_wp2_with fail
  go_loopw [0, 5] (fun v i wr => ∃ (k : Nat) (u2 : TypeId) (q2 : Value), k ≤ L ∧ i = .int .i64 (k : Int) ∧ v = .iface u2 q2 ∧ Hid (ErrIs wr E n (l.drop k) (.iface u2 q2)) ∧ Hid (wr.heap[w.heap.size]? = some (.cells #[.int .i64 (n : Int), .slice A1 L c1, .slice A2 L c2] 45 (0, 0))) ∧ w.heap.size < wr.heap.size ∧ Below w.heap.size w wr) (fun _ i _ => L - (intOf i).toNat)
  case atStart => exact ⟨0, u1, q1, Nat.zero_le _, rfl, rfl, Lib.hid (by simpa using HV.out.below HB0.out), HBX, by simp, HB0.out⟩
  case round =>
    obtain ⟨k, u2, q2, hk, rfl, rfl, hv, hbox, hsz, hb⟩ := hrel
    obtain ⟨b0, b1, b2, _⟩ := blk_cells hbox.out
    by_cases hlt : k < L
    · obtain ⟨⟨op, at'⟩, hlk⟩ : ∃ x, l[k]? = some x := ⟨_, List.getElem?_eq_getElem (by rw [HL.out]; exact hlt)⟩
      have hdrop : l.drop k = (op, at') :: l.drop (k + 1) := by
        obtain ⟨hh, he⟩ := List.getElem?_eq_some_iff.1 hlk
        rw [List.drop_eq_getElem_cons hh, he]
      have hv2 := hv.out
      rw [hdrop] at hv2
      obtain ⟨b, v', hv3, hblk, hrest⟩ := hv2
      obtain ⟨rfl, rfl⟩ : u2 = 95 ∧ q2 = .pointer (some ⟨b, 0, none⟩) := by simpa [errV] using hv3
      obtain ⟨u3, q3, rfl⟩ := hrest.iface
      obtain ⟨ad1, x1, rfl, hx1, hc1⟩ := (s1.below hb).at_ hlt
      obtain ⟨ad2, x2, rfl, hx2, hc2⟩ := (s2.below hb).at_ hlt
      rw [List.getElem?_map, hlk] at hx1 hx2
      obtain rfl := Option.some.inj hx1
      obtain rfl := Option.some.inj hx2
      simp only at hc1 hc2
      obtain ⟨f0, f1, f2, _⟩ := blk_cells hblk
      have hwf : Below wr.heap.size wr (wr.alloc (.cells #[.pointer none] 95)) := (Below.refl _ _).alloc (Nat.le_refl _) _
      have has : ∀ wz, Below (wr.heap.size + 1) (wr.alloc (.cells #[.pointer none] 95)) wz → Calls Tryz.prog 67 #[errV b, .iface 97 (.pointer (some ⟨wr.heap.size, 0, none⟩))] wz fun ev w2 => ev = .returned (.bool true) ∧ w2.cell? ⟨wr.heap.size, 0, none⟩ = some (.pointer (some ⟨b, 0, none⟩)) ∧
          w2.cell? ⟨b, 0, none⟩ = some (.string op) ∧ w2.cell? ⟨b, 1, none⟩ = some (.int .i64 at') ∧ w2.cell? ⟨b, 2, none⟩ = some (.iface u3 q3) ∧ w2.cell? ⟨w.heap.size, 1, none⟩ = some (.slice (some ad1) L c1) ∧ w2.cell? ⟨w.heap.size, 2, none⟩ = some (.slice (some ad2) L c2) ∧
          w2.cell? (ad1.add k) = some (.string op) ∧ w2.cell? (ad2.add k) = some (.int .i64 at') ∧ Below wr.heap.size wr w2 := fun wz hz => (as_b wz ⟨wr.heap.size, 0, none⟩ b (.pointer none) ((HT.out.below hb).below (hwf.trans (hz.mono (by omega)))) (by rw [hz.cell (by simp)]; simp) (by rw [hz.frozen (by simp)]; exact frozen_of_row _ _ 0 _ _ (heap_new _ _))).mono fun ev w2 ⟨he, hc, hk⟩ => by
        have hB : Below wr.heap.size wr w2 := (hwf.trans (hz.mono (by omega))).trans (hk.below (by have := hwf.size; have := hz.size; omega) (fun k hk => by simp at hk; omega))
        exact ⟨he, hc, cell_later hB f0, cell_later hB f1, cell_later hB f2, cell_later hB b1, cell_later hB b2, cell_later hB hc1, cell_later hB hc2, hB⟩
      have HAS := Lib.hid has
      have HR := Lib.hid hrest
      have hnop : (op.toList != op.toList) = false := by simp
      have hnat : (at' != at') = false := by simp
      clear has hlk hdrop hrest hwf hv hx1 hx2 hv3 hblk
      unfold errV at HAS
      go_wp2_with fail
      refine wp_region_any (by kernel_rfl) ?_
      change wpAny _ _ _ _ _ _ _ (World.drew _)
      refine wpAny_take (i := 0) (v := ?_) rfl (by kernel_rfl) (by kernel_rfl) (by kernel_rfl) (fun _ _ _ h => h) (Or.inl ⟨by rfl, ?_⟩) ?_
      rotate_left
      · intro w; go_simp; with_reducible rfl
      refine wpAny_take (i := 1) (v := ?_) rfl (by kernel_rfl) (by kernel_rfl) (by kernel_rfl) (fun _ _ _ h => h) (Or.inl ⟨by rfl, ?_⟩) ?_
      rotate_left
      · intro w; go_simp; with_reducible rfl
      refine wpAny_ready (rs := [2]) (by kernel_rfl) (by simp) ?_
      refine AllReady.cons rfl (fun K hK => ?_) AllReady.nil
      go_simp
      refine (HAS.out _ (Below.refl _ _).drew).mono ?_
      rintro e w2 ⟨rfl, hcf, z0, z1, z2, z3, z4, z5, z6, hB⟩
      go_simp
      refine hK _ _ ?_
      clear hK K
      refine wpAny_quiet_from _ 3 (by kernel_rfl) rfl rfl (by kernel_rfl) ?_
      repeat (first | go_big_quiet_step (fail) | quiet_step (fail))
      refine wpQuiet_nil ?_
      intro _ hw'
      obtain ⟨nq, hw''⟩ := hw'
      subst hw''
      have hB2 := below_drewN hB nq
      have hsz2 := hB.size
      have hv2 : Hid (ErrIs (w2.drewN nq) E n (l.drop (k + 1)) (.iface u3 q3)) := Lib.hid (HR.out.below hB2)
      have hbox2 : Hid ((w2.drewN nq).heap[w.heap.size]? = some (.cells #[.int .i64 (n : Int), .slice (some ad1) L c1, .slice (some ad2) L c2] 45 (0, 0))) := Lib.hid ((hB2.block _ hsz).trans hbox.out)
      have hb2 := hb.trans (hB2.mono hb.size)
      clear HAS HR hB hB2 hbox hb
      go_wp2_with fail
      go_roundw
      case rel => exact ⟨k + 1, u3, q3, by omega, by go_num, rfl, hv2, hbox2, by simp; omega, hb2⟩
      case measure => simp [intOf]; omega
    · obtain rfl : k = L := by omega
      have hv2 := hv.out
      rw [List.drop_of_length_le (by rw [HL.out]; exact Nat.le_refl _)] at hv2
      obtain ⟨rfl, rfl⟩ : u2 = 199 ∧ q2 = .pointer (some (E n)) := by simpa [ErrIs] using hv2
      have HEb := Lib.hid (HE.out.below hb)
      clear hv hv2
      obtain ⟨i, hi, hcmp⟩ := Option.map_eq_some_iff.1 is_comp
      obtain ⟨j, hj, hjs⟩ := Option.map_eq_some_iff.1 is_size
      have heq := run_eql_iface_ptr_same (P := Tryz.prog) wr (E n) Tryz.underlying36 Tryz.underlying199 hi hcmp hj
      go_wp2_with fail
      refine (rawRoot_c _ E HEb.out n h1 h2).mono ?_
      rintro e w' ⟨rfl, rfl⟩
      go_wp2_with fail
      go_ret
      exact ⟨rfl, hb⟩

/-- edenraw.Is of the error that is asked for. -/
theorem rawIs_c (w : World) (E : Nat → Addr) (hE : Errs w E) (hT : ErrT w) (t : Option Tale) (ht : TaleOk t) (v u : Value) (hv : ErrV w E t v) (hu : WantV w t u) :
    Calls Tryz.prog 28 #[v, u] w fun e w' => e = .returned (.bool true) ∧ Below w.heap.size w w' := by
  cases t with
  | none => obtain rfl : v = .nilIface := hv; exact rawIs_none w u hu
  | some t => exact rawIs_some w E hE hT t.1 t.2 (ht t rfl).1 (ht t rfl).2 v u hv hu

/-- edenraw.New: what an error must be that one package tells. -/
theorem rawNew_x (w : World) (op : ByteArray) (at' : Int) (n : Nat) :
    Calls Tryz.prog 47 #[.string op, .int .i64 at', .int .i64 (n : Int)] w fun e w' => e = .returned (.agg #[.int .i64 (n : Int), .slice (some ⟨w.heap.size + 1, 0, none⟩) 1 1, .slice (some ⟨w.heap.size + 1 + 1, 0, none⟩) 1 1]) ∧
      Sl w' (some ⟨w.heap.size + 1, 0, none⟩) 1 [.string op] ∧ Sl w' (some ⟨w.heap.size + 1 + 1, 0, none⟩) 1 [.int .i64 at'] ∧ Below w.heap.size w w' := by
  go_enter Tryz.func47, Tryz.ntmps47
  go_wp2_with fail
  have hl1 : Sl (((w.alloc (.cells #[.int .i64 (n : Int), .slice (some ⟨w.heap.size + 1, 0, none⟩) 1 1, .slice (some ⟨w.heap.size + 1 + 1, 0, none⟩) 1 1] 45)).alloc (.cells #[.string op] 9)).alloc (.cells #[.int .i64 at'] 3)) (some ⟨w.heap.size + 1, 0, none⟩) 1 [.string op] :=
    Sl.alloc ⟨rfl, fun k v hv => ⟨_, rfl, by rcases k with _ | k; simp at hv; subst hv; simp [Addr.add, World.cell?_alloc_at]; simp at hv⟩⟩ _
  have hl2 : Sl (((w.alloc (.cells #[.int .i64 (n : Int), .slice (some ⟨w.heap.size + 1, 0, none⟩) 1 1, .slice (some ⟨w.heap.size + 1 + 1, 0, none⟩) 1 1] 45)).alloc (.cells #[.string op] 9)).alloc (.cells #[.int .i64 at'] 3)) (some ⟨w.heap.size + 1 + 1, 0, none⟩) 1 [.int .i64 at'] :=
    ⟨rfl, fun k v hv => ⟨_, rfl, by rcases k with _ | k; simp at hv; subst hv; simp [Addr.add, World.cell?_alloc_at]; simp at hv⟩⟩
  exact bodyPost_ret (v := .agg #[.int .i64 (n : Int), .slice (some ⟨w.heap.size + 1, 0, none⟩) 1 1, .slice (some ⟨w.heap.size + 1 + 1, 0, none⟩) 1 1]) (by simp [results, Tryz.results47, go_sem]) rfl
    ⟨rfl, hl1, hl2, (((Below.refl _ _).alloc (Nat.le_refl _) _).alloc (by simp) _).alloc (by simp; omega) _⟩
theorem want_of {w : World} {n : Nat} {op : ByteArray} {i : Int} {A B : Option Addr} (h1 : Sl w A 1 [.string op]) (h2 : Sl w B 1 [.int .i64 i]) : WantV w (some (n, [(op, i)])) (.agg #[.int .i64 (n : Int), .slice A 1 1, .slice B 1 1]) :=
  ⟨_, _, _, _, rfl, Nat.le_refl _, by decide, Nat.le_refl _, by decide, h1, h2⟩
end Go.Proofs.YtpllojpgpejfmaaGreatDoor

namespace Go.Proofs.YtpllojpgpejfmaaGreatDoor
open Go.RowKit RuleP

theorem ruleWrong_c (w : World) (E : Nat → Addr) (hE : Errs w E) (at' : Int) (n : Nat) (h1 : 1 ≤ n) (h2 : n ≤ 11) :
    Calls Tryz.prog 31 #[.int .i64 at', .int .i64 (n : Int)] w fun e w' => e = .returned (errV w.heap.size) ∧ ErrIs w' E n [(sRule, at')] (errV w.heap.size) ∧ Below w.heap.size w w' := by
  have HE := Lib.hid hE
  clear hE
  go_enter Tryz.func31, Tryz.ntmps31
  go_wp2_with fail
  refine (new_c w E HE.out sRule at' n h1 h2).mono ?_
  rintro e w' ⟨rfl, rfl⟩
  go_wp2_with fail
  go_ret
  exact ⟨rfl, ⟨w.heap.size, _, rfl, heap_new _ _, rfl⟩, (Below.refl _ _).alloc (Nat.le_refl _) _⟩

def size (k r : Int) : Except Tale Int := if k < 1 ∨ 4 < k ∨ r < 0 ∨ 3 < r then .error (3, [(sRule, 0)]) else .ok ((k.toNat ^ (2 * r.toNat + 1) : Nat) : Int)

set_option maxRecDepth 100000 in
set_option maxHeartbeats 1000000 in
theorem size_err (w : World) (E : Nat → Addr) (hE : Errs w E) (k r : Int) (h : k < 1 ∨ 4 < k ∨ r < 0 ∨ 3 < r) :
    Calls Tryz.prog 33 #[.int .i64 k, .int .i64 r] w fun e w' => ∃ b, e = .returned (.tuple #[.int .i64 0, errV b]) ∧ ErrIs w' E 3 [(sRule, 0)] (errV b) ∧ Below w.heap.size w w' := by
  have HE := Lib.hid hE
  clear hE
  have hc : k < 1 ∨ (1 ≤ k ∧ 4 < k) ∨ (1 ≤ k ∧ k ≤ 4 ∧ r < 0) ∨ (1 ≤ k ∧ k ≤ 4 ∧ 0 ≤ r ∧ 3 < r) := by omega
  clear h
  rcases hc with h | ⟨h, h'⟩ | ⟨h, h', h''⟩ | ⟨h, h', h'', h'''⟩
  all_goals
    go_enter Tryz.func33, Tryz.ntmps33
    go_wp2_with fail
    refine (ruleWrong_c w E HE.out 0 3 (by decide) (by decide)).mono ?_
    rintro e w' ⟨rfl, he, hb⟩
    go_wp2_with fail
    go_ret2
    exact ⟨_, rfl, he, hb⟩
set_option maxRecDepth 100000 in
set_option maxHeartbeats 1000000 in
theorem size_ok (w : World) (k r : Nat) (h1 : 1 ≤ k) (h2 : k ≤ 4) (h3 : r ≤ 3) :
    Calls Tryz.prog 33 #[.int .i64 (k : Int), .int .i64 (r : Int)] w fun e w' => e = .returned (.tuple #[.int .i64 ((k ^ (2 * r + 1) : Nat) : Int), .nilIface]) ∧ w = w' := by
  go_enter Tryz.func33, Tryz.ntmps33
  go_wp2_with fail
  go_loop [6, 25] (fun n i => ∃ j : Nat, j ≤ 2 * r ∧ i = .int .i64 (j : Int) ∧ n = .int .i64 ((k ^ (j + 1) : Nat) : Int)) (fun _ i => 2 * r - (intOf i).toNat)
  case atStart => exact ⟨0, by omega, rfl, by simp⟩
  case round =>
    obtain ⟨j, hj, rfl, rfl⟩ := hrel
    by_cases hlt : j < 2 * r
    · have hp : ((k ^ (j + 1) : Nat) : Int) * (k : Int) = ((k ^ (j + 1 + 1) : Nat) : Int) := by rw [Nat.pow_succ k (j + 1)]; simp
      have hle : k ^ (j + 1 + 1) ≤ 65536 := Nat.le_trans (Nat.pow_le_pow_right h1 (show j + 1 + 1 ≤ 8 by omega)) (Nat.le_trans (Nat.pow_le_pow_left h2 8) (by decide))
      generalize k ^ (j + 1) = P at hp ⊢
      obtain ⟨Q, hQ⟩ : ∃ Q, k ^ (j + 1 + 1) = Q := ⟨_, rfl⟩
      rw [hQ] at hp hle
      have HQ := Lib.hid hQ
      clear hQ
      go_wp2_with fail
      exact ⟨⟨j + 1, by omega, by go_num, by rw [HQ.out]⟩, by simp [intOf]; omega⟩
    · obtain rfl : j = 2 * r := by omega
      go_wp2_with fail
      go_ret2
      exact ⟨rfl, rfl⟩
end Go.Proofs.YtpllojpgpejfmaaGreatDoor

namespace Go.Proofs.YtpllojpgpejfmaaGreatDoor
open Go.RowKit RuleP

/-- A rule as a value. -/
def ruleV (K R : Int) (A : Option Addr) (n c : Nat) : Value := .agg #[.int .i64 K, .int .i64 R, .slice A n c]
theorem below_box {w w1 : World} {o : Obj} (h : Below (w.alloc o).heap.size (w.alloc o) w1) : Below w.heap.size w w1 := ((Below.refl _ _).alloc (Nat.le_refl _) o).trans (h.mono (by simp))
theorem box_cells {w w1 : World} {x0 x1 x2 : Value} {t : TypeId} (h : Below (w.alloc (.cells #[x0, x1, x2] t)).heap.size (w.alloc (.cells #[x0, x1, x2] t)) w1) :
    w1.cell? ⟨w.heap.size, 0, none⟩ = some x0 ∧ w1.cell? ⟨w.heap.size, 1, none⟩ = some x1 ∧ w1.cell? ⟨w.heap.size, 2, none⟩ = some x2 := by
  obtain ⟨a, b, c, _⟩ := blk_cells (heap_new w (.cells #[x0, x1, x2] t))
  exact ⟨cell_later h a, cell_later h b, cell_later h c⟩

theorem ErrV.some {w : World} {E : Nat → Addr} {n : Nat} {l : List (ByteArray × Int)} {v : Value} (h : ErrIs w E n l v) : ErrV w E (some (n, l)) v := h
set_option maxRecDepth 100000 in
set_option maxHeartbeats 2000000 in
theorem check_c (w : World) (E : Nat → Addr) (hE : Errs w E) (K R : Int) (A : Option Addr) (n c : Nat) (T : List Int) (hT : Sl w A n (T.map (Value.int .i64))) (hm : n ≤ 9223372036854775807) :
    Calls Tryz.prog 74 #[ruleV K R A n c] w fun e w' => ∃ v, e = .returned v ∧ ErrV w' E (check K R T) v ∧ Below w.heap.size w w' := by
  have hl : T.length = n := by simpa using hT.1
  have HL := Lib.hid hl
  clear hl
  have hE1 : Errs (w.alloc (.cells #[.int .i64 K, .int .i64 R, .slice A n c] 26)) E := hE.below ((Below.refl _ _).alloc (Nat.le_refl _) _)
  have HE := Lib.hid hE1
  have hT1 := hT.alloc (.cells #[.int .i64 K, .int .i64 R, .slice A n c] 26)
  have HT := Lib.hid hT1
  clear hE hE1 hT hT1
  unfold ruleV
  by_cases hk : K < 1 ∨ 4 < K
  · have hc : Hid (check K R T = some (1, [(sRule, 0)])) := Lib.hid (by unfold check; rw [if_pos hk])
    have hk' : K < 1 ∨ (1 ≤ K ∧ 4 < K) := by omega
    clear hk
    rcases hk' with hk | ⟨hk, hk'⟩
    all_goals
      go_enter Tryz.func74, Tryz.ntmps74
      go_wp2_with fail
      refine (ruleWrong_c _ E HE.out 0 1 (by decide) (by decide)).mono ?_
      rintro e w1 ⟨rfl, he, hb⟩
      have hP := ErrV.some he; rw [← hc.out] at hP; rw [World.size_alloc] at hP
      have HP := Lib.hid hP
      have HB := Lib.hid (below_box hb)
      clear he hb hP
      go_wp2_with fail
      go_ret
      exact ⟨_, rfl, HP.out, HB.out⟩
  by_cases hr : R < 0 ∨ 3 < R
  · have hc : Hid (check K R T = some (1, [(sRule, 1)])) := Lib.hid (by unfold check; rw [if_neg hk, if_pos hr])
    have hs : K < 1 ∨ 4 < K ∨ R < 0 ∨ 3 < R := by omega
    have hk1 : 1 ≤ K := by omega
    have hk4 : K ≤ 4 := by omega
    clear hk hr
    go_enter Tryz.func74, Tryz.ntmps74
    go_wp2_with fail
    refine (size_err _ E HE.out K R hs).mono ?_
    rintro e w1 ⟨b, rfl, _, hb⟩
    have HE1 := Lib.hid (HE.out.below hb)
    unfold errV
    go_wp2_with fail
    refine (ruleWrong_c _ E HE1.out 1 1 (by decide) (by decide)).mono ?_
    rintro e w2 ⟨rfl, he, hb2⟩
    have hP := ErrV.some he; rw [← hc.out] at hP
    have HP := Lib.hid hP
    have HB := Lib.hid ((below_box hb).trans (hb2.mono (below_box hb).size))
    clear he hb hb2 hP
    go_wp2_with fail
    go_ret
    exact ⟨_, rfl, HP.out, HB.out⟩
  obtain ⟨k, rfl⟩ : ∃ k : Nat, K = (k : Int) := ⟨K.toNat, by omega⟩
  obtain ⟨r, rfl⟩ : ∃ r : Nat, R = (r : Int) := ⟨R.toNat, by omega⟩
  have hk1 : 1 ≤ k := by omega
  have hk4 : k ≤ 4 := by omega
  have hr3 : r ≤ 3 := by omega
  have hsz := size_ok (w.alloc (.cells #[.int .i64 (k : Int), .int .i64 (r : Int), .slice A n c] 26)) k r hk1 hk4 hr3
  have HSZ := Lib.hid hsz
  by_cases hn : T.length ≠ k ^ (2 * r + 1)
  · have hc : Hid (check (k : Int) (r : Int) T = some (1, [(sRule, 2)])) := Lib.hid (by unfold check; rw [if_neg hk, if_neg hr, if_pos (by simpa using hn)])
    obtain ⟨L, hL⟩ : ∃ L, k ^ (2 * r + 1) = L := ⟨_, rfl⟩
    rw [hL] at hn HSZ
    have hne : ((n : Int) != (L : Int)) = true := by have := HL.out; simp; omega
    clear hk hr hL hsz hn
    go_enter Tryz.func74, Tryz.ntmps74
    go_wp2_with fail
    refine (HSZ.out).mono ?_
    rintro e w1 ⟨rfl, rfl⟩
    go_wp2_with fail
    refine (ruleWrong_c _ E HE.out 2 1 (by decide) (by decide)).mono ?_
    rintro e w1 ⟨rfl, he, hb⟩
    have hP := ErrV.some he; rw [← hc.out] at hP; rw [World.size_alloc] at hP
    have HP := Lib.hid hP
    have HB := Lib.hid (below_box hb)
    clear he hb hP
    go_wp2_with fail
    go_ret
    exact ⟨_, rfl, HP.out, HB.out⟩
  have hn' : T.length = k ^ (2 * r + 1) := Decidable.not_not.1 hn
  have hc : check (k : Int) (r : Int) T = match odd (k : Int) T with
      | some i => some (1, [(sRule, 3 + (i : Int))])
      | none => none := by unfold check; rw [if_neg hk, if_neg hr, if_neg (by simpa using hn)]; cases odd (k : Int) T <;> rfl
  rw [← hn', HL.out] at HSZ
  have hnn : ((n : Int) != (n : Int)) = false := by simp
  have hle : n ≤ 16384 := by
    have := pow_le (k := k) (r := r) hk4 hr3
    rw [← hn', HL.out] at this
    exact this
  have hod := ruleOdd_c (w.alloc (.cells #[.int .i64 (k : Int), .int .i64 (r : Int), .slice A n c] 26)) (k : Int) A n c T HT.out hm
  have HOD := Lib.hid hod
  clear hk hr hsz hn hn' hod
  cases ho : odd (k : Int) T with
  | some i =>
    rw [ho] at hc HOD
    have HC := Lib.hid hc
    have hi : i < n := by have := odd_some ho; have := HL.out; omega
    have hpl : place (some i) = (i : Int) := rfl
    rw [hpl] at HOD
    clear hc ho hpl
    go_enter Tryz.func74, Tryz.ntmps74
    go_wp2_with fail
    refine (HSZ.out).mono ?_
    rintro e w1 ⟨rfl, rfl⟩
    go_wp2_with fail
    refine (HOD.out).mono ?_
    rintro e w1 ⟨rfl, hb1⟩
    have HE1 := Lib.hid (HE.out.below hb1)
    go_wp2_with fail
    refine (ruleWrong_c _ E HE1.out (3 + (i : Int)) 1 (by decide) (by decide)).mono ?_
    rintro e w2 ⟨rfl, he, hb2⟩
    have hP := ErrV.some he; rw [← HC.out] at hP
    have HP := Lib.hid hP
    have HB := Lib.hid ((below_box hb1).trans (hb2.mono (below_box hb1).size))
    clear he hb1 hb2 hP
    go_wp2_with fail
    go_ret
    exact ⟨_, rfl, HP.out, HB.out⟩
  | none =>
    rw [ho] at hc HOD
    have HC := Lib.hid hc
    have hpl : place none = -1 := rfl
    rw [hpl] at HOD
    clear hc ho hpl
    go_enter Tryz.func74, Tryz.ntmps74
    go_wp2_with fail
    refine (HSZ.out).mono ?_
    rintro e w1 ⟨rfl, rfl⟩
    go_wp2_with fail
    refine (HOD.out).mono ?_
    rintro e w1 ⟨rfl, hb1⟩
    have HB := Lib.hid (below_box hb1)
    clear hb1
    go_wp2_with fail
    go_ret
    exact ⟨_, rfl, by rw [HC.out]; rfl, HB.out⟩

set_option maxRecDepth 100000 in
set_option maxHeartbeats 1000000 in
theorem small_c (w : World) (E : Nat → Addr) (hE : Errs w E) (K R : Int) (A : Option Addr) (n c : Nat) (T : List Int) (hT : Sl w A n (T.map (Value.int .i64))) (hm : n ≤ 9223372036854775807) :
    Calls Tryz.prog 75 #[ruleV K R A n c] w fun e w' => ∃ v, e = .returned v ∧ ErrV w' E (small K R T) v ∧ Below w.heap.size w w' := by
  have hl : T.length = n := by simpa using hT.1
  have HL := Lib.hid hl
  clear hl
  have hE1 : Errs (w.alloc (.cells #[.int .i64 K, .int .i64 R, .slice A n c] 26)) E := hE.below ((Below.refl _ _).alloc (Nat.le_refl _) _)
  have HE := Lib.hid hE1
  have hT1 := hT.alloc (.cells #[.int .i64 K, .int .i64 R, .slice A n c] 26)
  have HCK := Lib.hid (check_c _ E hE1 K R A n c T hT1 hm)
  clear hE hE1 hT hT1
  unfold ruleV at *
  cases ho : check K R T with
  | some t =>
    have hs : Hid (small K R T = some t) := Lib.hid (by unfold small; rw [ho])
    rw [ho] at HCK
    clear ho
    go_enter Tryz.func75, Tryz.ntmps75
    go_wp2_with fail
    refine (HCK.out).mono ?_
    rintro e w1 ⟨v, rfl, he, hb⟩
    obtain ⟨u, p, rfl⟩ := ErrIs.iface (show ErrIs w1 E t.1 t.2 v from he)
    have hP : ErrV w1 E (some t) (.iface u p) := he
    rw [← hs.out] at hP
    have HP := Lib.hid hP
    have HB := Lib.hid (below_box hb)
    clear he hb hP
    go_wp2_with fail
    go_ret
    exact ⟨_, rfl, HP.out, HB.out⟩
  | none =>
    rw [ho] at HCK
    by_cases h256 : 256 < n
    · have hs : Hid (small K R T = some (4, [(sRule, 0)])) := Lib.hid (by unfold small; rw [ho]; simp only; rw [if_pos (by rw [HL.out]; exact h256)])
      clear ho
      go_enter Tryz.func75, Tryz.ntmps75
      go_wp2_with fail
      refine (HCK.out).mono ?_
      rintro e w1 ⟨v, rfl, rfl, hb⟩
      obtain ⟨b0, b1, b2⟩ := box_cells hb
      have HE1 := Lib.hid (HE.out.below hb)
      have HB1 := Lib.hid (below_box hb)
      clear hb
      go_wp2_with fail
      refine (ruleWrong_c _ E HE1.out 0 4 (by decide) (by decide)).mono ?_
      rintro e w2 ⟨rfl, he, hb2⟩
      have hP := ErrV.some he; rw [← hs.out] at hP
      have HP := Lib.hid hP
      have HB := Lib.hid (HB1.out.trans (hb2.mono HB1.out.size))
      clear he hb2 hP
      go_wp2_with fail
      go_ret
      exact ⟨_, rfl, HP.out, HB.out⟩
    · have hs : Hid (small K R T = none) := Lib.hid (by unfold small; rw [ho]; simp only; rw [if_neg (by rw [HL.out]; exact h256)])
      clear ho
      go_enter Tryz.func75, Tryz.ntmps75
      go_wp2_with fail
      refine (HCK.out).mono ?_
      rintro e w1 ⟨v, rfl, rfl, hb⟩
      obtain ⟨b0, b1, b2⟩ := box_cells hb
      have HB := Lib.hid (below_box hb)
      clear hb
      go_wp2_with fail
      go_ret
      exact ⟨_, rfl, by rw [hs.out]; rfl, HB.out⟩
end Go.Proofs.YtpllojpgpejfmaaGreatDoor

namespace Go.Proofs.YtpllojpgpejfmaaGreatDoor
open Go.RowKit

/-- The block holds a rule. -/
def RuleAt (w : World) (g : Nat) (x0 x1 x2 : Value) : Prop := w.heap[g]? = some (.cells #[x0, x1, x2] 26 (0, 0))
theorem RuleAt.facts {w : World} {g : Nat} {x0 x1 x2 : Value} (h : RuleAt w g x0 x1 x2) :
    w.cell? ⟨g, 0, none⟩ = some x0 ∧ w.cell? ⟨g, 1, none⟩ = some x1 ∧ w.cell? ⟨g, 2, none⟩ = some x2 ∧ w.frozen? ⟨g, 0, none⟩ = false ∧ w.frozen? ⟨g, 1, none⟩ = false ∧ w.frozen? ⟨g, 2, none⟩ = false := by
  obtain ⟨a, b, c, _⟩ := blk_cells h
  exact ⟨a, b, c, frozen_of_row _ _ 0 _ _ h, frozen_of_row _ _ 1 _ _ h, frozen_of_row _ _ 2 _ _ h⟩
theorem RuleAt.below {w w' : World} {g B : Nat} {x0 x1 x2 : Value} (h : RuleAt w g x0 x1 x2) (hb : Below B w w') (hg : g < B) : RuleAt w' g x0 x1 x2 := (hb.block g hg).trans h
theorem RuleAt.keeps {w w' : World} {g : Nat} {O : Nat → Prop} {x0 x1 x2 : Value} (h : RuleAt w g x0 x1 x2) (hk : Keeps O w w') (ho : ¬ O g) : RuleAt w' g x0 x1 x2 := (hk.block g (Array.getElem?_eq_some_iff.1 h).1 ho).trans h
theorem RuleAt.new (w : World) (x0 x1 x2 : Value) : RuleAt (w.alloc (.cells #[x0, x1, x2] 26)) w.heap.size x0 x1 x2 := heap_new _ _
theorem RuleAt.alloc {w : World} {g : Nat} {x0 x1 x2 : Value} (h : RuleAt w g x0 x1 x2) (o : Obj) : RuleAt (w.alloc o) g x0 x1 x2 := (Below.heap_alloc w o g (Array.getElem?_eq_some_iff.1 h).1).trans h
theorem RuleAt.lt {w : World} {g : Nat} {x0 x1 x2 : Value} (h : RuleAt w g x0 x1 x2) : g < w.heap.size := (Array.getElem?_eq_some_iff.1 h).1

theorem ErrIs.keeps {w w' : World} {E : Nat → Addr} {n : Nat} {O : Nat → Prop} (hk : Keeps O w w') (ho : ∀ k cs, O k → w.heap[k]? ≠ some (.cells cs 99 (0, 0))) : ∀ {l : List (ByteArray × Int)} {v : Value}, ErrIs w E n l v → ErrIs w' E n l v
  | [], _, h => h
  | (_, _) :: _, _, ⟨b, v', h1, h2, h3⟩ => ⟨b, v', h1, (hk.block b (Array.getElem?_eq_some_iff.1 h2).1 (fun hO => ho b _ hO h2)).trans h2, ErrIs.keeps hk ho h3⟩
theorem ErrIs.set3 {w : World} {E : Nat → Addr} {n g : Nat} {x0 x1 x2 : Value} {l : List (ByteArray × Int)} {v : Value} (h : ErrIs w E n l v) (hr : RuleAt w g x0 x1 x2) (u0 u1 u2 : Value) :
    ErrIs (((w.setCell ⟨g, 0, none⟩ u0).setCell ⟨g, 1, none⟩ u1).setCell ⟨g, 2, none⟩ u2) E n l v :=
  ErrIs.keeps (keeps_set3 w g u0 u1 u2) (fun k cs hk e => by subst hk; rw [show w.heap[k]? = _ from hr] at e; injection e with e; injection e with _ e; exact absurd e (by decide)) h
theorem own_set3 {w : World} {base e n g : Nat} {v : Value} {xs : List Value} {x0 x1 x2 : Value} (h : w.ownsRow base e 1 v n xs) (hr : RuleAt w g x0 x1 x2) (hne : e ≠ 26) (u0 u1 u2 : Value) :
    (((w.setCell ⟨g, 0, none⟩ u0).setCell ⟨g, 1, none⟩ u1).setCell ⟨g, 2, none⟩ u2).ownsRow base e 1 v n xs :=
  own_keeps h (keeps_set3 w g u0 u1 u2) (fun g' hg' e' => by subst e'; exact own_ne_blk h hr hne hg')
theorem RuleAt.set3 {w : World} {g : Nat} {x0 x1 x2 : Value} (h : RuleAt w g x0 x1 x2) (u0 u1 u2 : Value) : RuleAt (((w.setCell ⟨g, 0, none⟩ u0).setCell ⟨g, 1, none⟩ u1).setCell ⟨g, 2, none⟩ u2) g u0 u1 u2 := by
  unfold RuleAt at *
  have h0 := (Array.getElem?_eq_some_iff.1 h).1
  simp only [World.setCell]
  simp [Array.getElem?_modify, h]
end Go.Proofs.YtpllojpgpejfmaaGreatDoor

namespace Go.Proofs.YtpllojpgpejfmaaGreatDoor
open Go.RowKit

theorem sl_part {w : World} {A : Option Addr} {n : Nat} {xs : List Value} (h : Sl w A n xs) {i m : Nat} (_ : i + m ≤ n) : ∀ ad, A = some ad → ∀ (j : Nat) u, ((xs.drop i).take m)[j]? = some u → w.cell? ((ad.add i).add j) = some u := by
  intro ad e j u hu
  rw [List.getElem?_take] at hu
  split at hu
  · rw [List.getElem?_drop] at hu
    obtain ⟨ad', e', hc⟩ := h.2 _ _ hu
    rw [e] at e'
    cases e'
    rw [add_of_add]
    exact hc
  · cases hu


theorem own_le {w : World} {base e n c : Nat} {A : Option Addr} {xs : List Value} (h : w.ownsRow base e 1 (.slice A n c) n xs) : n ≤ c ∧ c ≤ maxLen := by
  obtain ⟨A', c', e, h1, h2⟩ := own_slice h
  cases e
  exact ⟨h1, h2⟩
theorem grown_keeps {w w1 : World} {o : Obj} {row : Option Nat} (h : ((w.alloc o).drew).grownBy w1 row) : Keeps (fun b => row = some b) w w1 :=
  (Keeps.of_pure (((Below.refl _ _).alloc (Nat.le_refl _) o).drew) (fun b => row = some b)).trans (Keeps.of_grown h) (fun _ _ h => h)

end Go.Proofs.YtpllojpgpejfmaaGreatDoor

namespace Go.Proofs.YtpllojpgpejfmaaGreatDoor
open Go.RowKit RuleP

theorem make_ints (w : World) (n : Nat) (h : n ≤ maxLen) : (w.alloc (.cells (madeCells #[.int .i64 0] n) 3)).ownsRow w.heap.size 3 1 (.slice (some ⟨w.heap.size, 0, none⟩) n n) n ((ints (List.replicate n 0)).map (Value.int .i64)) := by
  have := World.ownsRow_lit (base := w.heap.size) (e := 3) (size := 1) w (madeCells #[.int .i64 0] n) n (Nat.le_refl _) h (by rw [size_madeCells]; simp)
  rw [toList_madeCells_one] at this
  rw [ints_map, List.map_replicate]
  exact this
theorem ints_set (l : List Nat) (j x : Nat) : (ints l).set j (x : Int) = ints (l.set j x) := by simp [ints, List.map_set]
end Go.Proofs.YtpllojpgpejfmaaGreatDoor

namespace Go.Proofs.YtpllojpgpejfmaaGreatDoor
open Go.RowKit

set_option maxRecDepth 100000 in
/-- slices.Clone of numbers. -/
theorem clone_c (w : World) (A : Option Addr) (m c : Nat) (xs : List Value) (h1 : ∀ u ∈ xs, u.oneCell' = true) (hm : m * 8 ≤ 140737488355328) (h : Sl w A m xs) :
    Calls Tryz.prog 40 #[.slice A m c] w fun e w' => ∃ C cc, e = .returned (.slice C m cc) ∧ w'.ownsRow w.heap.size 3 1 (.slice C m cc) m xs ∧ Below w.heap.size w w' := by
  have hl : xs.length = m := h.1
  have HL := Lib.hid hl
  have H1 := Lib.hid h1
  clear hl h1
  cases A with
  | none =>
    have hle : xs = [] := by
      cases xs with
      | nil => rfl
      | cons y ys => obtain ⟨ad, e', _⟩ := h.2 0 y (by simp); cases e'
    subst hle
    obtain rfl : m = 0 := HL.out.symm
    have he := Lib.run_eql_slice_nil (P := Tryz.prog) w 24 3 none 0 c 0 0 tInts.und
    go_enter Tryz.func40, Tryz.ntmps40
    go_wp2
    go_ret
    exact ⟨none, 0, rfl, World.ownsRow_nil _ _ _ _, Below.refl _ _⟩
  | some ad =>
    have he := Lib.run_eql_slice_nil (P := Tryz.prog) w 24 3 (some ad) m c 0 0 tInts.und
    have hown0 := World.ownsRow_lit (base := w.heap.size) (e := 3) (size := 1) w #[] 0 (Nat.le_refl _) (Nat.zero_le _) rfl
    have hs := h.alloc (.cells #[] 3)
    go_enter Tryz.func40, Tryz.ntmps40
    go_wp2_with (at_builtin; refine wpList_cat rfl _ _ _ rfl tInts hown0 rfl hs rfl H1.out (by simp only [maxLen]; omega) (by omega) (by simp) ?_; intro v' w3 hown3 hg3 hat3 _)
    rw [Nat.zero_add] at hown3
    obtain ⟨C, cc, rfl, _, _⟩ := own_slice hown3
    go_ret
    refine ⟨C, cc, rfl, by simpa using hown3, ((Below.refl _ _).alloc (Nat.le_refl _) _).grown hg3 (by simp) (fun k hk => by simp [Value.ownBlock] at hk; omega)⟩
end Go.Proofs.YtpllojpgpejfmaaGreatDoor

namespace Go.Proofs.YtpllojpgpejfmaaGreatDoor
open Go.RowKit

theorem own_empty (w : World) (e : TypeId) : (w.alloc (.cells #[] e)).ownsRow w.heap.size e 1 (.slice (some ⟨w.heap.size, 0, none⟩) 0 0) 0 [] := by
  simpa using World.ownsRow_lit (base := w.heap.size) (e := e) (size := 1) w #[] 0 (Nat.le_refl _) (Nat.zero_le _) rfl

set_option maxRecDepth 100000 in
set_option maxHeartbeats 1000000 in
theorem copy_c (w : World) (A : Option Addr) (n c : Nat) (xs : List Value) (h : Sl w A n xs) (h1 : ∀ u ∈ xs, u.oneCell' = true) (hm : n * 8 ≤ 140737488355328) :
    Calls Tryz.prog 60 #[.slice A n c] w fun e w' => ∃ C cc, e = .returned (.slice C n cc) ∧ w'.ownsRow w.heap.size 3 1 (.slice C n cc) n xs ∧ Below w.heap.size w w' := by
  have H1 := Lib.hid h1
  have hl := h.alloc (.cells #[] 3)
  have ho := own_empty w 3
  clear h1 h
  go_enter Tryz.func60, Tryz.ntmps60
  go_wp2_with (at_builtin; refine wpList_cat rfl _ _ _ rfl tInts ho rfl hl rfl H1.out (by simp only [maxLen]; omega) (by omega) (by simp) ?_; intro v' w' hown hg hv hn)
  rw [Nat.zero_add, List.nil_append] at hown
  obtain ⟨C, cc, rfl, _, _⟩ := own_slice hown
  have hb : Below w.heap.size w w' := ((Below.refl w.heap.size w).alloc (Nat.le_refl _) _).trans ((Keeps.of_grown hg).below (by simp) (fun k hk => by simp [Value.ownBlock] at hk; omega))
  go_ret
  exact ⟨C, cc, rfl, hown, hb⟩
end Go.Proofs.YtpllojpgpejfmaaGreatDoor
