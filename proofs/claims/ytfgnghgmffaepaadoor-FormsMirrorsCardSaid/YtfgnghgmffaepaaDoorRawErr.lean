/- edenraw.Root, edenraw.Is, edenraw.New: what is asked of an error, and that the error is just that one. Condition: the error variables hold what E says; the variable that errors.As reads. -/
import Derived.Test.YtfgnghgmffaepaaDoorAs
import Derived.Test.YtfgnghgmffaepaaDoorIs
import Derived.Deep.RegionWith
import Derived.Deep.RegionHeld3
import Derived.OpenShut
namespace Go.Proofs.YtfgnghgmffaepaaDoor
open Go.RowKit

set_option maxHeartbeats 1000000 in
theorem rawRoot_c (w : World) (E : Nat → Addr) (hE : Errs w E) (n : Nat) (h1 : 1 ≤ n) (h2 : n ≤ 11) :
    Calls Tryd.prog 35 #[.int .i64 (n : Int)] w fun e w' => e = .returned (.iface 184 (.pointer (some (E n)))) ∧ w = w' := by
  obtain ⟨e1, e2, e3, e4, e5, e6, e7, e8, e9, e10, e11, e99⟩ := hE
  have hn : n = 1 ∨ n = 2 ∨ n = 3 ∨ n = 4 ∨ n = 5 ∨ n = 6 ∨ n = 7 ∨ n = 8 ∨ n = 9 ∨ n = 10 ∨ n = 11 := by omega
  clear h1 h2
  rcases hn with rfl | rfl | rfl | rfl | rfl | rfl | rfl | rfl | rfl | rfl | rfl
  all_goals
    go_enter Tryd.func35, Tryd.ntmps35
    go_wp2
    go_ret
    exact ⟨rfl, rfl⟩

/-- What errors.As reads of the package's own variable. -/
def ErrT (w : World) : Prop := w.cell? ⟨12, 0, none⟩ = some (.iface 123 (.agg #[.pointer (some ⟨17, 27, none⟩)]))
theorem ErrT.below {w w' : World} (h : ErrT w) (hb : Below w.heap.size w w') : ErrT w' := cell_later hb h

/-- The value is no error, or the error of the tale. -/
def ErrV (w : World) (E : Nat → Addr) : Option Tale → Value → Prop
  | none, v => v = .nilIface
  | some t, v => ErrIs w E t.1 t.2 v
/-- The value asks for no error, or for the error of the tale. -/
def WantV (w : World) : Option Tale → Value → Prop
  | none, u => u = .agg #[.int .i64 0, .slice none 0 0, .slice none 0 0]
  | some t, u => ∃ A1 c1 A2 c2, u = .agg #[.int .i64 (t.1 : Int), .slice A1 t.2.length c1, .slice A2 t.2.length c2] ∧ t.2.length ≤ c1 ∧ c1 ≤ 9223372036854775807 ∧ t.2.length ≤ c2 ∧ c2 ≤ 9223372036854775807 ∧ Sl w A1 t.2.length (t.2.map fun x => .string x.1) ∧ Sl w A2 t.2.length (t.2.map fun x => .int .i64 x.2)
theorem ErrV.below {w w' : World} {E : Nat → Addr} {t : Option Tale} {v : Value} (h : ErrV w E t v) (hb : Below w.heap.size w w') : ErrV w' E t v := by
  cases t with
  | none => exact h
  | some t => exact ErrIs.below hb h
theorem WantV.below {w w' : World} {t : Option Tale} {v : Value} (h : WantV w t v) (hb : Below w.heap.size w w') : WantV w' t v := by
  cases t with
  | none => exact h
  | some t =>
    obtain ⟨A1, c1, A2, c2, h1, p1, p2, p3, p4, h2, h3⟩ := h
    exact ⟨A1, c1, A2, c2, h1, p1, p2, p3, p4, h2.below hb, h3.below hb⟩

theorem as_b (w : World) (t : Addr) (b : Nat) (old : Value) (hT : ErrT w) (ht0 : w.cell? t = some old) (hf0 : w.frozen? t = false) :
    Calls Tryd.prog 36 #[errV b, .iface 69 (.pointer (some t))] w fun ev w' => ev = .returned (.bool true) ∧ w'.cell? t = some (.pointer (some ⟨b, 0, none⟩)) ∧ Keeps (fun k => k = t.block) w w' := by
  refine (as_hit ⟨b, 0, none⟩ t old w hT ht0 hf0).mono ?_
  rintro ev w' ⟨rfl, rfl⟩
  have htl : t.block < w.heap.size := World.block_lt_of_cell? _ _ ht0
  refine ⟨rfl, ?_, ?_⟩
  · refine World.cell?_setCell_same _ _ _ (u := old) ?_
    rw [World.cell?_alloc_lt _ _ t (by simp; omega), World.cell?_alloc_lt _ _ t (by simp; omega), World.cell?_alloc_lt _ _ t (by simp; omega), World.cell?_alloc_lt _ _ t htl, ht0]
  · refine Keeps.trans (O := fun k => k = t.block) (Keeps.of_pure ?_ (fun k => k = t.block)) (Keeps.of_setCell _ _ _) (fun _ _ h => h)
    exact ((((Below.refl _ _).alloc (Nat.le_refl _) _).alloc (by simp) _).alloc (by simp; omega) _).alloc (by simp; omega) _

set_option maxHeartbeats 1000000 in
theorem rawIs_none (w : World) (u : Value) (hu : WantV w none u) :
    Calls Tryd.prog 16 #[.nilIface, u] w fun e w' => e = .returned (.bool true) ∧ Below w.heap.size w w' := by
  obtain rfl := hu
  go_enter Tryd.func16, Tryd.ntmps16
  go_wp2_with fail
  go_ret
  exact ⟨rfl, (Below.refl _ _).alloc (Nat.le_refl _) _⟩

set_option maxRecDepth 100000 in
set_option maxHeartbeats 600000 in
theorem rawIs_some (w : World) (E : Nat → Addr) (hE : Errs w E) (hT : ErrT w) (n : Nat) (l : List (ByteArray × Int)) (h1 : 1 ≤ n) (h2 : n ≤ 11) (v u : Value) (hv : ErrIs w E n l v) (hu : WantV w (some (n, l)) u) :
    Calls Tryd.prog 16 #[v, u] w fun e w' => e = .returned (.bool true) ∧ Below w.heap.size w w' := by
  obtain ⟨A1, c1, A2, c2, rfl, p1, p2, p3, p4, s1, s2⟩ := hu
  obtain ⟨u1, q1, rfl⟩ := hv.iface
  simp only at p1 p3 s1 s2 ⊢
  have hn0 : ((n : Int) == 0) = false := by rw [beq_eq_false_iff_ne]; omega
  obtain ⟨L, hL⟩ : ∃ L, l.length = L := ⟨_, rfl⟩
  rw [hL] at p1 p3 s1 s2 ⊢
  have HL := Lib.hid hL
  have HV := Lib.hid hv
  have HE := Lib.hid hE
  have HT := Lib.hid hT
  clear hv hE hL hT
  have hb0 : Below w.heap.size w (w.alloc (.cells #[.int .i64 (n : Int), .slice A1 L c1, .slice A2 L c2] 43)) := (Below.refl _ _).alloc (Nat.le_refl _) _
  have hbox0 := heap_new w (.cells #[.int .i64 (n : Int), .slice A1 L c1, .slice A2 L c2] 43)
  have HB0 := Lib.hid hb0
  have HBX := Lib.hid hbox0
  clear hb0 hbox0
  go_enter Tryd.func16, Tryd.ntmps16
  go_wp2_with fail
  refine (rawRoot_c _ E (HE.out.below HB0.out) n h1 h2).mono ?_
  rintro e w' ⟨rfl, rfl⟩
  go_wp2_with fail
  refine (errorsIs_c _ E n l _ (HV.out.below HB0.out)).mono ?_
  rintro e w' ⟨rfl, rfl⟩
  go_wp2_with fail
  go_loopw [0, 5] (fun v i wr => ∃ (k : Nat) (u2 : TypeId) (q2 : Value), k ≤ L ∧ i = .int .i64 (k : Int) ∧ v = .iface u2 q2 ∧ Hid (ErrIs wr E n (l.drop k) (.iface u2 q2)) ∧ Hid (wr.heap[w.heap.size]? = some (.cells #[.int .i64 (n : Int), .slice A1 L c1, .slice A2 L c2] 43 (0, 0))) ∧ w.heap.size < wr.heap.size ∧ Below w.heap.size w wr) (fun _ i _ => L - (intOf i).toNat)
  case atStart => exact ⟨0, u1, q1, Nat.zero_le _, rfl, rfl, Lib.hid (by simpa using HV.out.below HB0.out), HBX, by simp, HB0.out⟩
  case round =>
    obtain ⟨k, u2, q2, hk, rfl, rfl, hv, hbox, hsz, hb⟩ := hrel
    obtain ⟨b0, b1, b2, _⟩ := blk_cells hbox.out
    by_cases hlt : k < L
    · obtain ⟨⟨op, at'⟩, hlk⟩ : ∃ x, l[k]? = some x := ⟨_, List.getElem?_eq_getElem (by rw [HL.out]; exact hlt)⟩
      have hdrop : l.drop k = (op, at') :: l.drop (k + 1) := by
        obtain ⟨hh, he⟩ := List.getElem?_eq_some_iff.1 hlk
        rw [List.drop_eq_getElem_cons hh, he]
      have hv2 := hv.out
      rw [hdrop] at hv2
      obtain ⟨b, v', hv3, hblk, hrest⟩ := hv2
      obtain ⟨rfl, rfl⟩ : u2 = 67 ∧ q2 = .pointer (some ⟨b, 0, none⟩) := by simpa [errV] using hv3
      obtain ⟨u3, q3, rfl⟩ := hrest.iface
      obtain ⟨ad1, x1, rfl, hx1, hc1⟩ := (s1.below hb).at_ hlt
      obtain ⟨ad2, x2, rfl, hx2, hc2⟩ := (s2.below hb).at_ hlt
      rw [List.getElem?_map, hlk] at hx1 hx2
      obtain rfl := Option.some.inj hx1
      obtain rfl := Option.some.inj hx2
      simp only at hc1 hc2
      obtain ⟨f0, f1, f2, _⟩ := blk_cells hblk
      have hwf : Below wr.heap.size wr (wr.alloc (.cells #[.pointer none] 67)) := (Below.refl _ _).alloc (Nat.le_refl _) _
      have has : ∀ wz, Below (wr.heap.size + 1) (wr.alloc (.cells #[.pointer none] 67)) wz → Calls Tryd.prog 36 #[errV b, .iface 69 (.pointer (some ⟨wr.heap.size, 0, none⟩))] wz fun ev w2 => ev = .returned (.bool true) ∧ w2.cell? ⟨wr.heap.size, 0, none⟩ = some (.pointer (some ⟨b, 0, none⟩)) ∧
          w2.cell? ⟨b, 0, none⟩ = some (.string op) ∧ w2.cell? ⟨b, 1, none⟩ = some (.int .i64 at') ∧ w2.cell? ⟨b, 2, none⟩ = some (.iface u3 q3) ∧ w2.cell? ⟨w.heap.size, 1, none⟩ = some (.slice (some ad1) L c1) ∧ w2.cell? ⟨w.heap.size, 2, none⟩ = some (.slice (some ad2) L c2) ∧
          w2.cell? (ad1.add k) = some (.string op) ∧ w2.cell? (ad2.add k) = some (.int .i64 at') ∧ Below wr.heap.size wr w2 := fun wz hz => (as_b wz ⟨wr.heap.size, 0, none⟩ b (.pointer none) ((HT.out.below hb).below (hwf.trans (hz.mono (by omega)))) (by rw [hz.cell (by simp)]; simp) (by rw [hz.frozen (by simp)]; exact frozen_of_row _ _ 0 _ _ (heap_new _ _))).mono fun ev w2 ⟨he, hc, hk⟩ => by
        have hB : Below wr.heap.size wr w2 := (hwf.trans (hz.mono (by omega))).trans (hk.below (by have := hwf.size; have := hz.size; omega) (fun k hk => by simp at hk; omega))
        exact ⟨he, hc, cell_later hB f0, cell_later hB f1, cell_later hB f2, cell_later hB b1, cell_later hB b2, cell_later hB hc1, cell_later hB hc2, hB⟩
      have HAS := Lib.hid has
      have HR := Lib.hid hrest
      have hnop : (op.toList != op.toList) = false := by simp
      have hnat : (at' != at') = false := by simp
      clear has hlk hdrop hrest hwf hv hx1 hx2 hv3 hblk
      unfold errV at HAS
      go_wp2_with fail
      refine wp_region_any (by kernel_rfl) ?_
      change wpAny _ _ _ _ _ _ _ (World.drew _)
      refine wpAny_take (i := 0) (v := ?_) rfl (by kernel_rfl) (by kernel_rfl) (by kernel_rfl) (fun _ _ _ h => h) (Or.inl ⟨by rfl, ?_⟩) ?_
      rotate_left
      · intro w; go_simp; with_reducible rfl
      refine wpAny_take (i := 1) (v := ?_) rfl (by kernel_rfl) (by kernel_rfl) (by kernel_rfl) (fun _ _ _ h => h) (Or.inl ⟨by rfl, ?_⟩) ?_
      rotate_left
      · intro w; go_simp; with_reducible rfl
      refine wpAny_ready (rs := [2]) (by kernel_rfl) (by simp) ?_
      refine AllReady.cons rfl (fun K hK => ?_) AllReady.nil
      go_simp
      refine (HAS.out _ (Below.refl _ _).drew).mono ?_
      rintro e w2 ⟨rfl, hcf, z0, z1, z2, z3, z4, z5, z6, hB⟩
      go_simp
      refine hK _ _ ?_
      clear hK K
      refine wpAny_quiet_from _ 3 (by kernel_rfl) rfl rfl (by kernel_rfl) ?_
      repeat (first | go_big_quiet_step (fail) | quiet_step (fail))
      refine wpQuiet_nil ?_
      intro _ hw'
      obtain ⟨nq, hw''⟩ := hw'
      subst hw''
      have hB2 := below_drewN hB nq
      have hsz2 := hB.size
      have hv2 : Hid (ErrIs (w2.drewN nq) E n (l.drop (k + 1)) (.iface u3 q3)) := Lib.hid (HR.out.below hB2)
      have hbox2 : Hid ((w2.drewN nq).heap[w.heap.size]? = some (.cells #[.int .i64 (n : Int), .slice (some ad1) L c1, .slice (some ad2) L c2] 43 (0, 0))) := Lib.hid ((hB2.block _ hsz).trans hbox.out)
      have hb2 := hb.trans (hB2.mono hb.size)
      clear HAS HR hB hB2 hbox hb
      go_wp2_with fail
      go_roundw
      case rel => exact ⟨k + 1, u3, q3, by omega, by go_num, rfl, hv2, hbox2, by simp; omega, hb2⟩
      case measure => simp [intOf]; omega
    · obtain rfl : k = L := by omega
      have hv2 := hv.out
      rw [List.drop_of_length_le (by rw [HL.out]; exact Nat.le_refl _)] at hv2
      obtain ⟨rfl, rfl⟩ : u2 = 184 ∧ q2 = .pointer (some (E n)) := by simpa [ErrIs] using hv2
      have HEb := Lib.hid (HE.out.below hb)
      clear hv hv2
      obtain ⟨i, hi, hcmp⟩ := Option.map_eq_some_iff.1 is_comp
      obtain ⟨j, hj, hjs⟩ := Option.map_eq_some_iff.1 is_size
      have heq := run_eql_iface_ptr_same (P := Tryd.prog) wr (E n) Tryd.underlying27 Tryd.underlying184 hi hcmp hj
      go_wp2_with fail
      refine (rawRoot_c _ E HEb.out n h1 h2).mono ?_
      rintro e w' ⟨rfl, rfl⟩
      go_wp2_with fail
      go_ret
      exact ⟨rfl, hb⟩

/-- edenraw.Is of the error that is asked for. -/
theorem rawIs_c (w : World) (E : Nat → Addr) (hE : Errs w E) (hT : ErrT w) (t : Option Tale) (ht : TaleOk t) (v u : Value) (hv : ErrV w E t v) (hu : WantV w t u) :
    Calls Tryd.prog 16 #[v, u] w fun e w' => e = .returned (.bool true) ∧ Below w.heap.size w w' := by
  cases t with
  | none => obtain rfl : v = .nilIface := hv; exact rawIs_none w u hu
  | some t => exact rawIs_some w E hE hT t.1 t.2 (ht t rfl).1 (ht t rfl).2 v u hv hu

/-- edenraw.New: what an error must be that one package tells. -/
theorem rawNew_x (w : World) (op : ByteArray) (at' : Int) (n : Nat) :
    Calls Tryd.prog 17 #[.string op, .int .i64 at', .int .i64 (n : Int)] w fun e w' => e = .returned (.agg #[.int .i64 (n : Int), .slice (some ⟨w.heap.size + 1, 0, none⟩) 1 1, .slice (some ⟨w.heap.size + 1 + 1, 0, none⟩) 1 1]) ∧
      Sl w' (some ⟨w.heap.size + 1, 0, none⟩) 1 [.string op] ∧ Sl w' (some ⟨w.heap.size + 1 + 1, 0, none⟩) 1 [.int .i64 at'] ∧ Below w.heap.size w w' := by
  go_enter Tryd.func17, Tryd.ntmps17
  go_wp2_with fail
  have hl1 : Sl (((w.alloc (.cells #[.int .i64 (n : Int), .slice (some ⟨w.heap.size + 1, 0, none⟩) 1 1, .slice (some ⟨w.heap.size + 1 + 1, 0, none⟩) 1 1] 43)).alloc (.cells #[.string op] 9)).alloc (.cells #[.int .i64 at'] 3)) (some ⟨w.heap.size + 1, 0, none⟩) 1 [.string op] :=
    Sl.alloc ⟨rfl, fun k v hv => ⟨_, rfl, by rcases k with _ | k; simp at hv; subst hv; simp [Addr.add, World.cell?_alloc_at]; simp at hv⟩⟩ _
  have hl2 : Sl (((w.alloc (.cells #[.int .i64 (n : Int), .slice (some ⟨w.heap.size + 1, 0, none⟩) 1 1, .slice (some ⟨w.heap.size + 1 + 1, 0, none⟩) 1 1] 43)).alloc (.cells #[.string op] 9)).alloc (.cells #[.int .i64 at'] 3)) (some ⟨w.heap.size + 1 + 1, 0, none⟩) 1 [.int .i64 at'] :=
    ⟨rfl, fun k v hv => ⟨_, rfl, by rcases k with _ | k; simp at hv; subst hv; simp [Addr.add, World.cell?_alloc_at]; simp at hv⟩⟩
  exact bodyPost_ret (v := .agg #[.int .i64 (n : Int), .slice (some ⟨w.heap.size + 1, 0, none⟩) 1 1, .slice (some ⟨w.heap.size + 1 + 1, 0, none⟩) 1 1]) (by simp [results, Tryd.results17, go_sem]) rfl
    ⟨rfl, hl1, hl2, (((Below.refl _ _).alloc (Nat.le_refl _) _).alloc (by simp) _).alloc (by simp; omega) _⟩
theorem want_of {w : World} {n : Nat} {op : ByteArray} {i : Int} {A B : Option Addr} (h1 : Sl w A 1 [.string op]) (h2 : Sl w B 1 [.int .i64 i]) : WantV w (some (n, [(op, i)])) (.agg #[.int .i64 (n : Int), .slice A 1 1, .slice B 1 1]) :=
  ⟨_, _, _, _, rfl, Nat.le_refl _, by decide, Nat.le_refl _, by decide, h1, h2⟩
theorem rawNew_c (w : World) (op : ByteArray) (at' : Int) (n : Nat) :
    Calls Tryd.prog 17 #[.string op, .int .i64 at', .int .i64 (n : Int)] w fun e w' => ∃ u, e = .returned u ∧ WantV w' (some (n, [(op, at')])) u ∧ Below w.heap.size w w' :=
  (rawNew_x w op at' n).mono fun _ _ ⟨h1, h2, h3, h4⟩ => ⟨_, h1, want_of h2 h3, h4⟩

end Go.Proofs.YtfgnghgmffaepaaDoor
