/- append(s, x...) in a region that draws its order. Plain laws, no program. No condition. What an error must be that another package tells further: edenraw.Under. Condition: the value reads from memory. Is an error asked for: Err.Bad. No condition. The document's answers of chapters 03 and 04: edenref03.Bad, edenref04.Power, Size, Check, Small. Condition: lists read from memory. The document's overlap: edenref08.Fault, WordFault, Count, Nodes. Condition: the lists read from memory. A word's fault: edenref08.WordFault. Condition: the word reads from memory. -/
import Derived.Deep.RegionHeld3
import Derived.StillTailTactics
import Derived.Test.YthilnpfpllplaaaGreatDoorS6
import Derived.Test.YthilnpfpllplaaaGreatDoorS7
import Derived.Test.YthilnpfpllplaaaGreatDoorS13
namespace Go.Proofs.YthilnpfpllplaaaGreatDoor
open Go.RowKit

theorem run_cat {P : Program} (w : World) (t ty : TypeId) {e : TypeId} {z : Value} {bytes : Nat} (hT : ElemT P t e z bytes) {base : Nat} {v : Value} {n : Nat} {xs : List Value} (hown : w.ownsRow base e 1 v n xs)
    {A : Option Addr} {m c : Nat} {ys : List Value} (hsl : Sl w A m ys) (hu : ∀ u ∈ ys, u.oneCell' = true) (h63 : n + m ≤ maxLen) (hbytes : (n + m) * bytes ≤ 140737488355328) (hbase : base ≤ w.heap.size) :
    ∃ v' w', (Builtin.append_ #[t, t] ty #[v, .slice A m c]).run P w = .ok v' w' ∧ w'.ownsRow base e 1 v' (n + m) (xs ++ ys) ∧ w.grownBy w' v.ownBlock ∧ (v'.ownBlock = v.ownBlock ∨ v'.ownBlock = some w.heap.size) := by
  obtain ⟨i, hi, hz, hz1, hz2⟩ := info_parts hT.info
  cases A with
  | none =>
    have hys : ys = [] := by
      cases ys with
      | nil => rfl
      | cons y ys => obtain ⟨ad, e', _⟩ := hsl.2 0 y (by simp); cases e'
    subst hys
    have hm : m = 0 := by have := hsl.1; simpa using this.symm
    subst hm
    exact ⟨v, w, run_append_of_nil (P := P) (w := w) (t := t) (ty := ty) hT.und hi hown c, by simpa using hown, World.grownBy.refl _ _, .inl rfl⟩
  | some ad =>
    obtain ⟨v', w', h1, h2, h3, _, h5⟩ := run_append_own_at (P := P) w base t ty e i z 1 bytes hT.und hi hz hz1 hz2 (by rw [hT.one]; rfl) (by decide) v n xs hown ad m c ys (by rw [hsl.1]; simp) (fun j u hj => by
      obtain ⟨ad', e', hc⟩ := hsl.2 j u hj
      cases e'
      exact hc) hu h63 hbytes hbase
    exact ⟨v', w', h1, h2, h3, h5⟩

/-- At a step of a region that draws its order. -/
theorem step_cat {P : Program} {w : World} {ops : Array Oper} {o : Oper} {a : Act} {K : Act → World → Prop} {Q : Exit → Act → World → Prop} {F : Prop} (hw : Region.wanted o (yielded ops a.tmps) = true) (s x : Operand) (t : TypeId)
    (ho : o.op = .call { callee := .builtin .append, args := #[s, x], argTypes := #[t, t] }) {e : TypeId} {z : Value} {bytes : Nat} (hT : ElemT P t e z bytes)
    {base : Nat} {v : Value} {n : Nat} {xs : List Value} (hown : w.ownsRow base e 1 v n xs) (hs : a.eval s = v) {A : Option Addr} {m c : Nat} {ys : List Value} (hsl : Sl w A m ys) (hx : a.eval x = .slice A m c) (hu : ∀ u ∈ ys, u.oneCell' = true)
    (h63 : n + m ≤ maxLen) (hbytes : (n + m) * bytes ≤ 140737488355328) (hbase : base ≤ w.heap.size)
    (h : ∀ C cc w', w'.ownsRow base e 1 (.slice C (n + m) cc) (n + m) (xs ++ ys) → w.grownBy w' v.ownBlock → ((Value.slice C (n + m) cc).ownBlock = v.ownBlock ∨ (Value.slice C (n + m) cc).ownBlock = some w.heap.size) → K (a.put o.dst (.slice C (n + m) cc)) w') :
    if Region.wanted o (yielded ops a.tmps) = true then Oper.wp P o a w K Q else F := by
  rw [if_pos hw]
  obtain ⟨v', w', hr, h2, h3, h4⟩ := run_cat (P := P) w t o.type hT hown hsl (c := c) hu h63 hbytes hbase
  obtain ⟨C, cc, rfl, _, _⟩ := own_slice h2
  unfold Oper.wp execOp
  simp only [ho, resolve, invoke, builtin, Sem.run_bind, Sem.run_pure, Result.andThen_ok, List.map_toArray, List.map_cons, List.map_nil, hs, hx, hr]
  exact h C cc w' h2 h3 h4
end Go.Proofs.YthilnpfpllplaaaGreatDoor

namespace Go.Proofs.YthilnpfpllplaaaGreatDoor
open Go.RowKit

theorem tStrs : ElemT Tryz.prog 32 9 (.string ⟨#[]⟩) 16 := ⟨Tryz.underlying32, by kernel_rfl, rfl⟩
theorem strs_one (l : List (ByteArray × Int)) : ∀ u ∈ l.map (fun x => Value.string x.1), u.oneCell' = true := by
  intro u hu
  obtain ⟨x, _, rfl⟩ := List.mem_map.1 hu
  rfl
theorem ats_one (l : List (ByteArray × Int)) : ∀ u ∈ l.map (fun x => Value.int .i64 x.2), u.oneCell' = true := by
  intro u hu
  obtain ⟨x, _, rfl⟩ := List.mem_map.1 hu
  rfl
theorem own_lit1 (w : World) (u : Value) (e : TypeId) : (w.alloc (.cells #[u] e)).ownsRow w.heap.size e 1 (.slice (some ⟨w.heap.size, 0, none⟩) 1 1) 1 [u] :=
  World.ownsRow_lit (base := w.heap.size) (e := e) (size := 1) w #[u] 1 (Nat.le_refl _) (by decide) rfl

theorem grown_lit {wx wa w' : World} {g n c : Nat} (hk : Below wx.heap.size wx wa) (hg : wa.grownBy w' (Value.slice (some ⟨g, 0, none⟩) n c).ownBlock) (h : wx.heap.size ≤ g) : Below wx.heap.size wx w' :=
  hk.grown hg hk.size (fun k hk => by simp [Value.ownBlock] at hk; omega)
theorem own_other {w w' : World} {base e n n' c c' a b : Nat} {xs : List Value} (h : w.ownsRow base e 1 (.slice (some ⟨a, 0, none⟩) n c) n xs) (hg : w.grownBy w' (Value.slice (some ⟨b, 0, none⟩) n' c').ownBlock) (hne : a ≠ b) : w'.ownsRow base e 1 (.slice (some ⟨a, 0, none⟩) n c) n xs :=
  own_keeps h (Keeps.of_grown hg) (fun k hk e => by simp [Value.ownBlock] at hk e; omega)

theorem own_apart {w w' : World} {b b' e e' n n' : Nat} {v v' : Value} {xs xs' : List Value} (h : w.ownsRow b e 1 v n xs) (h' : w.ownsRow b' e' 1 v' n' xs') (hne : e ≠ e') (hg : w.grownBy w' v'.ownBlock) : w'.ownsRow b e 1 v n xs :=
  own_keeps h (Keeps.of_grown hg) (fun _ hk e => own_ne_own h h' hne hk e)

theorem under_end {w wx w22 : World} {op : ByteArray} {at' : Int} {t : Tale} {M : Nat} {C1 C2 : Option Addr} {d1 d2 : Nat} (hM : t.2.length = M) (hb : Below w.heap.size w wx) (hlx : w.heap.size + 1 < wx.heap.size) (hk : Below wx.heap.size wx w22) {x0 x1 x2 : Value} (hr : WantAt w22 (w.heap.size + 1) x0 x1 x2)
    (h1 : w22.ownsRow wx.heap.size 9 1 (.slice C1 (1 + M) d1) (1 + M) ([.string op] ++ t.2.map fun x => Value.string x.1)) (h2 : w22.ownsRow wx.heap.size 3 1 (.slice C2 (1 + M) d2) (1 + M) ([.int .i64 at'] ++ t.2.map fun x => Value.int .i64 x.2)) (u0 u1 u2 : Value) :
    WantB (((w22.setCell ⟨w.heap.size + 1, 0, none⟩ u0).setCell ⟨w.heap.size + 1, 1, none⟩ u1).setCell ⟨w.heap.size + 1, 2, none⟩ u2) w.heap.size (under op at' (some t)) (.agg #[.int .i64 (t.1 : Int), .slice C1 (1 + M) d1, .slice C2 (1 + M) d2]) ∧
      Below w.heap.size w (((w22.setCell ⟨w.heap.size + 1, 0, none⟩ u0).setCell ⟨w.heap.size + 1, 1, none⟩ u1).setCell ⟨w.heap.size + 1, 2, none⟩ u2) := by
  subst hM
  have g1 := own_setW h1 hr (by decide) u0 u1 u2
  have g2 := own_setW h2 hr (by decide) u0 u1 u2
  obtain ⟨e1, e2⟩ := own_le h1
  obtain ⟨e3, e4⟩ := own_le h2
  unfold maxLen at e2 e4
  rw [Nat.add_comm 1 t.2.length] at e1 e3 g1 g2 ⊢
  refine ⟨⟨t.1, C1, t.2.length + 1, d1, C2, t.2.length + 1, d2, rfl, ⟨C1, d1, C2, d2, rfl, e1, by omega, e3, by omega, Sl.of_own g1, Sl.of_own g2⟩, fun ad e => ?_, fun ad e => ?_, rfl⟩, below_set3 (hb.trans (hk.mono hb.size)) (Nat.le_succ _) _ _ _⟩
  · have := (h1.lt ad.block (by rw [e]; rfl)).1; omega
  · have := (h2.lt ad.block (by rw [e]; rfl)).1; omega

set_option maxRecDepth 100000 in
set_option maxHeartbeats 4000000 in
theorem rawUnder_c (w : World) (op : ByteArray) (at' : Int) (base : Nat) (t : Option Tale) (N : Nat) (A1 : Option Addr) (n1 c1 : Nat) (A2 : Option Addr) (n2 c2 : Nat) (h : WantB w base t (.agg #[.int .i64 (N : Int), .slice A1 n1 c1, .slice A2 n2 c2])) (ht : TaleOk t) (hl : ∀ x, t = some x → x.2.length ≤ 100000) :
    Calls Tryz.prog 75 #[.string op, .int .i64 at', .agg #[.int .i64 (N : Int), .slice A1 n1 c1, .slice A2 n2 c2]] w fun e w' => ∃ (N : Nat) (A1 : Option Addr) (n1 c1 : Nat) (A2 : Option Addr) (n2 c2 : Nat), e = .returned (.agg #[.int .i64 (N : Int), .slice A1 n1 c1, .slice A2 n2 c2]) ∧
      WantB w' w.heap.size (under op at' t) (.agg #[.int .i64 (N : Int), .slice A1 n1 c1, .slice A2 n2 c2]) ∧ Below w.heap.size w w' := by
  have hu0 := (WantAt.new w (.int .i64 (N : Int)) (.slice A1 n1 c1) (.slice A2 n2 c2)).alloc (.cells #[.int .i64 0, .slice none 0 0, .slice none 0 0] 34)
  have hr0 := WantAt.new (w.alloc (.cells #[.int .i64 (N : Int), .slice A1 n1 c1, .slice A2 n2 c2] 34)) (.int .i64 0) (.slice none 0 0) (.slice none 0 0)
  rw [World.size_alloc] at hr0
  have hb0 := ((Below.refl w.heap.size w).alloc (Nat.le_refl _) (.cells #[.int .i64 (N : Int), .slice A1 n1 c1, .slice A2 n2 c2] 34)).alloc (by simp) (.cells #[.int .i64 0, .slice none 0 0, .slice none 0 0] 34)
  obtain ⟨wx, hwx⟩ : ∃ wx, (w.alloc (.cells #[.int .i64 (N : Int), .slice A1 n1 c1, .slice A2 n2 c2] 34)).alloc (.cells #[.int .i64 0, .slice none 0 0, .slice none 0 0] 34) = wx := ⟨_, rfl⟩
  have hsx : wx.heap.size = w.heap.size + 2 := by rw [← hwx]; simp
  have HWX := Lib.hid hwx
  rw [hwx] at hu0 hr0 hb0
  have hnum := h.num
  obtain ⟨u0, u1, u2, _⟩ := hu0.facts
  obtain ⟨d0, d1, d2, f0, f1, f2⟩ := hr0.facts
  cases t with
  | none =>
    have hz := h.none_eq
    injection hz with hz
    injection hz with hz
    injection hz with z0 hz
    injection hz with z1 hz
    injection hz with z2 _
    injection z1 with z11 z12 z13
    injection z2 with z21 z22 z23
    subst z11 z12 z13 z21 z22 z23
    obtain rfl : N = 0 := hnum
    have HB := Lib.hid (below_set3 hb0 (Nat.le_succ w.heap.size) (.int .i64 0) (.slice none 0 0) (.slice none 0 0))
    clear hu0 hr0 hb0 hwx z0 h ht hl
    go_enter Tryz.func75, Tryz.ntmps75
    go_wp2_with fail
    exact bodyPost_ret (v := .agg #[.int .i64 0, .slice none 0 0, .slice none 0 0]) (by simp [results, Tryz.results75, go_sem]) rfl ⟨0, none, 0, 0, none, 0, 0, rfl, WantB.zero _ _, by have h9 := HB.out; rw [← HWX.out] at h9; first | exact h9 | simpa [go_sem] using h9⟩
  | some t =>
    have hN := (ht t rfl).1
    have hll := hl t rfl
    obtain ⟨B1, b1, B2, b2, he, p1, p2, p3, p4, s1, s2⟩ := h.want
    injection he with he
    injection he with he
    injection he with z0 he
    injection he with z1 he
    injection he with z2 _
    injection z1 with z11 z12 z13
    injection z2 with z21 z22 z23
    subst z11 z12 z13 z21 z22 z23
    obtain rfl : N = t.1 := hnum
    have hNz : ¬ t.1 = 0 := by omega
    have hNz2 : ((t.1 : Int) == 0) = false := by simp; omega
    obtain ⟨M, hM⟩ : ∃ M, t.2.length = M := ⟨_, rfl⟩
    rw [hM] at s1 s2 hll p1 p3 u1 u2 hu0 hwx ⊢
    have hbx := (Below.refl w.heap.size w).trans hb0
    have hS1 : Sl wx A1 M (t.2.map fun x => Value.string x.1) := by subst hwx; exact s1.below (hb0)
    have hS2 : Sl wx A2 M (t.2.map fun x => Value.int .i64 x.2) := by subst hwx; exact s2.below (hb0)
    have hS1d : Sl wx.drew A1 M _ := hS1
    have hS2d : Sl wx.drew A2 M _ := hS2
    -- the rows of one element each, by the order in which they are laid
    have a1 := own_lit1 wx.drew (.string op) 9
    have i1 := own_lit1 wx.drew (.int .i64 at') 3
    have a2 := a1.alloc (.cells #[.int .i64 at'] 3)
    have b2 : ((wx.drew.alloc (.cells #[.string op] 9)).alloc (.cells #[.int .i64 at'] 3)).ownsRow wx.heap.size 3 1 (.slice (some ⟨wx.heap.size + 1, 0, none⟩) 1 1) 1 [.int .i64 at'] := by
      have h0 := own_lit1 (wx.drew.alloc (.cells #[.string op] 9)) (.int .i64 at') 3
      rw [World.size_alloc] at h0
      exact own_base h0 (Nat.le_succ _)
    have a3 : ((wx.drew.alloc (.cells #[.int .i64 at'] 3)).alloc (.cells #[.string op] 9)).ownsRow wx.heap.size 9 1 (.slice (some ⟨wx.heap.size + 1, 0, none⟩) 1 1) 1 [.string op] := by
      have h0 := own_lit1 (wx.drew.alloc (.cells #[.int .i64 at'] 3)) (.string op) 9
      rw [World.size_alloc] at h0
      exact own_base h0 (Nat.le_succ _)
    have b3 := i1.alloc (.cells #[.string op] 9)
    have k1 := (Below.refl wx.drew.heap.size wx.drew).alloc (Nat.le_refl _) (.cells #[.string op] 9)
    have k2 := k1.alloc k1.size (.cells #[.int .i64 at'] 3)
    have j1 := (Below.refl wx.drew.heap.size wx.drew).alloc (Nat.le_refl _) (.cells #[.int .i64 at'] 3)
    have k3 := j1.alloc j1.size (.cells #[.string op] 9)
    have K1 := Lib.hid k1
    have K2 := Lib.hid k2
    have K3 := Lib.hid k3
    have K9 := Lib.hid (show wx.drew.heap.size ≤ (wx.drew.alloc (.cells #[.int .i64 at'] 3)).heap.size by simp)
    have K8 := Lib.hid (show wx.drew.heap.size ≤ (wx.drew.alloc (.cells #[.string op] 9)).heap.size by simp)
    have HNE := Lib.hid (show 9 ≠ 3 by decide)
    have HA1 := Lib.hid a1
    have HA2 := Lib.hid a2
    have HA3 := Lib.hid a3
    have HB2 := Lib.hid b2
    have HB3 := Lib.hid b3
    have HS1 := Lib.hid hS1d
    have HS2 := Lib.hid hS2d
    have HU := Lib.hid hu0
    have HR := Lib.hid (show WantAt wx.drew (w.heap.size + 1) (.int .i64 0) (.slice none 0 0) (.slice none 0 0) from hr0)
    have HB0 := Lib.hid (show Below w.heap.size w wx.drew from hb0.drew)
    have HO1 := Lib.hid (strs_one t.2)
    have HO2 := Lib.hid (ats_one t.2)
    have HWX2 := Lib.hid hwx
    have hlx : w.heap.size < wx.heap.size := by omega
    have hlx1 : w.heap.size + 1 < wx.heap.size := by omega
    have HLX1 := Lib.hid hlx1
    clear a1 i1 a2 b2 a3 b3 k1 k2 j1 k3 hS1d hS2d hS1 hS2 s1 s2 hu0 hr0 hb0 hbx hwx h hl ht hsx
    go_enter Tryz.func75, Tryz.ntmps75
    go_wp2_with fail
    rw [HWX2.out]
    go_region_held3 (fun w' => w'.cell? ⟨w.heap.size, 0, none⟩ = some (.int .i64 (t.1 : Int)) ∧ w'.cell? ⟨w.heap.size, 1, none⟩ = some (.slice A1 M c1) ∧ w'.cell? ⟨w.heap.size, 2, none⟩ = some (.slice A2 M c2))
      (first | (refine ⟨?_, ?_, ?_⟩ <;> assumption) | go_keep)
      (first
        | (refine step_cat ?_ (.tmp 14) (.tmp 16) 32 rfl tStrs (base := wx.heap.size) (v := .slice (some ⟨wx.heap.size + 1, 0, none⟩) 1 1) (n := 1) (xs := [.string op]) ?_ rfl (ys := t.2.map fun x => Value.string x.1) ?_ rfl HO1.out ?_ ?_ ?_ ?_
           · rfl
           · exact HA3.out
           · exact HS1.out.below K3.out
           · (simp only [maxLen]; omega)
           · omega
           · exact K3.out.size
           intro C17 cc17 w17 hown17 hg17 hor17
           have hk17 := grown_lit K3.out hg17 (Nat.le_succ _)
           have hI17 := own_other HB3.out hg17 (Nat.succ_ne_self _).symm
           have hst17 := HS2.out.below hk17
           have q0 := cell_later hk17 u0
           have q1 := cell_later hk17 u1
           have q2 := cell_later hk17 u2)
        | (refine step_cat ?_ (.tmp 14) (.tmp 16) 32 rfl tStrs (base := wx.heap.size) (v := .slice (some ⟨wx.heap.size, 0, none⟩) 1 1) (n := 1) (xs := [.string op]) ?_ rfl (ys := t.2.map fun x => Value.string x.1) ?_ rfl HO1.out ?_ ?_ ?_ ?_
           · rfl
           · first | exact HA1.out | exact HA2.out
           · first | exact HS1.out.below K1.out | exact HS1.out.below K2.out
           · (simp only [maxLen]; omega)
           · omega
           · first | exact K1.out.size | exact K2.out.size
           intro C17 cc17 w17 hown17 hg17 hor17
           first
             | (have hk17 := grown_lit K1.out hg17 (Nat.le_refl _)
                have hst17 := HS2.out.below hk17)
             | (have hk17 := grown_lit K2.out hg17 (Nat.le_refl _)
                have hI17 := own_other HB2.out hg17 (Nat.succ_ne_self _)
                have hst17 := HS2.out.below hk17)
           have q0 := cell_later hk17 u0
           have q1 := cell_later hk17 u1
           have q2 := cell_later hk17 u2)
        | (refine step_cat ?_ (.tmp 19) (.tmp 21) 22 rfl tInts (base := wx.heap.size) (v := .slice (some ⟨wx.heap.size, 0, none⟩) 1 1) (n := 1) (xs := [.int .i64 at']) ?_ rfl (ys := t.2.map fun x => Value.int .i64 x.2) ?_ rfl HO2.out ?_ ?_ ?_ ?_
           · rfl
           · exact hI17
           · exact hst17
           · (simp only [maxLen]; omega)
           · omega
           · exact hk17.size
           intro C22 cc22 w22 hown22 hg22 hor22
           have hk22 := grown_lit hk17 hg22 (Nat.le_refl _)
           have hS22 := own_apart hown17 hI17 HNE.out hg22
           have t0 := cell_later hk22 u0
           have t1 := cell_later hk22 u1
           have t2 := cell_later hk22 u2
           have r22 := HR.out.below hk22 HLX1.out
           obtain ⟨v0, v1, v2, g0, g1, g2⟩ := r22.facts)
        | (refine step_cat ?_ (.tmp 19) (.tmp 21) 22 rfl tInts (base := wx.heap.size) (v := .slice (some ⟨wx.heap.size + 1, 0, none⟩) 1 1) (n := 1) (xs := [.int .i64 at']) ?_ rfl (ys := t.2.map fun x => Value.int .i64 x.2) ?_ rfl HO2.out ?_ ?_ ?_ ?_
           · rfl
           · exact hI17
           · exact hst17
           · (simp only [maxLen]; omega)
           · omega
           · exact hk17.size
           intro C22 cc22 w22 hown22 hg22 hor22
           have hk22 := grown_lit hk17 hg22 (Nat.le_succ _)
           have hS22 := own_apart hown17 hI17 HNE.out hg22
           have t0 := cell_later hk22 u0
           have t1 := cell_later hk22 u1
           have t2 := cell_later hk22 u2
           have r22 := HR.out.below hk22 HLX1.out
           obtain ⟨v0, v1, v2, g0, g1, g2⟩ := r22.facts)
        | (refine step_cat ?_ (.tmp 19) (.tmp 21) 22 rfl tInts (base := wx.heap.size) (v := .slice (some ⟨w17.heap.size, 0, none⟩) 1 1) (n := 1) (xs := [.int .i64 at']) ?_ rfl (ys := t.2.map fun x => Value.int .i64 x.2) ?_ rfl HO2.out ?_ ?_ ?_ ?_
           · rfl
           · exact own_base (own_lit1 w17 (.int .i64 at') 3) hk17.size
           · exact hst17.alloc _
           · (simp only [maxLen]; omega)
           · omega
           · exact (hk17.alloc hk17.size _).size
           intro C22 cc22 w22 hown22 hg22 hor22
           have hk22 := grown_lit (hk17.alloc hk17.size _) hg22 hk17.size
           have hS22 := own_apart (hown17.alloc _) (own_lit1 w17 (.int .i64 at') 3) HNE.out hg22
           have t0 := cell_later hk22 u0
           have t1 := cell_later hk22 u1
           have t2 := cell_later hk22 u2
           have r22 := HR.out.below hk22 HLX1.out
           obtain ⟨v0, v1, v2, g0, g1, g2⟩ := r22.facts))
    all_goals
      obtain ⟨hwb, hbb⟩ := under_end hM HB0.out HLX1.out hk22 r22 hS22 hown22 (.int .i64 (t.1 : Int)) (.slice C17 (1 + M) cc17) (.slice C22 (1 + M) cc22)
      have HWB := Lib.hid hwb
      have HBB := Lib.hid hbb
      clear hwb hbb hS22 hown22 hk22 r22
      go_wp2_with fail
      exact bodyPost_ret (v := .agg #[.int .i64 (t.1 : Int), .slice C17 (1 + M) cc17, .slice C22 (1 + M) cc22]) (by simp [results, Tryz.results75, go_sem, v0, v1, v2]) rfl ⟨t.1, C17, 1 + M, cc17, C22, 1 + M, cc22, rfl, HWB.out, HBB.out⟩
end Go.Proofs.YthilnpfpllplaaaGreatDoor

namespace Go.Proofs.YthilnpfpllplaaaGreatDoor
open Go.RowKit

theorem errBad_c (w : World) (N : Nat) (A1 : Option Addr) (n1 c1 : Nat) (A2 : Option Addr) (n2 c2 : Nat) :
    Calls Tryz.prog 40 #[.agg #[.int .i64 (N : Int), .slice A1 n1 c1, .slice A2 n2 c2]] w fun e w' => e = .returned (.bool (decide (N ≠ 0))) ∧ Below w.heap.size w w' := by
  have hd : ((N : Int) != 0) = decide (N ≠ 0) := by
    by_cases h : N = 0
    · subst h; rfl
    · rw [decide_eq_true h]; simp; exact h
  go_enter Tryz.func40, Tryz.ntmps40
  go_wp2_with fail
  go_ret
  exact ⟨by first | rfl | rw [hd] | simp, (Below.refl _ _).alloc (Nat.le_refl _) _⟩

end Go.Proofs.YthilnpfpllplaaaGreatDoor

namespace Go.Proofs.YthilnpfpllplaaaGreatDoor
open Go.RowKit RuleP

set_option maxRecDepth 100000 in
set_option maxHeartbeats 1000000 in
theorem power_c (w : World) (k n : Nat) (h1 : 1 ≤ k) (h2 : k ≤ 4) (h3 : n ≤ 8) :
    Calls Tryz.prog 138 #[.int .i64 (k : Int), .int .i64 (n : Int)] w fun e w' => e = .returned (.int .i64 ((k ^ n : Nat) : Int)) ∧ w = w' := by
  go_enter Tryz.func138, Tryz.ntmps138
  go_wp2_with fail
  go_loop [5, 6] (fun x i => ∃ j : Nat, j ≤ n ∧ i = .int .i64 (j : Int) ∧ x = .int .i64 ((k ^ j : Nat) : Int)) (fun _ i => n - (intOf i).toNat)
  case atStart => exact ⟨0, Nat.zero_le _, rfl, by simp⟩
  case round =>
    obtain ⟨j, hj, rfl, rfl⟩ := hrel
    by_cases hlt : j < n
    · have hp : ((k ^ j : Nat) : Int) * (k : Int) = ((k ^ (j + 1) : Nat) : Int) := by rw [Nat.pow_succ]; simp
      have hle : k ^ (j + 1) ≤ 65536 := Nat.le_trans (Nat.pow_le_pow_right h1 (show j + 1 ≤ 8 by omega)) (Nat.le_trans (Nat.pow_le_pow_left h2 8) (by decide))
      obtain ⟨P, hP⟩ : ∃ P, k ^ j = P := ⟨_, rfl⟩
      obtain ⟨Q, hQ⟩ : ∃ Q, k ^ (j + 1) = Q := ⟨_, rfl⟩
      rw [hP, hQ] at hp
      rw [hQ] at hle
      rw [hP]
      have HQ := Lib.hid hQ
      clear hQ hP
      go_wp2_with fail
      exact ⟨⟨j + 1, by omega, by go_num, by rw [HQ.out]⟩, by simp [intOf]; omega⟩
    · obtain rfl : j = n := by omega
      obtain ⟨Q, hQ⟩ : ∃ Q, k ^ j = Q := ⟨_, rfl⟩
      have HQ := Lib.hid hQ
      rw [hQ]
      clear hQ
      go_wp2_with fail
      go_ret
      exact ⟨by simp [← HQ.out], rfl⟩

set_option maxRecDepth 100000 in
set_option maxHeartbeats 1000000 in
theorem bad_c (w : World) (k : Int) (A : Option Addr) (n c : Nat) (W : List Int) (h : Sl w A n (W.map (Value.int .i64))) (hm : n ≤ 9223372036854775807) :
    Calls Tryz.prog 42 #[.int .i64 k, .slice A n c] w fun e w' => e = .returned (.int .i64 (place (odd k W))) ∧ ∃ q, w' = w.drewN q := by
  have hl : W.length = n := by simpa using h.1
  have HL := Lib.hid hl
  clear hl
  go_enter Tryz.func42, Tryz.ntmps42
  go_wp2_with fail
  go_loopw [5] (fun i wr => ∃ j q : Nat, j ≤ n ∧ i = .int .i64 (j : Int) ∧ wr = w.drewN q ∧ Hid (∀ (m : Nat) (x : Int), m < j → W[m]? = some x → 0 ≤ x ∧ x < k)) (fun i _ => n - (intOf i).toNat)
  case atStart => exact ⟨0, 0, Nat.zero_le _, rfl, rfl, Lib.hid (fun m x hm => by omega)⟩
  case round =>
    obtain ⟨j, q, hj, rfl, rfl, hs⟩ := hrel
    by_cases hlt : j < n
    · obtain ⟨ad, x, rfl, hxj, hcx⟩ := h.int_ hlt
      by_cases hx : 0 ≤ x ∧ x < k
      · obtain ⟨hx1, hx2⟩ := hx
        have d1 : decide (x < 0) = false := decide_eq_false (by omega)
        have d2 : decide (k ≤ x) = false := decide_eq_false (by omega)
        have hs2 : Hid (∀ (m : Nat) (y : Int), m < j + 1 → W[m]? = some y → 0 ≤ y ∧ y < k) := Lib.hid (fun m y hm hy => by
          rcases Nat.lt_or_ge m j with h1 | h1
          · exact hs.out m y h1 hy
          · obtain rfl : m = j := by omega
            rw [hxj] at hy; cases hy; exact ⟨hx1, hx2⟩)
        clear hxj hs
        go_wp2_with (go_quiet (fail))
        all_goals exact ⟨⟨j + 1, _, by omega, by go_num, by first | rfl | exact World.drewN_drewN _ _ _, hs2⟩, by simp [intOf]; omega⟩
      · have hp : Hid (place (odd k W) = (j : Int)) := Lib.hid (by
          unfold odd
          rw [List.findIdx?_eq_some_iff_getElem.2 ⟨by rw [HL.out]; exact hlt, by rw [(List.getElem?_eq_some_iff.1 hxj).2]; simp; omega, fun m hm => by
            have := hs.out m _ hm (List.getElem?_eq_getElem (by have := HL.out; omega))
            simp; omega⟩]
          rfl)
        have hx' : x < 0 ∨ (0 ≤ x ∧ k ≤ x) := by omega
        clear hx hs hxj
        rcases hx' with hx | ⟨hx, hx2⟩
        all_goals
          go_wp2_with (go_quiet (fail))
          all_goals go_ret
          all_goals exact ⟨by rw [hp.out]; rfl, _, by first | rfl | exact World.drewN_drewN _ _ _⟩
    · obtain rfl : j = n := by omega
      have hp : Hid (place (odd k W) = -1) := Lib.hid (by
        unfold odd
        rw [List.findIdx?_eq_none_iff.2 fun x hx => by
          obtain ⟨m, hm⟩ := List.getElem?_of_mem hx
          have := hs.out m x (by rw [← HL.out]; exact (List.getElem?_eq_some_iff.1 hm).1) hm
          simp; omega]
        rfl)
      clear hs
      go_wp2_with fail
      go_ret
      exact ⟨by rw [hp.out]; rfl, _, rfl⟩

set_option maxRecDepth 100000 in
set_option maxHeartbeats 2000000 in
theorem refCheck_c (w : World) (K R : Int) (A : Option Addr) (n c : Nat) (T : List Int) (hT : Sl w A n (T.map (Value.int .i64))) (hm : n ≤ 9223372036854775807) :
    Calls Tryz.prog 137 #[ruleV K R A n c] w fun e w' => ∃ (N : Nat) (A1 : Option Addr) (n1 c1 : Nat) (A2 : Option Addr) (n2 c2 : Nat), e = .returned (.agg #[.int .i64 (N : Int), .slice A1 n1 c1, .slice A2 n2 c2]) ∧
      WantB w' w.heap.size (check K R T) (.agg #[.int .i64 (N : Int), .slice A1 n1 c1, .slice A2 n2 c2]) ∧ Below w.heap.size w w' := by
  have hl : T.length = n := by simpa using hT.1
  have HL := Lib.hid hl
  clear hl
  have hr0 := (RuleAt.new w (.int .i64 K) (.int .i64 R) (.slice A n c)).alloc (.cells #[.int .i64 0, .slice none 0 0, .slice none 0 0] 34)
  have hw0 := WantAt.new (w.alloc (.cells #[.int .i64 K, .int .i64 R, .slice A n c] 24)) (.int .i64 0) (.slice none 0 0) (.slice none 0 0)
  rw [World.size_alloc] at hw0
  have hb0 := ((Below.refl w.heap.size w).alloc (Nat.le_refl _) (.cells #[.int .i64 K, .int .i64 R, .slice A n c] 24)).alloc (by simp) (.cells #[.int .i64 0, .slice none 0 0, .slice none 0 0] 34)
  have hT0 := (hT.alloc (.cells #[.int .i64 K, .int .i64 R, .slice A n c] 24)).alloc (.cells #[.int .i64 0, .slice none 0 0, .slice none 0 0] 34)
  obtain ⟨r0, r1, r2, _⟩ := hr0.facts
  obtain ⟨wx, hwx⟩ : ∃ wx, (w.alloc (.cells #[.int .i64 K, .int .i64 R, .slice A n c] 24)).alloc (.cells #[.int .i64 0, .slice none 0 0, .slice none 0 0] 34) = wx := ⟨_, rfl⟩
  have hsx : wx.heap.size = w.heap.size + 2 := by rw [← hwx]; simp
  have HWX := Lib.hid hwx
  rw [hwx] at hr0 hw0 hb0 hT0
  have fin : ∀ (wz : World) (i : Int) (w1 : World) (A1 : Option Addr) (n1 c1 : Nat) (A2 : Option Addr) (n2 c2 : Nat), Below wx.heap.size wx wz →
      WantB w1 wz.heap.size (some (1, [(sRule, i)])) (.agg #[.int .i64 1, .slice A1 n1 c1, .slice A2 n2 c2]) → Below wz.heap.size wz w1 → check K R T = some (1, [(sRule, i)]) →
      WantAt w1 (w.heap.size + 1) (.int .i64 0) (.slice none 0 0) (.slice none 0 0) ∧ Hid (WantB (((w1.setCell ⟨w.heap.size + 1, 0, none⟩ (.int .i64 1)).setCell ⟨w.heap.size + 1, 1, none⟩ (.slice A1 n1 c1)).setCell ⟨w.heap.size + 1, 2, none⟩ (.slice A2 n2 c2)) w.heap.size (check K R T) (.agg #[.int .i64 1, .slice A1 n1 c1, .slice A2 n2 c2])) ∧
      Hid (Below w.heap.size w (((w1.setCell ⟨w.heap.size + 1, 0, none⟩ (.int .i64 1)).setCell ⟨w.heap.size + 1, 1, none⟩ (.slice A1 n1 c1)).setCell ⟨w.heap.size + 1, 2, none⟩ (.slice A2 n2 c2))) := fun wz i w1 A1 n1 c1 A2 n2 c2 hz hu hb hc => by
    have hs := hz.size
    have hzz : Below w.heap.size w wz := hb0.trans (hz.mono (by omega))
    refine ⟨(hw0.below hz (by omega)).below hb (by omega), Lib.hid ?_, Lib.hid (below_set3 (hzz.trans (hb.mono hzz.size)) (Nat.le_succ _) _ _ _)⟩
    rw [hc]
    exact (hu.set3 (g := w.heap.size + 1) (by omega) _ _ _).base (by omega)
  have FIN := Lib.hid fin
  have HW0 := Lib.hid hw0
  have HB0 := Lib.hid hb0
  have HT0 := Lib.hid hT0
  clear fin hw0 hb0 hT hT0 hr0 hwx
  unfold ruleV
  by_cases hk : K < 1 ∨ 4 < K
  · have hc : Hid (check K R T = some (1, [(sRule, 0)])) := Lib.hid (by unfold check; rw [if_pos hk])
    have hk' : K < 1 ∨ (1 ≤ K ∧ 4 < K) := by omega
    clear hk
    rcases hk' with hk | ⟨hk, hk'⟩
    all_goals
      go_enter Tryz.func137, Tryz.ntmps137
      go_wp2_with fail
      rw [HWX.out]
      refine (newB_c wx sRule 0 1).mono ?_
      rintro e w1 ⟨A1, n1, c1, A2, n2, c2, rfl, hu, hb1⟩
      obtain ⟨hw1, HU, HB⟩ := FIN.out _ 0 w1 A1 n1 c1 A2 n2 c2 (Below.refl _ _) hu hb1 hc.out
      obtain ⟨d0, d1, d2, f0, f1, f2⟩ := hw1.facts
      clear hu hb1 hw1
      go_wp2_with fail
      exact bodyPost_ret (v := .agg #[.int .i64 1, .slice A1 n1 c1, .slice A2 n2 c2]) (by simp [results, Tryz.results137, go_sem, d0, d1, d2]) rfl ⟨1, A1, n1, c1, A2, n2, c2, rfl, HU.out, HB.out⟩
  by_cases hr : R < 0 ∨ 3 < R
  · have hc : Hid (check K R T = some (1, [(sRule, 1)])) := Lib.hid (by unfold check; rw [if_neg hk, if_pos hr])
    have hr' : R < 0 ∨ (0 ≤ R ∧ 3 < R) := by omega
    have hk1 : 1 ≤ K := by omega
    have hk4 : K ≤ 4 := by omega
    clear hk hr
    rcases hr' with hr | ⟨hr, hr'⟩
    all_goals
      go_enter Tryz.func137, Tryz.ntmps137
      go_wp2_with fail
      rw [HWX.out]
      refine (newB_c wx sRule 1 1).mono ?_
      rintro e w1 ⟨A1, n1, c1, A2, n2, c2, rfl, hu, hb1⟩
      obtain ⟨hw1, HU, HB⟩ := FIN.out _ 1 w1 A1 n1 c1 A2 n2 c2 (Below.refl _ _) hu hb1 hc.out
      obtain ⟨d0, d1, d2, f0, f1, f2⟩ := hw1.facts
      clear hu hb1 hw1
      go_wp2_with fail
      exact bodyPost_ret (v := .agg #[.int .i64 1, .slice A1 n1 c1, .slice A2 n2 c2]) (by simp [results, Tryz.results137, go_sem, d0, d1, d2]) rfl ⟨1, A1, n1, c1, A2, n2, c2, rfl, HU.out, HB.out⟩
  obtain ⟨k, rfl⟩ : ∃ k : Nat, K = (k : Int) := ⟨K.toNat, by omega⟩
  obtain ⟨r, rfl⟩ : ∃ r : Nat, R = (r : Int) := ⟨R.toNat, by omega⟩
  have hk1 : 1 ≤ k := by omega
  have hk4 : k ≤ 4 := by omega
  have hr3 : r ≤ 3 := by omega
  have hpw := fun wz => power_c wz k (2 * r + 1) hk1 hk4 (by omega)
  rw [show ((2 * r + 1 : Nat) : Int) = 2 * (r : Int) + 1 from by omega] at hpw
  obtain ⟨L, hL⟩ : ∃ L, k ^ (2 * r + 1) = L := ⟨_, rfl⟩
  rw [hL] at hpw
  have HPW := Lib.hid hpw
  by_cases hn : T.length ≠ k ^ (2 * r + 1)
  · have hc : Hid (check (k : Int) (r : Int) T = some (1, [(sRule, 2)])) := Lib.hid (by unfold check; rw [if_neg hk, if_neg hr, if_pos (by simpa using hn)])
    rw [hL] at hn
    have hne : ((n : Int) != (L : Int)) = true := by have := HL.out; simp; omega
    clear hk hr hL hpw hn
    go_enter Tryz.func137, Tryz.ntmps137
    go_wp2_with (go_quiet ((go_at_call 138; exact Calls.quiet_of_same ((HPW.out _).mono fun _ _ h => ⟨h.1, h.2.symm⟩))))
    rw [HWX.out]
    refine (newB_c (wx.drewN nq) sRule 2 1).mono ?_
    rintro e w1 ⟨A1, n1, c1, A2, n2, c2, rfl, hu, hb1⟩
    obtain ⟨hw1, HU, HB⟩ := FIN.out _ 2 w1 A1 n1 c1 A2 n2 c2 (pure_drewN _ _) hu hb1 hc.out
    obtain ⟨d0, d1, d2, f0, f1, f2⟩ := hw1.facts
    clear hu hb1 hw1
    go_wp2_with fail
    exact bodyPost_ret (v := .agg #[.int .i64 1, .slice A1 n1 c1, .slice A2 n2 c2]) (by simp [results, Tryz.results137, go_sem, d0, d1, d2]) rfl ⟨1, A1, n1, c1, A2, n2, c2, rfl, HU.out, HB.out⟩
  have hn' : T.length = k ^ (2 * r + 1) := Decidable.not_not.1 hn
  have hc : check (k : Int) (r : Int) T = match odd (k : Int) T with
      | some i => some (1, [(sRule, 3 + (i : Int))])
      | none => none := by unfold check; rw [if_neg hk, if_neg hr, if_neg (by simpa using hn)]; cases odd (k : Int) T <;> rfl
  rw [hL] at hn'
  have hne : ((n : Int) != (L : Int)) = false := by have := HL.out; simp; omega
  have hle : n ≤ 16384 := by
    have := pow_le (k := k) (r := r) hk4 hr3
    have := HL.out
    omega
  have HOD := Lib.hid (fun q => bad_c (wx.drewN q) (k : Int) A n c T (HT0.out.drewN q) hm)
  clear hk hr hn hn' hL hpw
  cases ho : odd (k : Int) T with
  | some i =>
    rw [ho] at hc HOD
    have HC := Lib.hid hc
    have hi : i < n := by have := odd_some ho; have := HL.out; omega
    have hpl : place (some i) = (i : Int) := rfl
    rw [hpl] at HOD
    clear hc ho hpl
    go_enter Tryz.func137, Tryz.ntmps137
    go_wp2_with (go_quiet ((go_at_call 138; exact Calls.quiet_of_same ((HPW.out _).mono fun _ _ h => ⟨h.1, h.2.symm⟩))))
    rw [HWX.out]
    refine (HOD.out nq).mono ?_
    rintro e w3 ⟨rfl, q3, rfl⟩
    go_wp2_with fail
    refine (newB_c (wx.drewN (nq + q3)) sRule (3 + (i : Int)) 1).mono ?_
    rintro e w1 ⟨A1, n1, c1, A2, n2, c2, rfl, hu, hb1⟩
    obtain ⟨hw1, HU, HB⟩ := FIN.out _ (3 + (i : Int)) w1 A1 n1 c1 A2 n2 c2 (pure_drewN _ _) hu hb1 HC.out
    obtain ⟨d0, d1, d2, f0, f1, f2⟩ := hw1.facts
    clear hu hb1 hw1
    go_wp2_with fail
    exact bodyPost_ret (v := .agg #[.int .i64 1, .slice A1 n1 c1, .slice A2 n2 c2]) (by simp [results, Tryz.results137, go_sem, d0, d1, d2]) rfl ⟨1, A1, n1, c1, A2, n2, c2, rfl, HU.out, HB.out⟩
  | none =>
    rw [ho] at hc HOD
    have HC := Lib.hid hc
    have hpl : place none = -1 := rfl
    rw [hpl] at HOD
    obtain ⟨d0, d1, d2, f0, f1, f2⟩ := HW0.out.facts
    clear hc ho hpl
    go_enter Tryz.func137, Tryz.ntmps137
    go_wp2_with (go_quiet ((go_at_call 138; exact Calls.quiet_of_same ((HPW.out _).mono fun _ _ h => ⟨h.1, h.2.symm⟩))))
    rw [HWX.out]
    refine (HOD.out nq).mono ?_
    rintro e w3 ⟨rfl, q3, rfl⟩
    go_wp2_with fail
    exact bodyPost_ret (v := .agg #[.int .i64 0, .slice none 0 0, .slice none 0 0]) (by simp [results, Tryz.results137, go_sem, d0, d1, d2]) rfl ⟨0, none, 0, 0, none, 0, 0, rfl, by rw [HC.out]; exact WantB.zero _ _, below_set3 (below_drewN HB0.out _) (Nat.le_succ _) _ _ _⟩

set_option maxRecDepth 100000 in
set_option maxHeartbeats 2000000 in
theorem refSmall_c (w : World) (K R : Int) (A : Option Addr) (n c : Nat) (T : List Int) (hT : Sl w A n (T.map (Value.int .i64))) (hm : n ≤ 9223372036854775807) :
    Calls Tryz.prog 122 #[ruleV K R A n c] w fun e w' => ∃ (N : Nat) (A1 : Option Addr) (n1 c1 : Nat) (A2 : Option Addr) (n2 c2 : Nat), e = .returned (.agg #[.int .i64 (N : Int), .slice A1 n1 c1, .slice A2 n2 c2]) ∧
      WantB w' w.heap.size (small K R T) (.agg #[.int .i64 (N : Int), .slice A1 n1 c1, .slice A2 n2 c2]) ∧ Below w.heap.size w w' := by
  have hl : T.length = n := by simpa using hT.1
  have HL := Lib.hid hl
  clear hl
  have hr0 := (RuleAt.new w (.int .i64 K) (.int .i64 R) (.slice A n c)).alloc (.cells #[.int .i64 0, .slice none 0 0, .slice none 0 0] 34)
  have hw0 := WantAt.new (w.alloc (.cells #[.int .i64 K, .int .i64 R, .slice A n c] 24)) (.int .i64 0) (.slice none 0 0) (.slice none 0 0)
  rw [World.size_alloc] at hw0
  have hb0 := ((Below.refl w.heap.size w).alloc (Nat.le_refl _) (.cells #[.int .i64 K, .int .i64 R, .slice A n c] 24)).alloc (by simp) (.cells #[.int .i64 0, .slice none 0 0, .slice none 0 0] 34)
  have hT0 := (hT.alloc (.cells #[.int .i64 K, .int .i64 R, .slice A n c] 24)).alloc (.cells #[.int .i64 0, .slice none 0 0, .slice none 0 0] 34)
  obtain ⟨wx, hwx⟩ : ∃ wx, (w.alloc (.cells #[.int .i64 K, .int .i64 R, .slice A n c] 24)).alloc (.cells #[.int .i64 0, .slice none 0 0, .slice none 0 0] 34) = wx := ⟨_, rfl⟩
  have hsx : wx.heap.size = w.heap.size + 2 := by rw [← hwx]; simp
  have HWX := Lib.hid hwx
  rw [hwx] at hr0 hw0 hb0 hT0
  have HC := Lib.hid (refCheck_c wx K R A n c T hT0 hm)
  have HW0 := Lib.hid hw0
  have HB0 := Lib.hid hb0
  have HR0 := Lib.hid hr0
  obtain ⟨r0, r1, r2, _⟩ := hr0.facts
  clear hw0 hb0 hT hT0 hr0 hwx
  unfold ruleV at *
  go_enter Tryz.func122, Tryz.ntmps122
  go_wp2_with fail
  rw [HWX.out]
  refine (HC.out).mono ?_
  rintro e w1 ⟨N, A1, n1, c1, A2, n2, c2, rfl, hu, hb1⟩
  have hw1 := HW0.out.below hb1 (by omega)
  have hr1 := HR0.out.below hb1 (by omega)
  have hw2 := hw1.alloc (.cells #[.int .i64 (N : Int), .slice A1 n1 c1, .slice A2 n2 c2] 34)
  have hr2 := hr1.alloc (.cells #[.int .i64 (N : Int), .slice A1 n1 c1, .slice A2 n2 c2] 34)
  have hv2 := WantAt.new w1 (.int .i64 (N : Int)) (.slice A1 n1 c1) (.slice A2 n2 c2)
  have hb2 := (HB0.out.trans (hb1.mono HB0.out.size)).alloc (by have := HB0.out.size; have := hb1.size; omega) (.cells #[.int .i64 (N : Int), .slice A1 n1 c1, .slice A2 n2 c2] 34)
  have hu2 := hu.below ((Below.refl w1.heap.size w1).alloc (Nat.le_refl _) (.cells #[.int .i64 (N : Int), .slice A1 n1 c1, .slice A2 n2 c2] 34))
  obtain ⟨wy, hwy⟩ : ∃ wy, w1.alloc (.cells #[.int .i64 (N : Int), .slice A1 n1 c1, .slice A2 n2 c2] 34) = wy := ⟨_, rfl⟩
  have HWY := Lib.hid hwy
  have hsy : w1.heap.size < wy.heap.size := by rw [← hwy]; simp
  have hs1 := hb1.size
  rw [hwy] at hw2 hr2 hv2 hb2 hu2
  have HBAD := Lib.hid (errBad_c wy N A1 n1 c1 A2 n2 c2)
  have HW2 := Lib.hid hw2
  have HR2 := Lib.hid hr2
  have HV2 := Lib.hid hv2
  have HB2 := Lib.hid hb2
  have HU2 := Lib.hid hu2
  obtain ⟨v0, v1, v2, _⟩ := hv2.facts
  clear hw1 hr1 hw2 hr2 hv2 hb2 hu2 hu hb1 hwy r0 r1 r2
  have hN := HU2.out.num
  cases ho : check K R T with
  | some t =>
    have hs : Hid (small K R T = check K R T) := Lib.hid (by unfold small; rw [ho])
    rw [ho] at hN
    have ht := (check_ok K R T t ho).1
    have hNz : decide (N ≠ 0) = true := decide_eq_true (by simp only [tnum] at hN; omega)
    rw [hNz] at HBAD
    clear ho hN ht hNz
    go_wp2_with fail
    rw [HWY.out]
    refine (HBAD.out).mono ?_
    rintro e w3 ⟨rfl, hb3⟩
    have g0 := cell_later hb3 v0
    have g1 := cell_later hb3 v1
    have g2 := cell_later hb3 v2
    obtain ⟨d0, d1, d2, f0, f1, f2⟩ := (HW2.out.below hb3 (by omega)).facts
    have HU := Lib.hid (((HU2.out.below hb3).set3 (g := w.heap.size + 1) (by omega) (.int .i64 (N : Int)) (.slice A1 n1 c1) (.slice A2 n2 c2)).base (base' := w.heap.size) (by omega))
    have HB := Lib.hid (below_set3 (HB2.out.trans (hb3.mono HB2.out.size)) (Nat.le_succ _) (.int .i64 (N : Int)) (.slice A1 n1 c1) (.slice A2 n2 c2))
    clear v0 v1 v2 hb3
    go_wp2_with fail
    exact bodyPost_ret (v := .agg #[.int .i64 (N : Int), .slice A1 n1 c1, .slice A2 n2 c2]) (by simp [results, Tryz.results122, go_sem, d0, d1, d2]) rfl ⟨N, A1, n1, c1, A2, n2, c2, rfl, by rw [hs.out]; exact HU.out, HB.out⟩
  | none =>
    rw [ho] at hN
    obtain rfl : N = 0 := hN
    obtain ⟨rfl, rfl, rfl, rfl, rfl, rfl⟩ : A1 = none ∧ n1 = 0 ∧ c1 = 0 ∧ A2 = none ∧ n2 = 0 ∧ c2 = 0 := by
      have := HU2.out
      rw [ho] at this
      have e := this.none_eq
      simp at e
      obtain ⟨⟨q1, q2, q3⟩, q4, q5, q6⟩ := e
      exact ⟨q1, q2, q3, q4, q5, q6⟩
    rw [show decide ((0 : Nat) ≠ 0) = false from rfl, show ((0 : Nat) : Int) = 0 from rfl] at HBAD
    rw [show ((0 : Nat) : Int) = 0 from rfl] at HWY v0
    by_cases h256 : 256 < n
    · have hs : Hid (small K R T = some (4, [(sRule, 0)])) := Lib.hid (by unfold small; rw [ho]; simp only; rw [if_pos (by rw [HL.out]; exact h256)])
      clear ho
      go_wp2_with fail
      rw [HWY.out]
      refine (HBAD.out).mono ?_
      rintro e w3 ⟨rfl, hb3⟩
      have g0 := cell_later hb3 v0
      have g1 := cell_later hb3 v1
      have g2 := cell_later hb3 v2
      obtain ⟨r0, r1, r2, _⟩ := (HR2.out.below hb3 (by omega)).facts
      have HW3 := Lib.hid (HW2.out.below hb3 (by omega))
      have HB3 := Lib.hid (HB2.out.trans (hb3.mono HB2.out.size))
      clear v0 v1 v2
      go_wp2_with fail
      refine (newB_c w3 sRule 0 4).mono ?_
      rintro e w4 ⟨A1, n1, c1, A2, n2, c2, rfl, hu, hb4⟩
      obtain ⟨d0, d1, d2, f0, f1, f2⟩ := (HW3.out.below hb4 (by have := hb3.size; omega)).facts
      have HU := Lib.hid ((hu.set3 (g := w.heap.size + 1) (by have := hb3.size; omega) (.int .i64 4) (.slice A1 n1 c1) (.slice A2 n2 c2)).base (base' := w.heap.size) (by have := hb3.size; omega))
      have HB := Lib.hid (below_set3 (HB3.out.trans (hb4.mono HB3.out.size)) (Nat.le_succ _) (.int .i64 4) (.slice A1 n1 c1) (.slice A2 n2 c2))
      clear hu hb3 hb4
      go_wp2_with fail
      exact bodyPost_ret (v := .agg #[.int .i64 4, .slice A1 n1 c1, .slice A2 n2 c2]) (by simp [results, Tryz.results122, go_sem, d0, d1, d2]) rfl ⟨4, A1, n1, c1, A2, n2, c2, rfl, by rw [hs.out]; exact HU.out, HB.out⟩
    · have hs : Hid (small K R T = none) := Lib.hid (by unfold small; rw [ho]; simp only; rw [if_neg (by rw [HL.out]; exact h256)])
      clear ho
      go_wp2_with fail
      rw [HWY.out]
      refine (HBAD.out).mono ?_
      rintro e w3 ⟨rfl, hb3⟩
      have g0 := cell_later hb3 v0
      have g1 := cell_later hb3 v1
      have g2 := cell_later hb3 v2
      obtain ⟨r0, r1, r2, _⟩ := (HR2.out.below hb3 (by omega)).facts
      obtain ⟨d0, d1, d2, f0, f1, f2⟩ := (HW2.out.below hb3 (by omega)).facts
      have HB := Lib.hid (below_set3 (HB2.out.trans (hb3.mono HB2.out.size)) (Nat.le_succ _) (.int .i64 0) (.slice none 0 0) (.slice none 0 0))
      clear v0 v1 v2 hb3
      go_wp2_with fail
      exact bodyPost_ret (v := .agg #[.int .i64 0, .slice none 0 0, .slice none 0 0]) (by simp [results, Tryz.results122, go_sem, d0, d1, d2]) rfl ⟨0, none, 0, 0, none, 0, 0, rfl, by rw [hs.out]; exact WantB.zero _ _, HB.out⟩
end Go.Proofs.YthilnpfpllplaaaGreatDoor

namespace Go.Proofs.YthilnpfpllplaaaGreatDoor
open Go.RowKit RuleP

theorem check_len {K R : Int} {T : List Int} {x : Tale} (h : check K R T = some x) : x.2.length = 1 := by
  unfold check at h
  split at h
  · cases h; rfl
  split at h
  · cases h; rfl
  split at h
  · cases h; rfl
  split at h
  · cases h; rfl
  · cases h
theorem small_len {K R : Int} {T : List Int} {x : Tale} (h : small K R T = some x) : x.2.length = 1 := by
  unfold small at h
  split at h
  · rename_i t ht
    cases h
    exact check_len ht
  · split at h
    · cases h; rfl
    · cases h

/-- A value that asks for an error is stored in a result's box. -/
theorem want_boxed {w0 w1 : World} {t : Option Tale} {N : Nat} {A1 A2 : Option Addr} {n1 c1 n2 c2 g : Nat} (hu : WantB w1 w0.heap.size t (.agg #[.int .i64 (N : Int), .slice A1 n1 c1, .slice A2 n2 c2])) {base : Nat} (hg : g < w0.heap.size) (hbase : base ≤ g) {w : World} (hb : Below base w w1) :
    WantB (((w1.setCell ⟨g, 0, none⟩ (.int .i64 (N : Int))).setCell ⟨g, 1, none⟩ (.slice A1 n1 c1)).setCell ⟨g, 2, none⟩ (.slice A2 n2 c2)) base t (.agg #[.int .i64 (N : Int), .slice A1 n1 c1, .slice A2 n2 c2]) ∧
      Below base w (((w1.setCell ⟨g, 0, none⟩ (.int .i64 (N : Int))).setCell ⟨g, 1, none⟩ (.slice A1 n1 c1)).setCell ⟨g, 2, none⟩ (.slice A2 n2 c2)) :=
  ⟨(hu.set3 hg _ _ _).base (by omega), below_set3 hb hbase _ _ _⟩

set_option maxRecDepth 100000 in
set_option maxHeartbeats 2000000 in
theorem refFault_c (w : World) (op : ByteArray) (K R : Int) (A : Option Addr) (n c : Nat) (T : List Int) (hT : Sl w A n (T.map (Value.int .i64))) (hm : n ≤ 9223372036854775807) :
    Calls Tryz.prog 105 #[.string op, ruleV K R A n c] w fun e w' => ∃ (N : Nat) (A1 : Option Addr) (n1 c1 : Nat) (A2 : Option Addr) (n2 c2 : Nat), e = .returned (.agg #[.int .i64 (N : Int), .slice A1 n1 c1, .slice A2 n2 c2]) ∧
      WantB w' w.heap.size (under op 0 (small K R T)) (.agg #[.int .i64 (N : Int), .slice A1 n1 c1, .slice A2 n2 c2]) ∧ Below w.heap.size w w' := by
  have hr0 := (RuleAt.new w (.int .i64 K) (.int .i64 R) (.slice A n c)).alloc (.cells #[.int .i64 0, .slice none 0 0, .slice none 0 0] 34)
  have hw0 := WantAt.new (w.alloc (.cells #[.int .i64 K, .int .i64 R, .slice A n c] 24)) (.int .i64 0) (.slice none 0 0) (.slice none 0 0)
  rw [World.size_alloc] at hw0
  have hb0 := ((Below.refl w.heap.size w).alloc (Nat.le_refl _) (.cells #[.int .i64 K, .int .i64 R, .slice A n c] 24)).alloc (by simp) (.cells #[.int .i64 0, .slice none 0 0, .slice none 0 0] 34)
  have hT0 := (hT.alloc (.cells #[.int .i64 K, .int .i64 R, .slice A n c] 24)).alloc (.cells #[.int .i64 0, .slice none 0 0, .slice none 0 0] 34)
  obtain ⟨wx, hwx⟩ : ∃ wx, (w.alloc (.cells #[.int .i64 K, .int .i64 R, .slice A n c] 24)).alloc (.cells #[.int .i64 0, .slice none 0 0, .slice none 0 0] 34) = wx := ⟨_, rfl⟩
  have hsx : wx.heap.size = w.heap.size + 2 := by rw [← hwx]; simp
  have HWX := Lib.hid hwx
  rw [hwx] at hr0 hw0 hb0 hT0
  have HC := Lib.hid (refSmall_c wx K R A n c T hT0 hm)
  have HW0 := Lib.hid hw0
  have HB0 := Lib.hid hb0
  obtain ⟨r0, r1, r2, _⟩ := hr0.facts
  clear hw0 hb0 hT hT0 hr0 hwx
  unfold ruleV at *
  go_enter Tryz.func105, Tryz.ntmps105
  go_wp2_with fail
  rw [HWX.out]
  refine (HC.out).mono ?_
  rintro e w1 ⟨N, A1, n1, c1, A2, n2, c2, rfl, hu, hb1⟩
  have hs1 := hb1.size
  have HU := Lib.hid (rawUnder_c w1 op 0 wx.heap.size _ N A1 n1 c1 A2 n2 c2 hu (small_ok K R T) (fun x hx => by rw [small_len hx]; decide))
  have HW1 := Lib.hid (HW0.out.below hb1 (by omega))
  have HB1 := Lib.hid (HB0.out.trans (hb1.mono HB0.out.size))
  clear hu hb1 r0 r1 r2
  go_wp2_with fail
  refine (HU.out).mono ?_
  rintro e w2 ⟨N2, A3, n3, c3, A4, n4, c4, rfl, hu, hb2⟩
  obtain ⟨d0, d1, d2, f0, f1, f2⟩ := (HW1.out.below hb2 (by omega)).facts
  obtain ⟨hwb, hbb⟩ := want_boxed (g := w.heap.size + 1) (base := w.heap.size) hu (by omega) (Nat.le_succ _) (HB1.out.trans (hb2.mono HB1.out.size))
  have HWB := Lib.hid hwb
  have HBB := Lib.hid hbb
  clear hu hb2 hwb hbb
  go_wp2_with fail
  exact bodyPost_ret (v := .agg #[.int .i64 (N2 : Int), .slice A3 n3 c3, .slice A4 n4 c4]) (by simp [results, Tryz.results105, go_sem, d0, d1, d2]) rfl ⟨N2, A3, n3, c3, A4, n4, c4, rfl, HWB.out, HBB.out⟩

theorem count_c (w : World) (k r : Nat) (A : Option Addr) (n c : Nat) (h1 : 1 ≤ k) (h2 : k ≤ 4) (h3 : r ≤ 3) :
    Calls Tryz.prog 123 #[ruleV k r A n c] w fun e w' => e = .returned (.int .i64 ((k ^ (2 * r) : Nat) : Int)) ∧ Below w.heap.size w w' := by
  have hb0 := (Below.refl w.heap.size w).alloc (Nat.le_refl _) (.cells #[.int .i64 (k : Int), .int .i64 (r : Int), .slice A n c] 24)
  have hp := fun wz => power_c wz k (2 * r) h1 h2 (by omega)
  rw [show ((2 * r : Nat) : Int) = 2 * (r : Int) from by simp] at hp
  have HP := Lib.hid hp
  have HB := Lib.hid hb0
  obtain ⟨r0, r1, r2, _⟩ := (RuleAt.new w (.int .i64 (k : Int)) (.int .i64 (r : Int)) (.slice A n c)).facts
  clear hp hb0
  unfold ruleV
  go_enter Tryz.func123, Tryz.ntmps123
  go_wp2_with fail
  refine (HP.out _).mono ?_
  rintro e w1 ⟨rfl, rfl⟩
  go_wp2_with fail
  go_ret
  exact ⟨rfl, HB.out⟩
end Go.Proofs.YthilnpfpllplaaaGreatDoor

namespace Go.Proofs.YthilnpfpllplaaaGreatDoor
open Go.RowKit RuleP

end Go.Proofs.YthilnpfpllplaaaGreatDoor
