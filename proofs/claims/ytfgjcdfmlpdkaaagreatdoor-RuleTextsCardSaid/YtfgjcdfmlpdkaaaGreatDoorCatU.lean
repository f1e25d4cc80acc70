/- append(s, x...) in a region that draws its order. Plain laws, no program. No condition. What an error must be that another package tells further: edenraw.Under. Condition: the value reads from memory. -/
import Derived.Test.YtfgjcdfmlpdkaaaGreatDoorCut
import Derived.Test.YtfgjcdfmlpdkaaaGreatDoorUnderW
import Derived.Deep.RegionHeld3
import Derived.StillTailTactics
namespace Go.Proofs.YtfgjcdfmlpdkaaaGreatDoor
open Go.RowKit

theorem run_cat {P : Program} (w : World) (t ty : TypeId) {e : TypeId} {z : Value} {bytes : Nat} (hT : ElemT P t e z bytes) {base : Nat} {v : Value} {n : Nat} {xs : List Value} (hown : w.ownsRow base e 1 v n xs)
    {A : Option Addr} {m c : Nat} {ys : List Value} (hsl : Sl w A m ys) (hu : ∀ u ∈ ys, u.oneCell' = true) (h63 : n + m ≤ maxLen) (hbytes : (n + m) * bytes ≤ 140737488355328) (hbase : base ≤ w.heap.size) :
    ∃ v' w', (Builtin.append_ #[t, t] ty #[v, .slice A m c]).run P w = .ok v' w' ∧ w'.ownsRow base e 1 v' (n + m) (xs ++ ys) ∧ w.grownBy w' v.ownBlock ∧ (v'.ownBlock = v.ownBlock ∨ v'.ownBlock = some w.heap.size) := by
  obtain ⟨i, hi, hz, hz1, hz2⟩ := info_parts hT.info
  cases A with
  | none =>
    have hys : ys = [] := by
      cases ys with
      | nil => rfl
      | cons y ys => obtain ⟨ad, e', _⟩ := hsl.2 0 y (by simp); cases e'
    subst hys
    have hm : m = 0 := by have := hsl.1; simpa using this.symm
    subst hm
    exact ⟨v, w, run_append_of_nil (P := P) (w := w) (t := t) (ty := ty) hT.und hi hown c, by simpa using hown, World.grownBy.refl _ _, .inl rfl⟩
  | some ad =>
    obtain ⟨v', w', h1, h2, h3, _, h5⟩ := run_append_own_at (P := P) w base t ty e i z 1 bytes hT.und hi hz hz1 hz2 (by rw [hT.one]; rfl) (by decide) v n xs hown ad m c ys (by rw [hsl.1]; simp) (fun j u hj => by
      obtain ⟨ad', e', hc⟩ := hsl.2 j u hj
      cases e'
      exact hc) hu h63 hbytes hbase
    exact ⟨v', w', h1, h2, h3, h5⟩

/-- At a step of a region that draws its order. -/
theorem step_cat {P : Program} {w : World} {ops : Array Oper} {o : Oper} {a : Act} {K : Act → World → Prop} {Q : Exit → Act → World → Prop} {F : Prop} (hw : Region.wanted o (yielded ops a.tmps) = true) (s x : Operand) (t : TypeId)
    (ho : o.op = .call { callee := .builtin .append, args := #[s, x], argTypes := #[t, t] }) {e : TypeId} {z : Value} {bytes : Nat} (hT : ElemT P t e z bytes)
    {base : Nat} {v : Value} {n : Nat} {xs : List Value} (hown : w.ownsRow base e 1 v n xs) (hs : a.eval s = v) {A : Option Addr} {m c : Nat} {ys : List Value} (hsl : Sl w A m ys) (hx : a.eval x = .slice A m c) (hu : ∀ u ∈ ys, u.oneCell' = true)
    (h63 : n + m ≤ maxLen) (hbytes : (n + m) * bytes ≤ 140737488355328) (hbase : base ≤ w.heap.size)
    (h : ∀ C cc w', w'.ownsRow base e 1 (.slice C (n + m) cc) (n + m) (xs ++ ys) → w.grownBy w' v.ownBlock → ((Value.slice C (n + m) cc).ownBlock = v.ownBlock ∨ (Value.slice C (n + m) cc).ownBlock = some w.heap.size) → K (a.put o.dst (.slice C (n + m) cc)) w') :
    if Region.wanted o (yielded ops a.tmps) = true then Oper.wp P o a w K Q else F := by
  rw [if_pos hw]
  obtain ⟨v', w', hr, h2, h3, h4⟩ := run_cat (P := P) w t o.type hT hown hsl (c := c) hu h63 hbytes hbase
  obtain ⟨C, cc, rfl, _, _⟩ := own_slice h2
  unfold Oper.wp execOp
  simp only [ho, resolve, invoke, builtin, Sem.run_bind, Sem.run_pure, Result.andThen_ok, List.map_toArray, List.map_cons, List.map_nil, hs, hx, hr]
  exact h C cc w' h2 h3 h4
end Go.Proofs.YtfgjcdfmlpdkaaaGreatDoor

namespace Go.Proofs.YtfgjcdfmlpdkaaaGreatDoor
open Go.RowKit

theorem tStrs : ElemT Tryz.prog 30 9 (.string ⟨#[]⟩) 16 := ⟨Tryz.underlying30, by kernel_rfl, rfl⟩
theorem strs_one (l : List (ByteArray × Int)) : ∀ u ∈ l.map (fun x => Value.string x.1), u.oneCell' = true := by
  intro u hu
  obtain ⟨x, _, rfl⟩ := List.mem_map.1 hu
  rfl
theorem ats_one (l : List (ByteArray × Int)) : ∀ u ∈ l.map (fun x => Value.int .i64 x.2), u.oneCell' = true := by
  intro u hu
  obtain ⟨x, _, rfl⟩ := List.mem_map.1 hu
  rfl
theorem own_lit1 (w : World) (u : Value) (e : TypeId) : (w.alloc (.cells #[u] e)).ownsRow w.heap.size e 1 (.slice (some ⟨w.heap.size, 0, none⟩) 1 1) 1 [u] :=
  World.ownsRow_lit (base := w.heap.size) (e := e) (size := 1) w #[u] 1 (Nat.le_refl _) (by decide) rfl

theorem grown_lit {wx wa w' : World} {g n c : Nat} (hk : Below wx.heap.size wx wa) (hg : wa.grownBy w' (Value.slice (some ⟨g, 0, none⟩) n c).ownBlock) (h : wx.heap.size ≤ g) : Below wx.heap.size wx w' :=
  hk.grown hg hk.size (fun k hk => by simp [Value.ownBlock] at hk; omega)
theorem own_other {w w' : World} {base e n n' c c' a b : Nat} {xs : List Value} (h : w.ownsRow base e 1 (.slice (some ⟨a, 0, none⟩) n c) n xs) (hg : w.grownBy w' (Value.slice (some ⟨b, 0, none⟩) n' c').ownBlock) (hne : a ≠ b) : w'.ownsRow base e 1 (.slice (some ⟨a, 0, none⟩) n c) n xs :=
  own_keeps h (Keeps.of_grown hg) (fun k hk e => by simp [Value.ownBlock] at hk e; omega)

theorem own_apart {w w' : World} {b b' e e' n n' : Nat} {v v' : Value} {xs xs' : List Value} (h : w.ownsRow b e 1 v n xs) (h' : w.ownsRow b' e' 1 v' n' xs') (hne : e ≠ e') (hg : w.grownBy w' v'.ownBlock) : w'.ownsRow b e 1 v n xs :=
  own_keeps h (Keeps.of_grown hg) (fun _ hk e => own_ne_own h h' hne hk e)

theorem under_end {w wx w22 : World} {op : ByteArray} {at' : Int} {t : Tale} {M : Nat} {C1 C2 : Option Addr} {d1 d2 : Nat} (hM : t.2.length = M) (hb : Below w.heap.size w wx) (hlx : w.heap.size + 1 < wx.heap.size) (hk : Below wx.heap.size wx w22) {x0 x1 x2 : Value} (hr : WantAt w22 (w.heap.size + 1) x0 x1 x2)
    (h1 : w22.ownsRow wx.heap.size 9 1 (.slice C1 (1 + M) d1) (1 + M) ([.string op] ++ t.2.map fun x => Value.string x.1)) (h2 : w22.ownsRow wx.heap.size 3 1 (.slice C2 (1 + M) d2) (1 + M) ([.int .i64 at'] ++ t.2.map fun x => Value.int .i64 x.2)) (u0 u1 u2 : Value) :
    WantB (((w22.setCell ⟨w.heap.size + 1, 0, none⟩ u0).setCell ⟨w.heap.size + 1, 1, none⟩ u1).setCell ⟨w.heap.size + 1, 2, none⟩ u2) w.heap.size (under op at' (some t)) (.agg #[.int .i64 (t.1 : Int), .slice C1 (1 + M) d1, .slice C2 (1 + M) d2]) ∧
      Below w.heap.size w (((w22.setCell ⟨w.heap.size + 1, 0, none⟩ u0).setCell ⟨w.heap.size + 1, 1, none⟩ u1).setCell ⟨w.heap.size + 1, 2, none⟩ u2) := by
  subst hM
  have g1 := own_setW h1 hr (by decide) u0 u1 u2
  have g2 := own_setW h2 hr (by decide) u0 u1 u2
  obtain ⟨e1, e2⟩ := own_le h1
  obtain ⟨e3, e4⟩ := own_le h2
  unfold maxLen at e2 e4
  rw [Nat.add_comm 1 t.2.length] at e1 e3 g1 g2 ⊢
  refine ⟨⟨t.1, C1, t.2.length + 1, d1, C2, t.2.length + 1, d2, rfl, ⟨C1, d1, C2, d2, rfl, e1, by omega, e3, by omega, Sl.of_own g1, Sl.of_own g2⟩, fun ad e => ?_, fun ad e => ?_, rfl⟩, below_set3 (hb.trans (hk.mono hb.size)) (Nat.le_succ _) _ _ _⟩
  · have := (h1.lt ad.block (by rw [e]; rfl)).1; omega
  · have := (h2.lt ad.block (by rw [e]; rfl)).1; omega

set_option maxRecDepth 100000 in
set_option maxHeartbeats 4000000 in
theorem rawUnder_c (w : World) (op : ByteArray) (at' : Int) (base : Nat) (t : Option Tale) (N : Nat) (A1 : Option Addr) (n1 c1 : Nat) (A2 : Option Addr) (n2 c2 : Nat) (h : WantB w base t (.agg #[.int .i64 (N : Int), .slice A1 n1 c1, .slice A2 n2 c2])) (ht : TaleOk t) (hl : ∀ x, t = some x → x.2.length ≤ 100000) :
    Calls Tryz.prog 28 #[.string op, .int .i64 at', .agg #[.int .i64 (N : Int), .slice A1 n1 c1, .slice A2 n2 c2]] w fun e w' => ∃ (N : Nat) (A1 : Option Addr) (n1 c1 : Nat) (A2 : Option Addr) (n2 c2 : Nat), e = .returned (.agg #[.int .i64 (N : Int), .slice A1 n1 c1, .slice A2 n2 c2]) ∧
      WantB w' w.heap.size (under op at' t) (.agg #[.int .i64 (N : Int), .slice A1 n1 c1, .slice A2 n2 c2]) ∧ Below w.heap.size w w' := by
  have hu0 := (WantAt.new w (.int .i64 (N : Int)) (.slice A1 n1 c1) (.slice A2 n2 c2)).alloc (.cells #[.int .i64 0, .slice none 0 0, .slice none 0 0] 32)
  have hr0 := WantAt.new (w.alloc (.cells #[.int .i64 (N : Int), .slice A1 n1 c1, .slice A2 n2 c2] 32)) (.int .i64 0) (.slice none 0 0) (.slice none 0 0)
  rw [World.size_alloc] at hr0
  have hb0 := ((Below.refl w.heap.size w).alloc (Nat.le_refl _) (.cells #[.int .i64 (N : Int), .slice A1 n1 c1, .slice A2 n2 c2] 32)).alloc (by simp) (.cells #[.int .i64 0, .slice none 0 0, .slice none 0 0] 32)
  obtain ⟨wx, hwx⟩ : ∃ wx, (w.alloc (.cells #[.int .i64 (N : Int), .slice A1 n1 c1, .slice A2 n2 c2] 32)).alloc (.cells #[.int .i64 0, .slice none 0 0, .slice none 0 0] 32) = wx := ⟨_, rfl⟩
  have hsx : wx.heap.size = w.heap.size + 2 := by rw [← hwx]; simp
  have HWX := Lib.hid hwx
  rw [hwx] at hu0 hr0 hb0
  have hnum := h.num
  obtain ⟨u0, u1, u2, _⟩ := hu0.facts
  obtain ⟨d0, d1, d2, f0, f1, f2⟩ := hr0.facts
  cases t with
  | none =>
    have hz := h.none_eq
    injection hz with hz
    injection hz with hz
    injection hz with z0 hz
    injection hz with z1 hz
    injection hz with z2 _
    injection z1 with z11 z12 z13
    injection z2 with z21 z22 z23
    subst z11 z12 z13 z21 z22 z23
    obtain rfl : N = 0 := hnum
    have HB := Lib.hid (below_set3 hb0 (Nat.le_succ w.heap.size) (.int .i64 0) (.slice none 0 0) (.slice none 0 0))
    clear hu0 hr0 hb0 hwx z0 h ht hl
    go_enter Tryz.func28, Tryz.ntmps28
    go_wp2_with fail
    exact bodyPost_ret (v := .agg #[.int .i64 0, .slice none 0 0, .slice none 0 0]) (by simp [results, Tryz.results28, go_sem]) rfl ⟨0, none, 0, 0, none, 0, 0, rfl, WantB.zero _ _, by have h9 := HB.out; rw [← HWX.out] at h9; first | exact h9 | simpa [go_sem] using h9⟩
  | some t =>
    have hN := (ht t rfl).1
    have hll := hl t rfl
    obtain ⟨B1, b1, B2, b2, he, p1, p2, p3, p4, s1, s2⟩ := h.want
    injection he with he
    injection he with he
    injection he with z0 he
    injection he with z1 he
    injection he with z2 _
    injection z1 with z11 z12 z13
    injection z2 with z21 z22 z23
    subst z11 z12 z13 z21 z22 z23
    obtain rfl : N = t.1 := hnum
    have hNz : ¬ t.1 = 0 := by omega
    have hNz2 : ((t.1 : Int) == 0) = false := by simp; omega
    obtain ⟨M, hM⟩ : ∃ M, t.2.length = M := ⟨_, rfl⟩
    rw [hM] at s1 s2 hll p1 p3 u1 u2 hu0 hwx ⊢
    have hbx := (Below.refl w.heap.size w).trans hb0
    have hS1 : Sl wx A1 M (t.2.map fun x => Value.string x.1) := by subst hwx; exact s1.below (hb0)
    have hS2 : Sl wx A2 M (t.2.map fun x => Value.int .i64 x.2) := by subst hwx; exact s2.below (hb0)
    have hS1d : Sl wx.drew A1 M _ := hS1
    have hS2d : Sl wx.drew A2 M _ := hS2
    -- the rows of one element each, by the order in which they are laid
    have a1 := own_lit1 wx.drew (.string op) 9
    have i1 := own_lit1 wx.drew (.int .i64 at') 3
    have a2 := a1.alloc (.cells #[.int .i64 at'] 3)
    have b2 : ((wx.drew.alloc (.cells #[.string op] 9)).alloc (.cells #[.int .i64 at'] 3)).ownsRow wx.heap.size 3 1 (.slice (some ⟨wx.heap.size + 1, 0, none⟩) 1 1) 1 [.int .i64 at'] := by
      have h0 := own_lit1 (wx.drew.alloc (.cells #[.string op] 9)) (.int .i64 at') 3
      rw [World.size_alloc] at h0
      exact own_base h0 (Nat.le_succ _)
    have a3 : ((wx.drew.alloc (.cells #[.int .i64 at'] 3)).alloc (.cells #[.string op] 9)).ownsRow wx.heap.size 9 1 (.slice (some ⟨wx.heap.size + 1, 0, none⟩) 1 1) 1 [.string op] := by
      have h0 := own_lit1 (wx.drew.alloc (.cells #[.int .i64 at'] 3)) (.string op) 9
      rw [World.size_alloc] at h0
      exact own_base h0 (Nat.le_succ _)
    have b3 := i1.alloc (.cells #[.string op] 9)
    have k1 := (Below.refl wx.drew.heap.size wx.drew).alloc (Nat.le_refl _) (.cells #[.string op] 9)
    have k2 := k1.alloc k1.size (.cells #[.int .i64 at'] 3)
    have j1 := (Below.refl wx.drew.heap.size wx.drew).alloc (Nat.le_refl _) (.cells #[.int .i64 at'] 3)
    have k3 := j1.alloc j1.size (.cells #[.string op] 9)
    have K1 := Lib.hid k1
    have K2 := Lib.hid k2
    have K3 := Lib.hid k3
    have K9 := Lib.hid (show wx.drew.heap.size ≤ (wx.drew.alloc (.cells #[.int .i64 at'] 3)).heap.size by simp)
    have K8 := Lib.hid (show wx.drew.heap.size ≤ (wx.drew.alloc (.cells #[.string op] 9)).heap.size by simp)
    have HNE := Lib.hid (show 9 ≠ 3 by decide)
    have HA1 := Lib.hid a1
    have HA2 := Lib.hid a2
    have HA3 := Lib.hid a3
    have HB2 := Lib.hid b2
    have HB3 := Lib.hid b3
    have HS1 := Lib.hid hS1d
    have HS2 := Lib.hid hS2d
    have HU := Lib.hid hu0
    have HR := Lib.hid (show WantAt wx.drew (w.heap.size + 1) (.int .i64 0) (.slice none 0 0) (.slice none 0 0) from hr0)
    have HB0 := Lib.hid (show Below w.heap.size w wx.drew from hb0.drew)
    have HO1 := Lib.hid (strs_one t.2)
    have HO2 := Lib.hid (ats_one t.2)
    have HWX2 := Lib.hid hwx
    have hlx : w.heap.size < wx.heap.size := by omega
    have hlx1 : w.heap.size + 1 < wx.heap.size := by omega
    have HLX1 := Lib.hid hlx1
    clear a1 i1 a2 b2 a3 b3 k1 k2 j1 k3 hS1d hS2d hS1 hS2 s1 s2 hu0 hr0 hb0 hbx hwx h hl ht hsx
    go_enter Tryz.func28, Tryz.ntmps28
    go_wp2_with fail
    rw [HWX2.out]
    go_region_held3 (fun w' => w'.cell? ⟨w.heap.size, 0, none⟩ = some (.int .i64 (t.1 : Int)) ∧ w'.cell? ⟨w.heap.size, 1, none⟩ = some (.slice A1 M c1) ∧ w'.cell? ⟨w.heap.size, 2, none⟩ = some (.slice A2 M c2))
      (first | (refine ⟨?_, ?_, ?_⟩ <;> assumption) | go_keep)
      (first
        | (refine step_cat ?_ (.tmp 14) (.tmp 16) 30 rfl tStrs (base := wx.heap.size) (v := .slice (some ⟨wx.heap.size + 1, 0, none⟩) 1 1) (n := 1) (xs := [.string op]) ?_ rfl (ys := t.2.map fun x => Value.string x.1) ?_ rfl HO1.out ?_ ?_ ?_ ?_
           · rfl
           · exact HA3.out
           · exact HS1.out.below K3.out
           · (simp only [maxLen]; omega)
           · omega
           · exact K3.out.size
           intro C17 cc17 w17 hown17 hg17 hor17
           have hk17 := grown_lit K3.out hg17 (Nat.le_succ _)
           have hI17 := own_other HB3.out hg17 (Nat.succ_ne_self _).symm
           have hst17 := HS2.out.below hk17
           have q0 := cell_later hk17 u0
           have q1 := cell_later hk17 u1
           have q2 := cell_later hk17 u2)
        | (refine step_cat ?_ (.tmp 14) (.tmp 16) 30 rfl tStrs (base := wx.heap.size) (v := .slice (some ⟨wx.heap.size, 0, none⟩) 1 1) (n := 1) (xs := [.string op]) ?_ rfl (ys := t.2.map fun x => Value.string x.1) ?_ rfl HO1.out ?_ ?_ ?_ ?_
           · rfl
           · first | exact HA1.out | exact HA2.out
           · first | exact HS1.out.below K1.out | exact HS1.out.below K2.out
           · (simp only [maxLen]; omega)
           · omega
           · first | exact K1.out.size | exact K2.out.size
           intro C17 cc17 w17 hown17 hg17 hor17
           first
             | (have hk17 := grown_lit K1.out hg17 (Nat.le_refl _)
                have hst17 := HS2.out.below hk17)
             | (have hk17 := grown_lit K2.out hg17 (Nat.le_refl _)
                have hI17 := own_other HB2.out hg17 (Nat.succ_ne_self _)
                have hst17 := HS2.out.below hk17)
           have q0 := cell_later hk17 u0
           have q1 := cell_later hk17 u1
           have q2 := cell_later hk17 u2)
        | (refine step_cat ?_ (.tmp 19) (.tmp 21) 22 rfl tInts (base := wx.heap.size) (v := .slice (some ⟨wx.heap.size, 0, none⟩) 1 1) (n := 1) (xs := [.int .i64 at']) ?_ rfl (ys := t.2.map fun x => Value.int .i64 x.2) ?_ rfl HO2.out ?_ ?_ ?_ ?_
           · rfl
           · exact hI17
           · exact hst17
           · (simp only [maxLen]; omega)
           · omega
           · exact hk17.size
           intro C22 cc22 w22 hown22 hg22 hor22
           have hk22 := grown_lit hk17 hg22 (Nat.le_refl _)
           have hS22 := own_apart hown17 hI17 HNE.out hg22
           have t0 := cell_later hk22 u0
           have t1 := cell_later hk22 u1
           have t2 := cell_later hk22 u2
           have r22 := HR.out.below hk22 HLX1.out
           obtain ⟨v0, v1, v2, g0, g1, g2⟩ := r22.facts)
        | (refine step_cat ?_ (.tmp 19) (.tmp 21) 22 rfl tInts (base := wx.heap.size) (v := .slice (some ⟨wx.heap.size + 1, 0, none⟩) 1 1) (n := 1) (xs := [.int .i64 at']) ?_ rfl (ys := t.2.map fun x => Value.int .i64 x.2) ?_ rfl HO2.out ?_ ?_ ?_ ?_
           · rfl
           · exact hI17
           · exact hst17
           · (simp only [maxLen]; omega)
           · omega
           · exact hk17.size
           intro C22 cc22 w22 hown22 hg22 hor22
           have hk22 := grown_lit hk17 hg22 (Nat.le_succ _)
           have hS22 := own_apart hown17 hI17 HNE.out hg22
           have t0 := cell_later hk22 u0
           have t1 := cell_later hk22 u1
           have t2 := cell_later hk22 u2
           have r22 := HR.out.below hk22 HLX1.out
           obtain ⟨v0, v1, v2, g0, g1, g2⟩ := r22.facts)
        | (refine step_cat ?_ (.tmp 19) (.tmp 21) 22 rfl tInts (base := wx.heap.size) (v := .slice (some ⟨w17.heap.size, 0, none⟩) 1 1) (n := 1) (xs := [.int .i64 at']) ?_ rfl (ys := t.2.map fun x => Value.int .i64 x.2) ?_ rfl HO2.out ?_ ?_ ?_ ?_
           · rfl
           · exact own_base (own_lit1 w17 (.int .i64 at') 3) hk17.size
           · exact hst17.alloc _
           · (simp only [maxLen]; omega)
           · omega
           · exact (hk17.alloc hk17.size _).size
           intro C22 cc22 w22 hown22 hg22 hor22
           have hk22 := grown_lit (hk17.alloc hk17.size _) hg22 hk17.size
           have hS22 := own_apart (hown17.alloc _) (own_lit1 w17 (.int .i64 at') 3) HNE.out hg22
           have t0 := cell_later hk22 u0
           have t1 := cell_later hk22 u1
           have t2 := cell_later hk22 u2
           have r22 := HR.out.below hk22 HLX1.out
           obtain ⟨v0, v1, v2, g0, g1, g2⟩ := r22.facts))
    all_goals
      obtain ⟨hwb, hbb⟩ := under_end hM HB0.out HLX1.out hk22 r22 hS22 hown22 (.int .i64 (t.1 : Int)) (.slice C17 (1 + M) cc17) (.slice C22 (1 + M) cc22)
      have HWB := Lib.hid hwb
      have HBB := Lib.hid hbb
      clear hwb hbb hS22 hown22 hk22 r22
      go_wp2_with fail
      exact bodyPost_ret (v := .agg #[.int .i64 (t.1 : Int), .slice C17 (1 + M) cc17, .slice C22 (1 + M) cc22]) (by simp [results, Tryz.results28, go_sem, v0, v1, v2]) rfl ⟨t.1, C17, 1 + M, cc17, C22, 1 + M, cc22, rfl, HWB.out, HBB.out⟩
end Go.Proofs.YtfgjcdfmlpdkaaaGreatDoor
