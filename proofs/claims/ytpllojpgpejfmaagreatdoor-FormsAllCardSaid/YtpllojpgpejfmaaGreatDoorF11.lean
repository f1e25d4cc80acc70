/- append(s, x...) in a region that draws its order. Plain laws, no program. No condition. What an error must be that another package tells further: edenraw.Under. Condition: the value reads from memory. Is an error asked for: Err.Bad. No condition. The document's answers of chapters 03 and 04: edenref03.Bad, edenref04.Power, Size, Check, Small. Condition: lists read from memory. The document's overlap: edenref08.Fault, WordFault, Count, Nodes. Condition: the lists read from memory. A word's fault: edenref08.WordFault. Condition: the word reads from memory. The document's image of a word, symbol of a window: edenref04.Value, Image, Local, Step. Condition: lists read from memory. -/
import Derived.Deep.RegionHeld3
import Derived.StillTailTactics
import Derived.Deep.RegionLaw
import Derived.Deep.AppendLies
import Derived.Test.YtpllojpgpejfmaaGreatDoorF2
import Derived.Test.YtpllojpgpejfmaaGreatDoorF3
import Derived.Test.YtpllojpgpejfmaaGreatDoorF5
import Derived.Test.YtpllojpgpejfmaaGreatDoorF6
import Derived.Test.YtpllojpgpejfmaaGreatDoorF10
namespace Go.Proofs.YtpllojpgpejfmaaGreatDoor
open Go.RowKit

theorem run_cat {P : Program} (w : World) (t ty : TypeId) {e : TypeId} {z : Value} {bytes : Nat} (hT : ElemT P t e z bytes) {base : Nat} {v : Value} {n : Nat} {xs : List Value} (hown : w.ownsRow base e 1 v n xs)
    {A : Option Addr} {m c : Nat} {ys : List Value} (hsl : Sl w A m ys) (hu : ∀ u ∈ ys, u.oneCell' = true) (h63 : n + m ≤ maxLen) (hbytes : (n + m) * bytes ≤ 140737488355328) (hbase : base ≤ w.heap.size) :
    ∃ v' w', (Builtin.append_ #[t, t] ty #[v, .slice A m c]).run P w = .ok v' w' ∧ w'.ownsRow base e 1 v' (n + m) (xs ++ ys) ∧ w.grownBy w' v.ownBlock ∧ (v'.ownBlock = v.ownBlock ∨ v'.ownBlock = some w.heap.size) := by
  obtain ⟨i, hi, hz, hz1, hz2⟩ := info_parts hT.info
  cases A with
  | none =>
    have hys : ys = [] := by
      cases ys with
      | nil => rfl
      | cons y ys => obtain ⟨ad, e', _⟩ := hsl.2 0 y (by simp); cases e'
    subst hys
    have hm : m = 0 := by have := hsl.1; simpa using this.symm
    subst hm
    exact ⟨v, w, run_append_of_nil (P := P) (w := w) (t := t) (ty := ty) hT.und hi hown c, by simpa using hown, World.grownBy.refl _ _, .inl rfl⟩
  | some ad =>
    obtain ⟨v', w', h1, h2, h3, _, h5⟩ := run_append_own_at (P := P) w base t ty e i z 1 bytes hT.und hi hz hz1 hz2 (by rw [hT.one]; rfl) (by decide) v n xs hown ad m c ys (by rw [hsl.1]; simp) (fun j u hj => by
      obtain ⟨ad', e', hc⟩ := hsl.2 j u hj
      cases e'
      exact hc) hu h63 hbytes hbase
    exact ⟨v', w', h1, h2, h3, h5⟩

/-- At a step of a region that draws its order. -/
theorem step_cat {P : Program} {w : World} {ops : Array Oper} {o : Oper} {a : Act} {K : Act → World → Prop} {Q : Exit → Act → World → Prop} {F : Prop} (hw : Region.wanted o (yielded ops a.tmps) = true) (s x : Operand) (t : TypeId)
    (ho : o.op = .call { callee := .builtin .append, args := #[s, x], argTypes := #[t, t] }) {e : TypeId} {z : Value} {bytes : Nat} (hT : ElemT P t e z bytes)
    {base : Nat} {v : Value} {n : Nat} {xs : List Value} (hown : w.ownsRow base e 1 v n xs) (hs : a.eval s = v) {A : Option Addr} {m c : Nat} {ys : List Value} (hsl : Sl w A m ys) (hx : a.eval x = .slice A m c) (hu : ∀ u ∈ ys, u.oneCell' = true)
    (h63 : n + m ≤ maxLen) (hbytes : (n + m) * bytes ≤ 140737488355328) (hbase : base ≤ w.heap.size)
    (h : ∀ C cc w', w'.ownsRow base e 1 (.slice C (n + m) cc) (n + m) (xs ++ ys) → w.grownBy w' v.ownBlock → ((Value.slice C (n + m) cc).ownBlock = v.ownBlock ∨ (Value.slice C (n + m) cc).ownBlock = some w.heap.size) → K (a.put o.dst (.slice C (n + m) cc)) w') :
    if Region.wanted o (yielded ops a.tmps) = true then Oper.wp P o a w K Q else F := by
  rw [if_pos hw]
  obtain ⟨v', w', hr, h2, h3, h4⟩ := run_cat (P := P) w t o.type hT hown hsl (c := c) hu h63 hbytes hbase
  obtain ⟨C, cc, rfl, _, _⟩ := own_slice h2
  unfold Oper.wp execOp
  simp only [ho, resolve, invoke, builtin, Sem.run_bind, Sem.run_pure, Result.andThen_ok, List.map_toArray, List.map_cons, List.map_nil, hs, hx, hr]
  exact h C cc w' h2 h3 h4
end Go.Proofs.YtpllojpgpejfmaaGreatDoor

namespace Go.Proofs.YtpllojpgpejfmaaGreatDoor
open Go.RowKit

theorem tStrs : ElemT Tryz.prog 43 9 (.string ⟨#[]⟩) 16 := ⟨Tryz.underlying43, by kernel_rfl, rfl⟩
theorem strs_one (l : List (ByteArray × Int)) : ∀ u ∈ l.map (fun x => Value.string x.1), u.oneCell' = true := by
  intro u hu
  obtain ⟨x, _, rfl⟩ := List.mem_map.1 hu
  rfl
theorem ats_one (l : List (ByteArray × Int)) : ∀ u ∈ l.map (fun x => Value.int .i64 x.2), u.oneCell' = true := by
  intro u hu
  obtain ⟨x, _, rfl⟩ := List.mem_map.1 hu
  rfl
theorem own_lit1 (w : World) (u : Value) (e : TypeId) : (w.alloc (.cells #[u] e)).ownsRow w.heap.size e 1 (.slice (some ⟨w.heap.size, 0, none⟩) 1 1) 1 [u] :=
  World.ownsRow_lit (base := w.heap.size) (e := e) (size := 1) w #[u] 1 (Nat.le_refl _) (by decide) rfl

theorem grown_lit {wx wa w' : World} {g n c : Nat} (hk : Below wx.heap.size wx wa) (hg : wa.grownBy w' (Value.slice (some ⟨g, 0, none⟩) n c).ownBlock) (h : wx.heap.size ≤ g) : Below wx.heap.size wx w' :=
  hk.grown hg hk.size (fun k hk => by simp [Value.ownBlock] at hk; omega)
theorem own_other {w w' : World} {base e n n' c c' a b : Nat} {xs : List Value} (h : w.ownsRow base e 1 (.slice (some ⟨a, 0, none⟩) n c) n xs) (hg : w.grownBy w' (Value.slice (some ⟨b, 0, none⟩) n' c').ownBlock) (hne : a ≠ b) : w'.ownsRow base e 1 (.slice (some ⟨a, 0, none⟩) n c) n xs :=
  own_keeps h (Keeps.of_grown hg) (fun k hk e => by simp [Value.ownBlock] at hk e; omega)

theorem own_apart {w w' : World} {b b' e e' n n' : Nat} {v v' : Value} {xs xs' : List Value} (h : w.ownsRow b e 1 v n xs) (h' : w.ownsRow b' e' 1 v' n' xs') (hne : e ≠ e') (hg : w.grownBy w' v'.ownBlock) : w'.ownsRow b e 1 v n xs :=
  own_keeps h (Keeps.of_grown hg) (fun _ hk e => own_ne_own h h' hne hk e)

theorem under_end {w wx w22 : World} {op : ByteArray} {at' : Int} {t : Tale} {M : Nat} {C1 C2 : Option Addr} {d1 d2 : Nat} (hM : t.2.length = M) (hb : Below w.heap.size w wx) (hlx : w.heap.size + 1 < wx.heap.size) (hk : Below wx.heap.size wx w22) {x0 x1 x2 : Value} (hr : WantAt w22 (w.heap.size + 1) x0 x1 x2)
    (h1 : w22.ownsRow wx.heap.size 9 1 (.slice C1 (1 + M) d1) (1 + M) ([.string op] ++ t.2.map fun x => Value.string x.1)) (h2 : w22.ownsRow wx.heap.size 3 1 (.slice C2 (1 + M) d2) (1 + M) ([.int .i64 at'] ++ t.2.map fun x => Value.int .i64 x.2)) (u0 u1 u2 : Value) :
    WantB (((w22.setCell ⟨w.heap.size + 1, 0, none⟩ u0).setCell ⟨w.heap.size + 1, 1, none⟩ u1).setCell ⟨w.heap.size + 1, 2, none⟩ u2) w.heap.size (under op at' (some t)) (.agg #[.int .i64 (t.1 : Int), .slice C1 (1 + M) d1, .slice C2 (1 + M) d2]) ∧
      Below w.heap.size w (((w22.setCell ⟨w.heap.size + 1, 0, none⟩ u0).setCell ⟨w.heap.size + 1, 1, none⟩ u1).setCell ⟨w.heap.size + 1, 2, none⟩ u2) := by
  subst hM
  have g1 := own_setW h1 hr (by decide) u0 u1 u2
  have g2 := own_setW h2 hr (by decide) u0 u1 u2
  obtain ⟨e1, e2⟩ := own_le h1
  obtain ⟨e3, e4⟩ := own_le h2
  unfold maxLen at e2 e4
  rw [Nat.add_comm 1 t.2.length] at e1 e3 g1 g2 ⊢
  refine ⟨⟨t.1, C1, t.2.length + 1, d1, C2, t.2.length + 1, d2, rfl, ⟨C1, d1, C2, d2, rfl, e1, by omega, e3, by omega, Sl.of_own g1, Sl.of_own g2⟩, fun ad e => ?_, fun ad e => ?_, rfl⟩, below_set3 (hb.trans (hk.mono hb.size)) (Nat.le_succ _) _ _ _⟩
  · have := (h1.lt ad.block (by rw [e]; rfl)).1; omega
  · have := (h2.lt ad.block (by rw [e]; rfl)).1; omega

set_option maxRecDepth 100000 in
set_option maxHeartbeats 4000000 in
theorem rawUnder_c (w : World) (op : ByteArray) (at' : Int) (base : Nat) (t : Option Tale) (N : Nat) (A1 : Option Addr) (n1 c1 : Nat) (A2 : Option Addr) (n2 c2 : Nat) (h : WantB w base t (.agg #[.int .i64 (N : Int), .slice A1 n1 c1, .slice A2 n2 c2])) (ht : TaleOk t) (hl : ∀ x, t = some x → x.2.length ≤ 100000) :
    Calls Tryz.prog 81 #[.string op, .int .i64 at', .agg #[.int .i64 (N : Int), .slice A1 n1 c1, .slice A2 n2 c2]] w fun e w' => ∃ (N : Nat) (A1 : Option Addr) (n1 c1 : Nat) (A2 : Option Addr) (n2 c2 : Nat), e = .returned (.agg #[.int .i64 (N : Int), .slice A1 n1 c1, .slice A2 n2 c2]) ∧
      WantB w' w.heap.size (under op at' t) (.agg #[.int .i64 (N : Int), .slice A1 n1 c1, .slice A2 n2 c2]) ∧ Below w.heap.size w w' := by
  have hu0 := (WantAt.new w (.int .i64 (N : Int)) (.slice A1 n1 c1) (.slice A2 n2 c2)).alloc (.cells #[.int .i64 0, .slice none 0 0, .slice none 0 0] 45)
  have hr0 := WantAt.new (w.alloc (.cells #[.int .i64 (N : Int), .slice A1 n1 c1, .slice A2 n2 c2] 45)) (.int .i64 0) (.slice none 0 0) (.slice none 0 0)
  rw [World.size_alloc] at hr0
  have hb0 := ((Below.refl w.heap.size w).alloc (Nat.le_refl _) (.cells #[.int .i64 (N : Int), .slice A1 n1 c1, .slice A2 n2 c2] 45)).alloc (by simp) (.cells #[.int .i64 0, .slice none 0 0, .slice none 0 0] 45)
  obtain ⟨wx, hwx⟩ : ∃ wx, (w.alloc (.cells #[.int .i64 (N : Int), .slice A1 n1 c1, .slice A2 n2 c2] 45)).alloc (.cells #[.int .i64 0, .slice none 0 0, .slice none 0 0] 45) = wx := ⟨_, rfl⟩
  have hsx : wx.heap.size = w.heap.size + 2 := by rw [← hwx]; simp
  have HWX := Lib.hid hwx
  rw [hwx] at hu0 hr0 hb0
  have hnum := h.num
  obtain ⟨u0, u1, u2, _⟩ := hu0.facts
  obtain ⟨d0, d1, d2, f0, f1, f2⟩ := hr0.facts
  cases t with
  | none =>
    have hz := h.none_eq
    injection hz with hz
    injection hz with hz
    injection hz with z0 hz
    injection hz with z1 hz
    injection hz with z2 _
    injection z1 with z11 z12 z13
    injection z2 with z21 z22 z23
    subst z11 z12 z13 z21 z22 z23
    obtain rfl : N = 0 := hnum
    have HB := Lib.hid (below_set3 hb0 (Nat.le_succ w.heap.size) (.int .i64 0) (.slice none 0 0) (.slice none 0 0))
    clear hu0 hr0 hb0 hwx z0 h ht hl
    go_enter Tryz.func81, Tryz.ntmps81
    go_wp2_with fail
    exact bodyPost_ret (v := .agg #[.int .i64 0, .slice none 0 0, .slice none 0 0]) (by simp [results, Tryz.results81, go_sem]) rfl ⟨0, none, 0, 0, none, 0, 0, rfl, WantB.zero _ _, by have h9 := HB.out; rw [← HWX.out] at h9; first | exact h9 | simpa [go_sem] using h9⟩
  | some t =>
    have hN := (ht t rfl).1
    have hll := hl t rfl
    obtain ⟨B1, b1, B2, b2, he, p1, p2, p3, p4, s1, s2⟩ := h.want
    injection he with he
    injection he with he
    injection he with z0 he
    injection he with z1 he
    injection he with z2 _
    injection z1 with z11 z12 z13
    injection z2 with z21 z22 z23
    subst z11 z12 z13 z21 z22 z23
    obtain rfl : N = t.1 := hnum
    have hNz : ¬ t.1 = 0 := by omega
    have hNz2 : ((t.1 : Int) == 0) = false := by simp; omega
    obtain ⟨M, hM⟩ : ∃ M, t.2.length = M := ⟨_, rfl⟩
    rw [hM] at s1 s2 hll p1 p3 u1 u2 hu0 hwx ⊢
    have hbx := (Below.refl w.heap.size w).trans hb0
    have hS1 : Sl wx A1 M (t.2.map fun x => Value.string x.1) := by subst hwx; exact s1.below (hb0)
    have hS2 : Sl wx A2 M (t.2.map fun x => Value.int .i64 x.2) := by subst hwx; exact s2.below (hb0)
    have hS1d : Sl wx.drew A1 M _ := hS1
    have hS2d : Sl wx.drew A2 M _ := hS2
    -- the rows of one element each, by the order in which they are laid
    have a1 := own_lit1 wx.drew (.string op) 9
    have i1 := own_lit1 wx.drew (.int .i64 at') 3
    have a2 := a1.alloc (.cells #[.int .i64 at'] 3)
    have b2 : ((wx.drew.alloc (.cells #[.string op] 9)).alloc (.cells #[.int .i64 at'] 3)).ownsRow wx.heap.size 3 1 (.slice (some ⟨wx.heap.size + 1, 0, none⟩) 1 1) 1 [.int .i64 at'] := by
      have h0 := own_lit1 (wx.drew.alloc (.cells #[.string op] 9)) (.int .i64 at') 3
      rw [World.size_alloc] at h0
      exact own_base h0 (Nat.le_succ _)
    have a3 : ((wx.drew.alloc (.cells #[.int .i64 at'] 3)).alloc (.cells #[.string op] 9)).ownsRow wx.heap.size 9 1 (.slice (some ⟨wx.heap.size + 1, 0, none⟩) 1 1) 1 [.string op] := by
      have h0 := own_lit1 (wx.drew.alloc (.cells #[.int .i64 at'] 3)) (.string op) 9
      rw [World.size_alloc] at h0
      exact own_base h0 (Nat.le_succ _)
    have b3 := i1.alloc (.cells #[.string op] 9)
    have k1 := (Below.refl wx.drew.heap.size wx.drew).alloc (Nat.le_refl _) (.cells #[.string op] 9)
    have k2 := k1.alloc k1.size (.cells #[.int .i64 at'] 3)
    have j1 := (Below.refl wx.drew.heap.size wx.drew).alloc (Nat.le_refl _) (.cells #[.int .i64 at'] 3)
    have k3 := j1.alloc j1.size (.cells #[.string op] 9)
    have K1 := Lib.hid k1
    have K2 := Lib.hid k2
    have K3 := Lib.hid k3
    have K9 := Lib.hid (show wx.drew.heap.size ≤ (wx.drew.alloc (.cells #[.int .i64 at'] 3)).heap.size by simp)
    have K8 := Lib.hid (show wx.drew.heap.size ≤ (wx.drew.alloc (.cells #[.string op] 9)).heap.size by simp)
    have HNE := Lib.hid (show 9 ≠ 3 by decide)
    have HA1 := Lib.hid a1
    have HA2 := Lib.hid a2
    have HA3 := Lib.hid a3
    have HB2 := Lib.hid b2
    have HB3 := Lib.hid b3
    have HS1 := Lib.hid hS1d
    have HS2 := Lib.hid hS2d
    have HU := Lib.hid hu0
    have HR := Lib.hid (show WantAt wx.drew (w.heap.size + 1) (.int .i64 0) (.slice none 0 0) (.slice none 0 0) from hr0)
    have HB0 := Lib.hid (show Below w.heap.size w wx.drew from hb0.drew)
    have HO1 := Lib.hid (strs_one t.2)
    have HO2 := Lib.hid (ats_one t.2)
    have HWX2 := Lib.hid hwx
    have hlx : w.heap.size < wx.heap.size := by omega
    have hlx1 : w.heap.size + 1 < wx.heap.size := by omega
    have HLX1 := Lib.hid hlx1
    clear a1 i1 a2 b2 a3 b3 k1 k2 j1 k3 hS1d hS2d hS1 hS2 s1 s2 hu0 hr0 hb0 hbx hwx h hl ht hsx
    go_enter Tryz.func81, Tryz.ntmps81
    go_wp2_with fail
    rw [HWX2.out]
    go_region_held3 (fun w' => w'.cell? ⟨w.heap.size, 0, none⟩ = some (.int .i64 (t.1 : Int)) ∧ w'.cell? ⟨w.heap.size, 1, none⟩ = some (.slice A1 M c1) ∧ w'.cell? ⟨w.heap.size, 2, none⟩ = some (.slice A2 M c2))
      (first | (refine ⟨?_, ?_, ?_⟩ <;> assumption) | go_keep)
      (first
        | (refine step_cat ?_ (.tmp 14) (.tmp 16) 43 rfl tStrs (base := wx.heap.size) (v := .slice (some ⟨wx.heap.size + 1, 0, none⟩) 1 1) (n := 1) (xs := [.string op]) ?_ rfl (ys := t.2.map fun x => Value.string x.1) ?_ rfl HO1.out ?_ ?_ ?_ ?_
           · rfl
           · exact HA3.out
           · exact HS1.out.below K3.out
           · (simp only [maxLen]; omega)
           · omega
           · exact K3.out.size
           intro C17 cc17 w17 hown17 hg17 hor17
           have hk17 := grown_lit K3.out hg17 (Nat.le_succ _)
           have hI17 := own_other HB3.out hg17 (Nat.succ_ne_self _).symm
           have hst17 := HS2.out.below hk17
           have q0 := cell_later hk17 u0
           have q1 := cell_later hk17 u1
           have q2 := cell_later hk17 u2)
        | (refine step_cat ?_ (.tmp 14) (.tmp 16) 43 rfl tStrs (base := wx.heap.size) (v := .slice (some ⟨wx.heap.size, 0, none⟩) 1 1) (n := 1) (xs := [.string op]) ?_ rfl (ys := t.2.map fun x => Value.string x.1) ?_ rfl HO1.out ?_ ?_ ?_ ?_
           · rfl
           · first | exact HA1.out | exact HA2.out
           · first | exact HS1.out.below K1.out | exact HS1.out.below K2.out
           · (simp only [maxLen]; omega)
           · omega
           · first | exact K1.out.size | exact K2.out.size
           intro C17 cc17 w17 hown17 hg17 hor17
           first
             | (have hk17 := grown_lit K1.out hg17 (Nat.le_refl _)
                have hst17 := HS2.out.below hk17)
             | (have hk17 := grown_lit K2.out hg17 (Nat.le_refl _)
                have hI17 := own_other HB2.out hg17 (Nat.succ_ne_self _)
                have hst17 := HS2.out.below hk17)
           have q0 := cell_later hk17 u0
           have q1 := cell_later hk17 u1
           have q2 := cell_later hk17 u2)
        | (refine step_cat ?_ (.tmp 19) (.tmp 21) 24 rfl tInts (base := wx.heap.size) (v := .slice (some ⟨wx.heap.size, 0, none⟩) 1 1) (n := 1) (xs := [.int .i64 at']) ?_ rfl (ys := t.2.map fun x => Value.int .i64 x.2) ?_ rfl HO2.out ?_ ?_ ?_ ?_
           · rfl
           · exact hI17
           · exact hst17
           · (simp only [maxLen]; omega)
           · omega
           · exact hk17.size
           intro C22 cc22 w22 hown22 hg22 hor22
           have hk22 := grown_lit hk17 hg22 (Nat.le_refl _)
           have hS22 := own_apart hown17 hI17 HNE.out hg22
           have t0 := cell_later hk22 u0
           have t1 := cell_later hk22 u1
           have t2 := cell_later hk22 u2
           have r22 := HR.out.below hk22 HLX1.out
           obtain ⟨v0, v1, v2, g0, g1, g2⟩ := r22.facts)
        | (refine step_cat ?_ (.tmp 19) (.tmp 21) 24 rfl tInts (base := wx.heap.size) (v := .slice (some ⟨wx.heap.size + 1, 0, none⟩) 1 1) (n := 1) (xs := [.int .i64 at']) ?_ rfl (ys := t.2.map fun x => Value.int .i64 x.2) ?_ rfl HO2.out ?_ ?_ ?_ ?_
           · rfl
           · exact hI17
           · exact hst17
           · (simp only [maxLen]; omega)
           · omega
           · exact hk17.size
           intro C22 cc22 w22 hown22 hg22 hor22
           have hk22 := grown_lit hk17 hg22 (Nat.le_succ _)
           have hS22 := own_apart hown17 hI17 HNE.out hg22
           have t0 := cell_later hk22 u0
           have t1 := cell_later hk22 u1
           have t2 := cell_later hk22 u2
           have r22 := HR.out.below hk22 HLX1.out
           obtain ⟨v0, v1, v2, g0, g1, g2⟩ := r22.facts)
        | (refine step_cat ?_ (.tmp 19) (.tmp 21) 24 rfl tInts (base := wx.heap.size) (v := .slice (some ⟨w17.heap.size, 0, none⟩) 1 1) (n := 1) (xs := [.int .i64 at']) ?_ rfl (ys := t.2.map fun x => Value.int .i64 x.2) ?_ rfl HO2.out ?_ ?_ ?_ ?_
           · rfl
           · exact own_base (own_lit1 w17 (.int .i64 at') 3) hk17.size
           · exact hst17.alloc _
           · (simp only [maxLen]; omega)
           · omega
           · exact (hk17.alloc hk17.size _).size
           intro C22 cc22 w22 hown22 hg22 hor22
           have hk22 := grown_lit (hk17.alloc hk17.size _) hg22 hk17.size
           have hS22 := own_apart (hown17.alloc _) (own_lit1 w17 (.int .i64 at') 3) HNE.out hg22
           have t0 := cell_later hk22 u0
           have t1 := cell_later hk22 u1
           have t2 := cell_later hk22 u2
           have r22 := HR.out.below hk22 HLX1.out
           obtain ⟨v0, v1, v2, g0, g1, g2⟩ := r22.facts))
    all_goals
      obtain ⟨hwb, hbb⟩ := under_end hM HB0.out HLX1.out hk22 r22 hS22 hown22 (.int .i64 (t.1 : Int)) (.slice C17 (1 + M) cc17) (.slice C22 (1 + M) cc22)
      have HWB := Lib.hid hwb
      have HBB := Lib.hid hbb
      clear hwb hbb hS22 hown22 hk22 r22
      go_wp2_with fail
      exact bodyPost_ret (v := .agg #[.int .i64 (t.1 : Int), .slice C17 (1 + M) cc17, .slice C22 (1 + M) cc22]) (by simp [results, Tryz.results81, go_sem, v0, v1, v2]) rfl ⟨t.1, C17, 1 + M, cc17, C22, 1 + M, cc22, rfl, HWB.out, HBB.out⟩
end Go.Proofs.YtpllojpgpejfmaaGreatDoor

namespace Go.Proofs.YtpllojpgpejfmaaGreatDoor
open Go.RowKit

theorem errBad_c (w : World) (N : Nat) (A1 : Option Addr) (n1 c1 : Nat) (A2 : Option Addr) (n2 c2 : Nat) :
    Calls Tryz.prog 51 #[.agg #[.int .i64 (N : Int), .slice A1 n1 c1, .slice A2 n2 c2]] w fun e w' => e = .returned (.bool (decide (N ≠ 0))) ∧ Below w.heap.size w w' := by
  have hd : ((N : Int) != 0) = decide (N ≠ 0) := by
    by_cases h : N = 0
    · subst h; rfl
    · rw [decide_eq_true h]; simp; exact h
  go_enter Tryz.func51, Tryz.ntmps51
  go_wp2_with fail
  go_ret
  exact ⟨by first | rfl | rw [hd] | simp, (Below.refl _ _).alloc (Nat.le_refl _) _⟩

end Go.Proofs.YtpllojpgpejfmaaGreatDoor

namespace Go.Proofs.YtpllojpgpejfmaaGreatDoor
open Go.RowKit RuleP

set_option maxRecDepth 100000 in
set_option maxHeartbeats 1000000 in
theorem power_c (w : World) (k n : Nat) (h1 : 1 ≤ k) (h2 : k ≤ 4) (h3 : n ≤ 8) :
    Calls Tryz.prog 80 #[.int .i64 (k : Int), .int .i64 (n : Int)] w fun e w' => e = .returned (.int .i64 ((k ^ n : Nat) : Int)) ∧ w = w' := by
  go_enter Tryz.func80, Tryz.ntmps80
  go_wp2_with fail
  go_loop [5, 6] (fun x i => ∃ j : Nat, j ≤ n ∧ i = .int .i64 (j : Int) ∧ x = .int .i64 ((k ^ j : Nat) : Int)) (fun _ i => n - (intOf i).toNat)
  case atStart => exact ⟨0, Nat.zero_le _, rfl, by simp⟩
  case round =>
    obtain ⟨j, hj, rfl, rfl⟩ := hrel
    by_cases hlt : j < n
    · have hp : ((k ^ j : Nat) : Int) * (k : Int) = ((k ^ (j + 1) : Nat) : Int) := by rw [Nat.pow_succ]; simp
      have hle : k ^ (j + 1) ≤ 65536 := Nat.le_trans (Nat.pow_le_pow_right h1 (show j + 1 ≤ 8 by omega)) (Nat.le_trans (Nat.pow_le_pow_left h2 8) (by decide))
      obtain ⟨P, hP⟩ : ∃ P, k ^ j = P := ⟨_, rfl⟩
      obtain ⟨Q, hQ⟩ : ∃ Q, k ^ (j + 1) = Q := ⟨_, rfl⟩
      rw [hP, hQ] at hp
      rw [hQ] at hle
      rw [hP]
      have HQ := Lib.hid hQ
      clear hQ hP
      go_wp2_with fail
      exact ⟨⟨j + 1, by omega, by go_num, by rw [HQ.out]⟩, by simp [intOf]; omega⟩
    · obtain rfl : j = n := by omega
      obtain ⟨Q, hQ⟩ : ∃ Q, k ^ j = Q := ⟨_, rfl⟩
      have HQ := Lib.hid hQ
      rw [hQ]
      clear hQ
      go_wp2_with fail
      go_ret
      exact ⟨by simp [← HQ.out], rfl⟩

set_option maxRecDepth 100000 in
set_option maxHeartbeats 1000000 in
theorem bad_c (w : World) (k : Int) (A : Option Addr) (n c : Nat) (W : List Int) (h : Sl w A n (W.map (Value.int .i64))) (hm : n ≤ 9223372036854775807) :
    Calls Tryz.prog 107 #[.int .i64 k, .slice A n c] w fun e w' => e = .returned (.int .i64 (place (odd k W))) ∧ ∃ q, w' = w.drewN q := by
  have hl : W.length = n := by simpa using h.1
  have HL := Lib.hid hl
  clear hl
  go_enter Tryz.func107, Tryz.ntmps107
  go_wp2_with fail
  go_loopw [5] (fun i wr => ∃ j q : Nat, j ≤ n ∧ i = .int .i64 (j : Int) ∧ wr = w.drewN q ∧ Hid (∀ (m : Nat) (x : Int), m < j → W[m]? = some x → 0 ≤ x ∧ x < k)) (fun i _ => n - (intOf i).toNat)
  case atStart => exact ⟨0, 0, Nat.zero_le _, rfl, rfl, Lib.hid (fun m x hm => by omega)⟩
  case round =>
    obtain ⟨j, q, hj, rfl, rfl, hs⟩ := hrel
    by_cases hlt : j < n
    · obtain ⟨ad, x, rfl, hxj, hcx⟩ := h.int_ hlt
      by_cases hx : 0 ≤ x ∧ x < k
      · obtain ⟨hx1, hx2⟩ := hx
        have d1 : decide (x < 0) = false := decide_eq_false (by omega)
        have d2 : decide (k ≤ x) = false := decide_eq_false (by omega)
        have hs2 : Hid (∀ (m : Nat) (y : Int), m < j + 1 → W[m]? = some y → 0 ≤ y ∧ y < k) := Lib.hid (fun m y hm hy => by
          rcases Nat.lt_or_ge m j with h1 | h1
          · exact hs.out m y h1 hy
          · obtain rfl : m = j := by omega
            rw [hxj] at hy; cases hy; exact ⟨hx1, hx2⟩)
        clear hxj hs
        go_wp2_with (go_quiet (fail))
        all_goals exact ⟨⟨j + 1, _, by omega, by go_num, by first | rfl | exact World.drewN_drewN _ _ _, hs2⟩, by simp [intOf]; omega⟩
      · have hp : Hid (place (odd k W) = (j : Int)) := Lib.hid (by
          unfold odd
          rw [List.findIdx?_eq_some_iff_getElem.2 ⟨by rw [HL.out]; exact hlt, by rw [(List.getElem?_eq_some_iff.1 hxj).2]; simp; omega, fun m hm => by
            have := hs.out m _ hm (List.getElem?_eq_getElem (by have := HL.out; omega))
            simp; omega⟩]
          rfl)
        have hx' : x < 0 ∨ (0 ≤ x ∧ k ≤ x) := by omega
        clear hx hs hxj
        rcases hx' with hx | ⟨hx, hx2⟩
        all_goals
          go_wp2_with (go_quiet (fail))
          all_goals go_ret
          all_goals exact ⟨by rw [hp.out]; rfl, _, by first | rfl | exact World.drewN_drewN _ _ _⟩
    · obtain rfl : j = n := by omega
      have hp : Hid (place (odd k W) = -1) := Lib.hid (by
        unfold odd
        rw [List.findIdx?_eq_none_iff.2 fun x hx => by
          obtain ⟨m, hm⟩ := List.getElem?_of_mem hx
          have := hs.out m x (by rw [← HL.out]; exact (List.getElem?_eq_some_iff.1 hm).1) hm
          simp; omega]
        rfl)
      clear hs
      go_wp2_with fail
      go_ret
      exact ⟨by rw [hp.out]; rfl, _, rfl⟩

/-- What is asked, of an answer's side. -/
def wantOf {α : Type} : Except Tale α → Option Tale
  | .ok _ => none
  | .error t => some t
set_option maxRecDepth 100000 in
set_option maxHeartbeats 2000000 in
theorem refCheck_c (w : World) (K R : Int) (A : Option Addr) (n c : Nat) (T : List Int) (hT : Sl w A n (T.map (Value.int .i64))) (hm : n ≤ 9223372036854775807) :
    Calls Tryz.prog 82 #[ruleV K R A n c] w fun e w' => ∃ (N : Nat) (A1 : Option Addr) (n1 c1 : Nat) (A2 : Option Addr) (n2 c2 : Nat), e = .returned (.agg #[.int .i64 (N : Int), .slice A1 n1 c1, .slice A2 n2 c2]) ∧
      WantB w' w.heap.size (check K R T) (.agg #[.int .i64 (N : Int), .slice A1 n1 c1, .slice A2 n2 c2]) ∧ Below w.heap.size w w' := by
  have hl : T.length = n := by simpa using hT.1
  have HL := Lib.hid hl
  clear hl
  have hr0 := (RuleAt.new w (.int .i64 K) (.int .i64 R) (.slice A n c)).alloc (.cells #[.int .i64 0, .slice none 0 0, .slice none 0 0] 45)
  have hw0 := WantAt.new (w.alloc (.cells #[.int .i64 K, .int .i64 R, .slice A n c] 26)) (.int .i64 0) (.slice none 0 0) (.slice none 0 0)
  rw [World.size_alloc] at hw0
  have hb0 := ((Below.refl w.heap.size w).alloc (Nat.le_refl _) (.cells #[.int .i64 K, .int .i64 R, .slice A n c] 26)).alloc (by simp) (.cells #[.int .i64 0, .slice none 0 0, .slice none 0 0] 45)
  have hT0 := (hT.alloc (.cells #[.int .i64 K, .int .i64 R, .slice A n c] 26)).alloc (.cells #[.int .i64 0, .slice none 0 0, .slice none 0 0] 45)
  obtain ⟨r0, r1, r2, _⟩ := hr0.facts
  obtain ⟨wx, hwx⟩ : ∃ wx, (w.alloc (.cells #[.int .i64 K, .int .i64 R, .slice A n c] 26)).alloc (.cells #[.int .i64 0, .slice none 0 0, .slice none 0 0] 45) = wx := ⟨_, rfl⟩
  have hsx : wx.heap.size = w.heap.size + 2 := by rw [← hwx]; simp
  have HWX := Lib.hid hwx
  rw [hwx] at hr0 hw0 hb0 hT0
  have fin : ∀ (wz : World) (i : Int) (w1 : World) (A1 : Option Addr) (n1 c1 : Nat) (A2 : Option Addr) (n2 c2 : Nat), Below wx.heap.size wx wz →
      WantB w1 wz.heap.size (some (1, [(sRule, i)])) (.agg #[.int .i64 1, .slice A1 n1 c1, .slice A2 n2 c2]) → Below wz.heap.size wz w1 → check K R T = some (1, [(sRule, i)]) →
      WantAt w1 (w.heap.size + 1) (.int .i64 0) (.slice none 0 0) (.slice none 0 0) ∧ Hid (WantB (((w1.setCell ⟨w.heap.size + 1, 0, none⟩ (.int .i64 1)).setCell ⟨w.heap.size + 1, 1, none⟩ (.slice A1 n1 c1)).setCell ⟨w.heap.size + 1, 2, none⟩ (.slice A2 n2 c2)) w.heap.size (check K R T) (.agg #[.int .i64 1, .slice A1 n1 c1, .slice A2 n2 c2])) ∧
      Hid (Below w.heap.size w (((w1.setCell ⟨w.heap.size + 1, 0, none⟩ (.int .i64 1)).setCell ⟨w.heap.size + 1, 1, none⟩ (.slice A1 n1 c1)).setCell ⟨w.heap.size + 1, 2, none⟩ (.slice A2 n2 c2))) := fun wz i w1 A1 n1 c1 A2 n2 c2 hz hu hb hc => by
    have hs := hz.size
    have hzz : Below w.heap.size w wz := hb0.trans (hz.mono (by omega))
    refine ⟨(hw0.below hz (by omega)).below hb (by omega), Lib.hid ?_, Lib.hid (below_set3 (hzz.trans (hb.mono hzz.size)) (Nat.le_succ _) _ _ _)⟩
    rw [hc]
    exact (hu.set3 (g := w.heap.size + 1) (by omega) _ _ _).base (by omega)
  have FIN := Lib.hid fin
  have HW0 := Lib.hid hw0
  have HB0 := Lib.hid hb0
  have HT0 := Lib.hid hT0
  clear fin hw0 hb0 hT hT0 hr0 hwx
  unfold ruleV
  by_cases hk : K < 1 ∨ 4 < K
  · have hc : Hid (check K R T = some (1, [(sRule, 0)])) := Lib.hid (by unfold check; rw [if_pos hk])
    have hk' : K < 1 ∨ (1 ≤ K ∧ 4 < K) := by omega
    clear hk
    rcases hk' with hk | ⟨hk, hk'⟩
    all_goals
      go_enter Tryz.func82, Tryz.ntmps82
      go_wp2_with fail
      rw [HWX.out]
      refine (newB_c wx sRule 0 1).mono ?_
      rintro e w1 ⟨A1, n1, c1, A2, n2, c2, rfl, hu, hb1⟩
      obtain ⟨hw1, HU, HB⟩ := FIN.out _ 0 w1 A1 n1 c1 A2 n2 c2 (Below.refl _ _) hu hb1 hc.out
      obtain ⟨d0, d1, d2, f0, f1, f2⟩ := hw1.facts
      clear hu hb1 hw1
      go_wp2_with fail
      exact bodyPost_ret (v := .agg #[.int .i64 1, .slice A1 n1 c1, .slice A2 n2 c2]) (by simp [results, Tryz.results82, go_sem, d0, d1, d2]) rfl ⟨1, A1, n1, c1, A2, n2, c2, rfl, HU.out, HB.out⟩
  by_cases hr : R < 0 ∨ 3 < R
  · have hc : Hid (check K R T = some (1, [(sRule, 1)])) := Lib.hid (by unfold check; rw [if_neg hk, if_pos hr])
    have hr' : R < 0 ∨ (0 ≤ R ∧ 3 < R) := by omega
    have hk1 : 1 ≤ K := by omega
    have hk4 : K ≤ 4 := by omega
    clear hk hr
    rcases hr' with hr | ⟨hr, hr'⟩
    all_goals
      go_enter Tryz.func82, Tryz.ntmps82
      go_wp2_with fail
      rw [HWX.out]
      refine (newB_c wx sRule 1 1).mono ?_
      rintro e w1 ⟨A1, n1, c1, A2, n2, c2, rfl, hu, hb1⟩
      obtain ⟨hw1, HU, HB⟩ := FIN.out _ 1 w1 A1 n1 c1 A2 n2 c2 (Below.refl _ _) hu hb1 hc.out
      obtain ⟨d0, d1, d2, f0, f1, f2⟩ := hw1.facts
      clear hu hb1 hw1
      go_wp2_with fail
      exact bodyPost_ret (v := .agg #[.int .i64 1, .slice A1 n1 c1, .slice A2 n2 c2]) (by simp [results, Tryz.results82, go_sem, d0, d1, d2]) rfl ⟨1, A1, n1, c1, A2, n2, c2, rfl, HU.out, HB.out⟩
  obtain ⟨k, rfl⟩ : ∃ k : Nat, K = (k : Int) := ⟨K.toNat, by omega⟩
  obtain ⟨r, rfl⟩ : ∃ r : Nat, R = (r : Int) := ⟨R.toNat, by omega⟩
  have hk1 : 1 ≤ k := by omega
  have hk4 : k ≤ 4 := by omega
  have hr3 : r ≤ 3 := by omega
  have hpw := fun wz => power_c wz k (2 * r + 1) hk1 hk4 (by omega)
  rw [show ((2 * r + 1 : Nat) : Int) = 2 * (r : Int) + 1 from by omega] at hpw
  obtain ⟨L, hL⟩ : ∃ L, k ^ (2 * r + 1) = L := ⟨_, rfl⟩
  rw [hL] at hpw
  have HPW := Lib.hid hpw
  by_cases hn : T.length ≠ k ^ (2 * r + 1)
  · have hc : Hid (check (k : Int) (r : Int) T = some (1, [(sRule, 2)])) := Lib.hid (by unfold check; rw [if_neg hk, if_neg hr, if_pos (by simpa using hn)])
    rw [hL] at hn
    have hne : ((n : Int) != (L : Int)) = true := by have := HL.out; simp; omega
    clear hk hr hL hpw hn
    go_enter Tryz.func82, Tryz.ntmps82
    go_wp2_with (go_quiet ((go_at_call 80; exact Calls.quiet_of_same ((HPW.out _).mono fun _ _ h => ⟨h.1, h.2.symm⟩))))
    rw [HWX.out]
    refine (newB_c (wx.drewN nq) sRule 2 1).mono ?_
    rintro e w1 ⟨A1, n1, c1, A2, n2, c2, rfl, hu, hb1⟩
    obtain ⟨hw1, HU, HB⟩ := FIN.out _ 2 w1 A1 n1 c1 A2 n2 c2 (pure_drewN _ _) hu hb1 hc.out
    obtain ⟨d0, d1, d2, f0, f1, f2⟩ := hw1.facts
    clear hu hb1 hw1
    go_wp2_with fail
    exact bodyPost_ret (v := .agg #[.int .i64 1, .slice A1 n1 c1, .slice A2 n2 c2]) (by simp [results, Tryz.results82, go_sem, d0, d1, d2]) rfl ⟨1, A1, n1, c1, A2, n2, c2, rfl, HU.out, HB.out⟩
  have hn' : T.length = k ^ (2 * r + 1) := Decidable.not_not.1 hn
  have hc : check (k : Int) (r : Int) T = match odd (k : Int) T with
      | some i => some (1, [(sRule, 3 + (i : Int))])
      | none => none := by unfold check; rw [if_neg hk, if_neg hr, if_neg (by simpa using hn)]; cases odd (k : Int) T <;> rfl
  rw [hL] at hn'
  have hne : ((n : Int) != (L : Int)) = false := by have := HL.out; simp; omega
  have hle : n ≤ 16384 := by
    have := pow_le (k := k) (r := r) hk4 hr3
    have := HL.out
    omega
  have HOD := Lib.hid (fun q => bad_c (wx.drewN q) (k : Int) A n c T (HT0.out.drewN q) hm)
  clear hk hr hn hn' hL hpw
  cases ho : odd (k : Int) T with
  | some i =>
    rw [ho] at hc HOD
    have HC := Lib.hid hc
    have hi : i < n := by have := odd_some ho; have := HL.out; omega
    have hpl : place (some i) = (i : Int) := rfl
    rw [hpl] at HOD
    clear hc ho hpl
    go_enter Tryz.func82, Tryz.ntmps82
    go_wp2_with (go_quiet ((go_at_call 80; exact Calls.quiet_of_same ((HPW.out _).mono fun _ _ h => ⟨h.1, h.2.symm⟩))))
    rw [HWX.out]
    refine (HOD.out nq).mono ?_
    rintro e w3 ⟨rfl, q3, rfl⟩
    go_wp2_with fail
    refine (newB_c (wx.drewN (nq + q3)) sRule (3 + (i : Int)) 1).mono ?_
    rintro e w1 ⟨A1, n1, c1, A2, n2, c2, rfl, hu, hb1⟩
    obtain ⟨hw1, HU, HB⟩ := FIN.out _ (3 + (i : Int)) w1 A1 n1 c1 A2 n2 c2 (pure_drewN _ _) hu hb1 HC.out
    obtain ⟨d0, d1, d2, f0, f1, f2⟩ := hw1.facts
    clear hu hb1 hw1
    go_wp2_with fail
    exact bodyPost_ret (v := .agg #[.int .i64 1, .slice A1 n1 c1, .slice A2 n2 c2]) (by simp [results, Tryz.results82, go_sem, d0, d1, d2]) rfl ⟨1, A1, n1, c1, A2, n2, c2, rfl, HU.out, HB.out⟩
  | none =>
    rw [ho] at hc HOD
    have HC := Lib.hid hc
    have hpl : place none = -1 := rfl
    rw [hpl] at HOD
    obtain ⟨d0, d1, d2, f0, f1, f2⟩ := HW0.out.facts
    clear hc ho hpl
    go_enter Tryz.func82, Tryz.ntmps82
    go_wp2_with (go_quiet ((go_at_call 80; exact Calls.quiet_of_same ((HPW.out _).mono fun _ _ h => ⟨h.1, h.2.symm⟩))))
    rw [HWX.out]
    refine (HOD.out nq).mono ?_
    rintro e w3 ⟨rfl, q3, rfl⟩
    go_wp2_with fail
    exact bodyPost_ret (v := .agg #[.int .i64 0, .slice none 0 0, .slice none 0 0]) (by simp [results, Tryz.results82, go_sem, d0, d1, d2]) rfl ⟨0, none, 0, 0, none, 0, 0, rfl, by rw [HC.out]; exact WantB.zero _ _, below_set3 (below_drewN HB0.out _) (Nat.le_succ _) _ _ _⟩

end Go.Proofs.YtpllojpgpejfmaaGreatDoor

namespace Go.Proofs.YtpllojpgpejfmaaGreatDoor
open Go.RowKit RuleP

theorem check_len {K R : Int} {T : List Int} {x : Tale} (h : check K R T = some x) : x.2.length = 1 := by
  unfold check at h
  split at h
  · cases h; rfl
  split at h
  · cases h; rfl
  split at h
  · cases h; rfl
  split at h
  · cases h; rfl
  · cases h
/-- A value that asks for an error is stored in a result's box. -/
theorem want_boxed {w0 w1 : World} {t : Option Tale} {N : Nat} {A1 A2 : Option Addr} {n1 c1 n2 c2 g : Nat} (hu : WantB w1 w0.heap.size t (.agg #[.int .i64 (N : Int), .slice A1 n1 c1, .slice A2 n2 c2])) {base : Nat} (hg : g < w0.heap.size) (hbase : base ≤ g) {w : World} (hb : Below base w w1) :
    WantB (((w1.setCell ⟨g, 0, none⟩ (.int .i64 (N : Int))).setCell ⟨g, 1, none⟩ (.slice A1 n1 c1)).setCell ⟨g, 2, none⟩ (.slice A2 n2 c2)) base t (.agg #[.int .i64 (N : Int), .slice A1 n1 c1, .slice A2 n2 c2]) ∧
      Below base w (((w1.setCell ⟨g, 0, none⟩ (.int .i64 (N : Int))).setCell ⟨g, 1, none⟩ (.slice A1 n1 c1)).setCell ⟨g, 2, none⟩ (.slice A2 n2 c2)) :=
  ⟨(hu.set3 hg _ _ _).base (by omega), below_set3 hb hbase _ _ _⟩

end Go.Proofs.YtpllojpgpejfmaaGreatDoor

namespace Go.Proofs.YtpllojpgpejfmaaGreatDoor
open Go.RowKit RuleP

end Go.Proofs.YtpllojpgpejfmaaGreatDoor

namespace Go.Proofs.YtpllojpgpejfmaaGreatDoor
open Go.RowKit RuleP

set_option maxRecDepth 100000 in
set_option maxHeartbeats 1000000 in
theorem value_c (w : World) (k : Nat) (B : Option Addr) (m d : Nat) (v : List Nat) (hk1 : 1 ≤ k) (hk4 : k ≤ 4) (hv : ∀ x ∈ v, x < k) (hW : Sl w B m ((ints v).map (Value.int .i64))) (hm7 : m ≤ 7) :
    Calls Tryz.prog 52 #[.int .i64 (k : Int), .slice B m d] w fun e w' => e = .returned (.int .i64 ((wval k v : Nat) : Int)) ∧ w = w' := by
  have hl : v.length = m := by simpa [ints] using hW.1
  have HL := Lib.hid hl
  have HV := Lib.hid hv
  rw [ints_map] at hW
  clear hl hv
  go_enter Tryz.func52, Tryz.ntmps52
  go_wp2_with fail
  go_loop [5, 6] (fun nv i => ∃ j : Nat, j ≤ m ∧ i = .int .i64 (j : Int) ∧ nv = .int .i64 ((wval k (v.take j) : Nat) : Int)) (fun _ i => m - (intOf i).toNat)
  case atStart => exact ⟨0, Nat.zero_le _, rfl, by simp [wval_nil]⟩
  case round =>
    obtain ⟨j, hj, rfl, rfl⟩ := hrel
    by_cases hlt : j < m
    · obtain ⟨adw, x, rfl, hxj, hcx⟩ := hW.word_ hlt
      have hxk : x < k := HV.out x (List.mem_of_getElem? hxj)
      have hs : wval k (v.take (j + 1)) = wval k (v.take j) * k + x := by
        rw [List.take_add_one, hxj]; exact wval_snoc _ _ _
      have hle : wval k (v.take (j + 1)) ≤ 16384 := by
        have h1 := wval_lt (k := k) (w := v.take (j + 1)) (fun y hy => HV.out y (List.mem_of_mem_take hy))
        have h2 : k ^ (v.take (j + 1)).length ≤ 4 ^ 7 := Nat.le_trans (Nat.pow_le_pow_left hk4 _) (Nat.pow_le_pow_right (by decide) (by rw [List.length_take]; omega))
        have h3 : 4 ^ 7 = 16384 := by decide
        omega
      obtain ⟨ρ, hρ⟩ : ∃ ρ, wval k (v.take j) = ρ := ⟨_, rfl⟩
      obtain ⟨σ, hσ⟩ : ∃ σ, wval k (v.take (j + 1)) = σ := ⟨_, rfl⟩
      rw [hρ, hσ] at hs
      rw [hσ] at hle
      rw [hρ]
      have hQ : (ρ : Int) * (k : Int) = ((ρ * k : Nat) : Int) := by simp
      obtain ⟨Q, hQQ⟩ : ∃ Q, ρ * k = Q := ⟨_, rfl⟩
      rw [hQQ] at hQ hs
      have hQl : Q ≤ 16384 := by omega
      have hsum : Hid ((Q : Int) + (x : Int) = (σ : Int)) := Lib.hid (by omega)
      have HS := Lib.hid hσ
      clear hs hρ hσ hQQ hxj
      go_wp2_with fail
      exact ⟨⟨j + 1, by omega, by go_num, by rw [HS.out, ← hsum.out]⟩, by simp [intOf]; omega⟩
    · obtain rfl : j = m := by omega
      have htk : v.take j = v := List.take_of_length_le (by rw [HL.out]; exact Nat.le_refl _)
      rw [htk]
      obtain ⟨ρ, hρ⟩ : ∃ ρ, wval k v = ρ := ⟨_, rfl⟩
      have HR := Lib.hid hρ
      rw [hρ]
      clear htk hρ
      go_wp2_with fail
      go_ret
      exact ⟨by rw [HR.out]; rfl, rfl⟩

set_option maxRecDepth 100000 in
set_option maxHeartbeats 4000000 in
theorem image_c (w : World) (k r : Nat) (A B : Option Addr) (n c m d M : Nat) (t v : List Nat) (hr : IsRule k r t) (hv : ∀ x ∈ v, x < k) (hT : Sl w A n ((ints t).map (Value.int .i64))) (hW : Sl w B m ((ints v).map (Value.int .i64))) (hm : m ≤ 4096) (hmd : m ≤ d) (hd : d ≤ maxLen) (hM : m - 2 * r = M) :
    Calls Tryz.prog 90 #[ruleV k r A n c, .slice B m d] w fun e w' => ∃ C c', e = .returned (.slice C M c') ∧ w'.ownsRow w.heap.size 3 1 (.slice C M c') M ((ints (image k r t v)).map (Value.int .i64)) ∧ Below w.heap.size w w' := by
  unfold maxLen at hd
  have hl : v.length = m := by simpa [ints] using hW.1
  have hlt : t.length = n := by simpa [ints] using hT.1
  have hn := hr.le
  have hk1 := hr.k1
  have hk4 := hr.k4
  have hr3 := hr.r3
  rw [hlt] at hn
  have hbox := RuleAt.new w (.int .i64 (k : Int)) (.int .i64 (r : Int)) (.slice A n c)
  have hb0 := (Below.refl w.heap.size w).alloc (Nat.le_refl _) (.cells #[.int .i64 (k : Int), .int .i64 (r : Int), .slice A n c] 26)
  have HL := Lib.hid hl
  have HLT := Lib.hid hlt
  have HR := Lib.hid hr
  have HV := Lib.hid hv
  have HM := Lib.hid hM
  clear hl hlt hr hv hM
  rw [ints_map] at hT
  obtain ⟨ii, hii, hiz, hi1, hi8⟩ := info_parts tInts.info
  unfold ruleV at *
  go_enter Tryz.func90, Tryz.ntmps90
  go_wp2_with fail
  go_loopw [5, 6] (fun ov iv wr => ∃ (i : Nat) (C : Option Addr) (cc : Nat), i ≤ M ∧ iv = .int .i64 (i : Int) ∧ ov = .slice C i cc ∧ wr.ownsRow w.heap.size 3 1 (.slice C i cc) i (((ints (image k r t v)).take i).map (Value.int .i64)) ∧
      RuleAt wr w.heap.size (.int .i64 (k : Int)) (.int .i64 (r : Int)) (.slice A n c) ∧ Below w.heap.size w wr) (fun _ iv _ => M - (intOf iv).toNat)
  case atStart => exact ⟨0, none, 0, Nat.zero_le _, rfl, rfl, ⟨by simp, .inl ⟨rfl, rfl⟩⟩, hbox, hb0⟩
  case round =>
    clear hbox hb0
    obtain ⟨i, C, cc, hi, rfl, rfl, hown, hbox, hb⟩ := hrel
    obtain ⟨b0, b1, b2, _⟩ := hbox.facts
    have hbl := hbox.lt
    have HBX := Lib.hid hbox
    clear hbox
    by_cases hlt : i < M
    · have him : i + 2 * r < m := by have := HM.out; omega
      have hW2 := hW.below hb
      obtain ⟨adw, xw, rfl, hq1, hq2⟩ := hW2.at_ (show i < m by omega)
      clear hq1 hq2
      have hpart := sl_part hW2 (i := i) (m := 2 * r + 1) (by omega) adw rfl
      have hwl : wval k (win v i (2 * r + 1)) < n := by
        have h1 := win_lt HR.out HV.out (show i + 2 * r < v.length by rw [HL.out]; exact him)
        rw [HLT.out] at h1; exact h1
      obtain ⟨adt, y, rfl, hyt, hcy0⟩ := hT.word_ hwl
      have hadt := World.block_lt_of_cell? _ _ hcy0
      have hcy := cell_later hb hcy0
      clear hcy0
      have himg : (ints (image k r t v))[i]? = some ((y : Nat) : Int) := by
        have h1 := image_at (k := k) (r := r) (t := t) (w := v) (i := i) (by rw [HL.out]; exact him)
        rw [List.getD_eq_getElem?_getD, hyt] at h1
        simp [ints, h1]
      have HIMG := Lib.hid himg
      have HSW : Hid (Sl wr (some (adw.add i)) (2 * r + 1) ((ints (win v i (2 * r + 1))).map (Value.int .i64))) := Lib.hid ⟨by simp only [List.length_map, ints_len]; exact win_len (by rw [HL.out]; omega), fun j u hj => ⟨_, rfl, hpart j u (by rw [show (((ints v).map (Value.int .i64)).drop i).take (2 * r + 1) = (ints (win v i (2 * r + 1))).map (Value.int .i64) from by simp [win, ints, List.map_drop, List.map_take]]; exact hj)⟩⟩
      have HVAL := Lib.hid (value_c wr.drew k (some (adw.add i)) (2 * r + 1) (d - i) (win v i (2 * r + 1)) hk1 hk4 (win_sym HV.out i (2 * r + 1)) HSW.out (by omega))
      obtain ⟨σ, hσ⟩ : ∃ σ, wval k (win v i (2 * r + 1)) = σ := ⟨_, rfl⟩
      rw [hσ] at hwl hcy HVAL hadt
      clear hpart hyt himg hσ hW2
      have s1 : IntKind.i64.wrap (2 * (r : Int)) = 2 * (r : Int) := IntWalk.i64_in _ (by omega)
      have s2 : IntKind.i64.wrap ((i : Int) + 2 * (r : Int)) = (i : Int) + 2 * (r : Int) := IntWalk.i64_in _ (by omega)
      have s3 : IntKind.i64.wrap ((i : Int) + 2 * (r : Int) + 1) = (i : Int) + 2 * (r : Int) + 1 := IntWalk.i64_in _ (by omega)
      have s4 : (i : Int) ≤ (i : Int) + 2 * (r : Int) + 1 := by omega
      have s5 : (i : Int) + 2 * (r : Int) + 1 ≤ (d : Int) := by omega
      have s6 : (0 : Int) ≤ (i : Int) + 2 * (r : Int) + 1 := by omega
      have s7 : (i : Int) + 2 * (r : Int) < (m : Int) := by omega
      have t1 : (σ : Int) < (n : Int) := by omega
      have t2 : ¬ (d = i) := by omega
      have t3 : ((i : Int) + 2 * (r : Int) + 1).toNat - i = 2 * r + 1 := by omega
      go_wp2_with fail
      go_region_held3 (fun w' => w'.cell? ⟨w.heap.size, 0, none⟩ = some (.int .i64 (k : Int)) ∧ w'.cell? ⟨w.heap.size, 1, none⟩ = some (.int .i64 (r : Int)) ∧ w'.cell? ⟨w.heap.size, 2, none⟩ = some (.slice (some adt) n c) ∧ w'.cell? (adt.add σ) = some (.int .i64 (y : Int)))
        (first | go_keep)
        (first
          | (go_simp
             go_at_call 52
             refine (HVAL.out).mono ?_
             rintro e w4 ⟨rfl, rfl⟩
             dsimp only)
          | (refine step_append_lies _ ?g2 (.tmp 17) (.tmp 34) 24 ?g6 w.heap.size 3 ii (.int .i64 0) 1 8 tInts.und hii hiz hi1 hi8 rfl Nat.one_pos (.slice C i cc) i (((ints (image k r t v)).take i).map (Value.int .i64)) ?g7 ?g9 ⟨wr.heap.size, 0, none⟩ 1 1 [.int .i64 (y : Int)] ?g8 ?h1 ?h2 ?h3 ?h4 ?h5 ?h6 ?g10 _ rfl ?h7
             case g2 => rfl
             case g6 => rfl
             case g7 => rfl
             case g9 => exact hown.alloc _
             case g8 => rfl
             case h1 => rfl
             case h2 => (intro j u hj; match j, hj with | 0, hj => (simp at hj; subst hj; simp [Addr.add]))
             case h3 => (intro u hu; simp at hu; subst hu; rfl)
             case h4 => decide
             case h5 => (simp only [maxLen]; omega)
             case h6 => omega
             case g10 => (simp; omega)
             intro gg cap w3 hown3 hgrow hat hlt3
             have hk3 := grown_keeps hgrow
             have hbx3 := HBX.out.keeps hk3 (fun e => own_ne_blk hown HBX.out (by decide) e)
             have z3 := hk3.cell hcy (fun e => absurd (hown.lt _ e).1 (Nat.not_le_of_lt hadt))
             obtain ⟨z0, z1, z2, _⟩ := hbx3.facts
             dsimp only))
      rw [show (((ints (image k r t v)).take i).map (Value.int .i64)) ++ [.int .i64 (y : Int)] = ((ints (image k r t v)).take (i + 1)).map (Value.int .i64) from by rw [List.take_add_one, HIMG.out]; simp] at hown3
      have hb3 : Below w.heap.size w w3 := hb.trans (hk3.below hb.size (fun b hb' => (hown.lt _ hb').1))
      clear hown hgrow hat hk3 hcy
      go_wp2_with fail
      exact ⟨⟨i + 1, _, cap, by omega, by go_num, rfl, hown3, hbx3, hb3⟩, by simp [intOf]; omega⟩
    · obtain rfl : i = M := by omega
      have him : ¬ (i + 2 * r < m) := by have := HM.out; omega
      have him2 : i ≤ 4096 := by have := HM.out; omega
      have s1 : IntKind.i64.wrap (2 * (r : Int)) = 2 * (r : Int) := IntWalk.i64_in _ (by omega)
      have s2 : IntKind.i64.wrap ((i : Int) + 2 * (r : Int)) = (i : Int) + 2 * (r : Int) := IntWalk.i64_in _ (by omega)
      have s7 : ¬ ((i : Int) + 2 * (r : Int) < (m : Int)) := by omega
      rw [List.take_of_length_le (by rw [ints_len, image_len, HL.out]; have := HM.out; omega)] at hown
      have HO := Lib.hid hown
      clear hown him
      go_wp2_with fail
      go_ret
      exact ⟨C, cc, rfl, HO.out, hb⟩
end Go.Proofs.YtpllojpgpejfmaaGreatDoor
