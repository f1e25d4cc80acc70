/- The search of graph's parts in memory: its struct, its rows, and what each store makes of them. No condition. graph's search begins a vertex: enter. Condition: the search lies in memory. -/
import Derived.BigRegion
import Derived.Deep.DeepCutAuto
import Derived.Test.YtedmmmlahpmmoaaGreatDoorV2
import Derived.Test.YtedmmmlahpmmoaaGreatDoorV8
import Derived.Test.YtedmmmlahpmmoaaGreatDoorV10
namespace Go.Proofs.YtedmmmlahpmmoaaGreatDoor
open Go.RowKit RuleP TarjP

/-- The search's struct and its three rows by vertex. -/
structure SrchC (w : World) (B p gl gf gp : Nat) (C : Option Addr) (M n : Nat) (s : St) (ov cv : Value) : Prop where
  at_ : w.heap[p]? = some (.cells #[.slice C M M, .slice (some ⟨gl, 0, none⟩) n n, .slice (some ⟨gf, 0, none⟩) n n, ov, .slice (some ⟨gp, 0, none⟩) n n, cv, .int .i64 (s.time : Int)] 139 (0, 0))
  bp : B ≤ p
  low : w.ownsRow B 3 1 (.slice (some ⟨gl, 0, none⟩) n n) n ((ints s.low).map (Value.int .i64))
  found : w.ownsRow B 3 1 (.slice (some ⟨gf, 0, none⟩) n n) n ((ints s.found).map (Value.int .i64))
  part : w.ownsRow B 3 1 (.slice (some ⟨gp, 0, none⟩) n n) n (s.part.map (Value.int .i64))
  ne1 : gl ≠ gf
  ne2 : gl ≠ gp
  ne3 : gf ≠ gp
/-- The open vertices and the calls beside it. -/
structure SrchAt (w : World) (B p gl gf gp : Nat) (C : Option Addr) (M n : Nat) (s : St) (ov cv : Value) : Prop where
  core : SrchC w B p gl gf gp C M n s ov cv
  opn : w.ownsRow B 3 1 ov s.opn.length ((ints s.opn.reverse).map (Value.int .i64))
  calls : w.ownsRow B 160 2 cv s.calls.length (arrC s.calls.reverse)
  no1 : ov.ownBlock ≠ some gl
  no2 : ov.ownBlock ≠ some gf
  no3 : ov.ownBlock ≠ some gp
theorem tFr : (Tryz.prog.info? 160).map (fun i => (i.zero, i.size, i.bytes)) = some (some (.agg #[.int .i64 0, .int .i64 0]), 2, 16) := by kernel_rfl
theorem tFrs : Tryz.prog.underlying 137 = some (.slice 160) := by kernel_rfl
theorem ownN_take {w : World} {base e sz n c m : Nat} {A : Option Addr} {xs : List Value} (h : w.ownsRow base e sz (.slice A n c) n xs) (hm : m ≤ n) : w.ownsRow base e sz (.slice A m c) m (xs.take (m * sz)) := by
  obtain ⟨hl, hr⟩ := h
  have hms : m * sz ≤ n * sz := Nat.mul_le_mul_right _ hm
  refine ⟨by rw [List.length_take, hl]; exact Nat.min_eq_left hms, ?_⟩
  rcases hr with ⟨hv, h0⟩ | ⟨g, cap, cur, hv, hb, hg, h1, h2, h3, h4⟩
  · injection hv with e1 e2 e3
    subst e1 e3
    have : m = 0 := by omega
    subst this
    exact .inl ⟨rfl, rfl⟩
  · injection hv with e1 e2 e3
    subst e1 e3
    exact .inr ⟨g, c, cur, rfl, hb, hg, by omega, h2, h3, by rw [← h4, List.take_take, Nat.min_eq_left hms]⟩
namespace SrchC
variable {w w' : World} {B p gl gf gp : Nat} {C : Option Addr} {M n : Nat} {s : St} {ov cv : Value}
theorem lt (h : SrchC w B p gl gf gp C M n s ov cv) : p < w.heap.size := (Array.getElem?_eq_some_iff.1 h.at_).1
theorem facts (h : SrchC w B p gl gf gp C M n s ov cv) :
    w.cell? ⟨p, 0, none⟩ = some (.slice C M M) ∧ w.cell? ⟨p, 1, none⟩ = some (.slice (some ⟨gl, 0, none⟩) n n) ∧ w.cell? ⟨p, 2, none⟩ = some (.slice (some ⟨gf, 0, none⟩) n n) ∧ w.cell? ⟨p, 3, none⟩ = some ov ∧ w.cell? ⟨p, 4, none⟩ = some (.slice (some ⟨gp, 0, none⟩) n n) ∧ w.cell? ⟨p, 5, none⟩ = some cv ∧ w.cell? ⟨p, 6, none⟩ = some (.int .i64 (s.time : Int)) ∧
    w.frozen? ⟨p, 3, none⟩ = false ∧ w.frozen? ⟨p, 5, none⟩ = false ∧ w.frozen? ⟨p, 6, none⟩ = false := by
  refine ⟨?_, ?_, ?_, ?_, ?_, ?_, ?_, frozen_of_row _ _ 3 _ _ h.at_, frozen_of_row _ _ 5 _ _ h.at_, frozen_of_row _ _ 6 _ _ h.at_⟩ <;> rw [cell_of_row w p _ _ _ _ h.at_] <;> rfl
theorem pl (h : SrchC w B p gl gf gp C M n s ov cv) : p ≠ gl := fun e => own_ne_blk h.low h.at_ (by decide) (by rw [e]; rfl)
theorem pf (h : SrchC w B p gl gf gp C M n s ov cv) : p ≠ gf := fun e => own_ne_blk h.found h.at_ (by decide) (by rw [e]; rfl)
theorem pp (h : SrchC w B p gl gf gp C M n s ov cv) : p ≠ gp := fun e => own_ne_blk h.part h.at_ (by decide) (by rw [e]; rfl)
theorem ltl (h : SrchC w B p gl gf gp C M n s ov cv) : B ≤ gl ∧ gl < w.heap.size := h.low.lt gl rfl
theorem ltf (h : SrchC w B p gl gf gp C M n s ov cv) : B ≤ gf ∧ gf < w.heap.size := h.found.lt gf rfl
theorem ltp (h : SrchC w B p gl gf gp C M n s ov cv) : B ≤ gp ∧ gp < w.heap.size := h.part.lt gp rfl
theorem keeps {O : Nat → Prop} (h : SrchC w B p gl gf gp C M n s ov cv) (hk : Keeps O w w') (h1 : ¬ O p) (h2 : ¬ O gl) (h3 : ¬ O gf) (h4 : ¬ O gp) : SrchC w' B p gl gf gp C M n s ov cv :=
  ⟨(hk.block p h.lt h1).trans h.at_, h.bp, own_keeps h.low hk (fun g hg hO => by cases hg; exact h2 hO), own_keeps h.found hk (fun g hg hO => by cases hg; exact h3 hO), own_keeps h.part hk (fun g hg hO => by cases hg; exact h4 hO), h.ne1, h.ne2, h.ne3⟩
theorem below (h : SrchC w B p gl gf gp C M n s ov cv) (hb : Below w.heap.size w w') : SrchC w' B p gl gf gp C M n s ov cv :=
  h.keeps (Keeps.of_pure hb (fun _ => False)) id id id id
theorem rows (h : SrchC w B p gl gf gp C M n s ov cv) (j : Nat) (u : Value) :
    (w.setCell ⟨p, j, none⟩ u).ownsRow B 3 1 (.slice (some ⟨gl, 0, none⟩) n n) n ((ints s.low).map (Value.int .i64)) ∧ (w.setCell ⟨p, j, none⟩ u).ownsRow B 3 1 (.slice (some ⟨gf, 0, none⟩) n n) n ((ints s.found).map (Value.int .i64)) ∧ (w.setCell ⟨p, j, none⟩ u).ownsRow B 3 1 (.slice (some ⟨gp, 0, none⟩) n n) n (s.part.map (Value.int .i64)) := by
  have hk := Keeps.of_setCell w ⟨p, j, none⟩ u
  exact ⟨own_keeps h.low hk (fun g hg hO => by cases hg; exact h.pl hO.symm), own_keeps h.found hk (fun g hg hO => by cases hg; exact h.pf hO.symm), own_keeps h.part hk (fun g hg hO => by cases hg; exact h.pp hO.symm)⟩
theorem putT (h : SrchC w B p gl gf gp C M n s ov cv) (x : Nat) : SrchC (w.setCell ⟨p, 6, none⟩ (.int .i64 (x : Int))) B p gl gf gp C M n ⟨s.low, s.found, s.opn, s.part, s.calls, x⟩ ov cv := by
  obtain ⟨a, b, c⟩ := h.rows 6 (.int .i64 (x : Int))
  refine ⟨?_, h.bp, a, b, c, h.ne1, h.ne2, h.ne3⟩
  have h0 := h.lt
  have h1 := h.at_
  simp only [World.setCell]
  simp [Array.getElem?_modify, h1]
theorem putO (h : SrchC w B p gl gf gp C M n s ov cv) (ov' : Value) (l : List Nat) : SrchC (w.setCell ⟨p, 3, none⟩ ov') B p gl gf gp C M n ⟨s.low, s.found, l, s.part, s.calls, s.time⟩ ov' cv := by
  obtain ⟨a, b, c⟩ := h.rows 3 ov'
  refine ⟨?_, h.bp, a, b, c, h.ne1, h.ne2, h.ne3⟩
  have h0 := h.lt
  have h1 := h.at_
  simp only [World.setCell]
  simp [Array.getElem?_modify, h1]
theorem putC (h : SrchC w B p gl gf gp C M n s ov cv) (cv' : Value) (l : List (Nat × Nat)) : SrchC (w.setCell ⟨p, 5, none⟩ cv') B p gl gf gp C M n ⟨s.low, s.found, s.opn, s.part, l, s.time⟩ ov cv' := by
  obtain ⟨a, b, c⟩ := h.rows 5 cv'
  refine ⟨?_, h.bp, a, b, c, h.ne1, h.ne2, h.ne3⟩
  have h0 := h.lt
  have h1 := h.at_
  simp only [World.setCell]
  simp [Array.getElem?_modify, h1]
theorem at_set (h : SrchC w B p gl gf gp C M n s ov cv) {g : Nat} (hg : p ≠ g) (j : Nat) (u : Value) : (w.setCell ⟨g, j, none⟩ u).heap[p]? = w.heap[p]? :=
  (Keeps.of_setCell w ⟨g, j, none⟩ u).block p h.lt hg
theorem putL (h : SrchC w B p gl gf gp C M n s ov cv) (v x : Nat) : SrchC (w.setCell ⟨gl, v, none⟩ (.int .i64 (x : Int))) B p gl gf gp C M n ⟨s.low.set v x, s.found, s.opn, s.part, s.calls, s.time⟩ ov cv := by
  have hk := Keeps.of_setCell w ⟨gl, v, none⟩ (.int .i64 (x : Int))
  have h1 := (h.low.stored v (.int .i64 (x : Int))).1
  have e : ((ints s.low).map (Value.int .i64)).set v (.int .i64 (x : Int)) = (ints (s.low.set v x)).map (Value.int .i64) := by rw [ints_map, ints_map, List.map_set]
  rw [e] at h1
  exact ⟨(h.at_set h.pl _ _).trans h.at_, h.bp, h1, own_keeps h.found hk (fun g hg hO => by cases hg; exact h.ne1 hO.symm), own_keeps h.part hk (fun g hg hO => by cases hg; exact h.ne2 hO.symm), h.ne1, h.ne2, h.ne3⟩
theorem putF (h : SrchC w B p gl gf gp C M n s ov cv) (v x : Nat) : SrchC (w.setCell ⟨gf, v, none⟩ (.int .i64 (x : Int))) B p gl gf gp C M n ⟨s.low, s.found.set v x, s.opn, s.part, s.calls, s.time⟩ ov cv := by
  have hk := Keeps.of_setCell w ⟨gf, v, none⟩ (.int .i64 (x : Int))
  have h1 := (h.found.stored v (.int .i64 (x : Int))).1
  have e : ((ints s.found).map (Value.int .i64)).set v (.int .i64 (x : Int)) = (ints (s.found.set v x)).map (Value.int .i64) := by rw [ints_map, ints_map, List.map_set]
  rw [e] at h1
  exact ⟨(h.at_set h.pf _ _).trans h.at_, h.bp, own_keeps h.low hk (fun g hg hO => by cases hg; exact h.ne1 hO), h1, own_keeps h.part hk (fun g hg hO => by cases hg; exact h.ne3 hO.symm), h.ne1, h.ne2, h.ne3⟩
theorem putP (h : SrchC w B p gl gf gp C M n s ov cv) (v : Nat) (x : Int) : SrchC (w.setCell ⟨gp, v, none⟩ (.int .i64 x)) B p gl gf gp C M n ⟨s.low, s.found, s.opn, s.part.set v x, s.calls, s.time⟩ ov cv := by
  have hk := Keeps.of_setCell w ⟨gp, v, none⟩ (.int .i64 x)
  have h1 := (h.part.stored v (.int .i64 x)).1
  have e : (s.part.map (Value.int .i64)).set v (.int .i64 x) = (s.part.set v x).map (Value.int .i64) := by rw [List.map_set]
  rw [e] at h1
  exact ⟨(h.at_set h.pp _ _).trans h.at_, h.bp, own_keeps h.low hk (fun g hg hO => by cases hg; exact h.ne2 hO), own_keeps h.found hk (fun g hg hO => by cases hg; exact h.ne3 hO), h1, h.ne1, h.ne2, h.ne3⟩
/-- Other rows of the search's own: not the struct. -/
theorem own_set (h : SrchC w B p gl gf gp C M n s ov cv) {e sz m : Nat} {v : Value} {xs : List Value} (ho : w.ownsRow B e sz v m xs) (he : e ≠ 139) (j : Nat) (u : Value) : (w.setCell ⟨p, j, none⟩ u).ownsRow B e sz v m xs :=
  ownN_keeps ho (Keeps.of_setCell w ⟨p, j, none⟩ u) (fun g hg hO => by
    have : g = p := hO
    subst this
    exact ownN_ne ho h.at_ he hg)
end SrchC
theorem own_setI {w : World} {B e sz m g : Nat} {v : Value} {xs : List Value} (ho : w.ownsRow B e sz v m xs) (hg : v.ownBlock ≠ some g) (j : Nat) (u : Value) : (w.setCell ⟨g, j, none⟩ u).ownsRow B e sz v m xs :=
  ownN_keeps ho (Keeps.of_setCell w ⟨g, j, none⟩ u) (fun b hb hO => by
    have : b = g := hO
    subst this
    exact hg hb)
namespace SrchAt
variable {w w' : World} {B p gl gf gp : Nat} {C : Option Addr} {M n : Nat} {s : St} {ov cv : Value}
theorem nc (h : SrchAt w B p gl gf gp C M n s ov cv) : cv.ownBlock ≠ some gl ∧ cv.ownBlock ≠ some gf ∧ cv.ownBlock ≠ some gp := by
  obtain ⟨_, hl⟩ := rowBlk h.core.low
  obtain ⟨_, hf⟩ := rowBlk h.core.found
  obtain ⟨_, hp⟩ := rowBlk h.core.part
  exact ⟨ownN_ne h.calls hl (by decide), ownN_ne h.calls hf (by decide), ownN_ne h.calls hp (by decide)⟩
theorem below (h : SrchAt w B p gl gf gp C M n s ov cv) (hb : Below w.heap.size w w') : SrchAt w' B p gl gf gp C M n s ov cv :=
  ⟨h.core.below hb, own_below h.opn hb, ownN_below h.calls hb, h.no1, h.no2, h.no3⟩
theorem putT (h : SrchAt w B p gl gf gp C M n s ov cv) (x : Nat) : SrchAt (w.setCell ⟨p, 6, none⟩ (.int .i64 (x : Int))) B p gl gf gp C M n ⟨s.low, s.found, s.opn, s.part, s.calls, x⟩ ov cv :=
  ⟨h.core.putT x, h.core.own_set h.opn (by decide) _ _, h.core.own_set h.calls (by decide) _ _, h.no1, h.no2, h.no3⟩
theorem putL (h : SrchAt w B p gl gf gp C M n s ov cv) (v x : Nat) : SrchAt (w.setCell ⟨gl, v, none⟩ (.int .i64 (x : Int))) B p gl gf gp C M n ⟨s.low.set v x, s.found, s.opn, s.part, s.calls, s.time⟩ ov cv :=
  ⟨h.core.putL v x, own_setI h.opn h.no1 _ _, own_setI h.calls h.nc.1 _ _, h.no1, h.no2, h.no3⟩
theorem putF (h : SrchAt w B p gl gf gp C M n s ov cv) (v x : Nat) : SrchAt (w.setCell ⟨gf, v, none⟩ (.int .i64 (x : Int))) B p gl gf gp C M n ⟨s.low, s.found.set v x, s.opn, s.part, s.calls, s.time⟩ ov cv :=
  ⟨h.core.putF v x, own_setI h.opn h.no2 _ _, own_setI h.calls h.nc.2.1 _ _, h.no1, h.no2, h.no3⟩
theorem putP (h : SrchAt w B p gl gf gp C M n s ov cv) (v : Nat) (x : Int) : SrchAt (w.setCell ⟨gp, v, none⟩ (.int .i64 x)) B p gl gf gp C M n ⟨s.low, s.found, s.opn, s.part.set v x, s.calls, s.time⟩ ov cv :=
  ⟨h.core.putP v x, own_setI h.opn h.no3 _ _, own_setI h.calls h.nc.2.2 _ _, h.no1, h.no2, h.no3⟩
/-- A vertex more is open. -/
theorem pushO (h : SrchAt w B p gl gf gp C M n s ov cv) {w3 : World} {g cap v : Nat} (hk : Keeps (fun b => ov.ownBlock = some b) w w3) (hg : ov.ownBlock = some g ∨ w.heap.size ≤ g)
    (hown : w3.ownsRow B 3 1 (.slice (some ⟨g, 0, none⟩) (s.opn.length + 1) cap) (s.opn.length + 1) ((ints s.opn.reverse).map (Value.int .i64) ++ [.int .i64 (v : Int)])) :
    SrchAt (w3.setCell ⟨p, 3, none⟩ (.slice (some ⟨g, 0, none⟩) (s.opn.length + 1) cap)) B p gl gf gp C M n ⟨s.low, s.found, v :: s.opn, s.part, s.calls, s.time⟩ (.slice (some ⟨g, 0, none⟩) (s.opn.length + 1) cap) cv := by
  have hc : SrchC w3 B p gl gf gp C M n s ov cv := h.core.keeps hk (own_ne_blk h.opn h.core.at_ (by decide)) h.no1 h.no2 h.no3
  have hC : w3.ownsRow B 160 2 cv s.calls.length (arrC s.calls.reverse) := ownN_keeps h.calls hk (fun b hb hO => by
    rcases h.opn.2 with ⟨e, _⟩ | ⟨g1, _, cur, e, _, hh, _⟩
    · rw [e] at hO; simp [Value.ownBlock] at hO
    · have e2 : g1 = b := by rw [e] at hO; simpa [Value.ownBlock] using hO
      subst e2
      exact ownN_ne h.calls hh (by decide) hb)
  have hne : ∀ b, ov.ownBlock ≠ some b → b < w.heap.size → Value.ownBlock (.slice (some ⟨g, 0, none⟩) (s.opn.length + 1) cap) ≠ some b := by
    intro b h1 h2 e
    have e' : g = b := by simpa [Value.ownBlock] using e
    rcases hg with hg | hg
    · rw [e'] at hg; exact h1 hg
    · omega
  refine ⟨hc.putO _ _, ?_, hc.own_set hC (by decide) _ _, hne gl h.no1 h.core.ltl.2, hne gf h.no2 h.core.ltf.2, hne gp h.no3 h.core.ltp.2⟩
  have := hc.own_set hown (by decide) 3 (.slice (some ⟨g, 0, none⟩) (s.opn.length + 1) cap)
  have e : (ints (v :: s.opn).reverse).map (Value.int .i64) = (ints s.opn.reverse).map (Value.int .i64) ++ [.int .i64 (v : Int)] := by simp [ints]
  rw [← e] at this
  exact this
/-- A call more. -/
theorem pushC (h : SrchAt w B p gl gf gp C M n s ov cv) {w3 : World} {g cap v i : Nat} (hk : Keeps (fun b => cv.ownBlock = some b) w w3)
    (hown : w3.ownsRow B 160 2 (.slice (some ⟨g, 0, none⟩) (s.calls.length + 1) cap) (s.calls.length + 1) (arrC s.calls.reverse ++ [.int .i64 (v : Int), .int .i64 (i : Int)])) :
    SrchAt (w3.setCell ⟨p, 5, none⟩ (.slice (some ⟨g, 0, none⟩) (s.calls.length + 1) cap)) B p gl gf gp C M n ⟨s.low, s.found, s.opn, s.part, (v, i) :: s.calls, s.time⟩ ov (.slice (some ⟨g, 0, none⟩) (s.calls.length + 1) cap) := by
  have hc : SrchC w3 B p gl gf gp C M n s ov cv := h.core.keeps hk (ownN_ne h.calls h.core.at_ (by decide)) h.nc.1 h.nc.2.1 h.nc.2.2
  have hO : w3.ownsRow B 3 1 ov s.opn.length ((ints s.opn.reverse).map (Value.int .i64)) := own_keeps h.opn hk (fun b hb hO => by
    rcases h.opn.2 with ⟨e, _⟩ | ⟨g1, _, cur, e, _, hh, _⟩
    · rw [e] at hb; simp [Value.ownBlock] at hb
    · have e2 : g1 = b := by rw [e] at hb; simpa [Value.ownBlock] using hb
      subst e2
      exact ownN_ne h.calls hh (by decide) hO)
  refine ⟨hc.putC _ _, hc.own_set hO (by decide) _ _, ?_, h.no1, h.no2, h.no3⟩
  have := hc.own_set hown (by decide) 5 (.slice (some ⟨g, 0, none⟩) (s.calls.length + 1) cap)
  have e : arrC ((v, i) :: s.calls).reverse = arrC s.calls.reverse ++ [.int .i64 (v : Int), .int .i64 (i : Int)] := by rw [List.reverse_cons, arrC_snoc]
  rw [← e] at this
  exact this
/-- The last open vertex goes. -/
theorem popO (h : SrchAt w B p gl gf gp C M n s ov cv) {x : Nat} {l : List Nat} (hl : s.opn = x :: l) {A : Option Addr} {c : Nat} (hov : ov = .slice A s.opn.length c) :
    SrchAt (w.setCell ⟨p, 3, none⟩ (.slice A l.length c)) B p gl gf gp C M n ⟨s.low, s.found, l, s.part, s.calls, s.time⟩ (.slice A l.length c) cv := by
  have hb : Value.ownBlock (.slice A l.length c) = ov.ownBlock := by rw [hov]; cases A <;> rfl
  have h1 := h.opn
  rw [hov] at h1
  have h2 := own_take h1 (m := l.length) (by rw [hl]; exact Nat.le_succ _)
  have e : ((ints s.opn.reverse).map (Value.int .i64)).take l.length = (ints l.reverse).map (Value.int .i64) := by
    rw [hl, List.reverse_cons, ints_map, ints_map, List.map_append, List.take_append_of_le_length (by simp), List.take_of_length_le (by simp)]
  rw [e] at h2
  exact ⟨h.core.putO _ _, h.core.own_set h2 (by decide) _ _, h.core.own_set h.calls (by decide) _ _, by rw [hb]; exact h.no1, by rw [hb]; exact h.no2, by rw [hb]; exact h.no3⟩
/-- The last call goes. -/
theorem popC (h : SrchAt w B p gl gf gp C M n s ov cv) {x : Nat × Nat} {l : List (Nat × Nat)} (hl : s.calls = x :: l) {A : Option Addr} {c : Nat} (hcv : cv = .slice A s.calls.length c) :
    SrchAt (w.setCell ⟨p, 5, none⟩ (.slice A l.length c)) B p gl gf gp C M n ⟨s.low, s.found, s.opn, s.part, l, s.time⟩ ov (.slice A l.length c) := by
  have h1 := h.calls
  rw [hcv] at h1
  have h2 := ownN_take h1 (m := l.length) (by rw [hl]; exact Nat.le_succ _)
  have e : (arrC s.calls.reverse).take (l.length * 2) = arrC l.reverse := by
    rw [hl, List.reverse_cons, arrC_snoc, List.take_append_of_le_length (by rw [arrC_len, List.length_reverse]; exact Nat.le_refl _), List.take_of_length_le (by rw [arrC_len, List.length_reverse]; exact Nat.le_refl _)]
  rw [e] at h2
  exact ⟨h.core.putC _ _, h.core.own_set h.opn (by decide) _ _, h.core.own_set h2 (by decide) _ _, h.no1, h.no2, h.no3⟩
/-- The last call's place in memory. -/
theorem top (h : SrchAt w B p gl gf gp C M n s ov cv) {u i : Nat} {l : List (Nat × Nat)} (hl : s.calls = (u, i) :: l) : ∃ g c, cv = .slice (some ⟨g, 0, none⟩) (l.length + 1) c ∧ w.cell? ⟨g, l.length * 2, none⟩ = some (.int .i64 (u : Int)) ∧ w.cell? ⟨g, l.length * 2 + 1, none⟩ = some (.int .i64 (i : Int)) ∧ w.frozen? ⟨g, l.length * 2 + 1, none⟩ = false ∧ B ≤ g ∧ g < w.heap.size ∧ g ≠ p ∧
    SrchAt (w.setCell ⟨g, l.length * 2 + 1, none⟩ (.int .i64 ((i + 1 : Nat) : Int))) B p gl gf gp C M n ⟨s.low, s.found, s.opn, s.part, (u, i + 1) :: l, s.time⟩ ov cv := by
  obtain ⟨A, c, hcv, _, _⟩ := ownN_slice h.calls
  have hlen : s.calls.length = l.length + 1 := by rw [hl]; rfl
  rw [hlen] at hcv
  have h1 := h.calls
  rw [hcv, hlen, hl, List.reverse_cons] at h1
  have hat := arrC_at (l := l.reverse ++ [(u, i)]) (j := l.length) (x := (u, i)) (by rw [List.getElem?_append_right (by simp), List.length_reverse, Nat.sub_self]; rfl)
  obtain ⟨g, hA, hc1⟩ := ownN_cell h1 hat.1
  subst hA
  obtain ⟨g', hA', hc2⟩ := ownN_cell h1 hat.2
  obtain rfl : g = g' := by simpa using hA'
  obtain ⟨hb1, hb2⟩ := ownN_lt h1 g rfl
  have hgp : g ≠ p := fun e => ownN_ne h1 h.core.at_ (by decide) (by rw [e]; rfl)
  refine ⟨g, c, hcv, hc1, hc2, h1.frozenAt _, hb1, hb2, hgp, ?_⟩
  have hk := Keeps.of_setCell w ⟨g, l.length * 2 + 1, none⟩ (.int .i64 ((i + 1 : Nat) : Int))
  obtain ⟨n1, n2, n3⟩ := h.nc
  rw [hcv] at n1 n2 n3
  have hcore := h.core.keeps hk (fun e => hgp e.symm) (fun e => n1 (by rw [e]; rfl)) (fun e => n2 (by rw [e]; rfl)) (fun e => n3 (by rw [e]; rfl))
  refine ⟨⟨hcore.at_, hcore.bp, hcore.low, hcore.found, hcore.part, hcore.ne1, hcore.ne2, hcore.ne3⟩, own_keeps h.opn hk (fun b hb hO => ?_), ?_, h.no1, h.no2, h.no3⟩
  · have e : b = g := hO
    subst e
    obtain ⟨cur, hh⟩ := rowBlk h1
    exact own_ne_blk h.opn hh (by decide) hb
  · have h2 := (h1.stored (l.length * 2 + 1) (.int .i64 ((i + 1 : Nat) : Int))).1
    have e : (arrC (l.reverse ++ [(u, i)])).set (l.length * 2 + 1) (.int .i64 ((i + 1 : Nat) : Int)) = arrC ((u, i + 1) :: l).reverse := by
      rw [List.reverse_cons, arrC_snoc, arrC_snoc, List.set_append, arrC_len, List.length_reverse, if_neg (by omega), show l.length * 2 + 1 - l.length * 2 = 1 by omega]
      rfl
    rw [e] at h2
    rw [hcv]
    exact h2
end SrchAt
end Go.Proofs.YtedmmmlahpmmoaaGreatDoor

namespace Go.Proofs.YtedmmmlahpmmoaaGreatDoor
open Go.RowKit RuleP TarjP

theorem pushS {w v0 w' : World} {v : Value} {g n cap : Nat} (h0 : Below w.heap.size w v0) (hor : (v = .slice (some ⟨g, 0, none⟩) n cap ∧ v0.grownBy w' (some g)) ∨ (v0.heap.size ≤ g ∧ v0.grownBy w' none)) :
    Keeps (fun b => v.ownBlock = some b) w w' ∧ (v.ownBlock = some g ∨ w.heap.size ≤ g) := by
  have h0' : Keeps (fun b => v.ownBlock = some b) w v0 := Keeps.of_pure h0 _
  rcases hor with ⟨rfl, h⟩ | ⟨h1, h⟩
  · exact ⟨h0'.trans ((Keeps.of_grown h).mono (fun b _ e => e)) (fun _ _ h => h), .inl rfl⟩
  · exact ⟨h0'.trans (Keeps.of_grown h) (fun b _ e => by cases e), .inr (Nat.le_trans h0.size h1)⟩
/-- append of one element, the literal's address as the walk has it. -/
theorem wpList_push_q {P : Program} {w : World} {ops : Array Oper} {rest : List Oper} {o : Oper} {a : Act} {Q : Exit → Act → World → Prop} (hg : o.guard = none) (s x : Operand) (t : TypeId)
    (ho : o.op = .call { callee := .builtin .append, args := #[s, x], argTypes := #[t, t] }) {e : TypeId} {z : Value} {bytes : Nat} (hT : ElemT P t e z bytes)
    {base : Nat} {v : Value} {n : Nat} {xs : List Value} (hown : w.ownsRow base e 1 v n xs) (hs : a.eval s = v) (ad : Addr) (c : Nat) (hx : a.eval x = .slice (some ad) 1 c) (u : Value) (hc : w.cell? ad = some u) (hu : u.oneCell' = true)
    (h63 : n + 1 ≤ maxLen) (hbytes : (n + 1) * bytes ≤ 140737488355328) (hbase : base ≤ w.heap.size)
    (h : ∀ g cap w', w'.ownsRow base e 1 (.slice (some ⟨g, 0, none⟩) (n + 1) cap) (n + 1) (xs ++ [u]) → ((v = .slice (some ⟨g, 0, none⟩) n cap ∧ w.grownBy w' (some g)) ∨ (w.heap.size ≤ g ∧ w.grownBy w' none)) → g < w'.heap.size →
      wpList P ops Q rest (a.put o.dst (.slice (some ⟨g, 0, none⟩) (n + 1) cap)) w') : wpList P ops Q (o :: rest) a w := by
  refine wpList_plain hg fun K' hK' => ?_
  obtain ⟨g, cap, w', hr, h2, h3, h4⟩ := run_push3 (P := P) w t o.type hT hown ad c u hc hu h63 hbytes hbase
  unfold Oper.wp execOp
  simp only [ho, resolve, invoke, builtin, Sem.run_bind, Sem.run_pure, Result.andThen_ok, List.map_toArray, List.map_cons, List.map_nil, hs, hx, hr]
  exact hK' _ _ (h g cap w' h2 h3 h4)

set_option maxRecDepth 100000 in
set_option maxHeartbeats 2000000 in
theorem enter_c (w : World) {B p gl gf gp : Nat} {C : Option Addr} {M n : Nat} {s : St} {ov cv : Value} (h : SrchAt w B p gl gf gp C M n s ov cv) (v : Nat) (hv : v < n) (hn : n ≤ 1000000) (ht : s.time < 1000000) (ho : s.opn.length < 1000000) (hc : s.calls.length < 1000000) :
    Calls Tryz.prog 104 #[.pointer (some ⟨p, 0, none⟩), .int .i64 (v : Int)] w fun e w' => e = .returned (.tuple #[]) ∧ ∃ ov' cv', SrchAt w' B p gl gf gp C M n (s.enter v) ov' cv' ∧ Below B w w' := by
  have hB : B ≤ w.heap.size := Nat.le_trans h.core.bp (Nat.le_of_lt h.core.lt)
  obtain ⟨T, hT⟩ : ∃ T, s.time + 1 = T := ⟨_, rfl⟩
  have e1 : IntKind.i64.wrap ((s.time : Int) + 1) = (T : Int) := by rw [show (s.time : Int) + 1 = (T : Int) by omega]; exact IntWalk.i64_in _ (by omega)
  obtain ⟨f0, f1, f2, f3, f4, f5, f6, z3, z5, z6⟩ := h.core.facts
  have h1 := h.putT T
  have b1 : Below B w (w.setCell ⟨p, 6, none⟩ (.int .i64 (T : Int))) := (Keeps.of_setCell w ⟨p, 6, none⟩ (.int .i64 (T : Int))).below hB (fun b hb => by rw [show b = p from hb]; exact h.core.bp)
  obtain ⟨w1, hw1⟩ : ∃ w1, w.setCell ⟨p, 6, none⟩ (.int .i64 (T : Int)) = w1 := ⟨_, rfl⟩
  rw [hw1] at h1 b1
  have HW1 := Lib.hid hw1
  have h2 := (h1.putL v T).putF v T
  have hB1 := Nat.le_trans hB b1.size
  have k2 := (Keeps.of_setCell w1 ⟨gl, v, none⟩ (.int .i64 (T : Int))).below hB1 (fun b hb => by rw [show b = gl from hb]; exact h1.core.ltl.1)
  have k3 := (Keeps.of_setCell (w1.setCell ⟨gl, v, none⟩ (.int .i64 (T : Int))) ⟨gf, v, none⟩ (.int .i64 (T : Int))).below (Nat.le_trans hB1 k2.size) (fun b hb => by rw [show b = gf from hb]; exact h1.core.ltf.1)
  have b2 := (b1.trans k2).trans k3
  obtain ⟨p0, p1, p2, p3, p4, p5, p6, y3, y5, y6⟩ := h1.core.facts
  have fl := h1.core.low.frozenAt v
  have ff := h1.core.found.frozenAt v
  have hll : s.low.length = n := by have := h1.core.low.1; simpa [ints] using this
  have hfl : s.found.length = n := by have := h1.core.found.1; simpa [ints] using this
  obtain ⟨x, hx⟩ : ∃ x, s.low[v]? = some x := ⟨_, List.getElem?_eq_getElem (by omega)⟩
  obtain ⟨y, hy⟩ : ∃ y, s.found[v]? = some y := ⟨_, List.getElem?_eq_getElem (by omega)⟩
  have cl : w1.cell? ⟨gl, v, none⟩ = some (.int .i64 (x : Int)) := by rw [h1.core.low.cellAt v (by omega), ints_map, List.getElem?_map, hx]; rfl
  have cf : w1.cell? ⟨gf, v, none⟩ = some (.int .i64 (y : Int)) := by rw [h1.core.found.cellAt v (by omega), ints_map, List.getElem?_map, hy]; rfl
  have hv' : (v : Int) < (n : Int) := by omega
  have hv0 : (0 : Int) ≤ (v : Int) := by omega
  have hne := h1.core.ne1
  have hne' := Ne.symm hne
  have H2 := Lib.hid h2
  have B2 := Lib.hid b2
  have HT := Lib.hid hT
  clear h h1 h2 b1 b2 k2 k3 hB hB1 hw1 hT hx hy hll hfl
  go_enter Tryz.func104, Tryz.ntmps104
  go_wp2_with fail
  rw [HW1.out]
  clear f0 f1 f2 f3 f4 f5 f6 z3 z5 z6
  go_wp2_with fail
  go_region
  clear p0 p1 p2 p3 p4 p5 p6 y3 y5 y6 fl ff cl cf hne hne' hv' hv0
  have h3 := H2.out.below (Below.refl _ _).drew
  have b3 := B2.out.drew
  obtain ⟨w2, hw2⟩ : ∃ w2, ((w1.setCell ⟨gl, v, none⟩ (.int .i64 (T : Int))).setCell ⟨gf, v, none⟩ (.int .i64 (T : Int))).drew = w2 := ⟨_, rfl⟩
  rw [hw2] at h3 b3 ⊢
  clear hw2
  obtain ⟨p0, p1, p2, p3, p4, p5, p6, y3, y5, y6⟩ := h3.core.facts
  have hB2 := Nat.le_trans h3.core.bp (Nat.le_of_lt h3.core.lt)
  go_upto_region 3 with (
               at_builtin
               refine wpList_push_q rfl _ _ _ rfl tInts (h3.opn.alloc _) rfl ⟨w2.heap.size, 0, none⟩ 1 rfl (.int .i64 (v : Int)) (by simp) rfl (by simp only [maxLen]; omega) (by dsimp only; omega) (by rw [World.size_alloc]; omega) ?_
               intro g3 cap3 w3 hown3 hor3 hlt3
               obtain ⟨hk3, hg3⟩ := pushS (w := w2) ((Below.refl _ _).alloc (Nat.le_refl _) _) hor3
               obtain ⟨q0, q1, q2, q3, q4, q5, q6, x3, x5, x6⟩ := (h3.core.keeps hk3 (own_ne_blk h3.opn h3.core.at_ (by decide)) h3.no1 h3.no2 h3.no3).facts
               clear hor3)
  have h4 := h3.pushO hk3 hg3 hown3
  have b4 := b3.trans ((hk3.below hB2 (fun b hb => (h3.opn.lt b hb).1)).trans ((Keeps.of_setCell w3 ⟨p, 3, none⟩ (.slice (some ⟨g3, 0, none⟩) (s.opn.length + 1) cap3)).below (Nat.le_trans hB2 hk3.size) (fun b hb => by rw [show b = p from hb]; exact h3.core.bp)))
  obtain ⟨w4, hw4⟩ : ∃ w4, w3.setCell ⟨p, 3, none⟩ (.slice (some ⟨g3, 0, none⟩) (s.opn.length + 1) cap3) = w4 := ⟨_, rfl⟩
  rw [hw4] at h4 b4 ⊢
  clear hw4 q0 q1 q2 q3 q4 q5 q6 x3 x5 x6 hk3 hg3 hown3 hlt3 h3 b3 hB2 p0 p1 p2 p3 p4 p5 p6 y3 y5 y6
  obtain ⟨p0, p1, p2, p3, p4, p5, p6, y3, y5, y6⟩ := h4.core.facts
  have hB4 := Nat.le_trans h4.core.bp (Nat.le_of_lt h4.core.lt)
  go_wp2_with (at_builtin
               refine wpList_push_pair rfl _ _ _ rfl tFrs tFr rfl h4.calls rfl (.int .i64 (v : Int)) (.int .i64 0) rfl rfl rfl rfl (by simp only [maxLen]; omega) (by dsimp only; omega) hB4 ?_
               intro g5 cap5 w5 hown5 hgr5 hlt5
               have hk5 := Keeps.of_grown hgr5
               obtain ⟨q0, q1, q2, q3, q4, q5, q6, x3, x5, x6⟩ := (h4.core.keeps hk5 (ownN_ne h4.calls h4.core.at_ (by decide)) h4.nc.1 h4.nc.2.1 h4.nc.2.2).facts
               clear hgr5)
  have h6 := h4.pushC (v := v) (i := 0) hk5 hown5
  have b6 := b4.trans ((hk5.below hB4 (fun b hb => (ownN_lt h4.calls b hb).1)).trans ((Keeps.of_setCell w5 ⟨p, 5, none⟩ (.slice (some ⟨g5, 0, none⟩) (s.calls.length + 1) cap5)).below (Nat.le_trans hB4 hk5.size) (fun b hb => by rw [show b = p from hb]; exact h4.core.bp)))
  have hst : (⟨s.low.set v T, s.found.set v T, v :: s.opn, s.part, (v, 0) :: s.calls, T⟩ : St) = s.enter v := by rw [← HT.out]; rfl
  rw [hst] at h6
  first | go_end0 | refine bodyPost_ret (results_none rfl _ _ _) rfl ?_
  exact ⟨rfl, ⟨_, _, h6⟩, b6⟩
end Go.Proofs.YtedmmmlahpmmoaaGreatDoor
