/- What the reading of NatAll's script gives: its calls, each in eight cells. No condition. -/
import Derived.Test.YtkghilmdoabodaaDoorCardN
import Derived.Test.YtkghilmdoabodaaDoorNatAll
import Derived.Deep.Slices
import Derived.Deep.Fields
import Derived.ChangeSame
namespace Go.Proofs.YtkghilmdoabodaaDoor
open Go.ChangeShapes Go.WideShapes Go.ChangeAt Go.RowKit NatP Go.Deep

/-- A list of the witnesses. -/
theorem list_of {α : Type} (P : Nat → α → Prop) : ∀ n, (∀ i, i < n → ∃ x, P i x) → ∃ l : List α, l.length = n ∧ ∀ i x, l[i]? = some x → P i x
  | 0, _ => ⟨[], rfl, fun i x h => by simp at h⟩
  | n + 1, h => by
    obtain ⟨l, hl, hP⟩ := list_of P n (fun i hi => h i (by omega))
    obtain ⟨x, hx⟩ := h n (by omega)
    refine ⟨l ++ [x], by simp [hl], fun i y hy => ?_⟩
    rcases Nat.lt_or_ge i n with hi | hi
    · rw [List.getElem?_append_left (by omega)] at hy
      exact hP i y hy
    · rw [List.getElem?_append_right (by omega), hl] at hy
      have hi' : i = n := by
        rcases Nat.lt_or_ge n i with h | h
        · rw [List.getElem?_eq_none (by simp; omega)] at hy; cases hy
        · omega
      subst hi'
      simp at hy
      subst hy
      exact hx

set_option maxRecDepth 100000 in
theorem nat_cell {H : Type} {enc : TypeId × Value → H} {W : World} {fuel : Nat} {v : Value} {y : DataW H × List MemPlace} (h : DataW.trod enc Tryd.prog W 0 (fun _ => true) true fuel 25 [v] = some y) :
    ∃ (A : Option Addr) (n c a : Nat), v = .slice A n c ∧ Num W A n c a := by
  rcases open_ints Tryd.underlying25 Tryd.underlying27 cellsWord h with ⟨hcs, _⟩ | ⟨a, len, cap, zs, hcs, _, hl, hm, hz, _, hcell, hwz⟩
  · simp at hcs
    subst hcs
    exact ⟨none, 0, 0, 0, rfl, Num.nil _⟩
  · simp at hcs
    subst hcs
    simp only [if_true] at hz
    have hb : ∀ z ∈ zs, 0 ≤ z ∧ z ≤ 4294967295 := fun z hz' => by
      have := hwz z hz'
      simpa [Lit.wf, IntKind.min, IntKind.max, IntKind.bits, IntKind.signed] using this
    refine ⟨some a, len, cap, _, rfl, (zs.take len).map Int.toNat, hl, hm, ⟨by simp; omega, fun k u hu => ?_⟩, fun x hx => ?_, rfl⟩
    · have hk : k < len := by
        have := (List.getElem?_eq_some_iff.1 hu).1
        simp at this
        omega
      refine ⟨a, rfl, ?_⟩
      rw [hcell k (by omega)]
      rw [List.getElem?_map, List.getElem?_map, List.getElem?_take, if_pos hk] at hu
      rw [List.getD_eq_getElem?_getD]
      cases hz : zs[k]? with
      | none => rw [hz] at hu; cases hu
      | some z =>
        rw [hz] at hu
        have := hb z (List.mem_of_getElem? hz)
        have e : ((z.toNat : Nat) : Int) = z := Int.toNat_of_nonneg this.1
        rw [← Option.some.inj hu]
        simp [wv, e]
    · obtain ⟨z, hz', rfl⟩ := List.mem_map.1 hx
      have := hb z (List.mem_of_mem_take hz')
      unfold W32
      omega

theorem cellsNat : Tryd.prog.cellsOf 25 = 1 := by kernel_rfl
theorem cellsOp : Tryd.prog.cellsOf 30 = 8 := by kernel_rfl

set_option maxRecDepth 100000 in
theorem nats_cell {H : Type} {enc : TypeId × Value → H} {W : World} {fuel : Nat} {v : Value} {y : DataW H × List MemPlace} (h : DataW.trod enc Tryd.prog W 0 (fun _ => true) true fuel 28 [v] = some y) :
    ∃ (A : Option Addr) (n c : Nat) (R : List ((Option Addr × Nat × Nat) × Nat)), v = .slice A n c ∧ n ≤ c ∧ c ≤ maxLen ∧ Sl W A n (R.map fun x => slv x.1) ∧ ∀ x ∈ R, Num W x.1.1 x.1.2.1 x.1.2.2 x.2 := by
  rcases open_slice Tryd.underlying28 h with ⟨hcs, _⟩ | ⟨a, len, cap, m, n, D, Pl, hcs, _, hl, hm, hmm, _, hi⟩
  · simp at hcs
    subst hcs
    exact ⟨none, 0, 0, [], rfl, Nat.le_refl _, Nat.zero_le _, Sl.nil _ _, fun x hx => by simp at hx⟩
  · simp at hcs
    subst hcs
    simp only [if_true] at hmm
    subst hmm
    have hx : ∀ i, i < len → ∃ x : (Option Addr × Nat × Nat) × Nat, W.cell? (a.add i) = some (slv x.1) ∧ Num W x.1.1 x.1.2.1 x.1.2.2 x.2 := fun i hil => by
      obtain ⟨cs, hc, ht⟩ := hi i (by omega)
      obtain ⟨_, hlen, hcell⟩ := World.cells?_some hc
      rw [cellsNat] at hlen hcell
      obtain ⟨u, rfl⟩ := List.length_eq_one_iff.1 hlen
      obtain ⟨A, n', c, b, rfl, hn⟩ := nat_cell ht
      refine ⟨((A, n', c), b), ?_, hn⟩
      have := hcell 0 (by decide)
      rw [add_of_add, Nat.mul_one, Nat.add_zero] at this
      exact this
    obtain ⟨R, hR, hP⟩ := list_of _ len hx
    refine ⟨some a, len, _, R, rfl, hl, hm, ⟨by simpa using hR, fun k u hu => ⟨a, rfl, ?_⟩⟩, fun x hx => ?_⟩
    · rw [List.getElem?_map] at hu
      cases hk : R[k]? with
      | none => rw [hk] at hu; cases hu
      | some z =>
        rw [hk] at hu
        rw [← Option.some.inj hu]
        exact (hP k z hk).1
    · obtain ⟨k, hk⟩ := List.getElem?_of_mem hx
      exact (hP k x hk).2

set_option maxRecDepth 100000 in
theorem op_cells {H : Type} {enc : TypeId × Value → H} {W : World} {fuel : Nat} {cs : List Value} {y : DataW H × List MemPlace} (h : DataW.trod enc Tryd.prog W 0 (fun _ => true) true fuel 30 cs = some y) :
    ∃ o : OpD, OpOk W o ∧ cs = [.int .i64 o.K, .slice o.A o.na o.ca, .slice o.B o.nb o.cb, .int .u64 (o.X : Int), .int .u32 (o.D : Int), .int .i64 o.N, .string ⟨o.S.toArray⟩, .slice o.LA o.ln o.lc] := by
  obtain ⟨xs, n, _, _, hlen, hxl, hf⟩ := DataW.trod_struct Tryd.underlying30 h
  rw [cellsOp] at hlen
  match cs, hlen with
  | [c0, c1, c2, c3, c4, c5, c6, c7], _ =>
    match xs, hxl with
    | [y0, y1, y2, y3, y4, y5, y6, y7], _ =>
      have h0 : DataW.trod enc Tryd.prog W 0 (fun _ => true) true n 3 [c0] = some y0 := hf 0 _ rfl
      have h1 : DataW.trod enc Tryd.prog W 0 (fun _ => true) true n 25 [c1] = some y1 := hf 1 _ rfl
      have h2 : DataW.trod enc Tryd.prog W 0 (fun _ => true) true n 25 [c2] = some y2 := hf 2 _ rfl
      have h3 : DataW.trod enc Tryd.prog W 0 (fun _ => true) true n 26 [c3] = some y3 := hf 3 _ rfl
      have h4 : DataW.trod enc Tryd.prog W 0 (fun _ => true) true n 27 [c4] = some y4 := hf 4 _ rfl
      have h5 : DataW.trod enc Tryd.prog W 0 (fun _ => true) true n 3 [c5] = some y5 := hf 5 _ rfl
      have h6 : DataW.trod enc Tryd.prog W 0 (fun _ => true) true n 9 [c6] = some y6 := hf 6 _ rfl
      have h7 : DataW.trod enc Tryd.prog W 0 (fun _ => true) true n 28 [c7] = some y7 := hf 7 _ rfl
      obtain ⟨K, e0, _, _⟩ := DataW.trod_int Tryd.underlying3 h0
      obtain ⟨X, e3, _, w3⟩ := DataW.trod_int Tryd.underlying26 h3
      obtain ⟨D, e4, _, w4⟩ := DataW.trod_int Tryd.underlying27 h4
      obtain ⟨N, e5, _, _⟩ := DataW.trod_int Tryd.underlying3 h5
      obtain ⟨S, e6, _, _⟩ := DataW.trod_string Tryd.underlying9 h6
      obtain ⟨A, na, ca, a, rfl, hA⟩ := nat_cell h1
      obtain ⟨B, nb, cb, b, rfl, hB⟩ := nat_cell h2
      obtain ⟨LA, ln, lc, R, rfl, hl, hm, hL, hR⟩ := nats_cell h7
      simp at e0 e3 e4 e5 e6
      subst e0 e3 e4 e5 e6
      obtain ⟨x, hx, rfl⟩ : ∃ x : Nat, x < 18446744073709551616 ∧ X = (x : Int) := ⟨X.toNat, by simp [Lit.wf, IntKind.min, IntKind.max, IntKind.bits, IntKind.signed] at w3; omega⟩
      obtain ⟨d, hd, rfl⟩ : ∃ d : Nat, d < W32 ∧ D = (d : Int) := ⟨D.toNat, by simp [Lit.wf, IntKind.min, IntKind.max, IntKind.bits, IntKind.signed] at w4; unfold W32; omega⟩
      obtain ⟨l, rfl⟩ : ∃ l : List UInt8, S = ⟨l.toArray⟩ := ⟨S.data.toList, by cases S; simp⟩
      exact ⟨⟨K, A, na, ca, a, B, nb, cb, b, x, d, N, l, LA, ln, lc, R⟩, ⟨hA, hB, hx, hd, hL, hR, hl, hm⟩, rfl⟩

set_option maxRecDepth 100000 in
/-- A script that came in. -/
theorem open_script {H : Type} {enc : TypeId × Value → H} {W : World} {base : Nat} {v : Value} {d : DataW H} {p : List MemPlace} (hval : Value.okWide Tryd.prog W .any base 22 v)
    (h : DataW.Trod enc Tryd.prog W 0 (fun _ => true) true 22 v d p) :
    ∃ (A : Option Addr) (n c : Nat), v = .slice A n c ∧ n ≤ c ∧ c ≤ maxLen ∧ Script W A n := by
  obtain ⟨a0, len, cap, rfl⟩ := okWide_slice Tryd.underlying22 hval
  obtain ⟨fuel, hf⟩ := h
  rcases open_slice Tryd.underlying22 hf with ⟨hcs, _⟩ | ⟨a, len', cap', m, n, D, Pl, hcs, _, hl, hm, hmm, _, hi⟩
  · simp [Value.cells] at hcs
    obtain ⟨rfl, rfl, rfl⟩ := hcs
    exact ⟨none, 0, 0, rfl, Nat.le_refl _, Nat.zero_le _, fun i hi => by omega⟩
  · simp [Value.cells] at hcs
    obtain ⟨rfl, rfl, rfl⟩ := hcs
    simp only [if_true] at hmm
    subst hmm
    refine ⟨some a, len, _, rfl, hl, hm, fun i hil => ?_⟩
    obtain ⟨cs, hc, ht⟩ := hi i (by omega)
    obtain ⟨_, hlen, hcell⟩ := World.cells?_some hc
    rw [cellsOp] at hlen hcell
    obtain ⟨o, ho, rfl⟩ := op_cells ht
    have hk : ∀ j, j < 8 → W.cell? (a.add (i * 8 + j)) = [Value.int .i64 o.K, .slice o.A o.na o.ca, .slice o.B o.nb o.cb, .int .u64 (o.X : Int), .int .u32 (o.D : Int), .int .i64 o.N, .string ⟨o.S.toArray⟩, .slice o.LA o.ln o.lc][j]? := fun j hj => by
      have := hcell j hj
      rwa [add_of_add] at this
    exact ⟨a, o, rfl, ho, hk 0 (by decide), hk 1 (by decide), hk 2 (by decide), hk 3 (by decide), hk 4 (by decide), hk 5 (by decide), hk 6 (by decide), hk 7 (by decide)⟩
end Go.Proofs.YtkghilmdoabodaaDoor
