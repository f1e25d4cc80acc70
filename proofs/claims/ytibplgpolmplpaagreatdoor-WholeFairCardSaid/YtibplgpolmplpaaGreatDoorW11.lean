/- The arrows of each node, as the graph of pairs is made of them: pairs.arrows. Condition: the table reads from memory; the error variables hold what E says. A rule whose symbols are told window by window: forms.made. Condition: the closure answers each window's symbol and writes to nothing that was there. The image of a word: rule.Step; the symbol of a window: rule.Local. Condition: table and word read from memory; the error variables hold what E says. Lists held against each other: edenraw.Ints returns whether the two lists are one. Condition: both lists read from memory. copy(d, s) into a row of the call's own. Plain laws, no program. No condition. Numbers lent: edenraw.Lent, Kept. Condition: the numbers read from memory. A rule lent: edenraw.LentRule, KeptRule. Condition: the table reads from memory. -/
import Derived.IntWalk
import Derived.Deep.RegionHeld3
import Derived.Laws.CopyOwn
import Derived.Test.YtibplgpolmplpaaGreatDoorW1
import Derived.Test.YtibplgpolmplpaaGreatDoorW2
import Derived.Test.YtibplgpolmplpaaGreatDoorW3
import Derived.Test.YtibplgpolmplpaaGreatDoorW8
import Derived.Test.YtibplgpolmplpaaGreatDoorW9
import Derived.Test.YtibplgpolmplpaaGreatDoorW10
namespace Go.Proofs.YtibplgpolmplpaaGreatDoor
open Go.RowKit RuleP

theorem ownN_keeps {w w' : World} {O : Nat → Prop} {base e size : Nat} {v : Value} {n : Nat} {xs : List Value} (h : w.ownsRow base e size v n xs) (hk : Keeps O w w') (ho : ∀ g, v.ownBlock = some g → ¬ O g) : w'.ownsRow base e size v n xs := by
  refine ⟨h.1, ?_⟩
  rcases h.2 with hn | ⟨g, cap, cur, rfl, hb, hgg, rest⟩
  · exact .inl hn
  · refine .inr ⟨g, cap, cur, rfl, hb, ?_, rest⟩
    rw [hk.block g (Array.getElem?_eq_some_iff.1 hgg).1 (ho g rfl)]
    exact hgg
theorem ownN_below {w w' : World} {base e size : Nat} {v : Value} {n : Nat} {xs : List Value} (h : w.ownsRow base e size v n xs) (hk : Below w.heap.size w w') : w'.ownsRow base e size v n xs :=
  ownN_keeps h (Keeps.of_pure hk (fun _ => False)) (fun _ _ h => h)
theorem ownN_base {w : World} {base base' e size : Nat} {v : Value} {n : Nat} {xs : List Value} (h : w.ownsRow base e size v n xs) (hb : base' ≤ base) : w.ownsRow base' e size v n xs := by
  refine ⟨h.1, ?_⟩
  rcases h.2 with hn | ⟨g, cap, cur, hv, hg, rest⟩
  · exact .inl hn
  · exact .inr ⟨g, cap, cur, hv, Nat.le_trans hb hg, rest⟩
theorem ownN_lt {w : World} {base e size : Nat} {v : Value} {n : Nat} {xs : List Value} (h : w.ownsRow base e size v n xs) : ∀ g, v.ownBlock = some g → base ≤ g ∧ g < w.heap.size := by
  intro g hg
  rcases h.2 with ⟨rfl, _⟩ | ⟨g', cap, cur, rfl, hb, hgg, _⟩
  · simp [Value.ownBlock] at hg
  · have e : g' = g := by simpa [Value.ownBlock] using hg
    subst e
    exact ⟨hb, (Array.getElem?_eq_some_iff.1 hgg).1⟩
theorem ownN_cell {w : World} {base e size : Nat} {A : Option Addr} {n c : Nat} {xs : List Value} (h : w.ownsRow base e size (.slice A n c) n xs) {j : Nat} {u : Value} (hj : xs[j]? = some u) : ∃ g, A = some ⟨g, 0, none⟩ ∧ w.cell? ⟨g, j, none⟩ = some u := by
  rcases h.2 with ⟨hv, hn⟩ | ⟨g, cap, cur, hv, hb, hgg, h1, h2, h3, h4⟩
  · have h0 := h.1
    rw [hn, Nat.zero_mul] at h0
    have := (List.getElem?_eq_some_iff.1 hj).1
    omega
  · injection hv with hA _ _
    refine ⟨g, hA, ?_⟩
    rw [← h4, List.getElem?_take] at hj
    split at hj
    · rw [cell_of_row w g _ _ _ _ hgg, ← Array.getElem?_toList]; exact hj
    · cases hj
theorem addr_zero (g i : Nat) : (⟨g, 0, none⟩ : Addr).add i = ⟨g, i, none⟩ := by
  unfold Addr.add
  split
  · rename_i h; rw [h]
  · simp
theorem rowBlk {w : World} {base e size g n c : Nat} {xs : List Value} (h : w.ownsRow base e size (.slice (some ⟨g, 0, none⟩) n c) n xs) : ∃ cur, w.heap[g]? = some (.cells cur e (0, 0)) := by
  rcases h.2 with ⟨h', _⟩ | ⟨g', cap, cur, h', _, hg, _⟩
  · simp at h'
  · simp only [Value.slice.injEq, Option.some.injEq, Addr.mk.injEq, and_true, true_and] at h'
    obtain ⟨rfl, _⟩ := h'
    exact ⟨cur, hg⟩
theorem ownN_ne {w : World} {base e size n g t : Nat} {v : Value} {xs : List Value} {cs : Array Value} (h : w.ownsRow base e size v n xs) (hg : w.heap[g]? = some (.cells cs t (0, 0))) (hne : e ≠ t) : v.ownBlock ≠ some g := by
  rcases h.2 with ⟨rfl, _⟩ | ⟨g', cap, cur, rfl, _, hh, _⟩
  · simp [Value.ownBlock]
  · intro he
    have : g' = g := by simpa [Value.ownBlock] using he
    subst this
    rw [hg] at hh
    injection hh with hh
    injection hh with _ ht
    exact hne ht.symm
theorem wpList_push_pair {P : Program} {w w0 : World} {ops : Array Oper} {rest : List Oper} {o : Oper} {a : Act} {Q : Exit → Act → World → Prop} (hgd : o.guard = none) (s x : Operand) (t : TypeId)
    (ho : o.op = .call { callee := .builtin .append, args := #[s, x], argTypes := #[t, t] }) {e : TypeId} {z : Value} {bytes : Nat} (hund : P.underlying t = some (.slice e)) (hinfo : (P.info? e).map (fun i => (i.zero, i.size, i.bytes)) = some (some z, 2, bytes)) (hz2 : z.cells.size = 2)
    {base : Nat} {v : Value} {n : Nat} {xs : List Value} (hown : w0.ownsRow base e 2 v n xs) (hs : a.eval s = v) (u1 u2 : Value) (hw : w = w0.alloc (.cells #[u1, u2] e))
    (hx : a.eval x = .slice (some ⟨w0.heap.size, 0, none⟩) 1 1) (hu1 : u1.oneCell' = true) (hu2 : u2.oneCell' = true) (h63 : n + 1 ≤ maxLen) (hbytes : (n + 1) * bytes ≤ 140737488355328) (hbase : base ≤ w0.heap.size)
    (h : ∀ g cap w', w'.ownsRow base e 2 (.slice (some ⟨g, 0, none⟩) (n + 1) cap) (n + 1) (xs ++ [u1, u2]) → w0.grownBy w' v.ownBlock → g < w'.heap.size →
      wpList P ops Q rest (a.put o.dst (.slice (some ⟨g, 0, none⟩) (n + 1) cap)) w') : wpList P ops Q (o :: rest) a w := by
  subst hw
  cases hi : P.info? e with
  | none => rw [hi] at hinfo; cases hinfo
  | some i =>
    rw [hi] at hinfo
    have hh := Option.some.inj hinfo
    have hz : i.zero = some z := congrArg (·.1) hh
    have hz1 : i.size = 2 := congrArg (·.2.1) hh
    have hb : i.bytes = bytes := congrArg (·.2.2) hh
    have hown1 : (w0.alloc (.cells #[u1, u2] e)).ownsRow base e 2 v n xs := ownN_below hown ((Below.refl _ _).alloc (Nat.le_refl _) _)
    refine wpList_append_lies _ hgd s x t ho base e i z 2 bytes hund hi hz hz1 hb hz2 (by decide) v n xs hs hown1 ⟨w0.heap.size, 0, none⟩ 1 1 [u1, u2] hx rfl ?_ ?_ (by decide) h63 hbytes (by simp; omega) _ rfl ?_
    · intro j u' hj
      match j, hj with
      | 0, hj => simp at hj; subst hj; simp [Addr.add]
      | 1, hj => simp at hj; subst hj; simp [Addr.add]
    · intro u' hu'
      simp at hu'
      rcases hu' with rfl | rfl
      · exact hu1
      · exact hu2
    · intro g cap w' h1 h2 h3 h4
      refine h g cap w' h1 ⟨h2.os, h2.tape, h2.output, Nat.le_trans (by simp) h2.size, fun k hk hn => ?_⟩ h4
      rw [h2.block k (by simp; omega) hn]
      exact Below.heap_alloc _ _ _ hk

theorem tArr : (Tryz.prog.info? 160).map (fun i => (i.zero, i.size, i.bytes)) = some (some (.agg #[.int .i64 0, .int .i64 0]), 2, 16) := by kernel_rfl
theorem tArrs : Tryz.prog.underlying 158 = some (.slice 160) := by kernel_rfl
theorem tArrss : ElemT Tryz.prog 156 158 (.slice none 0 0) 24 := ⟨by kernel_rfl, by kernel_rfl, rfl⟩

def arrC (l : List (Nat × Nat)) : List Value := l.flatMap fun x => [.int .i64 (x.1 : Int), .int .i64 (x.2 : Int)]
theorem arrC_at : ∀ {l : List (Nat × Nat)} {j : Nat} {x : Nat × Nat}, l[j]? = some x → (arrC l)[j * 2]? = some (.int .i64 (x.1 : Int)) ∧ (arrC l)[j * 2 + 1]? = some (.int .i64 (x.2 : Int))
  | [], j, x, h => by simp at h
  | y :: l, 0, x, h => by
    simp at h
    subst h
    simp [arrC]
  | y :: l, j + 1, x, h => by
    have := arrC_at (l := l) (j := j) (x := x) (by simpa using h)
    have e : arrC (y :: l) = .int .i64 (y.1 : Int) :: .int .i64 (y.2 : Int) :: arrC l := by simp [arrC]
    rw [e, show (j + 1) * 2 = j * 2 + 1 + 1 by omega, show j * 2 + 1 + 1 + 1 = (j * 2 + 1) + 1 + 1 by omega]
    simpa using this
theorem arrC_snoc (l : List (Nat × Nat)) (x : Nat × Nat) : arrC (l ++ [x]) = arrC l ++ [.int .i64 (x.1 : Int), .int .i64 (x.2 : Int)] := by simp [arrC]

/-- A list of lists of arrows, as it reads. -/
def ArrL (w : World) (A : Option Addr) (n : Nat) (L : List (List (Nat × Nat))) : Prop :=
  n = L.length ∧ ∀ i l, L[i]? = some l → ∃ ad P c, A = some ad ∧ w.cell? (ad.add i) = some (.slice P l.length c) ∧ ∀ j x, l[j]? = some x → ∃ ap, P = some ap ∧ w.cell? (ap.add (j * 2)) = some (.int .i64 ((x.1 : Nat) : Int)) ∧ w.cell? ⟨(ap.add (j * 2)).block, (ap.add (j * 2)).off + 1, none⟩ = some (.int .i64 ((x.2 : Nat) : Int))
theorem ArrL.below {w w' : World} {A : Option Addr} {n : Nat} {L : List (List (Nat × Nat))} (h : ArrL w A n L) (hb : Below w.heap.size w w') : ArrL w' A n L :=
  ⟨h.1, fun i l hl => by
    obtain ⟨ad, P, c, e, hc, hr⟩ := h.2 i l hl
    refine ⟨ad, P, c, e, cell_later hb hc, fun j x hx => ?_⟩
    obtain ⟨ap, e2, h1, h2⟩ := hr j x hx
    exact ⟨ap, e2, cell_later hb h1, cell_later hb h2⟩⟩
/-- The arrows of a node. -/
def arrN (k N : Nat) (t : List Nat) (u m : Nat) : List (Nat × Nat) := (List.range m).map fun s => ((u * k + s) % N, t.getD (u * k + s) 0)
theorem arrN_len (k N : Nat) (t : List Nat) (u m : Nat) : (arrN k N t u m).length = m := by simp [arrN]
theorem arrN_snoc (k N : Nat) (t : List Nat) (u m : Nat) : arrN k N t u (m + 1) = arrN k N t u m ++ [((u * k + m) % N, t.getD (u * k + m) 0)] := by
  unfold arrN
  rw [List.range_succ, List.map_append]
  rfl
def arrW (k N : Nat) (t : List Nat) : List (List (Nat × Nat)) := (List.range N).map fun u => arrN k N t u k
theorem arrW_at {k N : Nat} {t : List Nat} {u : Nat} (h : u < N) : (arrW k N t)[u]? = some (arrN k N t u k) := by
  unfold arrW
  rw [List.getElem?_map, List.getElem?_range h]
  rfl
/-- The rows below u are laid, the others are none yet. -/
structure ArrAt (w : World) (B g : Nat) (R : List (Option Addr × Nat × Nat)) (k N : Nat) (t : List Nat) (u : Nat) : Prop where
  lst : w.ownsRow B 158 1 (.slice (some ⟨g, 0, none⟩) N N) N (R.map slv)
  el : ∀ i, i < u → ∃ A c, R[i]? = some (A, k, c) ∧ w.ownsRow B 160 2 (.slice A k c) k (arrC (arrN k N t i k))
  nil : ∀ i, u ≤ i → i < N → R[i]? = some (none, 0, 0)
theorem ArrAt.list {w : World} {B g : Nat} {R : List (Option Addr × Nat × Nat)} {k N : Nat} {t : List Nat} (h : ArrAt w B g R k N t N) : ArrL w (some ⟨g, 0, none⟩) N (arrW k N t) := by
  refine ⟨by simp [arrW], fun i l hl => ?_⟩
  have hi : i < N := by have := (List.getElem?_eq_some_iff.1 hl).1; simpa [arrW] using this
  rw [arrW_at hi] at hl
  obtain rfl := Option.some.inj hl
  obtain ⟨A, c, hR, ho⟩ := h.el i hi
  have hc := ownN_cell h.lst (j := i) (u := .slice A k c) (by rw [List.getElem?_map, hR]; rfl)
  obtain ⟨g', e, hc⟩ := hc
  cases e
  refine ⟨_, A, c, rfl, by rw [arrN_len, addr_zero]; exact hc, fun j x hx => ?_⟩
  obtain ⟨h1, h2⟩ := arrC_at hx
  obtain ⟨g1, e1, d1⟩ := ownN_cell ho h1
  obtain ⟨g2, e2, d2⟩ := ownN_cell ho h2
  rw [e1] at e2
  cases e2
  exact ⟨_, e1, by rw [addr_zero]; exact d1, by rw [addr_zero]; exact d2⟩

set_option maxRecDepth 100000 in
set_option maxHeartbeats 4000000 in
theorem arrows_c (w : World) (E : Nat → Addr) (hE : Errs w E) (k r n c : Nat) (A : Option Addr) (t : List Nat) (hT : Sl w A n ((ints t).map (Value.int .i64))) (hr : IsRule k r t) (h256 : t.length ≤ 256) :
    Calls Tryz.prog 99 #[ruleV (k : Int) (r : Int) A n c] w fun e w' => ∃ (C : Option Addr), e = .returned (.slice C (k ^ (2 * r)) (k ^ (2 * r))) ∧ ArrL w' C (k ^ (2 * r)) (arrW k (k ^ (2 * r)) t) ∧ Below w.heap.size w w' := by
  have hn : t.length = n := by simpa [ints] using hT.1
  have hb1 := (Below.refl w.heap.size w).alloc (Nat.le_refl _) (.cells #[.int .i64 (k : Int), .int .i64 (r : Int), .slice A n c] 24)
  have hr1 := RuleAt.new w (.int .i64 (k : Int)) (.int .i64 (r : Int)) (.slice A n c)
  obtain ⟨r0, r1, r2, _⟩ := hr1.facts
  obtain ⟨w1, hw1⟩ : ∃ w1, w.alloc (.cells #[.int .i64 (k : Int), .int .i64 (r : Int), .slice A n c] 24) = w1 := ⟨_, rfl⟩
  rw [hw1] at hb1 hr1
  have hnd := overNodes_c w1 E (hE.below hb1) (k : Int) (r : Int) A n c (ints t) (hT.below hb1) (by omega)
  rw [smallO_rule hr h256, if_pos rfl] at hnd
  have hnn : nodesN (k : Int) (r : Int) = k ^ (2 * r) := by simp [nodesN]
  rw [hnn] at hnd
  obtain ⟨hdv, hln⟩ := nodes_div hr
  rw [hn] at hln
  have hk1 := hr.k1
  have hk4 := hr.k4
  have hN4 : k ^ (2 * r) ≤ 256 := by
    have := Nat.le_mul_of_pos_right (k ^ (2 * r)) hk1
    omega
  have HED := Lib.hid (fun (wz : World) (hz : Below w.heap.size w wz) (u s : Nat) (hu : u < k ^ (2 * r)) (hs : s < k) => edge_good wz E (hE.below hz) k r u s A n c t (hT.below hz) hr h256 hu hs)
  obtain ⟨N, hN⟩ : ∃ N, k ^ (2 * r) = N := ⟨_, rfl⟩
  rw [hN] at hnd hN4 HED ⊢
  have HND := Lib.hid hnd
  have HW1 := Lib.hid hw1
  have HB1 := Lib.hid hb1
  have HR1 := Lib.hid hr1
  unfold ruleV at HND HED ⊢
  clear hw1 hb1 hr1 hE hT hr hnd hn hdv hln hnn hN h256
  go_enter Tryz.func99, Tryz.ntmps99
  go_wp2_with fail
  rw [HW1.out]
  refine (HND.out).mono ?_
  rintro e w2 ⟨v, rfl, rfl, hb2⟩
  have hmk := run_make_row' (P := Tryz.prog) 156 158 (.slice none 0 0) 24 tArrss.und tArrss.info rfl .i64 .i64 N (by omega) (by omega)
  have hmd := World.ownsRow_lit (base := w2.heap.size) (e := 158) (size := 1) w2 (madeCells #[.slice none 0 0] N) N (Nat.le_refl _) (by simp only [maxLen]; omega) (by rw [size_madeCells]; simp)
  rw [toList_madeCells_one] at hmd
  have hb23 := (Below.refl w2.heap.size w2).alloc (Nat.le_refl _) (.cells (madeCells #[.slice none 0 0] N) 158)
  obtain ⟨w3, hw3⟩ : ∃ w3, w2.alloc (.cells (madeCells #[.slice none 0 0] N) 158) = w3 := ⟨_, rfl⟩
  rw [hw3] at hmd hb23
  obtain ⟨g, hg⟩ : ∃ g, w2.heap.size = g := ⟨_, rfl⟩
  rw [hg] at hmd
  have hb02 := HB1.out.trans (hb2.mono HB1.out.size)
  have hwg : w.heap.size ≤ g := by have := hb02.size; omega
  have hA0 : ArrAt w3 w.heap.size g (List.replicate N (none, 0, 0)) k N t 0 := ⟨by rw [List.map_replicate]; exact ownN_base hmd hwg, fun i hi => by omega, fun i _ hi => by rw [List.getElem?_replicate, if_pos hi]⟩
  have HA0 := Lib.hid hA0
  have HW3 := Lib.hid hw3
  have HG := Lib.hid hg
  have HB23 := Lib.hid hb23
  have HB02 := Lib.hid hb02
  have HR2 := Lib.hid (HR1.out.below hb2 HR1.out.lt)
  have hrg : w.heap.size < g := by have := HR2.out.lt; omega
  clear hmd hb23 hw3 hg hb02 hA0 HND r0 r1 r2 hb2
  go_wp2_with fail
  rw [HW3.out, HG.out]
  clear hmk
  go_loopw [20] (fun uv wl => ∃ (u : Nat) (R : List (Option Addr × Nat × Nat)), uv = .int .i64 (u : Int) ∧ u ≤ N ∧ Hid (ArrAt wl w.heap.size g R k N t u) ∧ Hid (Below w2.heap.size w2 wl)) (fun uv _ => N - (intOf uv).toNat)
  case atStart => exact ⟨0, _, rfl, Nat.zero_le _, HA0, HB23⟩
  case round =>
    obtain ⟨u, R, rfl, hu, hA, hB⟩ := hrel
    clear HA0 HB23
    obtain ⟨v0, rfl⟩ : ∃ v0, v0 = wr := ⟨_, rfl⟩
    by_cases huN : u < N
    · have huN' : (u : Int) < (N : Int) := by omega
      have hu0 : (0 : Int) ≤ (u : Int) := by omega
      have hr0 := HR2.out.below hB.out HR2.out.lt
      obtain ⟨r0, r1, r2, _⟩ := hr0.facts
      have hRl : R.length = N := by have := hA.out.lst.1; simpa using this
      have hset : R.set u (none, 0, 0) = R := by
        have h0 := hA.out.nil u (Nat.le_refl _) huN
        apply List.ext_getElem?
        intro i
        rw [List.getElem?_set]
        split
        · rename_i h
          subst h
          rw [if_pos (by omega), h0]
        · rfl
      have hlst : v0.ownsRow w.heap.size 158 1 (.slice (some ⟨g, 0, none⟩) N N) N ((R.set u (none, 0, 0)).map slv) := by rw [hset]; exact hA.out.lst
      have HLST := Lib.hid hlst
      have HRL := Lib.hid hRl
      have HR0 := Lib.hid hr0
      have hv0g : g < v0.heap.size := (ownN_lt hlst g rfl).2
      clear hr0 hlst hset
      go_wp2_with fail
      clear r0 r1 r2
      go_loopw [25] (fun sv wl => ∃ (s : Nat) (P : Option Addr) (pc : Nat), sv = .int .i64 (s : Int) ∧ s ≤ k ∧ Hid (wl.ownsRow w.heap.size 158 1 (.slice (some ⟨g, 0, none⟩) N N) N ((R.set u (P, s, pc)).map slv)) ∧
        Hid (wl.ownsRow v0.heap.size 160 2 (.slice P s pc) s (arrC (arrN k N t u s))) ∧ Hid (Keeps (fun b => b = g) v0 wl)) (fun sv _ => k - (intOf sv).toNat)
      case atStart => exact ⟨0, none, 0, rfl, Nat.zero_le _, HLST, Lib.hid ⟨rfl, .inl ⟨rfl, rfl⟩⟩, Lib.hid (Keeps.refl _ _)⟩
      case round =>
        obtain ⟨s, P, pc, rfl, hs, hL, hO, hK⟩ := hrel
        clear HLST
        obtain ⟨v1, rfl⟩ : ∃ v1, v1 = wr := ⟨_, rfl⟩
        by_cases hsk : s < k
        · have hsk' : (s : Int) < (k : Int) := by omega
          have hs0 : (0 : Int) ≤ (s : Int) := by omega
          have hb21 : Below w2.heap.size w2 v1 := hB.out.trans (hK.out.below hB.out.size (fun b e => by rw [show b = g from e, HG.out]; exact Nat.le_refl _))
          have hb01 := HB02.out.trans (hb21.mono HB02.out.size)
          have hr1 := HR0.out.keeps hK.out (show ¬ w.heap.size = g by omega)
          have HE1 := Lib.hid (HED.out v1 hb01 u s huN hsk)
          obtain ⟨r0, r1, r2, _⟩ := hr1.facts
          have hs4 : s ≤ 4 := by omega
          clear hr1 hb21 hb01
          go_wp2_with fail
          refine (HE1.out).mono ?_
          rintro e v2 ⟨rfl, hb2⟩
          obtain ⟨to, hto⟩ : ∃ to, (u * k + s) % N = to := ⟨_, rfl⟩
          obtain ⟨lb, hlb⟩ : ∃ lb, t.getD (u * k + s) 0 = lb := ⟨_, rfl⟩
          have HTL := Lib.hid (And.intro hto hlb)
          rw [hto, hlb]
          clear hto hlb HE1 r0 r1 r2
          have hL2 := own_below hL.out hb2
          have hO2 := ownN_below hO.out hb2
          have hcell := ownN_cell hL2 (j := u) (u := .slice P s pc) (by rw [List.getElem?_map, List.getElem?_set_self (by rw [HRL.out]; exact huN)]; rfl)
          obtain ⟨g', eg, q0⟩ := hcell
          cases eg
          have hvz : v0.heap.size ≤ v2.heap.size := Nat.le_trans hK.out.size hb2.size
          have HOR := Lib.hid hO2
          have HLR := Lib.hid hL2
          have HX := Lib.hid (fun (w3 : World) (hg3 : v2.grownBy w3 (Value.slice P s pc).ownBlock) => (own_keeps HLR.out (Keeps.of_grown hg3) (fun b hb e => by
            have h1 := (ownN_lt HOR.out b e).1
            have h2 : g = b := by simpa [Value.ownBlock] using hb
            omega) : w3.ownsRow w.heap.size 158 1 (.slice (some ⟨g, 0, none⟩) N N) N ((R.set u (P, s, pc)).map slv)))
          have HKX := Lib.hid (fun (w3 : World) (hg3 : v2.grownBy w3 (Value.slice P s pc).ownBlock) => (((hK.out.trans (Keeps.of_pure hb2 _) (fun _ _ h => h)).trans (Keeps.of_grown hg3) (fun b hb e => by
            have h1 := (ownN_lt HOR.out b e).1
            omega)) : Keeps (fun b => b = g) v0 w3))
          clear hL2 hL hO hK hb2
          go_wp2_with (at_builtin; refine wpList_push_pair rfl _ _ _ rfl tArrs tArr rfl hO2 rfl _ _ rfl rfl rfl rfl (by simp only [maxLen]; omega) (by omega) hvz ?_; intro g3 cap3 w3 hown3 hg3 hlt3; have hL3 := HX.out w3 hg3; have q3 := hL3.cellAt u (by rw [HRL.out] at *; omega); have f3 := hL3.frozenAt u)
          have hk3 := Keeps.of_setCell w3 ⟨g, u, none⟩ (.slice (some ⟨g3, 0, none⟩) (s + 1) cap3)
          have hgn : ∀ b, (Value.slice (some ⟨g3, 0, none⟩) (s + 1) cap3).ownBlock = some b → ¬ b = g := fun b hb e => by
            have h1 := (ownN_lt hown3 b hb).1
            omega
          have HN3 := Lib.hid (ownN_keeps hown3 hk3 hgn)
          rw [← HTL.out.1, ← HTL.out.2] at HN3
          have HNX : Hid ((w3.setCell ⟨g, u, none⟩ (.slice (some ⟨g3, 0, none⟩) (s + 1) cap3)).ownsRow v0.heap.size 160 2 (.slice (some ⟨g3, 0, none⟩) (s + 1) cap3) (s + 1) (arrC (arrN k N t u (s + 1)))) := Lib.hid (by
            rw [arrN_snoc, arrC_snoc]
            exact HN3.out)
          have hst := (hL3.stored u (.slice (some ⟨g3, 0, none⟩) (s + 1) cap3)).1
          have HLX : Hid ((w3.setCell ⟨g, u, none⟩ (.slice (some ⟨g3, 0, none⟩) (s + 1) cap3)).ownsRow w.heap.size 158 1 (.slice (some ⟨g, 0, none⟩) N N) N ((R.set u (some ⟨g3, 0, none⟩, s + 1, cap3)).map slv)) := Lib.hid (by
            have e : (R.set u (some ⟨g3, 0, none⟩, s + 1, cap3)).map slv = ((R.set u (P, s, pc)).map slv).set u (.slice (some ⟨g3, 0, none⟩) (s + 1) cap3) := by
              rw [List.map_set, List.map_set, List.set_set]
              rfl
            rw [e]
            exact hst)
          have HKY := Lib.hid ((HKX.out w3 hg3).trans hk3 (fun _ _ e => e))
          clear hown3 hk3 hgn hst hL3 hg3 HX HKX HN3
          go_wp2_with fail
          exact ⟨⟨s + 1, _, _, by go_num, by omega, HLX, HNX, HKY⟩, by simp [intOf]; omega⟩
        · obtain rfl : s = k := by omega
          have hsk' : ¬ (s : Int) < (s : Int) := by omega
          have hAX : ArrAt v1 w.heap.size g (R.set u (P, s, pc)) s N t (u + 1) := by
            refine ⟨hL.out, fun i hi => ?_, fun i hi hiN => ?_⟩
            · rcases Nat.lt_or_ge i u with h | h
              · obtain ⟨A', c', hR', ho'⟩ := hA.out.el i h
                refine ⟨A', c', by rw [List.getElem?_set_ne (by omega)]; exact hR', ownN_keeps ho' hK.out (fun b hb e => ?_)⟩
                obtain ⟨cur, hcur⟩ := rowBlk hA.out.lst
                exact ownN_ne ho' hcur (by decide) (by rw [hb, show b = g from e])
              · obtain rfl : i = u := by omega
                exact ⟨P, pc, by rw [List.getElem?_set_self (by rw [HRL.out]; exact huN)], ownN_base hO.out (HB02.out.trans (hB.out.mono HB02.out.size)).size⟩
            · rw [List.getElem?_set_ne (by omega)]
              exact hA.out.nil i (by omega) hiN
          have HAX := Lib.hid hAX
          have HBX := Lib.hid (hB.out.trans (hK.out.below hB.out.size (fun b e => by rw [show b = g from e, HG.out]; exact Nat.le_refl _)))
          clear hAX
          go_wp2_with fail
          exact ⟨⟨u + 1, _, by go_num, by omega, HAX, HBX⟩, by simp [intOf]; omega⟩
    · obtain rfl : u = N := by omega
      have huN' : ¬ (u : Int) < (u : Int) := by omega
      have HBX := Lib.hid (HB02.out.trans (hB.out.mono HB02.out.size))
      go_wp2_with fail
      go_ret
      exact ⟨some ⟨g, 0, none⟩, rfl, hA.out.list, HBX.out⟩
end Go.Proofs.YtibplgpolmplpaaGreatDoor

namespace Go.Proofs.YtibplgpolmplpaaGreatDoor
open Go.RowKit RuleP

namespace RuleP
theorem digB_at {k : Nat} : ∀ {L i j : Nat}, j < L → (digB k L i)[L - 1 - j]? = some (i / k ^ j % k)
  | 0, _, _, h => absurd h (Nat.not_lt_zero _)
  | L + 1, i, 0, _ => by
    rw [digB, List.getElem?_append_right (by rw [digB_len]; omega), digB_len]
    simp
  | L + 1, i, j + 1, h => by
    rw [digB, List.getElem?_append_left (by rw [digB_len]; omega), show L + 1 - 1 - (j + 1) = L - 1 - j by omega, digB_at (by omega), Nat.div_div_eq_div_mul, Nat.pow_succ, Nat.mul_comm k]
/-- The last j places as those of D. -/
def mix (L : Nat) (vs D : List Nat) (j : Nat) : List Nat := vs.take (L - j) ++ D.drop (L - j)
theorem mix_zero {L : Nat} {vs D : List Nat} (h : vs.length = L) (hD : D.length = L) : mix L vs D 0 = vs := by
  unfold mix
  rw [Nat.sub_zero, List.take_of_length_le (by omega), List.drop_eq_nil_of_le (by omega), List.append_nil]
theorem mix_all {L : Nat} {vs D : List Nat} : mix L vs D L = D := by
  unfold mix
  rw [Nat.sub_self]
  simp
theorem mix_len {L j : Nat} {vs D : List Nat} (h : vs.length = L) (hD : D.length = L) (hj : j ≤ L) : (mix L vs D j).length = L := by
  unfold mix
  rw [List.length_append, List.length_take, List.length_drop]
  omega
theorem mix_set {L j x : Nat} {vs D : List Nat} (h : vs.length = L) (hD : D.length = L) (hj : j < L) (hx : D[L - 1 - j]? = some x) : (mix L vs D j).set (L - 1 - j) x = mix L vs D (j + 1) := by
  unfold mix
  have hl : L - 1 - j < D.length := (List.getElem?_eq_some_iff.1 hx).1
  have hx' : D[L - 1 - j] = x := (List.getElem?_eq_some_iff.1 hx).2
  have e1 : vs.take (L - j) = vs.take (L - (j + 1)) ++ [vs[L - (j + 1)]'(by omega)] := by
    rw [← List.take_succ_eq_append_getElem (by omega), show L - (j + 1) + 1 = L - j by omega]
  have e2 : D.drop (L - (j + 1)) = x :: D.drop (L - j) := by
    rw [List.drop_eq_getElem_cons (show L - (j + 1) < D.length by omega)]
    have e3 : L - (j + 1) + 1 = L - j := by omega
    rw [e3]
    congr 1
    rw [← hx']
    congr 1
    omega
  rw [e1, e2, List.append_assoc, List.set_append_right _ _ (by rw [List.length_take]; omega), List.length_take, show L - 1 - j - min (L - (j + 1)) vs.length = 0 by omega]
  rfl
end RuleP

set_option maxRecDepth 100000 in
set_option maxHeartbeats 4000000 in
theorem made2_c (w : World) (k r : Nat) (F : FuncId) (p1 p2 : Value) (f : List Nat → Nat) (h1 : 1 ≤ k) (h2 : k ≤ 4) (h3 : r ≤ 3)
    (he : ∀ (v : Value) (wz : World), (callFunc F #[v, p1, p2]).run Tryz.prog wz = .ok (.enter F #[v, p1, p2]) wz)
    (hf : ∀ (wz : World), Below w.heap.size w wz → ∀ (g : Nat) (v : List Nat), v.length = 2 * r + 1 → (∀ x ∈ v, x < k) → Sl wz (some ⟨g, 0, none⟩) (2 * r + 1) ((ints v).map (Value.int .i64)) →
      Calls Tryz.prog F #[.slice (some ⟨g, 0, none⟩) (2 * r + 1) (2 * r + 1), p1, p2] wz fun e w' => e = .returned (.int .i64 ((f v : Nat) : Int)) ∧ Below wz.heap.size wz w') :
    Calls Tryz.prog 62 #[.int .i64 (k : Int), .int .i64 (r : Int), .func (.func F) #[] #[p1, p2]] w fun e w' => ∃ g, e = .returned (ruleV (k : Int) (r : Int) (some ⟨g, 0, none⟩) (k ^ (2 * r + 1)) (k ^ (2 * r + 1))) ∧
      w'.ownsRow w.heap.size 3 1 (.slice (some ⟨g, 0, none⟩) (k ^ (2 * r + 1)) (k ^ (2 * r + 1))) (k ^ (2 * r + 1)) ((ints (tab k (2 * r + 1) f)).map (Value.int .i64)) ∧ Below w.heap.size w w' := by
  have hle := pow_le h2 h3
  have hpos : 0 < k ^ (2 * r + 1) := Nat.pow_pos h1
  obtain ⟨n, hn⟩ : ∃ n, k ^ (2 * r + 1) = n := ⟨_, rfl⟩
  obtain ⟨L, hL⟩ : ∃ L, 2 * r + 1 = L := ⟨_, rfl⟩
  have hL7 : L ≤ 7 := by omega
  have hL1 : 1 ≤ L := by omega
  have hr0 : (0 : Int) ≤ (r : Int) := by omega
  have hr3 : (r : Int) ≤ 3 := by omega
  have hsz := size_ok (w.alloc (.cells #[.int .i64 0, .int .i64 0, .slice none 0 0] 24)) k r h1 h2 h3
  rw [hn] at hsz hle hpos ⊢
  rw [hL] at hf ⊢
  have HSZ := Lib.hid hsz
  have hk0 : ¬ ((k : Int) = 0) := by omega
  have hLi : (2 : Int) * (r : Int) + 1 = (L : Int) := by omega
  -- the worlds
  have hm1 := run_make_row' (P := Tryz.prog) 22 3 (.int .i64 0) 8 tInts.und tInts.info rfl .i64 .i64 n (by omega) (by omega)
  have hm2 := run_make_row' (P := Tryz.prog) 22 3 (.int .i64 0) 8 tInts.und tInts.info rfl .i64 .i64 L (by omega) (by omega)
  have hm1' := hm1 (w.alloc (.cells #[.int .i64 0, .int .i64 0, .slice none 0 0] 24))
  have HN := Lib.hid hn
  have HL := Lib.hid hL
  have HE := Lib.hid he
  have HF := Lib.hid hf
  clear hn hL hf hsz hm1
  go_enter Tryz.func62, Tryz.ntmps62
  go_wp2_with fail
  refine (HSZ.out).mono ?_
  rintro e w' ⟨rfl, rfl⟩
  have ro := RuleAt.new ((w.alloc (.cells #[.int .i64 0, .int .i64 0, .slice none 0 0] 24)).alloc (.cells (madeCells #[.int .i64 0] n) 3)) (.int .i64 (k : Int)) (.int .i64 (r : Int)) (.slice (some ⟨w.heap.size + 1, 0, none⟩) n n)
  have rr := (((RuleAt.new w (.int .i64 0) (.int .i64 0) (.slice none 0 0)).alloc (.cells (madeCells #[.int .i64 0] n) 3)).alloc (.cells #[.int .i64 (k : Int), .int .i64 (r : Int), .slice (some ⟨w.heap.size + 1, 0, none⟩) n n] 24)).alloc (.cells (madeCells #[.int .i64 0] L) 3)
  have ro2 := ro.alloc (.cells (madeCells #[.int .i64 0] L) 3)
  have rt := ((make_ints (w.alloc (.cells #[.int .i64 0, .int .i64 0, .slice none 0 0] 24)) n (by simp only [maxLen]; omega)).alloc (.cells #[.int .i64 (k : Int), .int .i64 (r : Int), .slice (some ⟨w.heap.size + 1, 0, none⟩) n n] 24)).alloc (.cells (madeCells #[.int .i64 0] L) 3)
  have rw' := make_ints (((w.alloc (.cells #[.int .i64 0, .int .i64 0, .slice none 0 0] 24)).alloc (.cells (madeCells #[.int .i64 0] n) 3)).alloc (.cells #[.int .i64 (k : Int), .int .i64 (r : Int), .slice (some ⟨w.heap.size + 1, 0, none⟩) n n] 24)) L (by simp only [maxLen]; omega)
  have hb := ((((Below.refl w.heap.size w).alloc (Nat.le_refl _) (.cells #[.int .i64 0, .int .i64 0, .slice none 0 0] 24)).alloc (by simp) (.cells (madeCells #[.int .i64 0] n) 3)).alloc (by simp; omega) (.cells #[.int .i64 (k : Int), .int .i64 (r : Int), .slice (some ⟨w.heap.size + 1, 0, none⟩) n n] 24)).alloc (by simp; omega) (.cells (madeCells #[.int .i64 0] L) 3)
  simp only [World.size_alloc] at ro2 rt rw'
  obtain ⟨W, hW⟩ : ∃ W, (((w.alloc (.cells #[.int .i64 0, .int .i64 0, .slice none 0 0] 24)).alloc (.cells (madeCells #[.int .i64 0] n) 3)).alloc (.cells #[.int .i64 (k : Int), .int .i64 (r : Int), .slice (some ⟨w.heap.size + 1, 0, none⟩) n n] 24)).alloc (.cells (madeCells #[.int .i64 0] L) 3) = W := ⟨_, rfl⟩
  rw [hW] at rr ro2 rt rw' hb
  have HWE := Lib.hid hW
  have hbase : w.heap.size ≤ w.heap.size := Nat.le_refl _
  have rt2 := own_base rt (show w.heap.size ≤ w.heap.size + 1 by omega)
  have rw2 := own_base rw' (show w.heap.size ≤ w.heap.size + 1 + 1 + 1 by omega)
  obtain ⟨gw, hgw⟩ : ∃ g, w.heap.size + 1 + 1 + 1 = g := ⟨_, rfl⟩
  obtain ⟨go, hgo⟩ : ∃ g, w.heap.size + 1 + 1 = g := ⟨_, rfl⟩
  obtain ⟨gt, hgt⟩ : ∃ g, w.heap.size + 1 = g := ⟨_, rfl⟩
  rw [hgw] at rw2
  rw [hgo, hgt] at ro2
  rw [hgt] at rt2
  have HGW := Lib.hid hgw
  have HGO := Lib.hid hgo
  have HGT := Lib.hid hgt
  have q1 : w.heap.size < gt := by omega
  have q2 : gt < go := by omega
  have q3 : go < gw := by omega
  have RT := Lib.hid rt2
  have RW := Lib.hid rw2
  have RO := Lib.hid ro2
  have RR := Lib.hid rr
  have HB := Lib.hid hb
  clear hgw hgo hgt ro rr ro2 rt rt2 rw' rw2 hb hW hbase
  go_wp2_with fail
  clear hm2 hm1'
  rw [HWE.out, HGW.out, HGO.out, HGT.out]
  go_loopw [32] (fun iv wl => ∃ (i : Nat) (vs : List Nat), i ≤ n ∧ iv = .int .i64 (i : Int) ∧ vs.length = L ∧ wl.ownsRow w.heap.size 3 1 (.slice (some ⟨gt, 0, none⟩) n n) n ((ints (fillTo (tab k L f) n 0 i)).map (Value.int .i64)) ∧
    wl.ownsRow w.heap.size 3 1 (.slice (some ⟨gw, 0, none⟩) L L) L ((ints vs).map (Value.int .i64)) ∧ Hid (RuleAt wl go (.int .i64 (k : Int)) (.int .i64 (r : Int)) (.slice (some ⟨gt, 0, none⟩) n n)) ∧ Hid (RuleAt wl w.heap.size (.int .i64 0) (.int .i64 0) (.slice none 0 0)) ∧ Hid (Below w.heap.size w wl)) (fun iv _ => n - (intOf iv).toNat)
  case atStart => exact ⟨0, List.replicate L 0, Nat.zero_le _, rfl, by simp, by rw [fillTo_zero]; exact RT.out, RW.out, RO, RR, HB⟩
  case round =>
    clear RT RW RO RR HB
    obtain ⟨i, vs, hi, rfl, hvl, hT, hV, hO, hR, hB⟩ := hrel
    have HVL := Lib.hid hvl
    clear hvl
    by_cases hlt : i < n
    · have hi' : (i : Int) < (n : Int) := by omega
      obtain ⟨wo, rfl⟩ : ∃ wo : World, wo = wr := ⟨_, rfl⟩
      have HT := Lib.hid hT
      go_wp2_with fail
      go_loopw [38, 12] (fun jv xv wl => ∃ (j X : Nat), j ≤ L ∧ jv = .int .i64 (j : Int) ∧ Hid (X = i / k ^ j) ∧ X ≤ i ∧ xv = .int .i64 (X : Int) ∧ wl.ownsRow w.heap.size 3 1 (.slice (some ⟨gw, 0, none⟩) L L) L ((ints (mix L vs (digB k L i) j)).map (Value.int .i64)) ∧ Hid (Keeps (fun b => b = gw) wo wl)) (fun jv _ _ => L - (intOf jv).toNat)
      case atStart => exact ⟨0, i, Nat.zero_le _, rfl, Lib.hid (by simp), Nat.le_refl _, rfl, by rw [mix_zero HVL.out (digB_len _ _ _)]; exact hV, Lib.hid (Keeps.refl _ _)⟩
      case round =>
        clear hV hT
        obtain ⟨j, X, hj, rfl, hX, hXi, rfl, hV, hK⟩ := hrel
        by_cases hjl : j < L
        · have hj' : (j : Int) < (L : Int) := by omega
          have hdx := digB_at (k := k) (i := i) hjl
          rw [← hX.out] at hdx
          have hst := (hV.stored (L - 1 - j) (.int .i64 ((X % k : Nat) : Int))).1
          rw [← List.map_set, ints_set, mix_set HVL.out (digB_len _ _ _) hjl hdx] at hst
          have hml := mix_len (j := j) HVL.out (digB_len k L i) (by omega)
          obtain ⟨z, hz⟩ : ∃ z, (mix L vs (digB k L i) j)[L - 1 - j]? = some z := ⟨_, List.getElem?_eq_getElem (by omega)⟩
          have hcell : wr.cell? ⟨gw, L - 1 - j, none⟩ = some (.int .i64 (z : Int)) := by rw [hV.cellAt (L - 1 - j) (by omega), ints_map, List.getElem?_map, hz]; rfl
          have hfr := hV.frozenAt (L - 1 - j)
          have hX2 : Hid (X / k = i / k ^ (j + 1)) := Lib.hid (by rw [hX.out, Nat.div_div_eq_div_mul, Nat.pow_succ])
          have hXk : X / k ≤ i := Nat.le_trans (Nat.div_le_self _ _) hXi
          have hxm : (X : Int) % (k : Int) = ((X % k : Nat) : Int) := by simp
          have hxd : (X : Int) / (k : Int) = ((X / k : Nat) : Int) := by simp
          obtain ⟨Y, hY⟩ : ∃ Y, X % k = Y := ⟨_, rfl⟩
          obtain ⟨Z, hZ⟩ : ∃ Z, X / k = Z := ⟨_, rfl⟩
          obtain ⟨p, hp⟩ : ∃ p, L - 1 - j = p := ⟨_, rfl⟩
          have hp' : (L : Int) - 1 - (j : Int) = (p : Int) := by omega
          have hpl : p < L := by omega
          rw [hY, hp] at hst
          rw [hY] at hxm
          rw [hZ] at hX2 hXk hxd
          rw [hp] at hcell hfr
          have HK2 := Lib.hid (hK.out.trans (Keeps.of_setCell wr ⟨gw, p, none⟩ (.int .i64 (Y : Int))) (fun _ _ h => h))
          have HST := Lib.hid hst
          clear hst hdx hml hz hY hZ hp hK hX hV
          go_wp2_with fail
          exact ⟨⟨j + 1, Z, by omega, by go_num, hX2, hXk, rfl, HST.out, HK2⟩, by simp [intOf]; omega⟩
        · have hjL : j = L := by omega
          have hj' : ¬ (j : Int) < (L : Int) := by omega
          rw [hjL, mix_all] at hV
          clear hjL
          have hbw : Below w.heap.size w wr := hB.out.trans (hK.out.below hB.out.size (fun b hb => by rw [show b = gw from hb]; omega))
          have hbd : Below w.heap.size w wr.drew := hbw.drew
          have hT2 := own_keeps HT.out hK.out (fun g hg h => by simp [Value.ownBlock] at hg; rw [show g = gw from h] at hg; omega)
          have hO2 := hO.out.keeps hK.out (by omega)
          have hR2 := hR.out.keeps hK.out (by omega)
          have hkL : k ^ L = n := by rw [← HL.out]; exact HN.out
          have hget := tab_get (k := k) (n := L) f (show i < k ^ L by rw [hkL]; exact hlt)
          have htl : (tab k L f).length = n := by rw [tab_len, hkL]
          have hcall := HF.out wr.drew hbd gw (digB k L i) (digB_len _ _ _) (digB_sym h1 _ _) (Sl.of_own hV)
          obtain ⟨y, hy⟩ : ∃ y, f (digB k L i) = y := ⟨_, rfl⟩
          rw [hy] at hget hcall
          have HC := Lib.hid hcall
          have HEE := Lib.hid (HE.out)
          have hst := fun (wz : World) (hz : wz.ownsRow w.heap.size 3 1 (.slice (some ⟨gt, 0, none⟩) n n) n ((ints (fillTo (tab k L f) n 0 i)).map (Value.int .i64))) => (hz.stored i (.int .i64 (y : Int))).1
          simp only [← List.map_set, ints_set, fillTo_set hlt hget] at hst
          have HST := Lib.hid hst
          obtain ⟨z, hz⟩ : ∃ z, (fillTo (tab k L f) n 0 i)[i]? = some z := ⟨_, List.getElem?_eq_getElem (by rw [fillTo_len (by omega) htl]; exact hlt)⟩
          have HZ := Lib.hid (fun (wz : World) (hq : wz.ownsRow w.heap.size 3 1 (.slice (some ⟨gt, 0, none⟩) n n) n ((ints (fillTo (tab k L f) n 0 i)).map (Value.int .i64))) => (⟨by rw [hq.cellAt i (by omega), ints_map, List.getElem?_map, hz]; rfl, hq.frozenAt i⟩ : wz.cell? ⟨gt, i, none⟩ = some (.int .i64 (z : Int)) ∧ wz.frozen? ⟨gt, i, none⟩ = false))
          have c2 := hO2.facts.2.2.1
          have hi0 : (0 : Int) ≤ (i : Int) := by omega
          have hne : ¬ go = gt := by omega
          have HT2 := Lib.hid hT2
          have HV2 := Lib.hid hV
          have HO2 := Lib.hid hO2
          have HR2 := Lib.hid hR2
          have HBD := Lib.hid hbd
          clear hK hX hV hT2 hO2 hR2 hbw hbd hkL hget htl hcall hy hst hz hO hR HT
          go_wp2_with fail
          go_region_held3 (fun w' => w'.cell? ⟨go, 2, none⟩ = some (.slice (some ⟨gt, 0, none⟩) n n))
            (first | go_keep | exact (Keeps.of_setCell _ _ _).cell x0 hne)
            (first
              | (refine (HC.out).mono ?_
                 rintro e w2 ⟨rfl, hb2⟩
                 have x0 := cell_later hb2 c2
                 have ht3 := own_below (w := wr.drew) HT2.out hb2
                 obtain ⟨t0, t1⟩ := HZ.out w2 ht3)
              | fail)
          have hb3 : Below wr.drew.heap.size wr.drew w2 := hb2
          have hk3 := Keeps.of_setCell w2 ⟨gt, i, none⟩ (.int .i64 (y : Int))
          have HT4 := Lib.hid (HST.out w2 ht3)
          have HV4 := Lib.hid (own_keeps (own_below (w := wr.drew) HV2.out hb3) hk3 (fun g hg h => by simp [Value.ownBlock] at hg; rw [show g = gt from h] at hg; omega))
          have HO4 := Lib.hid ((HO2.out.below ((Below.refl _ _).drew.trans hb3) HO2.out.lt).keeps hk3 hne)
          have HR4 := Lib.hid ((HR2.out.below ((Below.refl _ _).drew.trans hb3) HR2.out.lt).keeps hk3 (show ¬ w.heap.size = gt by omega))
          have HB4 := Lib.hid ((HBD.out.trans (hb3.mono HBD.out.size)).setCell (p := ⟨gt, i, none⟩) (show w.heap.size ≤ gt by omega) (.int .i64 (y : Int)))
          clear hb2 hb3 hk3 x0 t0 t1 ht3 c2
          go_wp2_with fail
          exact ⟨⟨i + 1, digB k L i, by omega, by go_num, digB_len _ _ _, HT4.out, HV4.out, HO4, HR4, HB4⟩, by simp [intOf]; omega⟩
    · have hi' : ¬ (i : Int) < (n : Int) := by omega
      have hin : i = n := by omega
      have hkL : k ^ L = n := by rw [← HL.out]; exact HN.out
      rw [hin, fillTo_all _ (by rw [tab_len, hkL])] at hT
      obtain ⟨o0, o1, o2, _⟩ := hO.out.facts
      obtain ⟨d0, d1, d2, f0, f1, f2⟩ := hR.out.facts
      have hkr := keeps_set3 wr w.heap.size (.int .i64 (k : Int)) (.int .i64 (r : Int)) (.slice (some ⟨gt, 0, none⟩) n n)
      have HT4 := Lib.hid (own_keeps hT hkr (fun g hg h => by simp [Value.ownBlock] at hg; rw [show g = w.heap.size from h] at hg; omega))
      have HR4 := Lib.hid (hR.out.set3 (.int .i64 (k : Int)) (.int .i64 (r : Int)) (.slice (some ⟨gt, 0, none⟩) n n))
      have HB4 := Lib.hid (below_set3 hB.out (Nat.le_refl w.heap.size) (.int .i64 (k : Int)) (.int .i64 (r : Int)) (.slice (some ⟨gt, 0, none⟩) n n))
      clear hkL hin hT hV hO hR hB hkr
      go_wp2_with fail
      obtain ⟨d0, d1, d2, f0, f1, f2⟩ := HR4.out.facts
      exact bodyPost_ret (v := .agg #[.int .i64 (k : Int), .int .i64 (r : Int), .slice (some ⟨gt, 0, none⟩) n n]) (by simp [results, Tryz.results62, go_sem, d0, d1, d2]) rfl ⟨gt, rfl, HT4.out, HB4.out⟩
end Go.Proofs.YtibplgpolmplpaaGreatDoor

namespace Go.Proofs.YtibplgpolmplpaaGreatDoor
open Go.RowKit RuleP

namespace RuleP
def nats (l : List Int) : List Nat := l.map Int.toNat
/-- rule.Step's answer. -/
def step (K R : Int) (T w : List Int) : Except Tale (List Int) :=
  match check K R T with
  | some t => .error t
  | none => if 4096 < w.length then .error (4, [(sRule, 0)]) else
    match odd K w with
    | some i => .error (2, [(sRule, (i : Int))])
    | none => .ok (ints (image K.toNat R.toNat (nats T) (nats w)))
end RuleP

end Go.Proofs.YtibplgpolmplpaaGreatDoor

namespace Go.Proofs.YtibplgpolmplpaaGreatDoor
open Go.RowKit

end Go.Proofs.YtibplgpolmplpaaGreatDoor

namespace Go.Proofs.YtibplgpolmplpaaGreatDoor
open Go.RowKit

end Go.Proofs.YtibplgpolmplpaaGreatDoor

namespace Go.Proofs.YtibplgpolmplpaaGreatDoor
open Go.RowKit

theorem make_row_ints (w : World) (n : Nat) (h : n ≤ maxLen) : (w.alloc (.cells (madeCells #[.int .i64 0] n) 3)).ownsRow w.heap.size 3 1 (.slice (some ⟨w.heap.size, 0, none⟩) n n) n (List.replicate n (.int .i64 0)) := by
  have := World.ownsRow_lit (base := w.heap.size) (e := 3) (size := 1) w (madeCells #[.int .i64 0] n) n (Nat.le_refl _) h (by rw [size_madeCells]; simp)
  rwa [toList_madeCells_one] at this

end Go.Proofs.YtibplgpolmplpaaGreatDoor

namespace Go.Proofs.YtibplgpolmplpaaGreatDoor
open Go.RowKit RuleP

end Go.Proofs.YtibplgpolmplpaaGreatDoor
