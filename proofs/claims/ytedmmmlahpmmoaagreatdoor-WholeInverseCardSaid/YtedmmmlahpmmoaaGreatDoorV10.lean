/- The arrows of each node, as the graph of pairs is made of them: pairs.arrows. Condition: the table reads from memory; the error variables hold what E says. -/
import Derived.IntWalk
import Derived.Laws.BitsAllLaws
import Derived.Test.YtedmmmlahpmmoaaGreatDoorV8
import Derived.Test.YtedmmmlahpmmoaaGreatDoorV9
namespace Go.Proofs.YtedmmmlahpmmoaaGreatDoor
open Go.RowKit RuleP

theorem ownN_keeps {w w' : World} {O : Nat → Prop} {base e size : Nat} {v : Value} {n : Nat} {xs : List Value} (h : w.ownsRow base e size v n xs) (hk : Keeps O w w') (ho : ∀ g, v.ownBlock = some g → ¬ O g) : w'.ownsRow base e size v n xs := by
  refine ⟨h.1, ?_⟩
  rcases h.2 with hn | ⟨g, cap, cur, rfl, hb, hgg, rest⟩
  · exact .inl hn
  · refine .inr ⟨g, cap, cur, rfl, hb, ?_, rest⟩
    rw [hk.block g (Array.getElem?_eq_some_iff.1 hgg).1 (ho g rfl)]
    exact hgg
theorem ownN_below {w w' : World} {base e size : Nat} {v : Value} {n : Nat} {xs : List Value} (h : w.ownsRow base e size v n xs) (hk : Below w.heap.size w w') : w'.ownsRow base e size v n xs :=
  ownN_keeps h (Keeps.of_pure hk (fun _ => False)) (fun _ _ h => h)
theorem ownN_base {w : World} {base base' e size : Nat} {v : Value} {n : Nat} {xs : List Value} (h : w.ownsRow base e size v n xs) (hb : base' ≤ base) : w.ownsRow base' e size v n xs := by
  refine ⟨h.1, ?_⟩
  rcases h.2 with hn | ⟨g, cap, cur, hv, hg, rest⟩
  · exact .inl hn
  · exact .inr ⟨g, cap, cur, hv, Nat.le_trans hb hg, rest⟩
theorem ownN_lt {w : World} {base e size : Nat} {v : Value} {n : Nat} {xs : List Value} (h : w.ownsRow base e size v n xs) : ∀ g, v.ownBlock = some g → base ≤ g ∧ g < w.heap.size := by
  intro g hg
  rcases h.2 with ⟨rfl, _⟩ | ⟨g', cap, cur, rfl, hb, hgg, _⟩
  · simp [Value.ownBlock] at hg
  · have e : g' = g := by simpa [Value.ownBlock] using hg
    subst e
    exact ⟨hb, (Array.getElem?_eq_some_iff.1 hgg).1⟩
theorem ownN_slice {w : World} {base e size : Nat} {v : Value} {n : Nat} {xs : List Value} (h : w.ownsRow base e size v n xs) : ∃ A c, v = .slice A n c ∧ n ≤ c ∧ c ≤ maxLen := by
  rcases h.2 with ⟨rfl, rfl⟩ | ⟨g, cap, cur, rfl, _, _, h1, h2, _⟩
  · exact ⟨none, 0, rfl, Nat.le_refl _, Nat.zero_le _⟩
  · exact ⟨_, _, rfl, h1, h2⟩
theorem ownN_cell {w : World} {base e size : Nat} {A : Option Addr} {n c : Nat} {xs : List Value} (h : w.ownsRow base e size (.slice A n c) n xs) {j : Nat} {u : Value} (hj : xs[j]? = some u) : ∃ g, A = some ⟨g, 0, none⟩ ∧ w.cell? ⟨g, j, none⟩ = some u := by
  rcases h.2 with ⟨hv, hn⟩ | ⟨g, cap, cur, hv, hb, hgg, h1, h2, h3, h4⟩
  · have h0 := h.1
    rw [hn, Nat.zero_mul] at h0
    have := (List.getElem?_eq_some_iff.1 hj).1
    omega
  · injection hv with hA _ _
    refine ⟨g, hA, ?_⟩
    rw [← h4, List.getElem?_take] at hj
    split at hj
    · rw [cell_of_row w g _ _ _ _ hgg, ← Array.getElem?_toList]; exact hj
    · cases hj
theorem addr_zero (g i : Nat) : (⟨g, 0, none⟩ : Addr).add i = ⟨g, i, none⟩ := by
  unfold Addr.add
  split
  · rename_i h; rw [h]
  · simp
theorem rowBlk {w : World} {base e size g n c : Nat} {xs : List Value} (h : w.ownsRow base e size (.slice (some ⟨g, 0, none⟩) n c) n xs) : ∃ cur, w.heap[g]? = some (.cells cur e (0, 0)) := by
  rcases h.2 with ⟨h', _⟩ | ⟨g', cap, cur, h', _, hg, _⟩
  · simp at h'
  · simp only [Value.slice.injEq, Option.some.injEq, Addr.mk.injEq, and_true, true_and] at h'
    obtain ⟨rfl, _⟩ := h'
    exact ⟨cur, hg⟩
theorem ownN_ne {w : World} {base e size n g t : Nat} {v : Value} {xs : List Value} {cs : Array Value} (h : w.ownsRow base e size v n xs) (hg : w.heap[g]? = some (.cells cs t (0, 0))) (hne : e ≠ t) : v.ownBlock ≠ some g := by
  rcases h.2 with ⟨rfl, _⟩ | ⟨g', cap, cur, rfl, _, hh, _⟩
  · simp [Value.ownBlock]
  · intro he
    have : g' = g := by simpa [Value.ownBlock] using he
    subst this
    rw [hg] at hh
    injection hh with hh
    injection hh with _ ht
    exact hne ht.symm
theorem wpList_push_pair {P : Program} {w w0 : World} {ops : Array Oper} {rest : List Oper} {o : Oper} {a : Act} {Q : Exit → Act → World → Prop} (hgd : o.guard = none) (s x : Operand) (t : TypeId)
    (ho : o.op = .call { callee := .builtin .append, args := #[s, x], argTypes := #[t, t] }) {e : TypeId} {z : Value} {bytes : Nat} (hund : P.underlying t = some (.slice e)) (hinfo : (P.info? e).map (fun i => (i.zero, i.size, i.bytes)) = some (some z, 2, bytes)) (hz2 : z.cells.size = 2)
    {base : Nat} {v : Value} {n : Nat} {xs : List Value} (hown : w0.ownsRow base e 2 v n xs) (hs : a.eval s = v) (u1 u2 : Value) (hw : w = w0.alloc (.cells #[u1, u2] e))
    (hx : a.eval x = .slice (some ⟨w0.heap.size, 0, none⟩) 1 1) (hu1 : u1.oneCell' = true) (hu2 : u2.oneCell' = true) (h63 : n + 1 ≤ maxLen) (hbytes : (n + 1) * bytes ≤ 140737488355328) (hbase : base ≤ w0.heap.size)
    (h : ∀ g cap w', w'.ownsRow base e 2 (.slice (some ⟨g, 0, none⟩) (n + 1) cap) (n + 1) (xs ++ [u1, u2]) → w0.grownBy w' v.ownBlock → g < w'.heap.size →
      wpList P ops Q rest (a.put o.dst (.slice (some ⟨g, 0, none⟩) (n + 1) cap)) w') : wpList P ops Q (o :: rest) a w := by
  subst hw
  cases hi : P.info? e with
  | none => rw [hi] at hinfo; cases hinfo
  | some i =>
    rw [hi] at hinfo
    have hh := Option.some.inj hinfo
    have hz : i.zero = some z := congrArg (·.1) hh
    have hz1 : i.size = 2 := congrArg (·.2.1) hh
    have hb : i.bytes = bytes := congrArg (·.2.2) hh
    have hown1 : (w0.alloc (.cells #[u1, u2] e)).ownsRow base e 2 v n xs := ownN_below hown ((Below.refl _ _).alloc (Nat.le_refl _) _)
    refine wpList_append_lies _ hgd s x t ho base e i z 2 bytes hund hi hz hz1 hb hz2 (by decide) v n xs hs hown1 ⟨w0.heap.size, 0, none⟩ 1 1 [u1, u2] hx rfl ?_ ?_ (by decide) h63 hbytes (by simp; omega) _ rfl ?_
    · intro j u' hj
      match j, hj with
      | 0, hj => simp at hj; subst hj; simp [Addr.add]
      | 1, hj => simp at hj; subst hj; simp [Addr.add]
    · intro u' hu'
      simp at hu'
      rcases hu' with rfl | rfl
      · exact hu1
      · exact hu2
    · intro g cap w' h1 h2 h3 h4
      refine h g cap w' h1 ⟨h2.os, h2.tape, h2.output, Nat.le_trans (by simp) h2.size, fun k hk hn => ?_⟩ h4
      rw [h2.block k (by simp; omega) hn]
      exact Below.heap_alloc _ _ _ hk

theorem tArr : (Tryz.prog.info? 95).map (fun i => (i.zero, i.size, i.bytes)) = some (some (.agg #[.int .i64 0, .int .i64 0]), 2, 16) := by kernel_rfl
theorem tArrs : Tryz.prog.underlying 93 = some (.slice 95) := by kernel_rfl
theorem tArrss : ElemT Tryz.prog 91 93 (.slice none 0 0) 24 := ⟨by kernel_rfl, by kernel_rfl, rfl⟩

def arrC (l : List (Nat × Nat)) : List Value := l.flatMap fun x => [.int .i64 (x.1 : Int), .int .i64 (x.2 : Int)]
theorem arrC_len : ∀ (l : List (Nat × Nat)), (arrC l).length = l.length * 2
  | [] => rfl
  | x :: l => by
    have := arrC_len l
    simp only [arrC, List.flatMap_cons, List.length_append, List.length_cons, List.length_nil] at this ⊢
    omega
theorem arrC_at : ∀ {l : List (Nat × Nat)} {j : Nat} {x : Nat × Nat}, l[j]? = some x → (arrC l)[j * 2]? = some (.int .i64 (x.1 : Int)) ∧ (arrC l)[j * 2 + 1]? = some (.int .i64 (x.2 : Int))
  | [], j, x, h => by simp at h
  | y :: l, 0, x, h => by
    simp at h
    subst h
    simp [arrC]
  | y :: l, j + 1, x, h => by
    have := arrC_at (l := l) (j := j) (x := x) (by simpa using h)
    have e : arrC (y :: l) = .int .i64 (y.1 : Int) :: .int .i64 (y.2 : Int) :: arrC l := by simp [arrC]
    rw [e, show (j + 1) * 2 = j * 2 + 1 + 1 by omega, show j * 2 + 1 + 1 + 1 = (j * 2 + 1) + 1 + 1 by omega]
    simpa using this
theorem arrC_snoc (l : List (Nat × Nat)) (x : Nat × Nat) : arrC (l ++ [x]) = arrC l ++ [.int .i64 (x.1 : Int), .int .i64 (x.2 : Int)] := by simp [arrC]

/-- A list of lists of arrows, as it reads. -/
def ArrL (w : World) (A : Option Addr) (n : Nat) (L : List (List (Nat × Nat))) : Prop :=
  n = L.length ∧ ∀ i l, L[i]? = some l → ∃ ad P c, A = some ad ∧ w.cell? (ad.add i) = some (.slice P l.length c) ∧ ∀ j x, l[j]? = some x → ∃ ap, P = some ap ∧ w.cell? (ap.add (j * 2)) = some (.int .i64 ((x.1 : Nat) : Int)) ∧ w.cell? ⟨(ap.add (j * 2)).block, (ap.add (j * 2)).off + 1, none⟩ = some (.int .i64 ((x.2 : Nat) : Int))
theorem ArrL.below {w w' : World} {A : Option Addr} {n : Nat} {L : List (List (Nat × Nat))} (h : ArrL w A n L) (hb : Below w.heap.size w w') : ArrL w' A n L :=
  ⟨h.1, fun i l hl => by
    obtain ⟨ad, P, c, e, hc, hr⟩ := h.2 i l hl
    refine ⟨ad, P, c, e, cell_later hb hc, fun j x hx => ?_⟩
    obtain ⟨ap, e2, h1, h2⟩ := hr j x hx
    exact ⟨ap, e2, cell_later hb h1, cell_later hb h2⟩⟩
/-- The arrows of a node. -/
def arrN (k N : Nat) (t : List Nat) (u m : Nat) : List (Nat × Nat) := (List.range m).map fun s => ((u * k + s) % N, t.getD (u * k + s) 0)
theorem arrN_len (k N : Nat) (t : List Nat) (u m : Nat) : (arrN k N t u m).length = m := by simp [arrN]
theorem arrN_snoc (k N : Nat) (t : List Nat) (u m : Nat) : arrN k N t u (m + 1) = arrN k N t u m ++ [((u * k + m) % N, t.getD (u * k + m) 0)] := by
  unfold arrN
  rw [List.range_succ, List.map_append]
  rfl
def arrW (k N : Nat) (t : List Nat) : List (List (Nat × Nat)) := (List.range N).map fun u => arrN k N t u k
theorem arrW_at {k N : Nat} {t : List Nat} {u : Nat} (h : u < N) : (arrW k N t)[u]? = some (arrN k N t u k) := by
  unfold arrW
  rw [List.getElem?_map, List.getElem?_range h]
  rfl
/-- The rows below u are laid, the others are none yet. -/
structure ArrAt (w : World) (B g : Nat) (R : List (Option Addr × Nat × Nat)) (k N : Nat) (t : List Nat) (u : Nat) : Prop where
  lst : w.ownsRow B 93 1 (.slice (some ⟨g, 0, none⟩) N N) N (R.map slv)
  el : ∀ i, i < u → ∃ A c, R[i]? = some (A, k, c) ∧ w.ownsRow B 95 2 (.slice A k c) k (arrC (arrN k N t i k))
  nil : ∀ i, u ≤ i → i < N → R[i]? = some (none, 0, 0)
theorem ArrAt.list {w : World} {B g : Nat} {R : List (Option Addr × Nat × Nat)} {k N : Nat} {t : List Nat} (h : ArrAt w B g R k N t N) : ArrL w (some ⟨g, 0, none⟩) N (arrW k N t) := by
  refine ⟨by simp [arrW], fun i l hl => ?_⟩
  have hi : i < N := by have := (List.getElem?_eq_some_iff.1 hl).1; simpa [arrW] using this
  rw [arrW_at hi] at hl
  obtain rfl := Option.some.inj hl
  obtain ⟨A, c, hR, ho⟩ := h.el i hi
  have hc := ownN_cell h.lst (j := i) (u := .slice A k c) (by rw [List.getElem?_map, hR]; rfl)
  obtain ⟨g', e, hc⟩ := hc
  cases e
  refine ⟨_, A, c, rfl, by rw [arrN_len, addr_zero]; exact hc, fun j x hx => ?_⟩
  obtain ⟨h1, h2⟩ := arrC_at hx
  obtain ⟨g1, e1, d1⟩ := ownN_cell ho h1
  obtain ⟨g2, e2, d2⟩ := ownN_cell ho h2
  rw [e1] at e2
  cases e2
  exact ⟨_, e1, by rw [addr_zero]; exact d1, by rw [addr_zero]; exact d2⟩

set_option maxRecDepth 100000 in
set_option maxHeartbeats 4000000 in
theorem arrows_c (w : World) (E : Nat → Addr) (hE : Errs w E) (k r n c : Nat) (A : Option Addr) (t : List Nat) (hT : Sl w A n ((ints t).map (Value.int .i64))) (hr : IsRule k r t) (h256 : t.length ≤ 256) :
    Calls Tryz.prog 44 #[ruleV (k : Int) (r : Int) A n c] w fun e w' => ∃ (C : Option Addr), e = .returned (.slice C (k ^ (2 * r)) (k ^ (2 * r))) ∧ ArrL w' C (k ^ (2 * r)) (arrW k (k ^ (2 * r)) t) ∧ Below w.heap.size w w' := by
  have hn : t.length = n := by simpa [ints] using hT.1
  have hb1 := (Below.refl w.heap.size w).alloc (Nat.le_refl _) (.cells #[.int .i64 (k : Int), .int .i64 (r : Int), .slice A n c] 24)
  have hr1 := RuleAt.new w (.int .i64 (k : Int)) (.int .i64 (r : Int)) (.slice A n c)
  obtain ⟨r0, r1, r2, _⟩ := hr1.facts
  obtain ⟨w1, hw1⟩ : ∃ w1, w.alloc (.cells #[.int .i64 (k : Int), .int .i64 (r : Int), .slice A n c] 24) = w1 := ⟨_, rfl⟩
  rw [hw1] at hb1 hr1
  have hnd := overNodes_c w1 E (hE.below hb1) (k : Int) (r : Int) A n c (ints t) (hT.below hb1) (by omega)
  rw [smallO_rule hr h256, if_pos rfl] at hnd
  have hnn : nodesN (k : Int) (r : Int) = k ^ (2 * r) := by simp [nodesN]
  rw [hnn] at hnd
  obtain ⟨hdv, hln⟩ := nodes_div hr
  rw [hn] at hln
  have hk1 := hr.k1
  have hk4 := hr.k4
  have hN4 : k ^ (2 * r) ≤ 256 := by
    have := Nat.le_mul_of_pos_right (k ^ (2 * r)) hk1
    omega
  have HED := Lib.hid (fun (wz : World) (hz : Below w.heap.size w wz) (u s : Nat) (hu : u < k ^ (2 * r)) (hs : s < k) => edge_good wz E (hE.below hz) k r u s A n c t (hT.below hz) hr h256 hu hs)
  obtain ⟨N, hN⟩ : ∃ N, k ^ (2 * r) = N := ⟨_, rfl⟩
  rw [hN] at hnd hN4 HED ⊢
  have HND := Lib.hid hnd
  have HW1 := Lib.hid hw1
  have HB1 := Lib.hid hb1
  have HR1 := Lib.hid hr1
  unfold ruleV at HND HED ⊢
  clear hw1 hb1 hr1 hE hT hr hnd hn hdv hln hnn hN h256
  go_enter Tryz.func44, Tryz.ntmps44
  go_wp2_with fail
  rw [HW1.out]
  refine (HND.out).mono ?_
  rintro e w2 ⟨v, rfl, rfl, hb2⟩
  have hmk := run_make_row' (P := Tryz.prog) 91 93 (.slice none 0 0) 24 tArrss.und tArrss.info rfl .i64 .i64 N (by omega) (by omega)
  have hmd := World.ownsRow_lit (base := w2.heap.size) (e := 93) (size := 1) w2 (madeCells #[.slice none 0 0] N) N (Nat.le_refl _) (by simp only [maxLen]; omega) (by rw [size_madeCells]; simp)
  rw [toList_madeCells_one] at hmd
  have hb23 := (Below.refl w2.heap.size w2).alloc (Nat.le_refl _) (.cells (madeCells #[.slice none 0 0] N) 93)
  obtain ⟨w3, hw3⟩ : ∃ w3, w2.alloc (.cells (madeCells #[.slice none 0 0] N) 93) = w3 := ⟨_, rfl⟩
  rw [hw3] at hmd hb23
  obtain ⟨g, hg⟩ : ∃ g, w2.heap.size = g := ⟨_, rfl⟩
  rw [hg] at hmd
  have hb02 := HB1.out.trans (hb2.mono HB1.out.size)
  have hwg : w.heap.size ≤ g := by have := hb02.size; omega
  have hA0 : ArrAt w3 w.heap.size g (List.replicate N (none, 0, 0)) k N t 0 := ⟨by rw [List.map_replicate]; exact ownN_base hmd hwg, fun i hi => by omega, fun i _ hi => by rw [List.getElem?_replicate, if_pos hi]⟩
  have HA0 := Lib.hid hA0
  have HW3 := Lib.hid hw3
  have HG := Lib.hid hg
  have HB23 := Lib.hid hb23
  have HB02 := Lib.hid hb02
  have HR2 := Lib.hid (HR1.out.below hb2 HR1.out.lt)
  have hrg : w.heap.size < g := by have := HR2.out.lt; omega
  clear hmd hb23 hw3 hg hb02 hA0 HND r0 r1 r2 hb2
  go_wp2_with fail
  rw [HW3.out, HG.out]
  clear hmk
  go_loopw [20] (fun uv wl => ∃ (u : Nat) (R : List (Option Addr × Nat × Nat)), uv = .int .i64 (u : Int) ∧ u ≤ N ∧ Hid (ArrAt wl w.heap.size g R k N t u) ∧ Hid (Below w2.heap.size w2 wl)) (fun uv _ => N - (intOf uv).toNat)
  case atStart => exact ⟨0, _, rfl, Nat.zero_le _, HA0, HB23⟩
  case round =>
    obtain ⟨u, R, rfl, hu, hA, hB⟩ := hrel
    clear HA0 HB23
    obtain ⟨v0, rfl⟩ : ∃ v0, v0 = wr := ⟨_, rfl⟩
    by_cases huN : u < N
    · have huN' : (u : Int) < (N : Int) := by omega
      have hu0 : (0 : Int) ≤ (u : Int) := by omega
      have hr0 := HR2.out.below hB.out HR2.out.lt
      obtain ⟨r0, r1, r2, _⟩ := hr0.facts
      have hRl : R.length = N := by have := hA.out.lst.1; simpa using this
      have hset : R.set u (none, 0, 0) = R := by
        have h0 := hA.out.nil u (Nat.le_refl _) huN
        apply List.ext_getElem?
        intro i
        rw [List.getElem?_set]
        split
        · rename_i h
          subst h
          rw [if_pos (by omega), h0]
        · rfl
      have hlst : v0.ownsRow w.heap.size 93 1 (.slice (some ⟨g, 0, none⟩) N N) N ((R.set u (none, 0, 0)).map slv) := by rw [hset]; exact hA.out.lst
      have HLST := Lib.hid hlst
      have HRL := Lib.hid hRl
      have HR0 := Lib.hid hr0
      have hv0g : g < v0.heap.size := (ownN_lt hlst g rfl).2
      clear hr0 hlst hset
      go_wp2_with fail
      clear r0 r1 r2
      go_loopw [25] (fun sv wl => ∃ (s : Nat) (P : Option Addr) (pc : Nat), sv = .int .i64 (s : Int) ∧ s ≤ k ∧ Hid (wl.ownsRow w.heap.size 93 1 (.slice (some ⟨g, 0, none⟩) N N) N ((R.set u (P, s, pc)).map slv)) ∧
        Hid (wl.ownsRow v0.heap.size 95 2 (.slice P s pc) s (arrC (arrN k N t u s))) ∧ Hid (Keeps (fun b => b = g) v0 wl)) (fun sv _ => k - (intOf sv).toNat)
      case atStart => exact ⟨0, none, 0, rfl, Nat.zero_le _, HLST, Lib.hid ⟨rfl, .inl ⟨rfl, rfl⟩⟩, Lib.hid (Keeps.refl _ _)⟩
      case round =>
        obtain ⟨s, P, pc, rfl, hs, hL, hO, hK⟩ := hrel
        clear HLST
        obtain ⟨v1, rfl⟩ : ∃ v1, v1 = wr := ⟨_, rfl⟩
        by_cases hsk : s < k
        · have hsk' : (s : Int) < (k : Int) := by omega
          have hs0 : (0 : Int) ≤ (s : Int) := by omega
          have hb21 : Below w2.heap.size w2 v1 := hB.out.trans (hK.out.below hB.out.size (fun b e => by rw [show b = g from e, HG.out]; exact Nat.le_refl _))
          have hb01 := HB02.out.trans (hb21.mono HB02.out.size)
          have hr1 := HR0.out.keeps hK.out (show ¬ w.heap.size = g by omega)
          have HE1 := Lib.hid (HED.out v1 hb01 u s huN hsk)
          obtain ⟨r0, r1, r2, _⟩ := hr1.facts
          have hs4 : s ≤ 4 := by omega
          clear hr1 hb21 hb01
          go_wp2_with fail
          refine (HE1.out).mono ?_
          rintro e v2 ⟨rfl, hb2⟩
          obtain ⟨to, hto⟩ : ∃ to, (u * k + s) % N = to := ⟨_, rfl⟩
          obtain ⟨lb, hlb⟩ : ∃ lb, t.getD (u * k + s) 0 = lb := ⟨_, rfl⟩
          have HTL := Lib.hid (And.intro hto hlb)
          rw [hto, hlb]
          clear hto hlb HE1 r0 r1 r2
          have hL2 := own_below hL.out hb2
          have hO2 := ownN_below hO.out hb2
          have hcell := ownN_cell hL2 (j := u) (u := .slice P s pc) (by rw [List.getElem?_map, List.getElem?_set_self (by rw [HRL.out]; exact huN)]; rfl)
          obtain ⟨g', eg, q0⟩ := hcell
          cases eg
          have hvz : v0.heap.size ≤ v2.heap.size := Nat.le_trans hK.out.size hb2.size
          have HOR := Lib.hid hO2
          have HLR := Lib.hid hL2
          have HX := Lib.hid (fun (w3 : World) (hg3 : v2.grownBy w3 (Value.slice P s pc).ownBlock) => (own_keeps HLR.out (Keeps.of_grown hg3) (fun b hb e => by
            have h1 := (ownN_lt HOR.out b e).1
            have h2 : g = b := by simpa [Value.ownBlock] using hb
            omega) : w3.ownsRow w.heap.size 93 1 (.slice (some ⟨g, 0, none⟩) N N) N ((R.set u (P, s, pc)).map slv)))
          have HKX := Lib.hid (fun (w3 : World) (hg3 : v2.grownBy w3 (Value.slice P s pc).ownBlock) => (((hK.out.trans (Keeps.of_pure hb2 _) (fun _ _ h => h)).trans (Keeps.of_grown hg3) (fun b hb e => by
            have h1 := (ownN_lt HOR.out b e).1
            omega)) : Keeps (fun b => b = g) v0 w3))
          clear hL2 hL hO hK hb2
          go_wp2_with (at_builtin; refine wpList_push_pair rfl _ _ _ rfl tArrs tArr rfl hO2 rfl _ _ rfl rfl rfl rfl (by simp only [maxLen]; omega) (by omega) hvz ?_; intro g3 cap3 w3 hown3 hg3 hlt3; have hL3 := HX.out w3 hg3; have q3 := hL3.cellAt u (by rw [HRL.out] at *; omega); have f3 := hL3.frozenAt u)
          have hk3 := Keeps.of_setCell w3 ⟨g, u, none⟩ (.slice (some ⟨g3, 0, none⟩) (s + 1) cap3)
          have hgn : ∀ b, (Value.slice (some ⟨g3, 0, none⟩) (s + 1) cap3).ownBlock = some b → ¬ b = g := fun b hb e => by
            have h1 := (ownN_lt hown3 b hb).1
            omega
          have HN3 := Lib.hid (ownN_keeps hown3 hk3 hgn)
          rw [← HTL.out.1, ← HTL.out.2] at HN3
          have HNX : Hid ((w3.setCell ⟨g, u, none⟩ (.slice (some ⟨g3, 0, none⟩) (s + 1) cap3)).ownsRow v0.heap.size 95 2 (.slice (some ⟨g3, 0, none⟩) (s + 1) cap3) (s + 1) (arrC (arrN k N t u (s + 1)))) := Lib.hid (by
            rw [arrN_snoc, arrC_snoc]
            exact HN3.out)
          have hst := (hL3.stored u (.slice (some ⟨g3, 0, none⟩) (s + 1) cap3)).1
          have HLX : Hid ((w3.setCell ⟨g, u, none⟩ (.slice (some ⟨g3, 0, none⟩) (s + 1) cap3)).ownsRow w.heap.size 93 1 (.slice (some ⟨g, 0, none⟩) N N) N ((R.set u (some ⟨g3, 0, none⟩, s + 1, cap3)).map slv)) := Lib.hid (by
            have e : (R.set u (some ⟨g3, 0, none⟩, s + 1, cap3)).map slv = ((R.set u (P, s, pc)).map slv).set u (.slice (some ⟨g3, 0, none⟩) (s + 1) cap3) := by
              rw [List.map_set, List.map_set, List.set_set]
              rfl
            rw [e]
            exact hst)
          have HKY := Lib.hid ((HKX.out w3 hg3).trans hk3 (fun _ _ e => e))
          clear hown3 hk3 hgn hst hL3 hg3 HX HKX HN3
          go_wp2_with fail
          exact ⟨⟨s + 1, _, _, by go_num, by omega, HLX, HNX, HKY⟩, by simp [intOf]; omega⟩
        · obtain rfl : s = k := by omega
          have hsk' : ¬ (s : Int) < (s : Int) := by omega
          have hAX : ArrAt v1 w.heap.size g (R.set u (P, s, pc)) s N t (u + 1) := by
            refine ⟨hL.out, fun i hi => ?_, fun i hi hiN => ?_⟩
            · rcases Nat.lt_or_ge i u with h | h
              · obtain ⟨A', c', hR', ho'⟩ := hA.out.el i h
                refine ⟨A', c', by rw [List.getElem?_set_ne (by omega)]; exact hR', ownN_keeps ho' hK.out (fun b hb e => ?_)⟩
                obtain ⟨cur, hcur⟩ := rowBlk hA.out.lst
                exact ownN_ne ho' hcur (by decide) (by rw [hb, show b = g from e])
              · obtain rfl : i = u := by omega
                exact ⟨P, pc, by rw [List.getElem?_set_self (by rw [HRL.out]; exact huN)], ownN_base hO.out (HB02.out.trans (hB.out.mono HB02.out.size)).size⟩
            · rw [List.getElem?_set_ne (by omega)]
              exact hA.out.nil i (by omega) hiN
          have HAX := Lib.hid hAX
          have HBX := Lib.hid (hB.out.trans (hK.out.below hB.out.size (fun b e => by rw [show b = g from e, HG.out]; exact Nat.le_refl _)))
          clear hAX
          go_wp2_with fail
          exact ⟨⟨u + 1, _, by go_num, by omega, HAX, HBX⟩, by simp [intOf]; omega⟩
    · obtain rfl : u = N := by omega
      have huN' : ¬ (u : Int) < (u : Int) := by omega
      have HBX := Lib.hid (HB02.out.trans (hB.out.mono HB02.out.size))
      go_wp2_with fail
      go_ret
      exact ⟨some ⟨g, 0, none⟩, rfl, hA.out.list, HBX.out⟩
end Go.Proofs.YtedmmmlahpmmoaaGreatDoor
