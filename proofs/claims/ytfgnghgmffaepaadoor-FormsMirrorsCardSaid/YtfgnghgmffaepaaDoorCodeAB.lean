/- A small rule's number: rule.Code. Condition: the table reads from memory; the error variables hold what E says. A rule's number where there is none; a number's digits again. Condition: the table reads from memory; the error variables hold what E says. -/
import Derived.Test.YtfgnghgmffaepaaDoorBack
import Derived.Test.YtfgnghgmffaepaaDoorRuleB
import Derived.Test.YtfgnghgmffaepaaDoorNatH
import Derived.Test.YtfgnghgmffaepaaDoorNum
import Derived.Test.YtfgnghgmffaepaaDoorStruct
import Derived.Test.YtfgnghgmffaepaaDoorH16
import Derived.RangeFuncWrites
import Derived.Shelf.RegionOpen
import Derived.Test.YtfgnghgmffaepaaDoorRuleD
namespace Go.Proofs.YtfgnghgmffaepaaDoor
open Go.RowKit Go.Shelf RuleP NatP

attribute [local go_sem] Oper.semAt_some

/-- A round's place and symbol. -/
abbrev Sym := Nat × { x : Nat // x < 4 }
def symAt (t : List Nat) (j : Nat) : Sym := (t.length - 1 - j, if h : t.getD (t.length - 1 - j) 0 < 4 then ⟨_, h⟩ else ⟨0, by decide⟩)
theorem symAt_seq {t : List Nat} (h : ∀ x ∈ t, x < 4) : BackSeq (ints t) (fun x : Sym => x.1) (fun x : Sym => ((x.2.1 : Nat) : Int)) (symAt t) := by
  intro j hj
  rw [ints_len] at hj ⊢
  refine ⟨rfl, ?_⟩
  have hl : t.length - 1 - j < t.length := by omega
  have hx : t.getD (t.length - 1 - j) 0 = t[t.length - 1 - j] := by rw [List.getD_eq_getElem?_getD, List.getElem?_eq_getElem hl]; rfl
  have h4 : t.getD (t.length - 1 - j) 0 < 4 := by rw [hx]; exact h _ (List.getElem_mem hl)
  simp only [symAt, dif_pos h4]
  rw [hx]
  simp [ints, List.getElem?_eq_getElem hl]
/-- The number that has come together. -/
def backV (k : Nat) (pre : List Sym) : Nat := pre.foldl (fun n p => n * k + p.2.1) 0
theorem backV_snoc (k : Nat) (pre : List Sym) (x : Sym) : backV k (pre ++ [x]) = backV k pre * k + x.2.1 := by simp [backV]
theorem backV_all {k : Nat} {t : List Nat} (h : ∀ x ∈ t, x < 4) : ∀ j, j ≤ t.length → backV k (upto (symAt t) j) = valB k (t.drop (t.length - j))
  | 0, _ => by rw [Nat.sub_zero, List.drop_length]; rfl
  | j + 1, hj => by
    rw [upto_succ, backV_snoc, backV_all h j (by omega), drop_val t (t.length - (j + 1))]
    have h1 := (symAt_seq h j (by rw [ints_len]; omega)).2
    rw [ints_len] at h1
    have hl : t.length - 1 - j < t.length := by omega
    have h2 : (symAt t j).2.1 = t.getD (t.length - (j + 1)) 0 := by
      rw [show t.length - (j + 1) = t.length - 1 - j from by omega]
      have h3 : (ints t)[t.length - 1 - j]?.getD 0 = ((t.getD (t.length - 1 - j) 0 : Nat) : Int) := by
        rw [List.getD_eq_getElem?_getD, List.getElem?_eq_getElem hl]; simp [ints, hl]
      dsimp only at h1
      rw [h3] at h1
      omega
    rw [h2, show t.length - (j + 1) + 1 = t.length - j from by omega, Nat.mul_comm, Nat.add_comm]
theorem backV_end {k : Nat} {t : List Nat} (h : ∀ x ∈ t, x < 4) : backV k (upto (symAt t) t.length) = valB k t := by
  rw [backV_all h _ (Nat.le_refl _), Nat.sub_self, List.drop_zero]

theorem backV_lt {k : Nat} (hk : k ≤ 4) (pre : List Sym) : backV k pre < 4 ^ pre.length := by
  have key : ∀ (l : List Sym) (n m : Nat), n < 4 ^ m → l.foldl (fun n p => n * k + p.2.1) n < 4 ^ (m + l.length) := by
    intro l
    induction l with
    | nil => intro n m h; exact h
    | cons x l ih =>
      intro n m h
      rw [List.foldl_cons, List.length_cons, show m + (l.length + 1) = (m + 1) + l.length from by omega]
      refine ih _ _ ?_
      have h1 : n * k ≤ n * 4 := Nat.mul_le_mul_left _ hk
      have h2 := x.2.2
      rw [Nat.pow_succ]
      omega
  have := key pre 0 0 (by decide)
  rwa [Nat.zero_add] at this
theorem backV_len {k : Nat} (hk : k ≤ 4) (pre : List Sym) : (limbs (backV k pre)).length ≤ pre.length :=
  limbs_len_of_lt _ _ (Nat.lt_of_lt_of_le (backV_lt hk pre) (Nat.pow_le_pow_left (by decide) _))
theorem from_n (w : World) (x : Nat) (h : x < 18446744073709551616) : Calls Tryd.prog 74 #[.int .u64 (x : Int)] w fun e w' => New w x e w' := (from_c w x h).mono fun _ _ h => New.of h

set_option maxRecDepth 100000 in
set_option maxHeartbeats 4000000 in
theorem code_good (w : World) (E : Nat → Addr) (hE : Errs w E) (k r : Nat) (A : Option Addr) (n c : Nat) (t : List Nat) (hr : IsRule k r t) (hs : t.length ≤ 256) (hT : Sl w A n ((ints t).map (Value.int .i64))) :
    Calls Tryd.prog 50 #[ruleV k r A n c] w fun e w' => ∃ C cc, e = .returned (.tuple #[.slice C (limbs (valB k t)).length cc, .nilIface]) ∧ w'.ownsRow w.heap.size 109 1 (.slice C (limbs (valB k t)).length cc) (limbs (valB k t)).length ((limbs (valB k t)).map wv) ∧ Below w.heap.size w w' := by
  have hlt : t.length = n := by simpa [ints] using hT.1
  have hk1 := hr.k1
  have hk4 := hr.k4
  rw [hlt] at hs
  have hb0 := (Below.refl w.heap.size w).alloc (Nat.le_refl _) (.cells #[.int .i64 (k : Int), .int .i64 (r : Int), .slice A n c] 24)
  have hr0 := RuleAt.new w (.int .i64 (k : Int)) (.int .i64 (r : Int)) (.slice A n c)
  have hsm := small_c _ E (hE.below hb0) k r A n c (ints t) (hT.below hb0) (by omega)
  have hsn : small k r (ints t) = none := by unfold small; rw [check_rule hr]; simp only; rw [if_neg (by rw [ints_len]; omega)]
  rw [hsn] at hsm
  have HSM := Lib.hid hsm
  obtain ⟨r0, r1, r2, _⟩ := hr0.facts
  clear hsm hsn
  unfold ruleV at *
  refine (callsIn_wide (n := 8)).1 ?_
  refine callsIn_of_wp_marks Tryd.func50 rfl trivial ?_ rfl
  simp only [Tryd.ntmps50, List.size_toArray, List.length_cons, List.length_nil, Nat.reduceAdd, Nat.reduceSub, Array.replicate_succ, Array.replicate_zero, List.push_toArray, List.append_toArray, List.nil_append, List.cons_append]
  gi_wp2
  refine ⟨trivial, callsIn_wide.2 ?_⟩
  refine (HSM.out).mono ?_
  rintro e w1 ⟨v, rfl, rfl, b1⟩
  have hb1 := below_box b1
  have hr1 := hr0.below b1 (by simp)
  obtain ⟨r0, r1, r2, _⟩ := hr1.facts
  have hlt1 := hr1.lt
  clear b1
  gi_wp2
  refine ⟨trivial, (backward_in Fence.wide 7 trivial rfl _ _ _ _).mono ?_⟩
  rintro e w2 ⟨rfl, rfl⟩
  have bN0 := Boxed.new w1 81 (.slice none 0 0)
  have bS0 := Boxed.new (w1.alloc (.cells #[.slice none 0 0] 81)) 22 (.slice A n c)
  rw [World.size_alloc] at bS0
  have hb3 : Below w.heap.size w ((w1.alloc (.cells #[.slice none 0 0] 81)).alloc (.cells #[.slice A n c] 22)) := (hb1.alloc hb1.size _).alloc (by simp; exact Nat.le_succ_of_le hb1.size) _
  have hr3 := (hr1.alloc (.cells #[.slice none 0 0] 81)).alloc (.cells #[.slice A n c] 22)
  have hT3 := hT.below hb3
  have hsq := symAt_seq (t := t) (fun x hx => Nat.lt_of_lt_of_le (hr.sym x hx) hk4)
  gi_wp2
  refine wpIn_rangeFunc_ownG (F := Fence.wide) rfl (by decide) (gf := 88) (lb := #[.pointer (some ⟨w1.heap.size + 1, 0, none⟩)]) rfl trivial (enters_of Tryd.func88 (by kernel_rfl) rfl)
    (back_stops (fun x : Sym => x.1) (fun x : Sym => ((x.2.1 : Nat) : Int)) (symAt t) Fence.wide 7 trivial rfl (by decide) (w1.heap.size + 1) A n c (ints t) _ hT3 hsq (by omega) (by simp) bS0.cell w.heap.size (fun ad e h0 => by
      obtain ⟨ad', x, e', _, hcx⟩ := hT.int_ h0
      rw [e] at e'; cases e'
      have := World.block_lt_of_cell? _ _ hcx
      rwa [block_of_add] at this)) KpB.t (KpB.b hb3.size (by simp)) (Below.refl _ _) (fun _ => rfl)
    (fun pre W => (∃ v, Boxed W w1.heap.size 81 v ∧ W.ownsRow w.heap.size 109 1 v (limbs (backV k pre)).length ((limbs (backV k pre)).map wv) ∧ True) ∧ ((RuleAt W w.heap.size (.int .i64 (k : Int)) (.int .i64 (r : Int)) (.slice A n c) ∧ Boxed W (w1.heap.size + 1) 22 (.slice A n c)) ∧ Below w.heap.size w W))
    (fun _ _ _ => False)
    (OwnFrom.and (Own.from (holdsRow_own w.heap.size w1.heap.size 81 109 1 (fun pre => (limbs (backV k pre)).length) (fun pre => (limbs (backV k pre)).map wv) (fun _ _ => True)) _) (OwnFrom.and (Own.from (fun s X Y row hs hg hr => ⟨?own1, hs.2.kept hg (fun e => ?own2)⟩) _) (ownFrom_below (Nat.le_refl _) hb3.size)))
    (fun _ _ _ _ _ hs _ _ => hs)
    ⟨⟨.slice none 0 0, (bN0.alloc _), World.ownsRow_nil _ _ _ _, trivial⟩, ⟨hr3, bS0⟩, hb3⟩
    (fun x => { tmps := #[.agg #[.int .i64 (k : Int), .int .i64 (r : Int), .slice A n c], .pointer (some ⟨w.heap.size, 0, none⟩), .slice none 0 0, .nilIface, .nilIface, .pointer (some ⟨w1.heap.size, 0, none⟩), undef, .int .i64 ((x.2.1 : Nat) : Int), .agg #[.int .i64 (k : Int), .int .i64 (r : Int), .slice A n c], .nilIface, .nilIface, .bool false, undef, .pointer (some ⟨w.heap.size, 2, none⟩), .slice A n c, .func (.func 88) #[] #[.pointer (some ⟨w1.heap.size + 1, 0, none⟩)], .int .i64 (x.1 : Int), .int .i64 ((x.2.1 : Nat) : Int), undef, undef, undef, undef, undef, undef, undef, undef, undef, undef, undef], defers := [] }) ?assign ?body ?done ?stop
  case own1 => exact (hg.block _ (Array.getElem?_eq_some_iff.1 hs.1).1 (fun e => by obtain ⟨o, ho, hc⟩ := hr _ e.symm; rw [show X.heap[w.heap.size]? = _ from hs.1] at ho; cases ho; cases hc)).trans hs.1
  case own2 => obtain ⟨o, ho, hc⟩ := hr _ e.symm; rw [show X.heap[w1.heap.size + 1]? = _ from hs.2] at ho; cases ho; cases hc
  case assign =>
    intro l x W K hK
    gi_wp2
    exact hK
  case body =>
    rintro l pre ⟨xi, xs, hx4⟩ W ⟨⟨v, bN, hown, _⟩, ⟨hrW, bS⟩, hB⟩ hpl
    rw [ints_len, hlt] at hpl
    obtain ⟨C, cc, rfl, _, _⟩ := own_slice hown
    obtain ⟨e0, e1, e2, _⟩ := hrW.facts
    have hvl := backV_len hk4 pre
    have hnx : backV k (pre ++ [(⟨xi, ⟨xs, hx4⟩⟩ : Sym)]) = backV k pre * k + xs := backV_snoc _ _ _
    obtain ⟨V, hV⟩ : ∃ V, backV k pre = V := ⟨_, rfl⟩
    rw [hV] at hown hnx hvl bN
    have bc := bN.cell
    have bf := bN.frozen
    have hnum := num_own hown
    obtain ⟨LV, hLV⟩ : ∃ LV, (limbs V).length = LV := ⟨_, rfl⟩
    have HVM := Lib.hid (fun (wz : World) (h : Below W.heap.size W wz) (D : Option Addr) (m d : Nat) (h2 : Num wz D m d k) (h3 : m ≤ 1000000000) => mul_n (hnum.below h) h2 (by omega) h3 (r := V * k) rfl)
    rw [hLV] at bc HVM hown hvl bN
    have HF1 := Lib.hid (fun (wz : World) => from_n wz k (by omega))
    have HF2 := Lib.hid (fun (wz : World) => from_n wz xs (by omega))
    have g1 : IntKind.u64.wrap (k : Int) = (k : Int) := IntWalk.u64_in _ (by omega)
    have g2 : IntKind.u64.wrap (xs : Int) = (xs : Int) := IntWalk.u64_in _ (by omega)
    have HFA := Lib.hid (fun (wz : World) (h : Below W.heap.size W wz) => (⟨cell_later h e0, cell_later h bc, Boxed.frozen (show Boxed wz w1.heap.size _ _ from (h.block _ bN.lt).trans bN)⟩ : wz.cell? ⟨w.heap.size, 0, none⟩ = some (.int .i64 (k : Int)) ∧ wz.cell? ⟨w1.heap.size, 0, none⟩ = some (.slice C LV cc) ∧ wz.frozen? ⟨w1.heap.size, 0, none⟩ = false))
    have hlk : (limbs k).length ≤ 1 := limbs_len_of_lt 1 k (by rw [Nat.pow_one]; unfold W32; omega)
    have hlx : (limbs xs).length ≤ 1 := limbs_len_of_lt 1 xs (by rw [Nat.pow_one]; unfold W32; omega)
    have hlvk : (limbs (V * k)).length ≤ LV + 1 := limbs_mul V k LV 1 (by omega) hlk
    clear hnum hLV hV
    have HK1 := Lib.hid (fun (w8 : World) (u : Value) (hb : Below W.heap.size W w8) => ((KeepsOthers.trans ⟨hb.size, fun j o hj _ => (hb.block j (Array.getElem?_eq_some_iff.1 hj).1).trans hj⟩ (KeepsOthers.setCell w8 ⟨w1.heap.size, 0, none⟩ u)).from ((w1.alloc (.cells #[.slice none 0 0] 81)).alloc (.cells #[.slice A n c] 22)).heap.size))
    have HK2 : Hid (∀ (w8 : World) (u : Value) (hb : Below W.heap.size W w8), KpB w.heap.size (w1.heap.size + 1) W (w8.setCell ⟨w1.heap.size, 0, none⟩ u)) := Lib.hid (fun w8 u hb => ⟨(hb.mono hB.size).setCell (p := ⟨w1.heap.size, 0, none⟩) hb1.size u, (Below.heap_setCell _ _ _ _ (by simp)).trans (hb.block _ bS.lt)⟩)
    have HK3 : Hid (∀ (w8 : World) (C8 : Option Addr) (c8 base : Nat) (hb : Below W.heap.size W w8) (ho : w8.ownsRow base 109 1 (.slice C8 (limbs (V * k + xs)).length c8) (limbs (V * k + xs)).length ((limbs (V * k + xs)).map wv)) (hbs : W.heap.size ≤ base),
        (∃ v, Boxed (w8.setCell ⟨w1.heap.size, 0, none⟩ (.slice C8 (limbs (V * k + xs)).length c8)) w1.heap.size 81 v ∧ (w8.setCell ⟨w1.heap.size, 0, none⟩ (.slice C8 (limbs (V * k + xs)).length c8)).ownsRow w.heap.size 109 1 v (limbs (backV k (pre ++ [(⟨xi, ⟨xs, hx4⟩⟩ : Sym)]))).length ((limbs (backV k (pre ++ [(⟨xi, ⟨xs, hx4⟩⟩ : Sym)]))).map wv) ∧ True) ∧
        ((RuleAt (w8.setCell ⟨w1.heap.size, 0, none⟩ (.slice C8 (limbs (V * k + xs)).length c8)) w.heap.size (.int .i64 (k : Int)) (.int .i64 (r : Int)) (.slice A n c) ∧ Boxed (w8.setCell ⟨w1.heap.size, 0, none⟩ (.slice C8 (limbs (V * k + xs)).length c8)) (w1.heap.size + 1) 22 (.slice A n c)) ∧ Below w.heap.size w (w8.setCell ⟨w1.heap.size, 0, none⟩ (.slice C8 (limbs (V * k + xs)).length c8)))) := Lib.hid (fun w8 C8 c8 base hb ho hbs => by
      rw [hnx]
      have hl0 := bN.lt
      have hbN8 : Boxed w8 w1.heap.size 81 (.slice C LV cc) := (hb.block _ bN.lt).trans bN
      refine ⟨⟨_, hbN8.set _, own_base (own_keeps ho (Keeps.of_setCell w8 _ _) (fun g hg e => by have := (ho.lt g hg).1; simp at e; omega)) (by have := hB.size; omega), trivial⟩, ⟨?_, ?_⟩, ?_⟩
      · exact (Below.heap_setCell _ _ _ _ (by simp; omega)).trans ((hb.block _ hrW.lt).trans hrW)
      · exact (Below.heap_setCell _ _ _ _ (by simp)).trans ((hb.block _ bS.lt).trans bS)
      · exact (hB.trans (hb.mono hB.size)).setCell (p := ⟨w1.heap.size, 0, none⟩) hb1.size _)
    clear hnx bN bS hrW hown
    have hd : 1 ≤ 8 - 1 - 1 := by decide
    have hmx : Tryd.prog.follows .mixedOrders = true := by kernel_rfl
    dsimp only
    gi_wp2
    gi_region_with_o (first
      | (refine ⟨trivial, ?_⟩; gi_at_call 68; refine (CallsIn.inRound l (callsIn_wide.2 (add_n (h6n.below b7) h7n (by omega) (by omega) (r := V * k + xs) rfl))).mono ?_; rintro e w8 ⟨C8, c8, rfl, h8n, h8o, b8⟩; have hb8 := hb7.trans (b8.mono hb7.size); obtain ⟨u0, u1, u2⟩ := HFA.out _ hb8)
      | (refine ⟨trivial, ?_⟩; gi_at_call 74; refine (CallsIn.inRound l (callsIn_wide.2 (HF2.out w6))).mono ?_; rintro e w7 ⟨C7, c7, rfl, h7n, _, b7⟩; have hb7 := hb6.trans (b7.mono hb6.size); obtain ⟨u0, u1, u2⟩ := HFA.out _ hb7)
      | (refine ⟨trivial, ?_⟩; gi_at_call 69; refine (CallsIn.inRound l (callsIn_wide.2 (HVM.out w5 hb5 _ _ _ h5n (by omega)))).mono ?_; rintro e w6 ⟨C6, c6, rfl, h6n, _, b6⟩; have hb6 := hb5.trans (b6.mono hb5.size); obtain ⟨u0, u1, u2⟩ := HFA.out _ hb6)
      | (refine ⟨trivial, ?_⟩; gi_at_call 74; refine (CallsIn.inRound l (callsIn_wide.2 (HF1.out _))).mono ?_; rintro e w5 ⟨C5, c5, rfl, h5n, _, b5⟩; have hb5 : Below W.heap.size W w5 := ((Below.refl W.heap.size W).drew).trans b5; obtain ⟨u0, u1, u2⟩ := HFA.out _ hb5))
    all_goals gi_wp2
    all_goals exact ⟨HK1.out _ _ hb8, HK2.out _ _ hb8, HK3.out _ _ _ _ hb8 h8o hb7.size⟩
  case done =>
    rintro D ys W hD rfl ⟨⟨v, bN, hown, _⟩, ⟨hrW, bS⟩, hB⟩ hK
    rw [ints_len] at hown
    rw [backV_end (fun x hx => Nat.lt_of_lt_of_le (hr.sym x hx) hk4)] at hown
    obtain ⟨C, cc, rfl, _, _⟩ := own_slice hown
    have bc := bN.cell
    gi_wp2
    refine ⟨by simp, .inl ⟨_, _, rfl, run_takeDeferred hK, ?_⟩⟩
    have hs1 := hb1.size
    exact ⟨.tuple #[.slice C (limbs (valB k t)).length cc, .nilIface], by simp [results, Tryd.results50, go_sem], C, cc, rfl, ownsRow_putObj hown _ hK rfl, hB.trans (belowK_b (w := w) (Nat.le_refl _) W D _ _ (by simp at hD; omega) hK rfl rfl)⟩
  case stop =>
    rintro D c pre W _ _ h _
    exact h.elim
end Go.Proofs.YtfgnghgmffaepaaDoor

namespace Go.Proofs.YtfgnghgmffaepaaDoor
open Go.RowKit RuleP NatP

namespace RuleP
theorem digN_val {k : Nat} (hk : 1 ≤ k) : ∀ {t : List Nat}, (∀ x ∈ t, x < k) → digN k t.length (valB k t) = t ∧ valB k t < k ^ t.length
  | [], _ => ⟨rfl, by simp [valB]⟩
  | x :: l, h => by
    have hx := h x (by simp)
    obtain ⟨h1, h2⟩ := digN_val hk (t := l) (fun y hy => h y (by simp [hy]))
    have e1 : (x + k * valB k l) % k = x := by rw [Nat.add_mul_mod_self_left, Nat.mod_eq_of_lt hx]
    have e2 : (x + k * valB k l) / k = valB k l := by rw [Nat.add_mul_div_left _ _ (by omega), Nat.div_eq_of_lt hx, Nat.zero_add]
    refine ⟨?_, ?_⟩
    · simp only [List.length_cons, digN, valB]
      rw [e1, e2, h1]
    · simp only [List.length_cons, valB, Nat.pow_succ]
      have : k * (valB k l + 1) ≤ k * k ^ l.length := Nat.mul_le_mul_left _ h2
      rw [Nat.mul_add, Nat.mul_one] at this
      rw [Nat.mul_comm (k ^ l.length)]
      omega
/-- A small rule's number gives the rule again. -/
theorem from_code {k r : Nat} {t : List Nat} (h : IsRule k r t) (hs : t.length ≤ 256) : fromN k r (valB k t) = .ok t := by
  have hk1 := h.k1
  have hk4 := h.k4
  have hr3 := h.r3
  obtain ⟨e1, e2⟩ := digN_val hk1 h.sym
  unfold fromN
  rw [if_neg (by omega)]
  simp only [Int.toNat_natCast]
  rw [← h.len, if_neg (by omega), if_neg (by rw [Nat.div_eq_of_lt e2]; omega), e1]
end RuleP

set_option maxRecDepth 100000 in
set_option maxHeartbeats 1000000 in
theorem code_bad (w : World) (E : Nat → Addr) (hE : Errs w E) (K R : Int) (A : Option Addr) (n c : Nat) (T : List Int) (hT : Sl w A n (T.map (Value.int .i64))) (hm : n ≤ 9223372036854775807) (t : Tale) (hbad : small K R T = some t) :
    Calls Tryd.prog 50 #[ruleV K R A n c] w fun e w' => ∃ v, e = .returned (.tuple #[.slice none 0 0, v]) ∧ ErrIs w' E t.1 t.2 v ∧ Below w.heap.size w w' := by
  have hb0 := (Below.refl w.heap.size w).alloc (Nat.le_refl _) (.cells #[.int .i64 K, .int .i64 R, .slice A n c] 24)
  have hsm := small_c _ E (hE.below hb0) K R A n c T (hT.below hb0) hm
  rw [hbad] at hsm
  have HSM := Lib.hid hsm
  clear hsm hE hT hb0 hbad
  unfold ruleV at *
  go_enter Tryd.func50, Tryd.ntmps50
  go_wp2_with fail
  refine (HSM.out).mono ?_
  rintro e w1 ⟨v, rfl, he, hb⟩
  obtain ⟨u, p, rfl⟩ := ErrIs.iface (show ErrIs w1 E t.1 t.2 v from he)
  have HP := Lib.hid (show ErrIs w1 E t.1 t.2 (.iface u p) from he)
  have HB := Lib.hid (below_box hb)
  clear he hb
  go_wp2_with fail
  go_ret2
  exact ⟨_, rfl, HP.out, HB.out⟩
end Go.Proofs.YtfgnghgmffaepaaDoor
