/- The rows of the walk over the subsets, as SubsetRuns asks of them: lengths, sources, runs along a word. Plain lists, no program. No condition. The error that a number stands for, and the error that a package tells: what root, fault.New return. Condition: the package's error variables hold what E says. The types' rows of the program's table. Closed facts. The first place of a list that holds no symbol: rule.odd, word.Check's and overlap.check's search, slices.IndexFunc. Condition: the list reads from memory. A part of a slice in memory. Plain lemmas, no program. No condition. Rows of numbers that the call makes. Plain lemmas, no program. No condition. A list of numbers copied: slices.Clone. Condition: the list reads from memory. A list copied: edenraw.Copy. Condition: the list reads from memory. The word behind a word: word.Check where it succeeds, word.Next. Condition: it is a word and reads from memory. The words that have an image, in their order: which they are. Plain lists, no program. No condition. Rules out of rules, as plain lists: tables told window by window; widened, narrowed, mirrored, shifted, one behind the other. No program. No condition. Rules out of rules, as plain lists: widened, narrowed, shifted, mirrored. No program. No condition. Automata, as plain lists: how many words of a length run. No program. No condition. The automaton of the subsets, as a plain automaton: the words that run are those that have preimages; one language of narrow, wide and shifted rules. No program. No condition. Automata, as plain lists: with one more symbol no fewer words and at most k times as many; the words in order, by their numbers. No program. No condition. How many preimages words have, as plain lists: if every word has one, every word has its fair share. No program. No condition. Tarjan's search as plain lists: its clock, and how long its lists get. No program. No condition. Tarjan's parts numbered by a map: the parts' numbers as natural ones. No program. No condition. -/
import Derived.Lib.Hide
import Derived.Test.YtedmmmlahpmmoaaGreatDoorV1
import Derived.Test.YtedmmmlahpmmoaaGreatDoorV2
import Derived.Test.YtedmmmlahpmmoaaGreatDoorV4
import Derived.Test.YtedmmmlahpmmoaaGreatDoorV5
namespace Go.Proofs.YtedmmmlahpmmoaaGreatDoor
open BagP RuleP
namespace SubP
variable {k N : Nat} {t : List Nat}

structure RowsOk (k N : Nat) (t : List Nat) (S : St) : Prop where
  len : S.next.length = S.sets.length
  row : ∀ (i : Nat) r, S.next[i]? = some r → r.length = k
  set : ∀ B ∈ S.sets, B.length = N ∧ nodesOf B ≠ []
  zero : S.sets[0]? = some (List.replicate N true)
  to : ∀ (i s : Nat) r x, S.next[i]? = some r → r[s]? = some x → (x = -1 ∧ nodesOf (beh k N t (S.sets.getD i []) s) = []) ∨ ∃ j : Nat, x = (j : Int) ∧ j < S.sets.length ∧ S.sets[j]? = some (beh k N t (S.sets.getD i []) s)
  src : ∀ j, 0 < j → j < S.sets.length → ∃ i s r, i < j ∧ s < k ∧ S.next[i]? = some r ∧ r[s]? = some (j : Int)
theorem RowsOk.pos {S : St} (h : RowsOk k N t S) : 0 < S.sets.length := (List.getElem?_eq_some_iff.1 h.zero).1
/-- Marked are state 0 and all to which the rows ahead of row i lead, and row i's first s symbols. -/
structure Seen (S : St) (i s : Nat) (L : List Bool) : Prop where
  len : L.length = S.sets.length
  zero : L[0]? = some true
  all : ∀ (i' s' : Nat) r (j : Nat), (i' < i ∨ (i' = i ∧ s' < s)) → S.next[i']? = some r → r[s']? = some (j : Int) → L[j]? = some true
theorem Seen.start {S : St} (h : RowsOk k N t S) : Seen S 0 0 ((List.replicate S.sets.length false).set 0 true) where
  len := by simp
  zero := by
    rw [List.getElem?_set_self (by have := h.pos; simpa using this)]
  all := fun i' s' r j hp => by omega
theorem Seen.at_ {S : St} {i : Nat} {L : List Bool} (h : RowsOk k N t S) (hs : Seen S i 0 L) (hi : i < S.sets.length) : L[i]? = some true := by
  rcases Nat.eq_zero_or_pos i with rfl | h0
  · exact hs.zero
  · obtain ⟨i', s, r, h1, _, h3, h4⟩ := h.src i h0 hi
    exact hs.all i' s r i (.inl h1) h3 h4
theorem Seen.none {S : St} {i s : Nat} {L : List Bool} {r : List Int} {x : Int} (hs : Seen S i s L) (hr : S.next[i]? = some r) (hx : r[s]? = some x) (hn : x < 0) : Seen S i (s + 1) L where
  len := hs.len
  zero := hs.zero
  all := fun i' s' r' j hp hr' hx' => by
    by_cases e : i' = i ∧ s' = s
    · obtain ⟨rfl, rfl⟩ := e
      rw [hr] at hr'
      cases hr'
      rw [hx] at hx'
      cases hx'
      omega
    · exact hs.all i' s' r' j (by omega) hr' hx'
theorem Seen.put {S : St} {i s q : Nat} {L : List Bool} {r : List Int} (hs : Seen S i s L) (hr : S.next[i]? = some r) (hx : r[s]? = some (q : Int)) (hq : q < S.sets.length) : Seen S i (s + 1) (L.set q true) where
  len := by simp [hs.len]
  zero := by
    by_cases e : q = 0
    · subst e; rw [List.getElem?_set_self (by rw [hs.len]; exact hq)]
    · rw [List.getElem?_set_ne e]; exact hs.zero
  all := fun i' s' r' j hp hr' hx' => by
    by_cases e : q = j
    · subst e; rw [List.getElem?_set_self (by rw [hs.len]; exact hq)]
    · rw [List.getElem?_set_ne e]
      refine hs.all i' s' r' j ?_ hr' hx'
      by_cases e' : i' = i ∧ s' = s
      · obtain ⟨rfl, rfl⟩ := e'
        rw [hr] at hr'
        cases hr'
        rw [hx] at hx'
        cases hx'
        exact absurd rfl e
      · omega
theorem Seen.row {S : St} {i : Nat} {L : List Bool} (h : RowsOk k N t S) (hs : Seen S i k L) : Seen S (i + 1) 0 L where
  len := hs.len
  zero := hs.zero
  all := fun i' s' r' j hp hr' hx' => by
    refine hs.all i' s' r' j ?_ hr' hx'
    have h1 := h.row i' r' hr'
    have h2 := (List.getElem?_eq_some_iff.1 hx').1
    omega
end SubP
end Go.Proofs.YtedmmmlahpmmoaaGreatDoor

namespace Go.Proofs.YtedmmmlahpmmoaaGreatDoor
open Go.RowKit

theorem heap_new (w : World) (o : Obj) : (w.alloc o).heap[w.heap.size]? = some o := by
  show (w.heap.push o)[w.heap.size]? = some o
  simp
/-- The error variables hold the values of E, by their numbers. -/
structure Errs (w : World) (E : Nat → Addr) : Prop where
  e1 : w.cell? ⟨1, 0, none⟩ = some (.iface 169 (.pointer (some (E 1))))
  e2 : w.cell? ⟨2, 0, none⟩ = some (.iface 169 (.pointer (some (E 2))))
  e3 : w.cell? ⟨3, 0, none⟩ = some (.iface 169 (.pointer (some (E 3))))
  e4 : w.cell? ⟨4, 0, none⟩ = some (.iface 169 (.pointer (some (E 4))))
  e5 : w.cell? ⟨5, 0, none⟩ = some (.iface 169 (.pointer (some (E 5))))
  e6 : w.cell? ⟨6, 0, none⟩ = some (.iface 169 (.pointer (some (E 6))))
  e7 : w.cell? ⟨7, 0, none⟩ = some (.iface 169 (.pointer (some (E 7))))
  e8 : w.cell? ⟨8, 0, none⟩ = some (.iface 169 (.pointer (some (E 8))))
  e9 : w.cell? ⟨0, 0, none⟩ = some (.iface 169 (.pointer (some (E 9))))
  e10 : w.cell? ⟨9, 0, none⟩ = some (.iface 169 (.pointer (some (E 10))))
  e11 : w.cell? ⟨10, 0, none⟩ = some (.iface 169 (.pointer (some (E 11))))
  e99 : w.cell? ⟨11, 0, none⟩ = some (.iface 169 (.pointer (some (E 99))))

theorem Errs.keep {w w' : World} {E : Nat → Addr} (h : Errs w E) (hk : ∀ (a : Addr) v, w.cell? a = some v → w'.cell? a = some v) : Errs w' E :=
  ⟨hk _ _ h.e1, hk _ _ h.e2, hk _ _ h.e3, hk _ _ h.e4, hk _ _ h.e5, hk _ _ h.e6, hk _ _ h.e7, hk _ _ h.e8, hk _ _ h.e9, hk _ _ h.e10, hk _ _ h.e11, hk _ _ h.e99⟩
theorem Errs.below {w w' : World} {E : Nat → Addr} (h : Errs w E) (hb : Below w.heap.size w w') : Errs w' E := h.keep fun _ _ hc => cell_later hb hc

set_option maxHeartbeats 1000000 in
theorem root_c (w : World) (E : Nat → Addr) (hE : Errs w E) (n : Nat) (h1 : 1 ≤ n) (h2 : n ≤ 11) :
    Calls Tryz.prog 27 #[.int .i64 (n : Int)] w fun e w' => e = .returned (.iface 169 (.pointer (some (E n)))) ∧ w = w' := by
  obtain ⟨e1, e2, e3, e4, e5, e6, e7, e8, e9, e10, e11, e99⟩ := hE
  have hn : n = 1 ∨ n = 2 ∨ n = 3 ∨ n = 4 ∨ n = 5 ∨ n = 6 ∨ n = 7 ∨ n = 8 ∨ n = 9 ∨ n = 10 ∨ n = 11 := by omega
  clear h1 h2
  rcases hn with rfl | rfl | rfl | rfl | rfl | rfl | rfl | rfl | rfl | rfl | rfl
  all_goals
    go_enter Tryz.func27, Tryz.ntmps27
    go_wp2
    go_ret
    exact ⟨rfl, rfl⟩

/-- The value of an error that lies in block b. -/
def errV (b : Nat) : Value := .iface 71 (.pointer (some ⟨b, 0, none⟩))

theorem new_c (w : World) (E : Nat → Addr) (hE : Errs w E) (op : ByteArray) (at' : Int) (n : Nat) (h1 : 1 ≤ n) (h2 : n ≤ 11) :
    Calls Tryz.prog 35 #[.string op, .int .i64 at', .int .i64 (n : Int)] w fun e w' => e = .returned (errV w.heap.size) ∧ w.alloc (.cells #[.string op, .int .i64 at', .iface 169 (.pointer (some (E n)))] 73) = w' := by
  have hn : ((n : Int) == 0) = false := by simp; omega
  go_enter Tryz.func35, Tryz.ntmps35
  go_wp2_with (go_at_call 27; refine (root_c _ E hE n h1 h2).mono ?_; rintro e w' ⟨rfl, rfl⟩)
  go_ret
  exact ⟨rfl, rfl⟩


/-- Three writes into one block. -/
theorem keeps_set3 (w : World) (g : Nat) (u0 u1 u2 : Value) : Keeps (fun k => k = g) w (((w.setCell ⟨g, 0, none⟩ u0).setCell ⟨g, 1, none⟩ u1).setCell ⟨g, 2, none⟩ u2) :=
  ((Keeps.of_setCell w ⟨g, 0, none⟩ u0).trans (Keeps.of_setCell _ ⟨g, 1, none⟩ u1) (fun _ _ h => h)).trans (Keeps.of_setCell _ ⟨g, 2, none⟩ u2) (fun _ _ h => h)
theorem below_set3 {w0 w : World} {B g : Nat} (h : Below B w0 w) (hg : B ≤ g) (u0 u1 u2 : Value) : Below B w0 (((w.setCell ⟨g, 0, none⟩ u0).setCell ⟨g, 1, none⟩ u1).setCell ⟨g, 2, none⟩ u2) :=
  ((h.setCell (p := ⟨g, 0, none⟩) hg u0).setCell (p := ⟨g, 1, none⟩) hg u1).setCell (p := ⟨g, 2, none⟩) hg u2
end Go.Proofs.YtedmmmlahpmmoaaGreatDoor

namespace Go.Proofs.YtedmmmlahpmmoaaGreatDoor

theorem tInts : ElemT Tryz.prog 22 3 (.int .i64 0) 8 := ⟨Tryz.underlying22, by kernel_rfl, rfl⟩
theorem tIntss : ElemT Tryz.prog 49 22 (.slice none 0 0) 24 := ⟨Tryz.underlying49, by kernel_rfl, rfl⟩

end Go.Proofs.YtedmmmlahpmmoaaGreatDoor

namespace Go.Proofs.YtedmmmlahpmmoaaGreatDoor
open Go.RowKit RuleP

theorem run_enter {P : Program} {f : FuncId} {fn : Func} (hf : P.funcs[f]? = some fn) (hname : (fn.name == "runtime.NumGoroutine") = false) (hb : fn.body.isSome = true) (args : Array Value) (w : World) :
    (callFunc f args).run P w = .ok (.enter f args) w := by
  have h1 : fn.name ≠ "runtime.NumGoroutine" := by simpa using hname
  obtain ⟨c, hc⟩ := Option.isSome_iff_exists.1 hb
  simp [callFunc, hf, h1, hc]

/-- The place, or -1. -/
def place : Option Nat → Int
  | some i => (i : Int)
  | none => -1

set_option maxRecDepth 100000 in
set_option maxHeartbeats 400000 in
/-- slices.IndexFunc by a closure of one captured value, whose body is a test of the element. -/
theorem indexFunc_c (w : World) (F : FuncId) (b : Addr) (p : Int → Bool) (A : Option Addr) (n c : Nat) (xs : List Int) (h : Sl w A n (xs.map (Value.int .i64))) (hm : n ≤ 9223372036854775807)
    (he : ∀ (x : Int) (wz : World), (callFunc F #[.int .i64 x, .pointer (some b)]).run Tryz.prog wz = .ok (.enter F #[.int .i64 x, .pointer (some b)]) wz)
    (hf : ∀ (x : Int), Calls Tryz.prog F #[.int .i64 x, .pointer (some b)] w fun e w' => e = .returned (.bool (p x)) ∧ w = w') :
    Calls Tryz.prog 33 #[.slice A n c, .func (.func F) #[] #[.pointer (some b)]] w fun e w' => e = .returned (.int .i64 (place (xs.findIdx? p))) ∧ w = w' := by
  have hl : xs.length = n := by simpa using h.1
  have HL := Lib.hid hl
  have HF := Lib.hid hf
  have HE := Lib.hid he
  clear hl hf he
  go_enter Tryz.func33, Tryz.ntmps33
  go_wp2_with fail
  go_loop [8] (fun i => ∃ k : Nat, k ≤ n ∧ i = .int .i64 (k : Int) ∧ Hid (∀ (j : Nat) (x : Int), j < k → xs[j]? = some x → p x = false)) (fun i => n - (intOf i).toNat)
  case atStart => exact ⟨0, Nat.zero_le _, rfl, Lib.hid (fun j x hj => by omega)⟩
  case round =>
    obtain ⟨k, hk, rfl, hs⟩ := hrel
    by_cases hlt : k < n
    · obtain ⟨ad, x, rfl, hxk, hcx⟩ := h.int_ hlt
      have hx := HE.out x
      cases hpx : p x with
      | false =>
        have hc := HF.out x
        rw [hpx] at hc
        have HC := Lib.hid hc
        have hs2 : Hid (∀ (j : Nat) (y : Int), j < k + 1 → xs[j]? = some y → p y = false) := Lib.hid (fun j y hj hy => by
          rcases Nat.lt_or_ge j k with h1 | h1
          · exact hs.out j y h1 hy
          · obtain rfl : j = k := by omega
            rw [hxk] at hy
            cases hy; exact hpx)
        clear hc hpx hxk hs
        go_wp2_with fail
        refine (HC.out).mono ?_
        rintro e w' ⟨rfl, rfl⟩
        go_wp2_with fail
        exact ⟨⟨k + 1, by omega, by go_num, hs2⟩, by simp [intOf]; omega⟩
      | true =>
        have hc := HF.out x
        rw [hpx] at hc
        have HC := Lib.hid hc
        have hp : Hid (place (xs.findIdx? p) = (k : Int)) := Lib.hid (by
          rw [List.findIdx?_eq_some_iff_getElem.2 ⟨by rw [HL.out]; exact hlt, by rw [(List.getElem?_eq_some_iff.1 hxk).2]; exact hpx, fun j hj => by
            have := hs.out j _ hj (List.getElem?_eq_getElem (by have := HL.out; omega))
            simp [this]⟩]
          rfl)
        clear hc hpx hxk hs
        go_wp2_with fail
        refine (HC.out).mono ?_
        rintro e w' ⟨rfl, rfl⟩
        go_wp2_with fail
        go_ret
        exact ⟨by rw [hp.out]; rfl, rfl⟩
    · obtain rfl : k = n := by omega
      have hp : Hid (place (xs.findIdx? p) = -1) := Lib.hid (by
        rw [List.findIdx?_eq_none_iff.2 fun x hx => by
          obtain ⟨j, hj⟩ := List.getElem?_of_mem hx
          exact hs.out j x (by rw [← HL.out]; exact (List.getElem?_eq_some_iff.1 hj).1) hj]
        rfl)
      clear hs
      go_wp2_with fail
      go_ret
      exact ⟨by rw [hp.out]; rfl, rfl⟩

set_option maxHeartbeats 400000 in
theorem ruleOddF_c (w : World) (x k : Int) (b : Addr) (hb : w.cell? b = some (.int .i64 k)) :
    Calls Tryz.prog 42 #[.int .i64 x, .pointer (some b)] w fun e w' => e = .returned (.bool (decide (x < 0 ∨ k ≤ x))) ∧ w = w' := by
  by_cases h : x < 0
  · have h1 : decide (x < 0) = true := decide_eq_true h
    have hd : Hid (decide (x < 0 ∨ k ≤ x) = true) := Lib.hid (decide_eq_true (.inl h))
    go_enter Tryz.func42, Tryz.ntmps42
    go_wp2_with fail
    go_ret
    exact ⟨by first | rfl | (rw [hd.out]; rfl), rfl⟩
  · have h1 : decide (x < 0) = false := decide_eq_false h
    have hd : Hid (decide (x < 0 ∨ k ≤ x) = decide (k ≤ x)) := Lib.hid (by simp [h])
    go_enter Tryz.func42, Tryz.ntmps42
    go_wp2_with fail
    go_ret
    exact ⟨by first | rfl | (rw [hd.out]; rfl), rfl⟩

theorem ruleOdd_c (w : World) (k : Int) (A : Option Addr) (n c : Nat) (xs : List Int) (h : Sl w A n (xs.map (Value.int .i64))) (hm : n ≤ 9223372036854775807) :
    Calls Tryz.prog 37 #[.int .i64 k, .slice A n c] w fun e w' => e = .returned (.int .i64 (place (odd k xs))) ∧ Below w.heap.size w w' := by
  have hi := indexFunc_c (w.alloc (.cells #[.int .i64 k] 3)) 42 ⟨w.heap.size, 0, none⟩ (fun x => decide (x < 0 ∨ k ≤ x)) A n c xs (h.alloc _) hm
    (fun x wz => run_enter Tryz.func42 (by kernel_rfl) (by kernel_rfl) _ _) (fun x => ruleOddF_c _ x k _ (by simp))
  change Calls _ _ _ _ (fun e w' => e = .returned (.int .i64 (place (odd k xs))) ∧ _ = w') at hi
  have HI := Lib.hid hi
  clear hi
  go_enter Tryz.func37, Tryz.ntmps37
  go_wp2_with fail
  refine (HI.out).mono ?_
  rintro e w' ⟨rfl, rfl⟩
  go_wp2_with fail
  go_ret
  exact ⟨rfl, (Below.refl _ _).alloc (Nat.le_refl _) _⟩
end Go.Proofs.YtedmmmlahpmmoaaGreatDoor

namespace Go.Proofs.YtedmmmlahpmmoaaGreatDoor
open Go.RowKit

theorem sl_part {w : World} {A : Option Addr} {n : Nat} {xs : List Value} (h : Sl w A n xs) {i m : Nat} (_ : i + m ≤ n) : ∀ ad, A = some ad → ∀ (j : Nat) u, ((xs.drop i).take m)[j]? = some u → w.cell? ((ad.add i).add j) = some u := by
  intro ad e j u hu
  rw [List.getElem?_take] at hu
  split at hu
  · rw [List.getElem?_drop] at hu
    obtain ⟨ad', e', hc⟩ := h.2 _ _ hu
    rw [e] at e'
    cases e'
    rw [add_of_add]
    exact hc
  · cases hu


theorem own_le {w : World} {base e n c : Nat} {A : Option Addr} {xs : List Value} (h : w.ownsRow base e 1 (.slice A n c) n xs) : n ≤ c ∧ c ≤ maxLen := by
  obtain ⟨A', c', e, h1, h2⟩ := own_slice h
  cases e
  exact ⟨h1, h2⟩
theorem push_keeps {w0 w' : World} {g : Nat} {v : Value} (hor : (v.ownBlock = some g ∧ w0.grownBy w' (some g)) ∨ (w0.heap.size < g ∧ w0.grownBy w' none)) : Keeps (fun b => v.ownBlock = some b) w0 w' := by
  rcases hor with ⟨h1, h2⟩ | ⟨_, h2⟩
  · exact (Keeps.of_grown h2).mono (fun b _ e => by cases e; exact h1)
  · exact keeps_new (Keeps.refl _ _) h2
theorem push_below {wx w0 w' : World} {base e n g : Nat} {v : Value} {xs : List Value} (hb : Below base wx w0) (hown : w0.ownsRow base e 1 v n xs) (hor : (v.ownBlock = some g ∧ w0.grownBy w' (some g)) ∨ (w0.heap.size < g ∧ w0.grownBy w' none)) (hs : base ≤ w0.heap.size) : Below base wx w' :=
  hb.trans ((push_keeps hor).below hs (fun _ hb' => (hown.lt _ hb').1))

end Go.Proofs.YtedmmmlahpmmoaaGreatDoor

namespace Go.Proofs.YtedmmmlahpmmoaaGreatDoor
open Go.RowKit RuleP

theorem make_ints (w : World) (n : Nat) (h : n ≤ maxLen) : (w.alloc (.cells (madeCells #[.int .i64 0] n) 3)).ownsRow w.heap.size 3 1 (.slice (some ⟨w.heap.size, 0, none⟩) n n) n ((ints (List.replicate n 0)).map (Value.int .i64)) := by
  have := World.ownsRow_lit (base := w.heap.size) (e := 3) (size := 1) w (madeCells #[.int .i64 0] n) n (Nat.le_refl _) h (by rw [size_madeCells]; simp)
  rw [toList_madeCells_one] at this
  rw [ints_map, List.map_replicate]
  exact this
theorem ints_set (l : List Nat) (j x : Nat) : (ints l).set j (x : Int) = ints (l.set j x) := by simp [ints, List.map_set]
end Go.Proofs.YtedmmmlahpmmoaaGreatDoor

namespace Go.Proofs.YtedmmmlahpmmoaaGreatDoor
open Go.RowKit

set_option maxRecDepth 100000 in
/-- slices.Clone of numbers. -/
theorem clone_c (w : World) (A : Option Addr) (m c : Nat) (xs : List Value) (h1 : ∀ u ∈ xs, u.oneCell' = true) (hm : m * 8 ≤ 140737488355328) (h : Sl w A m xs) :
    Calls Tryz.prog 23 #[.slice A m c] w fun e w' => ∃ C cc, e = .returned (.slice C m cc) ∧ w'.ownsRow w.heap.size 3 1 (.slice C m cc) m xs ∧ Below w.heap.size w w' := by
  have hl : xs.length = m := h.1
  have HL := Lib.hid hl
  have H1 := Lib.hid h1
  clear hl h1
  cases A with
  | none =>
    have hle : xs = [] := by
      cases xs with
      | nil => rfl
      | cons y ys => obtain ⟨ad, e', _⟩ := h.2 0 y (by simp); cases e'
    subst hle
    obtain rfl : m = 0 := HL.out.symm
    have he := Lib.run_eql_slice_nil (P := Tryz.prog) w 22 3 none 0 c 0 0 tInts.und
    go_enter Tryz.func23, Tryz.ntmps23
    go_wp2
    go_ret
    exact ⟨none, 0, rfl, World.ownsRow_nil _ _ _ _, Below.refl _ _⟩
  | some ad =>
    have he := Lib.run_eql_slice_nil (P := Tryz.prog) w 22 3 (some ad) m c 0 0 tInts.und
    have hown0 := World.ownsRow_lit (base := w.heap.size) (e := 3) (size := 1) w #[] 0 (Nat.le_refl _) (Nat.zero_le _) rfl
    have hs := h.alloc (.cells #[] 3)
    go_enter Tryz.func23, Tryz.ntmps23
    go_wp2_with (at_builtin; refine wpList_cat rfl _ _ _ rfl tInts hown0 rfl hs rfl H1.out (by simp only [maxLen]; omega) (by omega) (by simp) ?_; intro v' w3 hown3 hg3 hat3 _)
    rw [Nat.zero_add] at hown3
    obtain ⟨C, cc, rfl, _, _⟩ := own_slice hown3
    go_ret
    refine ⟨C, cc, rfl, by simpa using hown3, ((Below.refl _ _).alloc (Nat.le_refl _) _).grown hg3 (by simp) (fun k hk => by simp [Value.ownBlock] at hk; omega)⟩
end Go.Proofs.YtedmmmlahpmmoaaGreatDoor

namespace Go.Proofs.YtedmmmlahpmmoaaGreatDoor
open Go.RowKit

end Go.Proofs.YtedmmmlahpmmoaaGreatDoor

namespace Go.Proofs.YtedmmmlahpmmoaaGreatDoor
open Go.RowKit RuleP

namespace RuleP
/-- The word behind a word. -/
def nextB (k : Nat) (x : List Nat) : List Nat := if wval k x + 1 < k ^ x.length then digB k x.length (wval k x + 1) else List.replicate (x.length + 1) 0
theorem wval_rep (k : Nat) (a : List Nat) (j : Nat) : wval k (a ++ List.replicate j 0) = wval k a * k ^ j := by
  rw [wval_append, List.length_replicate]
  have : ∀ j, wval k (List.replicate j 0) = 0 := fun j => by
    induction j with
    | zero => rfl
    | succ j ih => rw [List.replicate_succ', wval_snoc, ih]; simp
  rw [this, Nat.add_zero]
theorem next_found {k : Nat} {x : List Nat} {m : Nat} (hk : 1 ≤ k) (hs : ∀ y ∈ x, y < k) (h : m < x.length) (hI : wval k x + 1 = (wval k (x.take (m + 1)) + 1) * k ^ (x.length - (m + 1))) (hd : x.getD m 0 + 1 < k) :
    x.take m ++ (x.getD m 0 + 1) :: List.replicate (x.length - (m + 1)) 0 = nextB k x := by
  have hw : wval k (x.take m ++ (x.getD m 0 + 1) :: List.replicate (x.length - (m + 1)) 0) = wval k x + 1 := by
    rw [show x.take m ++ (x.getD m 0 + 1) :: List.replicate (x.length - (m + 1)) 0 = (x.take m ++ [x.getD m 0 + 1]) ++ List.replicate (x.length - (m + 1)) 0 from by simp, wval_rep, hI]
    congr 1
    rw [wval_snoc, List.take_add_one, List.getElem?_eq_getElem h, Option.toList_some, wval_snoc, List.getD_eq_getElem?_getD, List.getElem?_eq_getElem h]
    rfl
  have hl : (x.take m ++ (x.getD m 0 + 1) :: List.replicate (x.length - (m + 1)) 0).length = x.length := by simp; omega
  have hsy : ∀ y ∈ x.take m ++ (x.getD m 0 + 1) :: List.replicate (x.length - (m + 1)) 0, y < k := by
    intro y hy
    rcases List.mem_append.1 hy with hy | hy
    · exact hs y (List.mem_of_mem_take hy)
    · rcases List.mem_cons.1 hy with rfl | hy
      · exact hd
      · have := List.eq_of_mem_replicate hy; omega
  have hlt := wval_lt hsy
  rw [hw, hl] at hlt
  unfold nextB
  rw [if_pos hlt, ← hw, digB_wval (by omega) x.length _ hl hsy]
end RuleP

end Go.Proofs.YtedmmmlahpmmoaaGreatDoor

namespace Go.Proofs.YtedmmmlahpmmoaaGreatDoor
namespace RuleP

theorem before_mem {k r : Nat} {t w y : List Nat} : y ∈ before k r t w ↔ ∃ u z, u < k ^ (2 * r) ∧ z ∈ sols k (k ^ (2 * r)) t u w ∧ y = digB k (2 * r) u ++ z := by
  unfold before befTo
  simp only [List.mem_flatMap, List.mem_range, List.mem_map]
  constructor
  · rintro ⟨u, hu, z, hz, rfl⟩
    exact ⟨u, z, hu, hz, rfl⟩
  · rintro ⟨u, z, hu, hz, rfl⟩
    exact ⟨u, hu, z, hz, rfl⟩
end RuleP
end Go.Proofs.YtedmmmlahpmmoaaGreatDoor

namespace Go.Proofs.YtedmmmlahpmmoaaGreatDoor
namespace RuleP

/-- A window's symbol by a table. -/
def sy (k : Nat) (t v : List Nat) : Nat := t.getD (wval k v) 0
/-- The table whose symbols are told window by window. -/
def tab (k n : Nat) (f : List Nat → Nat) : List Nat := (List.range (k ^ n)).map fun i => f (digB k n i)
theorem tab_len (k n : Nat) (f : List Nat → Nat) : (tab k n f).length = k ^ n := by simp [tab]
theorem dig_wval {k : Nat} (hk : 0 < k) : ∀ {n u : Nat}, u < k ^ n → wval k (digB k n u) = u
  | 0, u, h => by simp at h; subst h; rfl
  | n + 1, u, h => by
    have h1 : u / k < k ^ n := by
      rw [Nat.pow_succ] at h
      exact Nat.div_lt_of_lt_mul (by rw [Nat.mul_comm]; exact h)
    rw [digB, wval_snoc, dig_wval hk h1, Nat.mul_comm]
    exact Nat.div_add_mod u k
theorem tab_get {k n i : Nat} (f : List Nat → Nat) (h : i < k ^ n) : (tab k n f)[i]? = some (f (digB k n i)) := by
  unfold tab
  rw [List.getElem?_map, List.getElem?_range h]
  rfl
theorem tab_sym {k n : Nat} (hk : 0 < k) {f : List Nat → Nat} (hf : ∀ v : List Nat, v.length = n → (∀ x ∈ v, x < k) → f v < k) : ∀ x ∈ tab k n f, x < k := by
  intro x hx
  unfold tab at hx
  obtain ⟨i, _, rfl⟩ := List.mem_map.1 hx
  exact hf _ (digB_len _ _ _) (digB_sym hk _ _)
theorem tab_rule {k r : Nat} (k1 : 1 ≤ k) (k4 : k ≤ 4) (r3 : r ≤ 3) {f : List Nat → Nat} (hf : ∀ v : List Nat, v.length = 2 * r + 1 → (∀ x ∈ v, x < k) → f v < k) : IsRule k r (tab k (2 * r + 1) f) :=
  ⟨k1, k4, r3, tab_len _ _ _, tab_sym k1 hf⟩
theorem sy_lt {k r : Nat} {t v : List Nat} (hr : IsRule k r t) (hl : v.length = 2 * r + 1) (hs : ∀ x ∈ v, x < k) : sy k t v < k := by
  have h := wval_lt hs
  rw [hl, ← hr.len] at h
  unfold sy
  rw [List.getD_eq_getElem?_getD, List.getElem?_eq_getElem h]
  exact hr.sym _ (List.getElem_mem _)
/-! ### one behind the other -/
def comp (k ra : Nat) (ta : List Nat) (rb : Nat) (tb : List Nat) : List Nat := tab k (2 * (ra + rb) + 1) fun v => sy k ta (image k rb tb v)
end RuleP
end Go.Proofs.YtedmmmlahpmmoaaGreatDoor

namespace Go.Proofs.YtedmmmlahpmmoaaGreatDoor
namespace RuleP

/-- With a radius d greater: the outer symbols tell nothing. -/
def wide (k r d : Nat) (t : List Nat) : List Nat := tab k (2 * (r + d) + 1) fun v => sy k t (win v d (2 * r + 1))
theorem wide_rule {k r d : Nat} {t : List Nat} (hr : IsRule k r t) (h : r + d ≤ 3) : IsRule k (r + d) (wide k r d t) :=
  tab_rule hr.k1 hr.k4 h fun v hl hs => sy_lt hr (win_len (by omega)) (win_sym hs _ _)
end RuleP
end Go.Proofs.YtedmmmlahpmmoaaGreatDoor

namespace Go.Proofs.YtedmmmlahpmmoaaGreatDoor
namespace RuleP

/-- One more symbol ahead: of each state how many words go on from it. -/
def rowB (U : List Nat) (r : List Int) : Nat := r.foldl (fun n t => if t < 0 then n else n + U.getD t.toNat 0) 0
/-! ### the words themselves -/
/-- All words of n symbols, in order. -/
def allW (k : Nat) : Nat → List (List Nat)
  | 0 => [[]]
  | n + 1 => (List.range k).flatMap fun c => (allW k n).map fun w => c :: w
theorem allW_sym {k : Nat} : ∀ {n : Nat} {w : List Nat}, w ∈ allW k n → w.length = n ∧ ∀ c ∈ w, c < k
  | 0, w, h => by rw [allW, List.mem_singleton] at h; subst h; exact ⟨rfl, fun c hc => by simp at hc⟩
  | n + 1, w, h => by
    rw [allW, List.mem_flatMap] at h
    obtain ⟨c, hc, h⟩ := h
    obtain ⟨v, hv, rfl⟩ := List.mem_map.1 h
    obtain ⟨h1, h2⟩ := allW_sym hv
    exact ⟨by rw [List.length_cons, h1], fun x hx => (List.mem_cons.1 hx).elim (fun e => by rw [e]; exact List.mem_range.1 hc) (h2 x)⟩
end RuleP
end Go.Proofs.YtedmmmlahpmmoaaGreatDoor

namespace Go.Proofs.YtedmmmlahpmmoaaGreatDoor
open BagP RuleP SubP

namespace SubP
theorem RowsOk.auto {k N : Nat} {t : List Nat} {S : St} (h : RowsOk k N t S) : IsAuto k S.next where
  pos := by rw [h.len]; exact h.pos
  len := fun r hr => by
    obtain ⟨i, hi⟩ := List.getElem?_of_mem hr
    exact h.row i r hi
  ok := fun r hr x hx => by
    obtain ⟨i, hi⟩ := List.getElem?_of_mem hr
    obtain ⟨s, hs⟩ := List.getElem?_of_mem hx
    rcases h.to i s r x hi hs with ⟨h1, _⟩ | ⟨j, h1, h2, _⟩
    · exact .inl h1
    · exact .inr ⟨j, h1, by rw [h.len]; exact h2⟩
theorem RowsOk.at_ {k N : Nat} {t : List Nat} {S : St} (h : RowsOk k N t S) {i s : Nat} (hi : i < S.sets.length) (hs : s < k) :
    (nxt S.next i s = -1 ∧ nodesOf (beh k N t (S.sets.getD i []) s) = []) ∨ ∃ j : Nat, nxt S.next i s = (j : Int) ∧ j < S.sets.length ∧ S.sets[j]? = some (beh k N t (S.sets.getD i []) s) := by
  have hi' : i < S.next.length := by rw [h.len]; exact hi
  exact h.to i s _ _ (h.auto.row hi').2 (h.auto.at_ hi' hs).1
theorem RowsOk.runs {k N : Nat} {t : List Nat} {S : St} (h : RowsOk k N t S) : ∀ (w : List Nat) (i : Nat), i < S.sets.length → (∀ c ∈ w, c < k) → ((runA S.next i w).isSome = true ↔ nodesOf (w.foldl (fun B c => beh k N t B c) (S.sets.getD i [])) ≠ [])
  | [], i, hi, _ => by
    rw [runA_nil]
    refine ⟨fun _ => ?_, fun _ => rfl⟩
    have e : S.sets.getD i [] = S.sets[i] := by rw [List.getD_eq_getElem?_getD, List.getElem?_eq_getElem hi]; rfl
    rw [List.foldl_nil, e]
    exact (h.set _ (List.getElem_mem hi)).2
  | c :: w, i, hi, hw => by
    have hck := hw c (by simp)
    have hwk : ∀ x ∈ w, x < k := fun x hx => hw x (by simp [hx])
    rw [runA_cons, List.foldl_cons]
    rcases h.at_ hi hck with ⟨h1, h2⟩ | ⟨j, h1, h2, h3⟩
    · rw [if_pos (by omega)]
      refine ⟨fun e => (by cases e), fun e => absurd ?_ e⟩
      have key : ∀ (w : List Nat) (B : List Bool), nodesOf B = [] → nodesOf (w.foldl (fun B c => beh k N t B c) B) = [] := by
        intro w
        induction w with
        | nil => intro B hB; exact hB
        | cons x w ih =>
          intro B hB
          rw [List.foldl_cons]
          refine ih _ ?_
          unfold beh
          rw [hB, behF_nil]
          exact nodes_eq_nil.2 fun u hu => by
            rw [mark_len] at hu
            rw [mark_get N [] hu]
            simp
      exact key w _ h2
    · rw [if_neg (by omega), h1]
      have e : S.sets.getD j [] = beh k N t (S.sets.getD i []) c := by rw [List.getD_eq_getElem?_getD, h3]; rfl
      have h4 := h.runs w j h2 hwk
      rw [e] at h4
      exact h4
/-- A word runs through the automaton of the subsets just if it has a preimage. -/
theorem RowsOk.has {k r : Nat} {t : List Nat} {S : St} (hk : 0 < k) (h : RowsOk k (k ^ (2 * r)) t S) {w : List Nat} (hw : ∀ c ∈ w, c < k) : (runA S.next 0 w).isSome = true ↔ before k r t w ≠ [] := by
  have hN : 0 < k ^ (2 * r) := Nat.pow_pos hk
  have e : S.sets.getD 0 [] = List.replicate (k ^ (2 * r)) true := by rw [List.getD_eq_getElem?_getD, h.zero]; rfl
  have h1 := h.runs w 0 h.pos hw
  rw [e] at h1
  rw [h1]
  show nodesOf (run k (k ^ (2 * r)) t w) ≠ [] ↔ _
  rw [run_sols hN]
  constructor
  · rintro ⟨u, hu, hs⟩ hb
    obtain ⟨z, hz⟩ := List.exists_mem_of_ne_nil _ hs
    have h2 := before_mem.2 ⟨u, z, hu, hz, rfl⟩
    rw [hb] at h2
    simp at h2
  · intro hb
    obtain ⟨y, hy⟩ := List.exists_mem_of_ne_nil _ hb
    obtain ⟨u, z, hu, hz, _⟩ := before_mem.1 hy
    exact ⟨u, hu, fun e => by rw [e] at hz; simp at hz⟩
end SubP

namespace RuleP
end RuleP
end Go.Proofs.YtedmmmlahpmmoaaGreatDoor

namespace Go.Proofs.YtedmmmlahpmmoaaGreatDoor
namespace RuleP

/-! ### the words in order -/
theorem range_mul {α : Type} (f : Nat → α) (m : Nat) : ∀ k : Nat, (List.range (k * m)).map f = (List.range k).flatMap fun c => (List.range m).map fun j => f (c * m + j)
  | 0 => by rw [Nat.zero_mul]; rfl
  | k + 1 => by
    rw [Nat.succ_mul, List.range_add, List.map_append, range_mul f m k, List.range_succ, List.flatMap_append, List.flatMap_cons, List.flatMap_nil, List.append_nil, List.map_map]
    rfl
theorem digB_head {k : Nat} (hk : 0 < k) : ∀ (n c j : Nat), c < k → j < k ^ n → digB k (n + 1) (c * k ^ n + j) = c :: digB k n j
  | 0, c, j, hc, hj => by
    simp at hj
    subst hj
    show digB k 0 _ ++ [(c * k ^ 0 + 0) % k] = [c]
    rw [Nat.pow_zero, Nat.mul_one, Nat.add_zero, Nat.mod_eq_of_lt hc]
    rfl
  | n + 1, c, j, hc, hj => by
    have h1 : j / k < k ^ n := by
      rw [Nat.pow_succ] at hj
      exact Nat.div_lt_of_lt_mul (by rw [Nat.mul_comm]; exact hj)
    have e1 : (c * k ^ (n + 1) + j) / k = c * k ^ n + j / k := by
      rw [Nat.pow_succ, ← Nat.mul_assoc, Nat.add_comm, Nat.add_mul_div_right _ _ hk, Nat.add_comm]
    have e2 : (c * k ^ (n + 1) + j) % k = j % k := by
      rw [Nat.pow_succ, ← Nat.mul_assoc, Nat.add_comm, Nat.add_mul_mod_self_right]
    show digB k (n + 1) ((c * k ^ (n + 1) + j) / k) ++ [(c * k ^ (n + 1) + j) % k] = c :: (digB k n (j / k) ++ [j % k])
    rw [e1, e2, digB_head hk n c (j / k) hc h1]
    rfl
theorem allW_dig {k : Nat} (hk : 0 < k) : ∀ n, (List.range (k ^ n)).map (digB k n) = allW k n
  | 0 => rfl
  | n + 1 => by
    rw [Nat.pow_succ, Nat.mul_comm, range_mul, allW]
    rw [List.flatMap_def, List.flatMap_def]
    refine congrArg List.flatten (List.map_congr_left fun c hc => ?_)
    rw [← allW_dig hk n, List.map_map]
    exact List.map_congr_left fun j hj => digB_head hk n c j (List.mem_range.1 hc) (List.mem_range.1 hj)
end RuleP
end Go.Proofs.YtedmmmlahpmmoaaGreatDoor

namespace Go.Proofs.YtedmmmlahpmmoaaGreatDoor
namespace RuleP

/-! ### counting without repetition -/
theorem nodupL_le {α : Type} [BEq α] [LawfulBEq α] {a b : List α} (ha : a.Nodup) (h : ∀ x ∈ a, x ∈ b) : a.length ≤ b.length := by
  induction a generalizing b with
  | nil => exact Nat.zero_le _
  | cons x a ih =>
    have hx := h x (by simp)
    have h1 : ∀ y ∈ a, y ∈ b.erase x := fun y hy => (List.mem_erase_of_ne (fun (e : y = x) => (List.nodup_cons.1 ha).1 (by rw [← e]; exact hy))).2 (h y (by simp [hy]))
    have h2 := ih (List.nodup_cons.1 ha).2 h1
    rw [List.length_erase_of_mem hx] at h2
    have h3 := List.length_pos_of_mem hx
    rw [List.length_cons]
    omega
theorem mem_allW {k : Nat} : ∀ {n : Nat} {w : List Nat}, w.length = n → (∀ c ∈ w, c < k) → w ∈ allW k n
  | 0, [], _, _ => by rw [allW]; simp
  | 0, _ :: _, h, _ => by simp at h
  | n + 1, [], h, _ => by simp at h
  | n + 1, c :: w, h, hw => by
    rw [allW, List.mem_flatMap]
    exact ⟨c, List.mem_range.2 (hw c (by simp)), List.mem_map.2 ⟨w, mem_allW (by simpa using h) (fun x hx => hw x (by simp [hx])), rfl⟩⟩
theorem allW_nodup {k : Nat} (hk : 0 < k) (n : Nat) : (allW k n).Nodup := by
  rw [← allW_dig hk n, List.nodup_iff_pairwise_ne, List.pairwise_map]
  refine List.nodup_range.imp_of_mem fun {a b} ha hb hne e => hne ?_
  have h1 := dig_wval hk (List.mem_range.1 ha)
  have h2 := dig_wval hk (List.mem_range.1 hb)
  rw [← h1, ← h2, e]

end RuleP
end Go.Proofs.YtedmmmlahpmmoaaGreatDoor

namespace Go.Proofs.YtedmmmlahpmmoaaGreatDoor
namespace TarjP
open RuleP

theorem opn_len {g : List (List Nat)} {s : St} (h : Inv g s) : s.opn.length ≤ g.length := by
  have hn : s.opn.Nodup := by
    refine List.Pairwise.imp_of_mem ?_ h.ord
    intro a b _ _ hab e
    rw [e] at hab
    omega
  have := nodupL_le (b := List.range g.length) hn (fun x hx => List.mem_range.2 (h.op x hx).1)
  rwa [List.length_range] at this
theorem calls_len {g : List (List Nat)} {s : St} (h : Inv g s) : s.calls.length ≤ g.length := by
  have hn : (s.calls.map (·.1)).Nodup := by
    refine List.Pairwise.imp_of_mem ?_ h.cord
    intro a b _ _ hab e
    rw [e] at hab
    omega
  have := nodupL_le (b := List.range g.length) hn (fun x hx => by
    obtain ⟨c, hc, rfl⟩ := List.mem_map.1 hx
    exact List.mem_range.2 (h.op _ (h.cmem c hc)).1)
  rwa [List.length_range, List.length_map] at this
theorem next_time {g : List (List Nat)} (hg : Graph g) {s : St} (h : Inv g s) : (s.next g).time + un (s.next g).found g ≤ s.time + un s.found g := by
  have hl : ∀ v cs, (s.leave v cs).time = s.time ∧ (s.leave v cs).found = s.found := by
    intro v cs
    unfold St.leave
    split <;> exact ⟨rfl, rfl⟩
  unfold St.next
  split
  · exact Nat.le_refl _
  · rename_i u i cs hcc
    split
    · rw [(hl u cs).1, (hl u cs).2]; exact Nat.le_refl _
    · rename_i hi
      have hui : (u, i) ∈ s.calls := by rw [hcc]; exact List.mem_cons_self
      have hi' : i < (g.getD u []).length := by have h1 : i ≤ (g.getD u []).length := h.cix _ hui; omega
      have ht := hg u ((g.getD u []).getD i 0) (by rw [List.getD_eq_getElem?_getD (l := g.getD u []), List.getElem?_eq_getElem hi']; exact List.getElem_mem _)
      dsimp only
      split
      · rename_i h0
        have hu := un_set s.found g ((g.getD u []).getD i 0) (s.time + 1) (by rw [h.hf]; exact ht) ht h0 (by omega)
        simp only [St.enter]
        omega
      · split <;> exact Nat.le_refl _
theorem it_time {g : List (List Nat)} (hg : Graph g) {s : St} (h : Inv g s) : ∀ j, (it g j s).time + un (it g j s).found g ≤ s.time + un s.found g
  | 0 => Nat.le_refl _
  | j + 1 => Nat.le_trans (next_time hg (it_inv hg h j)) (it_time hg h j)
theorem enter_time {g : List (List Nat)} {s : St} (h : Inv g s) {v : Nat} (hv : v < g.length) (h0 : fo s v = 0) : (s.enter v).time + un (s.enter v).found g ≤ s.time + un s.found g := by
  have hu := un_set s.found g v (s.time + 1) (by rw [h.hf]; exact hv) hv h0 (by omega)
  simp only [St.enter]
  omega
theorem partsTo_time {g : List (List Nat)} (hg : Graph g) : ∀ v, v ≤ g.length → (partsTo g v).time + un (partsTo g v).found g ≤ un (List.replicate g.length 0) g
  | 0, _ => by show 0 + un (List.replicate g.length 0) g ≤ _; omega
  | v + 1, hv => by
    obtain ⟨h1, h2⟩ := partsTo_inv hg v (by omega)
    have ih := partsTo_time hg v (by omega)
    rw [partsTo]
    split
    · rename_i h0
      have h3 := h1.enter (show v < g.length by omega) h0 (.inl h2)
      exact Nat.le_trans (it_time hg h3 _) (Nat.le_trans (enter_time h1 (by omega) h0) ih)
    · exact ih
/-- The arrows and the vertices together. -/
theorem un_sum : ∀ (n : Nat) (g : List (List Nat)), un (List.replicate n 0) g ≤ (g.map List.length).sum + 2 * g.length
  | 0, g => by simp [un]
  | n + 1, [] => by simp [un]
  | n + 1, l :: g => by
    have := un_sum n g
    simp only [List.replicate_succ, un, if_true, List.map_cons, List.sum_cons, List.length_cons]
    omega
end TarjP
end Go.Proofs.YtedmmmlahpmmoaaGreatDoor

namespace Go.Proofs.YtedmmmlahpmmoaaGreatDoor
namespace TarjP
open RuleP

theorem rch_lt {g : List (List Nat)} (hg : Graph g) {x y : Nat} (h : Rch g x y) (hx : x < g.length) : y < g.length := by
  induction h with
  | refl => exact hx
  | step _ ha _ => exact hg _ _ ha
/-- All parts are numbered by vertices. -/
theorem parts_nat {g : List (List Nat)} (hg : Graph g) : ∃ P : List Nat, (partsTo g g.length).part = ints P ∧ P.length = g.length ∧ ∀ x ∈ P, x < g.length := by
  obtain ⟨hi, hc⟩ := partsTo_inv hg g.length (Nat.le_refl _)
  have ho := hi.opn_nil hc
  have hall : ∀ z, z < g.length → ∃ v : Nat, pa (partsTo g g.length) z = (v : Int) ∧ v < g.length := by
    intro z hz
    have h0 : 0 ≤ pa (partsTo g g.length) z := by
      rcases Int.lt_or_le (pa (partsTo g g.length) z) 0 with h1 | h1
      · have := hi.mem z hz (partsTo_found hg g.length (Nat.le_refl _) z hz) h1
        rw [ho] at this
        cases this
      · exact h1
    obtain ⟨v, hv, _, h2⟩ := hi.own z hz h0
    exact ⟨v, hv, rch_lt hg h2 hz⟩
  refine ⟨(partsTo g g.length).part.map Int.toNat, ?_, by rw [List.length_map]; exact hi.hp, fun x hx => ?_⟩
  · unfold ints
    rw [List.map_map]
    refine (List.map_id _).symm.trans (List.map_congr_left fun y hy => ?_)
    obtain ⟨j, hj, e⟩ := List.getElem_of_mem hy
    obtain ⟨v, hv, _⟩ := hall j (by rw [← hi.hp]; exact hj)
    have e2 : pa (partsTo g g.length) j = y := by
      unfold pa
      rw [List.getD_eq_getElem?_getD, List.getElem?_eq_getElem hj, e]
      rfl
    rw [e2] at hv
    rw [hv]
    simp
  · obtain ⟨y, hy, rfl⟩ := List.mem_map.1 hx
    obtain ⟨j, hj, e⟩ := List.getElem_of_mem hy
    obtain ⟨v, hv, hlt⟩ := hall j (by rw [← hi.hp]; exact hj)
    have e2 : pa (partsTo g g.length) j = y := by
      unfold pa
      rw [List.getD_eq_getElem?_getD, List.getElem?_eq_getElem hj, e]
      rfl
    rw [e2] at hv
    rw [hv]
    simpa using hlt
/-- The keys met, in their order. -/
def keysN : List Nat → List Nat → List Nat
  | ds, [] => ds
  | ds, p :: l => keysN (if p ∈ ds then ds else ds ++ [p]) l
theorem mem_ints {p : Nat} {ds : List Nat} : (p : Int) ∈ ints ds ↔ p ∈ ds := by
  unfold ints
  constructor
  · intro h
    obtain ⟨y, hy, e⟩ := List.mem_map.1 h
    have : y = p := by omega
    rw [← this]; exact hy
  · intro h
    exact List.mem_map.2 ⟨p, h, rfl⟩
theorem keys_ints : ∀ (l ds : List Nat), keysOf (ints ds) (ints l) = ints (keysN ds l)
  | [], ds => rfl
  | p :: l, ds => by
    show keysOf (if (p : Int) ∈ ints ds then ints ds else ints ds ++ [(p : Int)]) (ints l) = ints (keysN (if p ∈ ds then ds else ds ++ [p]) l)
    by_cases h : p ∈ ds
    · rw [if_pos (mem_ints.2 h), if_pos h]
      exact keys_ints l ds
    · rw [if_neg (fun hh => h (mem_ints.1 hh)), if_neg h]
      have e : ints ds ++ [(p : Int)] = ints (ds ++ [p]) := by simp [ints]
      rw [e]
      exact keys_ints l (ds ++ [p])
theorem idx_ints (p : Nat) : ∀ ds : List Nat, (ints ds).idxOf (p : Int) = ds.idxOf p
  | [] => rfl
  | q :: ds => by
    show ((q : Int) :: ints ds).idxOf (p : Int) = _
    rw [List.idxOf_cons, List.idxOf_cons, idx_ints p ds]
    by_cases h : q = p
    · simp [h]
    · have h' : (q : Int) ≠ (p : Int) := by omega
      simp [beq_eq_false_iff_ne.2 h, beq_eq_false_iff_ne.2 h']
theorem keysN_take (P : List Nat) {i p : Nat} (hp : P[i]? = some p) : keysN [] (P.take (i + 1)) = if p ∈ keysN [] (P.take i) then keysN [] (P.take i) else keysN [] (P.take i) ++ [p] := by
  have happ : ∀ (l ds : List Nat) (q : Nat), keysN ds (l ++ [q]) = if q ∈ keysN ds l then keysN ds l else keysN ds l ++ [q] := by
    intro l
    induction l with
    | nil => intro ds q; rfl
    | cons a l ih =>
      intro ds q
      show keysN (if a ∈ ds then ds else ds ++ [a]) (l ++ [q]) = _
      rw [ih]
      rfl
  rw [List.take_add_one, hp]
  exact happ _ _ _
theorem keysN_pre : ∀ (l ds : List Nat), ∃ r, keysN ds l = ds ++ r
  | [], ds => ⟨[], by simp [keysN]⟩
  | p :: l, ds => by
    rw [keysN]
    split
    · exact keysN_pre l ds
    · obtain ⟨r, h⟩ := keysN_pre l (ds ++ [p])
      exact ⟨p :: r, by rw [h]; simp⟩
theorem keysN_split (a b ds : List Nat) : keysN ds (a ++ b) = keysN (keysN ds a) b := by
  induction a generalizing ds with
  | nil => rfl
  | cons x a ih => exact ih _
theorem keysN_len : ∀ (l ds : List Nat), (keysN ds l).length ≤ ds.length + l.length
  | [], ds => by simp [keysN]
  | p :: l, ds => by
    rw [keysN]
    split
    · have := keysN_len l ds; simp; omega
    · have := keysN_len l (ds ++ [p]); simp at this; simp; omega
/-- A key's number does not change. -/
theorem idx_stay (P : List Nat) {i p : Nat} (hp : p ∈ keysN [] (P.take i)) : (keysN [] P).idxOf p = (keysN [] (P.take i)).idxOf p := by
  have e : keysN [] P = keysN (keysN [] (P.take i)) (P.drop i) := by rw [← keysN_split, List.take_append_drop]
  obtain ⟨r, hr⟩ := keysN_pre (P.drop i) (keysN [] (P.take i))
  rw [e, hr, List.idxOf_append, if_pos hp]
theorem idx_get {ds : List Nat} {p : Nat} (h : p ∈ ds) : ds[ds.idxOf p]? = some p := by
  have := List.idxOf_lt_length_iff.2 h
  rw [List.getElem?_eq_getElem this, List.getElem_idxOf this]
theorem partOf_nat {g : List (List Nat)} {P : List Nat} (h : (partsTo g g.length).part = ints P) : partOf g = P.map fun p => (keysN [] P).idxOf p := by
  unfold partOf
  rw [h]
  have e : keysOf [] (ints P) = ints (keysN [] P) := keys_ints P []
  rw [e]
  show (P.map fun (x : Nat) => (x : Int)).map _ = _
  rw [List.map_map]
  refine List.map_congr_left fun x _ => ?_
  exact idx_ints x _
end TarjP
end Go.Proofs.YtedmmmlahpmmoaaGreatDoor
