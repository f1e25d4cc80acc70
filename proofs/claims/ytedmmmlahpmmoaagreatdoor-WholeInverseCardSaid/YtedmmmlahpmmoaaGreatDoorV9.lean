/- The shortest way from a pair of equal nodes through pairs that are apart to a pair of equal nodes again, sought breadth first: plain lists, no program. Where none is found there is none; what is found is one. No condition. The graph of the pairs of a rule's nodes, and its ways: a way through pairs that are apart is there just if the rule has twins. Plain lists, no program. No condition. Numbers in memory: what nat.norm, nat.From, nat.Add return. Condition: the limbs read from memory. Sums in memory: what bits.Add32 and nat.Add return. Condition: the limbs read from memory. Numbers compared: what nat.Cmp and edenraw.Nats return; nat.Fits, nat.From. Condition: the limbs read from memory. What nat.Low, nat.Fits, nat.From, nat.Sum, nat.Over and edenraw.Nats return. Condition: the limbs read from memory. Products in memory: what nat.Mul returns. Condition: the limbs read from memory. Division in memory: what bits.Div32 and nat.Over return. Condition: the limbs read from memory. Decimal texts: plain lists of bytes, no program. A number's text is read back as the number, and only that text is. No condition. Numbers by their value: what the package's functions return, over slices that read as a number. Condition: as said. -/
import Derived.IntWalk
import Derived.BigQuiet
import Derived.Laws.BitsAllLaws
import Derived.Lib.Strings
import Derived.Lib.TrimByte
import Derived.Laws.Strings3
import Derived.Deep.RegionWith
import Derived.Deep.DrawnRows
import Derived.Test.YtedmmmlahpmmoaaGreatDoorV1
import Derived.Test.YtedmmmlahpmmoaaGreatDoorV6
namespace Go.Proofs.YtedmmmlahpmmoaaGreatDoor
namespace MeetP

/-- Is a pair's number one of equal nodes? -/
def diag (n p : Nat) : Bool := p / n == p % n
inductive Out
  | go (came : List Int) (queue : List Nat)
  | found (v t : Nat) (came : List Int)
/-- One target of pair v. -/
def tgt (n v : Nat) (came : List Int) (queue : List Nat) (t : Nat) : Out :=
  if diag n t = false ∧ came.getD t (-1) < 0 then .go (came.set t (v : Int)) (queue ++ [t])
  else if diag n t = true ∧ diag n v = false then .found v t came
  else .go came queue
/-- The first s targets of pair v. -/
def rowTo (n v : Nat) (l : List Nat) (came : List Int) (queue : List Nat) : Nat → Out
  | 0 => .go came queue
  | s + 1 => match rowTo n v l came queue s with
    | .go came' queue' => tgt n v came' queue' (l.getD s 0)
    | o => o
/-- Ahead of round i. -/
def roundTo (n : Nat) (g : List (List Nat)) : Nat → Out
  | 0 => .go (List.replicate g.length (-1)) ((List.range n).map fun u => u * n + u)
  | i + 1 => match roundTo n g i with
    | .go came queue => if i < queue.length then rowTo n (queue.getD i 0) (g.getD (queue.getD i 0) []) came queue (g.getD (queue.getD i 0) []).length else .go came queue
    | o => o
/-- The way back: from v by what came ahead. -/
def backTo (came : List Int) : Nat → Nat → List Nat
  | 0, _ => []
  | f + 1, v => v :: (if came.getD v (-1) < 0 then [] else backTo came f (came.getD v (-1)).toNat)
/-- The graph: so many pairs, all targets are pairs. -/
structure Ok (n : Nat) (g : List (List Nat)) : Prop where
  len : g.length = n * n
  to : ∀ (p : Nat) t, t ∈ g.getD p [] → t < n * n
/-- What holds while pairs are found. -/
structure Inv (n : Nat) (g : List (List Nat)) (came : List Int) (queue : List Nat) : Prop where
  clen : came.length = g.length
  qlt : ∀ q ∈ queue, q < g.length
  start : ∀ p, p < g.length → diag n p = true → p ∈ queue
  off : ∀ p, p < g.length → diag n p = false → (0 ≤ came.getD p (-1) ↔ p ∈ queue)
  dcame : ∀ p, diag n p = true → came.getD p (-1) < 0
  chain : ∀ (j : Nat) p, queue[j]? = some p → diag n p = false → ∃ (i v : Nat), i < j ∧ queue[i]? = some v ∧ came.getD p (-1) = (v : Int) ∧ p ∈ g.getD v []
  nd : queue.Nodup
theorem Inv.init {n : Nat} {g : List (List Nat)} (h : Ok n g) : Inv n g (List.replicate g.length (-1)) ((List.range n).map fun u => u * n + u) where
  clen := List.length_replicate
  qlt := fun q hq => by
    obtain ⟨u, hu, rfl⟩ := List.mem_map.1 hq
    have hu := List.mem_range.1 hu
    rw [h.len]
    have : (u + 1) * n ≤ n * n := Nat.mul_le_mul_right n hu
    rw [Nat.succ_mul] at this
    omega
  start := fun p hp hd => by
    have e : p / n = p % n := by simpa [diag] using hd
    rw [h.len] at hp
    have hn : 0 < n := Nat.pos_of_ne_zero (fun e => by subst e; simp at hp)
    have h1 : p / n < n := by rw [Nat.div_lt_iff_lt_mul hn]; exact hp
    refine List.mem_map.2 ⟨p / n, List.mem_range.2 h1, ?_⟩
    have := Nat.div_add_mod p n
    rw [← e] at this
    rw [Nat.mul_comm]
    exact this
  off := fun p hp hd => by
    constructor
    · intro hc
      rw [List.getD_eq_getElem?_getD, List.getElem?_replicate, if_pos hp] at hc
      simp at hc
    · intro hq
      obtain ⟨u, hu, rfl⟩ := List.mem_map.1 hq
      have hu := List.mem_range.1 hu
      have : diag n (u * n + u) = true := by
        have hn : 0 < n := by omega
        simp only [diag, beq_iff_eq]
        rw [Nat.mul_comm, Nat.mul_add_div hn, Nat.mul_add_mod, Nat.mod_eq_of_lt hu, Nat.div_eq_of_lt hu, Nat.add_zero]
      rw [this] at hd
      cases hd
  dcame := fun p _ => by
    rw [List.getD_eq_getElem?_getD, List.getElem?_replicate]
    split <;> simp
  chain := fun j p hj hd => by
    obtain ⟨u, hu, rfl⟩ := List.mem_map.1 (List.mem_of_getElem? hj)
    have hu := List.mem_range.1 hu
    have : diag n (u * n + u) = true := by
      have hn : 0 < n := by omega
      simp only [diag, beq_iff_eq]
      rw [Nat.mul_comm, Nat.mul_add_div hn, Nat.mul_add_mod, Nat.mod_eq_of_lt hu, Nat.div_eq_of_lt hu, Nat.add_zero]
    rw [this] at hd
    cases hd
  nd := by
    rw [List.nodup_iff_pairwise_ne, List.pairwise_map]
    refine List.Pairwise.imp ?_ List.pairwise_lt_range
    intro a b hab e
    have h1 : a * n ≤ b * n := Nat.mul_le_mul_right n (Nat.le_of_lt hab)
    omega
theorem Inv.push {n : Nat} {g : List (List Nat)} {came : List Int} {queue : List Nat} (h : Inv n g came queue) {v t : Nat} (hv : v ∈ queue) (ht : t ∈ g.getD v []) (htl : t < g.length) (hd : diag n t = false) (hc : came.getD t (-1) < 0) :
    Inv n g (came.set t (v : Int)) (queue ++ [t]) := by
  have hnq : t ∉ queue := fun hq => by have := (h.off t htl hd).2 hq; omega
  have hset : ∀ p, (came.set t (v : Int)).getD p (-1) = if p = t then (v : Int) else came.getD p (-1) := fun p => by
    rw [List.getD_eq_getElem?_getD, List.getElem?_set]
    by_cases e : t = p
    · subst e
      rw [if_pos rfl, if_pos (by rw [h.clen]; exact htl), if_pos rfl]
      rfl
    · rw [if_neg e, if_neg (fun e' => e e'.symm), ← List.getD_eq_getElem?_getD]
  refine ⟨by rw [List.length_set]; exact h.clen, fun q hq => ?_, fun p hp hpd => List.mem_append.2 (.inl (h.start p hp hpd)), fun p hp hpd => ?_, fun p hpd => ?_, fun j p hj hpd => ?_, ?_⟩
  · rcases List.mem_append.1 hq with hq | hq
    · exact h.qlt q hq
    · rw [List.mem_singleton.1 hq]; exact htl
  · rw [hset]
    by_cases e : p = t
    · rw [if_pos e]
      exact ⟨fun _ => List.mem_append.2 (.inr (List.mem_singleton.2 e)), fun _ => by omega⟩
    · rw [if_neg e, h.off p hp hpd]
      exact ⟨fun hq => List.mem_append.2 (.inl hq), fun hq => (List.mem_append.1 hq).resolve_right (fun e' => e (List.mem_singleton.1 e'))⟩
  · rw [hset, if_neg (fun e => by rw [e, hd] at hpd; cases hpd)]
    exact h.dcame p hpd
  · rw [hset]
    rcases Nat.lt_or_ge j queue.length with hl | hl
    · rw [List.getElem?_append_left hl] at hj
      have hpq := List.mem_of_getElem? hj
      rw [if_neg (fun e => hnq (by rw [← e]; exact hpq))]
      obtain ⟨i, u, h1, h2, h3, h4⟩ := h.chain j p hj hpd
      exact ⟨i, u, h1, by rw [List.getElem?_append_left (by omega)]; exact h2, h3, h4⟩
    · rw [List.getElem?_append_right hl] at hj
      have e : p = t := by
        have := List.mem_of_getElem? hj
        exact List.mem_singleton.1 this
      rw [if_pos e]
      obtain ⟨i, hi⟩ := List.getElem?_of_mem hv
      have hil := (List.getElem?_eq_some_iff.1 hi).1
      exact ⟨i, v, by omega, by rw [List.getElem?_append_left hil]; exact hi, rfl, by rw [e]; exact ht⟩
  · rw [List.nodup_append]
    exact ⟨h.nd, by simp, fun a ha b hb e => by rw [List.mem_singleton.1 hb] at e; rw [e] at ha; exact hnq ha⟩
/-- All targets of a pair are found, none of equal nodes behind a pair that is apart. -/
def Shut (n : Nat) (queue : List Nat) (v : Nat) (l : List Nat) : Prop := ∀ t ∈ l, (diag n t = false → t ∈ queue) ∧ (diag n t = true → diag n v = true)
theorem Shut.mono {n : Nat} {queue queue' : List Nat} {v : Nat} {l : List Nat} (h : Shut n queue v l) (hq : ∀ x ∈ queue, x ∈ queue') : Shut n queue' v l := fun t ht => ⟨fun hd => hq t ((h t ht).1 hd), (h t ht).2⟩
end MeetP
end Go.Proofs.YtedmmmlahpmmoaaGreatDoor

namespace Go.Proofs.YtedmmmlahpmmoaaGreatDoor
open RuleP MeetP
namespace PairP

/-- Is there an edge of pairs from p to q? -/
def edgeB (k N : Nat) (t : List Nat) (p q : Nat) : Bool :=
  (List.range k).any fun s => (List.range k).any fun s' => decide (t.getD (p / N * k + s) 0 = t.getD (p % N * k + s') 0 ∧ q = (p / N * k + s) % N * N + (p % N * k + s') % N)
def pairRow (k N : Nat) (t : List Nat) (p : Nat) : List Nat := (List.range (N * N)).filter (edgeB k N t p)
def pairG (k N : Nat) (t : List Nat) : List (List Nat) := (List.range (N * N)).map (pairRow k N t)
theorem edgeB_iff {k N : Nat} {t : List Nat} {p q : Nat} : edgeB k N t p q = true ↔ ∃ s s', s < k ∧ s' < k ∧ t.getD (p / N * k + s) 0 = t.getD (p % N * k + s') 0 ∧ q = (p / N * k + s) % N * N + (p % N * k + s') % N := by
  unfold edgeB
  simp only [List.any_eq_true, List.mem_range, decide_eq_true_eq]
  constructor
  · rintro ⟨s, hs, s', hs', h⟩; exact ⟨s, s', hs, hs', h⟩
  · rintro ⟨s, s', hs, hs', h⟩; exact ⟨s, hs, s', hs', h⟩
theorem edge_lt {k N : Nat} {t : List Nat} {p q : Nat} (hN : 0 < N) (h : edgeB k N t p q = true) : q < N * N := by
  obtain ⟨s, s', _, _, _, rfl⟩ := edgeB_iff.1 h
  have h1 := Nat.mod_lt (p / N * k + s) hN
  have h2 := Nat.mod_lt (p % N * k + s') hN
  have : ((p / N * k + s) % N + 1) * N ≤ N * N := Nat.mul_le_mul_right N h1
  rw [Nat.succ_mul] at this
  omega
theorem mem_row {k N : Nat} {t : List Nat} {p q : Nat} (hN : 0 < N) : q ∈ pairRow k N t p ↔ edgeB k N t p q = true := by
  unfold pairRow
  rw [List.mem_filter, List.mem_range]
  exact ⟨fun h => h.2, fun h => ⟨edge_lt hN h, h⟩⟩
theorem pairG_len (k N : Nat) (t : List Nat) : (pairG k N t).length = N * N := by simp [pairG]
theorem pairG_at {k N : Nat} {t : List Nat} {p : Nat} (hp : p < N * N) : (pairG k N t).getD p [] = pairRow k N t p := by
  unfold pairG
  rw [List.getD_eq_getElem?_getD, List.getElem?_map, List.getElem?_range hp]
  rfl
theorem pairG_out {k N : Nat} {t : List Nat} {p : Nat} (hp : ¬ p < N * N) : (pairG k N t).getD p [] = [] := by
  rw [List.getD_eq_getElem?_getD, List.getElem?_eq_none (by rw [pairG_len]; omega)]
  rfl
theorem mem_G {k N : Nat} {t : List Nat} {p q : Nat} (hN : 0 < N) : q ∈ (pairG k N t).getD p [] ↔ p < N * N ∧ edgeB k N t p q = true := by
  by_cases hp : p < N * N
  · rw [pairG_at hp, mem_row hN]; exact ⟨fun h => ⟨hp, h⟩, fun h => h.2⟩
  · rw [pairG_out hp]; exact ⟨fun h => by simp at h, fun h => absurd h.1 hp⟩
/-! ### the pairs along two words -/
/-- The node of word a at place i. -/
def nd (k m : Nat) (a : List Nat) (i : Nat) : Nat := wval k (win a i m)
end PairP
end Go.Proofs.YtedmmmlahpmmoaaGreatDoor

namespace Go.Proofs.YtedmmmlahpmmoaaGreatDoor
open Go.RowKit NatP

def wv (x : Nat) : Value := .int .u32 (x : Int)
abbrev W32 : Nat := 4294967296
def limbs (v : Nat) : List Nat := digs W32 v
def val (l : List Nat) : Nat := valB W32 l
theorem w32 : 2 ≤ W32 := by decide
theorem own_take {w : World} {base e n c m : Nat} {A : Option Addr} {xs : List Value} (h : w.ownsRow base e 1 (.slice A n c) n xs) (hm : m ≤ n) : w.ownsRow base e 1 (.slice A m c) m (xs.take m) := by
  have hl : xs.length = n := by simpa using h.1
  refine ⟨by simp; omega, ?_⟩
  rcases h.2 with ⟨hv, hn⟩ | ⟨g, cap, cur, hv, hb, hg, hnc, hcm, hsz, htake⟩
  · injection hv with h1 h2 h3
    subst h1 h3 hn
    exact .inl ⟨by rw [show m = 0 from by omega], by omega⟩
  · injection hv with h1 h2 h3
    subst h1 h3
    refine .inr ⟨g, c, cur, rfl, hb, hg, by omega, hcm, hsz, ?_⟩
    rw [← htake, List.take_take]
    congr 1
    omega
end Go.Proofs.YtedmmmlahpmmoaaGreatDoor

namespace Go.Proofs.YtedmmmlahpmmoaaGreatDoor
open Go.RowKit NatP

/-- Behind k limbs of a sum. -/
structure AddTo (xs ys out : List Nat) (k cr : Nat) : Prop where
  ok : OkB W32 out
  zero : ∀ j x, k ≤ j → out[j]? = some x → x = 0
  cr1 : cr ≤ 1
  eq : val out + W32 ^ k * cr = val (xs.take k) + val (ys.take k)
theorem AddTo.step {xs ys out : List Nat} {k cr x : Nat} (h : AddTo xs ys out k cr) (hx : OkB W32 xs) (hy : OkB W32 ys) (hxk : xs[k]? = some x) (hk : k < out.length) :
    AddTo xs ys (out.set k ((x + ys.getD k 0 + cr) % W32)) (k + 1) ((x + ys.getD k 0 + cr) / W32) := by
  obtain ⟨z, hz⟩ : ∃ z, out[k]? = some z := ⟨_, List.getElem?_eq_getElem hk⟩
  have hz0 := h.zero k z (Nat.le_refl _) hz
  subst hz0
  have hxl : x < W32 := hx x (List.mem_of_getElem? hxk)
  have hyl : ys.getD k 0 < W32 := ok_getD (by decide) hy k
  refine ⟨ok_set h.ok (Nat.mod_lt _ (by decide)), fun j y hj hy' => ?_, ?_, ?_⟩
  · rw [List.getElem?_set_ne (by omega)] at hy'
    exact h.zero j y (by omega) hy'
  · have := h.cr1
    unfold W32 at *
    omega
  · have e1 := val_set (b := W32) (v := (x + ys.getD k 0 + cr) % W32) hz
    have e2 := val_take_succ W32 xs k
    have e3 := val_take_succ W32 ys k
    have e4 : xs.getD k 0 = x := by rw [List.getD_eq_getElem?_getD, hxk]; rfl
    have e5 := h.eq
    have e6 := Nat.mod_add_div (x + ys.getD k 0 + cr) W32
    unfold val at *
    rw [e4] at e2
    rw [e2, e3]
    generalize ys.getD k 0 = y at *
    generalize (x + y + cr) % W32 = r at *
    generalize (x + y + cr) / W32 = d at *
    generalize valB W32 (out.set k r) = V at *
    rw [Nat.mul_zero, Nat.add_zero] at e1
    rw [Nat.pow_succ]
    have e7 : W32 ^ k * (r + W32 * d) = W32 ^ k * (x + y + cr) := by rw [e6]
    rw [Nat.mul_add, Nat.mul_add, Nat.mul_add, ← Nat.mul_assoc] at e7
    omega

end Go.Proofs.YtedmmmlahpmmoaaGreatDoor

namespace Go.Proofs.YtedmmmlahpmmoaaGreatDoor
open Go.RowKit NatP

theorem limbs_len_of_lt : ∀ (k v : Nat), v < W32 ^ k → (limbs v).length ≤ k := by
  intro k
  induction k with
  | zero => intro v h; have : v = 0 := by simpa using h
            subst this; simp [limbs, digs_zero]
  | succ k ih =>
    intro v h
    rcases Nat.eq_zero_or_pos v with rfl | hv
    · simp [limbs, digs_zero]
    · unfold limbs at *
      rw [digs_pos w32 hv, List.length_cons]
      have : v / W32 < W32 ^ k := Nat.div_lt_of_lt_mul (by rw [Nat.mul_comm, ← Nat.pow_succ]; exact h)
      have := ih _ this
      omega
end Go.Proofs.YtedmmmlahpmmoaaGreatDoor

namespace Go.Proofs.YtedmmmlahpmmoaaGreatDoor
open Go.RowKit NatP

end Go.Proofs.YtedmmmlahpmmoaaGreatDoor

namespace Go.Proofs.YtedmmmlahpmmoaaGreatDoor
open Go.RowKit NatP

/-- Behind i limbs of the first factor. -/
structure MulTo (xs ys out : List Nat) (n2 i : Nat) : Prop where
  ok : OkB W32 out
  zero : ∀ j x, i + n2 ≤ j → out[j]? = some x → x = 0
  eq : val out = val (xs.take i) * val ys
/-- And behind j limbs of the second. -/
structure MulIn (xs ys out : List Nat) (n2 i x j cr : Nat) : Prop where
  ok : OkB W32 out
  zero : ∀ j x, i + n2 ≤ j → out[j]? = some x → x = 0
  cr1 : cr < W32
  eq : val out + W32 ^ (i + j) * cr = val (xs.take i) * val ys + W32 ^ i * (x * val (ys.take j))

theorem MulTo.start {xs ys out : List Nat} {n2 i x : Nat} (h : MulTo xs ys out n2 i) : MulIn xs ys out n2 i x 0 0 :=
  ⟨h.ok, h.zero, by decide, by rw [h.eq]; simp [val, valB]⟩
theorem mul_small {x y o c : Nat} (hx : x < W32) (hy : y < W32) (ho : o < W32) (hc : c < W32) : x * y + o + c < W32 * W32 := by
  have h1 : x * y ≤ (W32 - 1) * (W32 - 1) := Nat.mul_le_mul (by omega) (by omega)
  unfold W32 at *
  omega
theorem MulIn.step {xs ys out : List Nat} {n2 i x j cr y o : Nat} (h : MulIn xs ys out n2 i x j cr) (hx : x < W32) (hy : OkB W32 ys) (hyj : ys[j]? = some y) (hjn : j < n2) (hoj : out[i + j]? = some o) :
    MulIn xs ys (out.set (i + j) ((x * y + o + cr) % W32)) n2 i x (j + 1) ((x * y + o + cr) / W32) := by
  have hyl : y < W32 := hy y (List.mem_of_getElem? hyj)
  have hol : o < W32 := h.ok o (List.mem_of_getElem? hoj)
  refine ⟨ok_set h.ok (Nat.mod_lt _ (by decide)), fun k z hk hz => ?_, ?_, ?_⟩
  · rw [List.getElem?_set_ne (by omega)] at hz
    exact h.zero k z hk hz
  · exact Nat.div_lt_of_lt_mul (mul_small hx hyl hol h.cr1)
  · have e1 := val_set (b := W32) (v := (x * y + o + cr) % W32) hoj
    have e3 := val_take_succ W32 ys j
    have e4 : ys.getD j 0 = y := by rw [List.getD_eq_getElem?_getD, hyj]; rfl
    have e5 := h.eq
    have e6 := Nat.mod_add_div (x * y + o + cr) W32
    unfold val at *
    rw [e4] at e3
    rw [e3, Nat.mul_add x, Nat.mul_add (W32 ^ i), ← Nat.add_assoc i, ← Nat.add_assoc (valB W32 (List.take i xs) * valB W32 ys), ← e5, Nat.pow_succ]
    generalize (x * y + o + cr) % W32 = r at *
    generalize (x * y + o + cr) / W32 = d at *
    have e7 : W32 ^ (i + j) * (r + W32 * d) = W32 ^ (i + j) * (x * y + o + cr) := by rw [e6]
    have e8 : W32 ^ i * (x * (W32 ^ j * y)) = W32 ^ (i + j) * (x * y) := by
      rw [Nat.pow_add, Nat.mul_assoc, Nat.mul_left_comm x]
    rw [e8]
    rw [Nat.mul_add, Nat.mul_add, Nat.mul_add, ← Nat.mul_assoc] at e7
    omega
theorem MulIn.stop {xs ys out : List Nat} {n2 i x cr o : Nat} (h : MulIn xs ys out n2 i x n2 cr) (hxi : xs[i]? = some x) (hl : ys.length = n2) (ho : out[i + n2]? = some o) :
    MulTo xs ys (out.set (i + n2) cr) n2 (i + 1) := by
  refine ⟨ok_set h.ok h.cr1, fun k z hk hz => ?_, ?_⟩
  · rw [List.getElem?_set_ne (by omega)] at hz
    exact h.zero k z (by omega) hz
  · have e1 := val_set (b := W32) (v := cr) ho
    have e2 := val_take_succ W32 xs i
    have e4 : xs.getD i 0 = x := by rw [List.getD_eq_getElem?_getD, hxi]; rfl
    have e5 := h.eq
    have e6 := h.zero _ o (Nat.le_refl _) ho
    subst e6
    rw [List.take_of_length_le (l := ys) (by omega)] at e5
    unfold val at *
    rw [e2, e4, Nat.add_mul]
    rw [Nat.mul_zero, Nat.add_zero] at e1
    rw [e1, e5, Nat.mul_assoc]

end Go.Proofs.YtedmmmlahpmmoaaGreatDoor

namespace Go.Proofs.YtedmmmlahpmmoaaGreatDoor
open Go.RowKit NatP

/-- A number's rest at one limb after the other, the highest first. -/
structure OverTo (xs out : List Nat) (d m rest : Nat) : Prop where
  len : out.length = xs.length
  ok : OkB W32 out
  rlt : rest < d
  zero : ∀ j x, j < m → out[j]? = some x → x = 0
  eq : val xs = val out * d + W32 ^ m * rest + val (xs.take m)
theorem OverTo.start {xs : List Nat} {d : Nat} (hd : 0 < d) : OverTo xs (List.replicate xs.length 0) d xs.length 0 :=
  ⟨by simp, ok_zeros (by decide) _, hd, fun j x _ hx => List.eq_of_mem_replicate (List.mem_of_getElem? hx), by simp [val, val_zeros]⟩
theorem OverTo.step {xs out : List Nat} {d k rest x : Nat} (h : OverTo xs out d (k + 1) rest) (hx : xs[k]? = some x) (hxl : x < W32) :
    OverTo xs (out.set k ((rest * W32 + x) / d)) d k ((rest * W32 + x) % d) := by
  have hk : k < out.length := by rw [h.len]; exact (List.getElem?_eq_some_iff.1 hx).1
  obtain ⟨z, hz⟩ : ∃ z, out[k]? = some z := ⟨_, List.getElem?_eq_getElem hk⟩
  have hz0 := h.zero k z (Nat.lt_succ_self k) hz
  subst hz0
  have hd : 0 < d := by have := h.rlt; omega
  have hq : (rest * W32 + x) / d < W32 := Nat.div_lt_of_lt_mul (by
    have : (rest + 1) * W32 ≤ d * W32 := Nat.mul_le_mul_right _ h.rlt
    rw [Nat.add_mul, Nat.one_mul] at this
    omega)
  refine ⟨by simp [h.len], ok_set h.ok hq, Nat.mod_lt _ hd, fun j y hj hy => ?_, ?_⟩
  · rw [List.getElem?_set_ne (by omega)] at hy
    exact h.zero j y (by omega) hy
  · have e1 := val_set (b := W32) (v := (rest * W32 + x) / d) hz
    have e2 := val_take_succ W32 xs k
    have e3 : xs.getD k 0 = x := by rw [List.getD_eq_getElem?_getD, hx]; rfl
    have e4 := h.eq
    have e5 := Nat.mod_add_div (rest * W32 + x) d
    unfold val at *
    rw [e3] at e2
    rw [e2] at e4
    generalize (rest * W32 + x) / d = q at *
    generalize (rest * W32 + x) % d = r at *
    rw [Nat.mul_zero, Nat.add_zero] at e1
    rw [e1, e4, Nat.pow_succ]
    have e6 : W32 ^ k * (r + d * q) = W32 ^ k * (rest * W32 + x) := by rw [e5]
    rw [Nat.mul_add, Nat.mul_add] at e6
    have e7 : W32 ^ k * (d * q) = W32 ^ k * q * d := by rw [Nat.mul_comm d q, Nat.mul_assoc]
    have e8 : W32 ^ k * (rest * W32) = W32 ^ k * W32 * rest := by rw [Nat.mul_comm rest, Nat.mul_assoc]
    rw [Nat.add_mul]
    omega

end Go.Proofs.YtedmmmlahpmmoaaGreatDoor

namespace Go.Proofs.YtedmmmlahpmmoaaGreatDoor
namespace NatP

def dch (d : Nat) : UInt8 := UInt8.ofNat (48 + d)
end NatP
end Go.Proofs.YtedmmmlahpmmoaaGreatDoor

namespace Go.Proofs.YtedmmmlahpmmoaaGreatDoor
open Go.RowKit NatP

theorem val_lt_pow {n : Nat} {xs : List Nat} (h : OkB W32 xs) (hl : xs.length = n) : val xs < W32 ^ n := by
  have := val_lt w32 h
  rwa [hl] at this
/-- The slice reads as limbs of value v. -/
def Num (w : World) (A : Option Addr) (n c v : Nat) : Prop := ∃ xs, n ≤ c ∧ c ≤ maxLen ∧ Sl w A n (xs.map wv) ∧ OkB W32 xs ∧ val xs = v
theorem Num.below {w w' : World} {A : Option Addr} {n c v : Nat} (h : Num w A n c v) (hb : Below w.heap.size w w') : Num w' A n c v := by
  obtain ⟨xs, h1, h2, h3, h4, h5⟩ := h
  exact ⟨xs, h1, h2, h3.below hb, h4, h5⟩
theorem Num.alloc {w : World} {A : Option Addr} {n c v : Nat} (h : Num w A n c v) (o : Obj) : Num (w.alloc o) A n c v := by
  obtain ⟨xs, h1, h2, h3, h4, h5⟩ := h
  exact ⟨xs, h1, h2, h3.alloc o, h4, h5⟩
theorem Num.nil (w : World) : Num w none 0 0 0 := ⟨[], Nat.le_refl _, Nat.zero_le _, Sl.nil _ _, fun x hx => by simp at hx, rfl⟩
theorem Num.lt {w : World} {A : Option Addr} {n c v : Nat} (h : Num w A n c v) : v < W32 ^ n := by
  obtain ⟨xs, h1, h2, h3, h4, h5⟩ := h
  rw [← h5]
  exact val_lt_pow h4 (by simpa using h3.1)
theorem Num.len {w : World} {A : Option Addr} {n c v : Nat} (h : Num w A n c v) : (limbs v).length ≤ n := limbs_len_of_lt _ _ h.lt
/-- A list of slices, as values. -/
def slv (x : Option Addr × Nat × Nat) : Value := .slice x.1 x.2.1 x.2.2
end Go.Proofs.YtedmmmlahpmmoaaGreatDoor
