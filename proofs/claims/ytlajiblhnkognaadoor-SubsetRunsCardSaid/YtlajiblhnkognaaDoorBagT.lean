/- A bag's blocks told by their kinds: what is of other kinds stays apart from it. Condition: as the bag's contracts say. -/
import Derived.Test.YtlajiblhnkognaaDoorBagErr
import Derived.Test.YtlajiblhnkognaaDoorPush3
namespace Go.Proofs.YtlajiblhnkognaaDoor
open Go.RowKit BagP

/-- The block is of one of a bag's kinds. -/
def BT (w : World) (k : Nat) : Prop :=
  (∃ cs e, w.heap[k]? = some (.cells cs e (0, 0)) ∧ (e = 126 ∨ e = 127 ∨ e = 130)) ∨ ∃ es c, w.heap[k]? = some (.map es c)
theorem notBT_blk {w : World} {b e : Nat} {cs : Array Value} (h : w.heap[b]? = some (.cells cs e (0, 0))) (he : ¬ (e = 126 ∨ e = 127 ∨ e = 130)) : ¬ BT w b := by
  rintro (⟨cs', e', h', he'⟩ | ⟨es, c, h'⟩)
  · rw [h] at h'
    injection h' with h'
    injection h' with _ h'
    subst h'
    exact he he'
  · rw [h] at h'
    cases h'
theorem notBT_own {w : World} {base e n g : Nat} {v : Value} {xs : List Value} (h : w.ownsRow base e 1 v n xs) (he : ¬ (e = 126 ∨ e = 127 ∨ e = 130)) (hg : v.ownBlock = some g) : ¬ BT w g := by
  obtain ⟨cs, hc⟩ := own_block h hg
  exact notBT_blk hc he
/-- A bag's blocks, told by their kinds, from B on. -/
def BOwn (w : World) (B k : Nat) : Prop := BT w k ∧ B ≤ k
def BagT (w : World) (B : Nat) (p : Value) (n : Nat) (S : List (List Nat)) : Prop := BagIs w p n S (BOwn w B)
theorem BagIs.bt {w : World} {B : Nat} {p : Value} {n : Nat} {S : List (List Nat)} {O : Nat → Prop} (h : BagIs w p n S O) (hO : ∀ k, O k → B ≤ k) : BagT w B p n S := by
  obtain ⟨bb, mb, sv, rows, D, hp, hb⟩ := h
  refine ⟨bb, mb, sv, rows, D, hp, { hb with row := fun i l hl => ?_, fb := ⟨.inl ⟨_, _, hb.blk, .inl rfl⟩, hO _ hb.fb⟩, fm := ⟨?_, hO _ hb.fm⟩, fs := fun g hg => ⟨?_, hO _ (hb.fs g hg)⟩ }⟩
  · obtain ⟨v, h1, h2, h3⟩ := hb.row i l hl
    refine ⟨v, h1, h2, fun g hg => ⟨?_, hO _ (h3 g hg)⟩⟩
    obtain ⟨cs, hc⟩ := own_block h2 hg
    exact .inl ⟨cs, _, hc, .inr (.inr rfl)⟩
  · obtain ⟨es, c, hm, _⟩ := hb.map
    exact .inr ⟨es, c, hm⟩
  · obtain ⟨cs, hc⟩ := own_block hb.own hg
    exact .inl ⟨cs, _, hc, .inr (.inl rfl)⟩
theorem BagT.keeps {w w' : World} {B : Nat} {p : Value} {n : Nat} {S : List (List Nat)} {Q : Nat → Prop} (h : BagT w B p n S) (hk : Keeps Q w w') (hq : ∀ b, Q b → ¬ BOwn w B b) : BagT w' B p n S :=
  BagIs.bt (BagIs.keeps h hk (fun k hb hQ => hq k hQ hb)) (fun _ h => h.2)
theorem BagT.below {w w' : World} {B : Nat} {p : Value} {n : Nat} {S : List (List Nat)} (h : BagT w B p n S) (hb : Below w.heap.size w w') : BagT w' B p n S :=
  h.keeps (Keeps.of_pure hb (fun _ => False)) (fun _ hf => hf.elim)
/-- Put of a list of members: the set is there behind it. -/
theorem putT_c {w : World} {B : Nat} {p : Value} {n : Nat} {S : List (List Nat)} (hB : BagT w B p n S) (hBw : B ≤ w.heap.size) (A : Option Addr) (m c : Nat) (xs : List Int) (hm : m ≤ 140737488355328)
    (h : Sl w A m (xs.map (Value.int .i64))) (hx : ∀ x ∈ xs, 0 ≤ x ∧ x < (n : Int)) (hroom : bitsOf n xs ∈ S ∨ S.length < 4096) :
    Calls Tryd.prog 48 #[p, .slice A m c] w fun e w' => e = .returned (.tuple #[.int .i64 (((addS S (bitsOf n xs)).idxOf (bitsOf n xs) : Nat) : Int), .bool (!decide (bitsOf n xs ∈ S)), .nilIface]) ∧
      BagT w' B p n (addS S (bitsOf n xs)) ∧ Keeps (BOwn w B) w w' :=
  (Put_c hB A m c xs hm h hx hroom).mono fun e w' ⟨h1, h2, h3⟩ => ⟨h1, h2.bt (fun k hk => hk.elim (fun h => h.2) (fun h => by omega)), h3⟩
end Go.Proofs.YtlajiblhnkognaaDoor
