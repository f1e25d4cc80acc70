/- What strings.TrimLeft returns at the cutset "0". No condition. Bytes that the call owns, as a text. Plain lemmas over memory. No condition. -/
import Derived.Test.YtlajiblhnkognaaDoorBase
import Derived.Lib.Strings
import Derived.Lib.Walk
import Derived.Lib.TrimByte
import Derived.Laws.Strings3
import Derived.Test.YtlajiblhnkognaaDoorTypes
import Derived.Laws.BytesArg
namespace Go.Proofs.YtlajiblhnkognaaDoor
open Go.RowKit

end Go.Proofs.YtlajiblhnkognaaDoor

namespace Go.Proofs.YtlajiblhnkognaaDoor
open Go.RowKit

def bv (b : UInt8) : Value := .int .u8 (b.toNat : Int)

theorem run_own_string {P : Program} (w : World) (src dst e : TypeId) (hs : P.underlying src = some (.slice e)) (he : P.underlying e = some (.int .u8)) (hd : P.underlying dst = some .string)
    {base : Nat} {A : Option Addr} {n c : Nat} {bs : List UInt8} (h : w.ownsRow base e 1 (.slice A n c) n (bs.map bv)) :
    (convert src dst (.slice A n c)).run P w = .ok (.string ⟨bs.toArray⟩) w := by
  have hl : bs.length = n := by simpa using h.1
  have hsl := Sl.of_own h
  cases A with
  | none =>
    have hb : bs = [] := by
      cases bs with
      | nil => rfl
      | cons b bs =>
        obtain ⟨ad, e', _⟩ := hsl.2 0 (bv b) (by simp)
        cases e'
    subst hb
    rw [run_convert_bytes_nil w src e hs he n c dst hd]
    rfl
  | some ad =>
    have hcells : (loadCells ad n).run P w = .ok ((bs.map (fun b => (b.toNat : Int))).map (Value.int .u8)).toArray w := by
      have := run_loadCells_list (P := P) w ad (bs.map bv) (fun j v hj => by
        obtain ⟨ad', e', hc⟩ := hsl.2 j v hj
        cases e'
        exact hc)
      rw [List.length_map, hl] at this
      rw [this, List.map_map]
      rfl
    rw [run_convert_bytes_string w src dst e _ n c hs he hd, run_bytesToString w _ n c _ hcells, foldl_push_bytes]
    congr 1
    congr 1
    simp only [ByteArray.empty, ByteArray.emptyWithCapacity, List.map_map]
    have : (bs.map ((fun (n : Int) => UInt8.ofNat n.toNat) ∘ fun b => (b.toNat : Int))) = bs := by
      conv => rhs; rw [← List.map_id bs]
      apply List.map_congr_left
      intro b _
      simp
    rw [this]
    simp
    rfl

end Go.Proofs.YtlajiblhnkognaaDoor
