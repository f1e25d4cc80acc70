/- A list filled to a place. Plain lemmas. No condition. The package's name in errors. No condition. -/
import Derived.Test.YtlajiblhnkognaaDoorBase
namespace Go.Proofs.YtlajiblhnkognaaDoor
theorem fillTo_at' {α : Type} {l : List α} {n k : Nat} {z : α} (hk : k < n) (hl : k ≤ l.length) : (fillTo l n z k)[k]? = some z := by
  unfold fillTo
  have h : (l.take k).length = k := by rw [List.length_take]; omega
  rw [List.getElem?_append_right (by omega), h, Nat.sub_self, List.getElem?_replicate, if_pos (by omega)]
end Go.Proofs.YtlajiblhnkognaaDoor

namespace Go.Proofs.YtlajiblhnkognaaDoor
def sSubset : ByteArray := ⟨#[115, 117, 98, 115, 101, 116]⟩
end Go.Proofs.YtlajiblhnkognaaDoor
