/- The types' rows of the program's table. Closed facts. -/
import Derived.Test.YtgknhmghljedlaaDoorBase
namespace Go.Proofs.YtgknhmghljedlaaDoor

theorem tInts : ElemT Tryd.prog 45 3 (.int .i64 0) 8 := ⟨Tryd.underlying45, by kernel_rfl, rfl⟩
theorem tBytes : ElemT Tryd.prog 61 5 (.int .u8 0) 1 := ⟨Tryd.underlying61, by kernel_rfl, rfl⟩
theorem tNat : ElemT Tryd.prog 23 37 (.int .u32 0) 4 := ⟨Tryd.underlying23, by kernel_rfl, rfl⟩
theorem tNats : ElemT Tryd.prog 55 23 (.slice none 0 0) 24 := ⟨Tryd.underlying55, by kernel_rfl, rfl⟩

end Go.Proofs.YtgknhmghljedlaaDoor
