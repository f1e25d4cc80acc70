/- The types' rows of the program's table. Closed facts. -/
import Derived.Test.YtfgnghgmffaepaaDoorBase
namespace Go.Proofs.YtfgnghgmffaepaaDoor

theorem tInts : ElemT Tryd.prog 22 3 (.int .i64 0) 8 := ⟨Tryd.underlying22, by kernel_rfl, rfl⟩
theorem tBytes : ElemT Tryd.prog 87 5 (.int .u8 0) 1 := ⟨Tryd.underlying87, by kernel_rfl, rfl⟩
theorem tNat : ElemT Tryd.prog 81 109 (.int .u32 0) 4 := ⟨Tryd.underlying81, by kernel_rfl, rfl⟩

end Go.Proofs.YtfgnghgmffaepaaDoor
