/- The types' rows of the program's table. Closed facts. -/
import Derived.Test.YtmephmijeepcnaaDoorBase
namespace Go.Proofs.YtmephmijeepcnaaDoor

theorem tInts : ElemT Tryd.prog 22 3 (.int .i64 0) 8 := ⟨Tryd.underlying22, by kernel_rfl, rfl⟩
theorem tIntss : ElemT Tryd.prog 55 22 (.slice none 0 0) 24 := ⟨Tryd.underlying55, by kernel_rfl, rfl⟩
theorem tU64s : ElemT Tryd.prog 65 70 (.int .u64 0) 8 := ⟨Tryd.underlying65, by kernel_rfl, rfl⟩
theorem tU64ss : ElemT Tryd.prog 62 65 (.slice none 0 0) 24 := ⟨Tryd.underlying62, by kernel_rfl, rfl⟩
theorem tBytes : ElemT Tryd.prog 91 5 (.int .u8 0) 1 := ⟨Tryd.underlying91, by kernel_rfl, rfl⟩

end Go.Proofs.YtmephmijeepcnaaDoor
