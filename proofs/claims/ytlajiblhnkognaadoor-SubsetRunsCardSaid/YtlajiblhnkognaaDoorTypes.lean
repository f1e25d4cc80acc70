/- The types' rows of the program's table. Closed facts. -/
import Derived.Test.YtlajiblhnkognaaDoorBase
namespace Go.Proofs.YtlajiblhnkognaaDoor

theorem tInts : ElemT Tryd.prog 22 3 (.int .i64 0) 8 := ⟨Tryd.underlying22, by kernel_rfl, rfl⟩
theorem tBools : ElemT Tryd.prog 53 4 (.bool false) 1 := ⟨Tryd.underlying53, by kernel_rfl, rfl⟩
theorem tBoolss : ElemT Tryd.prog 76 53 (.slice none 0 0) 24 := ⟨Tryd.underlying76, by kernel_rfl, rfl⟩
theorem tIntss : ElemT Tryd.prog 40 22 (.slice none 0 0) 24 := ⟨Tryd.underlying40, by kernel_rfl, rfl⟩
theorem tU64s : ElemT Tryd.prog 127 130 (.int .u64 0) 8 := ⟨Tryd.underlying127, by kernel_rfl, rfl⟩
theorem tU64ss : ElemT Tryd.prog 124 127 (.slice none 0 0) 24 := ⟨Tryd.underlying124, by kernel_rfl, rfl⟩
theorem tBytes : ElemT Tryd.prog 158 5 (.int .u8 0) 1 := ⟨Tryd.underlying158, by kernel_rfl, rfl⟩

end Go.Proofs.YtlajiblhnkognaaDoor
