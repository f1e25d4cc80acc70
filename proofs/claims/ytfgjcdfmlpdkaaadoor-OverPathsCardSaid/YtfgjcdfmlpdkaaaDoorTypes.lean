/- The types' rows of the program's table. Closed facts. -/
import Derived.Test.YtfgjcdfmlpdkaaaDoorBase
namespace Go.Proofs.YtfgjcdfmlpdkaaaDoor

theorem tInts : ElemT Tryd.prog 22 3 (.int .i64 0) 8 := ⟨Tryd.underlying22, by kernel_rfl, rfl⟩
theorem tBools : ElemT Tryd.prog 98 4 (.bool false) 1 := ⟨Tryd.underlying98, by kernel_rfl, rfl⟩
theorem tBoolss : ElemT Tryd.prog 95 98 (.slice none 0 0) 24 := ⟨Tryd.underlying95, by kernel_rfl, rfl⟩
theorem tIntss : ElemT Tryd.prog 27 22 (.slice none 0 0) 24 := ⟨Tryd.underlying27, by kernel_rfl, rfl⟩
theorem tNat : ElemT Tryd.prog 53 112 (.int .u32 0) 4 := ⟨Tryd.underlying53, by kernel_rfl, rfl⟩

end Go.Proofs.YtfgjcdfmlpdkaaaDoor
