/- The types' rows of the program's table. Closed facts. -/
import Derived.Test.YtnahcgndidbliaaDoorBase
namespace Go.Proofs.YtnahcgndidbliaaDoor

theorem tInts : ElemT Tryd.prog 22 3 (.int .i64 0) 8 := ⟨Tryd.underlying22, by kernel_rfl, rfl⟩
theorem tIntss : ElemT Tryd.prog 69 22 (.slice none 0 0) 24 := ⟨Tryd.underlying69, by kernel_rfl, rfl⟩
theorem tBytes : ElemT Tryd.prog 92 5 (.int .u8 0) 1 := ⟨Tryd.underlying92, by kernel_rfl, rfl⟩
theorem tNat : ElemT Tryd.prog 86 114 (.int .u32 0) 4 := ⟨Tryd.underlying86, by kernel_rfl, rfl⟩

end Go.Proofs.YtnahcgndidbliaaDoor
