/- The types' rows of the program's table. Closed facts. -/
import Derived.Test.YtfgjcdfmlpdkaaaGreatDoorBase
namespace Go.Proofs.YtfgjcdfmlpdkaaaGreatDoor

theorem tInts : ElemT Tryz.prog 22 3 (.int .i64 0) 8 := ⟨Tryz.underlying22, by kernel_rfl, rfl⟩
theorem tBytes : ElemT Tryz.prog 50 5 (.int .u8 0) 1 := ⟨Tryz.underlying50, by kernel_rfl, rfl⟩
theorem tNat : ElemT Tryz.prog 47 83 (.int .u32 0) 4 := ⟨Tryz.underlying47, by kernel_rfl, rfl⟩

end Go.Proofs.YtfgjcdfmlpdkaaaGreatDoor
