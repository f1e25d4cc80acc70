/- The types' rows of the program's table. Closed facts. -/
import Derived.Test.YtkghilmdoabodaaDoorBase
namespace Go.Proofs.YtkghilmdoabodaaDoor

theorem tInts : ElemT Tryd.prog 48 3 (.int .i64 0) 8 := ⟨Tryd.underlying48, by kernel_rfl, rfl⟩
theorem tIntss : ElemT Tryd.prog 61 48 (.slice none 0 0) 24 := ⟨Tryd.underlying61, by kernel_rfl, rfl⟩
theorem tU64s : ElemT Tryd.prog 115 26 (.int .u64 0) 8 := ⟨Tryd.underlying115, by kernel_rfl, rfl⟩
theorem tU64ss : ElemT Tryd.prog 89 115 (.slice none 0 0) 24 := ⟨Tryd.underlying89, by kernel_rfl, rfl⟩
theorem tBytes : ElemT Tryd.prog 119 5 (.int .u8 0) 1 := ⟨Tryd.underlying119, by kernel_rfl, rfl⟩
theorem tNat : ElemT Tryd.prog 25 27 (.int .u32 0) 4 := ⟨Tryd.underlying25, by kernel_rfl, rfl⟩
theorem tNats : ElemT Tryd.prog 28 25 (.slice none 0 0) 24 := ⟨Tryd.underlying28, by kernel_rfl, rfl⟩

end Go.Proofs.YtkghilmdoabodaaDoor
