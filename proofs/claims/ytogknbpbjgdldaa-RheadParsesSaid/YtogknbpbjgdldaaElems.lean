/- What the program's tables say of its slice types. -/
import Derived.Test.YtogknbpbjgdldaaRows
import Derived.Test.YtogknbpbjgdldaaBase
namespace Go.Proofs.Ytogknbpbjgdldaa
open Go.RowKit Go.Dray

theorem el_int : El Try.prog 37 3 (.int .i64 0) 1 8 := ⟨Try.underlying37, by kernel_rfl, rfl, by omega⟩
theorem el_byte : El Try.prog 25 5 (.int .u8 0) 1 1 := ⟨Try.underlying25, by kernel_rfl, rfl, by omega⟩

end Go.Proofs.Ytogknbpbjgdldaa
