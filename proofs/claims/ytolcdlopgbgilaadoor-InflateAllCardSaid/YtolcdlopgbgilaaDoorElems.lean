/- What the program's tables say of its slice types. -/
import Derived.Test.YtolcdlopgbgilaaDoorRows
import Derived.Test.YtolcdlopgbgilaaDoorBase
namespace Go.Proofs.YtolcdlopgbgilaaDoor
open Go.RowKit Go.Dray

theorem el_int : El Tryd.prog 61 3 (.int .i64 0) 1 8 := ⟨Tryd.underlying61, by kernel_rfl, rfl, by omega⟩
theorem el_byte : El Tryd.prog 22 5 (.int .u8 0) 1 1 := ⟨Tryd.underlying22, by kernel_rfl, rfl, by omega⟩

end Go.Proofs.YtolcdlopgbgilaaDoor
