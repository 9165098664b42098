/- What the program's tables say of its slice types. -/
import Derived.Test.YtndgijcjpkoooaaRows
import Derived.Test.YtndgijcjpkoooaaBase
namespace Go.Proofs.Ytndgijcjpkoooaa
open Go.RowKit Go.Dray

theorem el_int : El Try.prog 22 3 (.int .i64 0) 1 8 := ⟨Try.underlying22, by kernel_rfl, rfl, by omega⟩
theorem el_byte : El Try.prog 29 5 (.int .u8 0) 1 1 := ⟨Try.underlying29, by kernel_rfl, rfl, by omega⟩

end Go.Proofs.Ytndgijcjpkoooaa
