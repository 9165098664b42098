/- The three sums of "abc", reckoned. -/
import Derived.Test.YthojhmkahjpflaaDoorDigD
import Derived.Test.YthojhmkahjpflaaDoorDigA
namespace Go.Proofs.YthojhmkahjpflaaDoor
open Go.RowKit Go.Dray

theorem abc_crc : not32 (crcL 4294967295 [49, 50, 51, 52, 53, 54, 55, 56, 57]) = 3421780262 := by decide +kernel
theorem abc1 : (sumK 1 [97, 98, 99]).take 4 = [144, 1, 80, 152] := by decide +kernel
theorem abc2 : (sumK 2 [97, 98, 99]).take 4 = [169, 153, 62, 54] := by decide +kernel
theorem abc3 : (sumK 3 [97, 98, 99]).take 4 = [186, 120, 22, 191] := by decide +kernel

end Go.Proofs.YthojhmkahjpflaaDoor
