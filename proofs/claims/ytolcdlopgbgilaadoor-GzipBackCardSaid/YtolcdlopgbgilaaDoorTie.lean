/-
  DERIVED. GIVEN WITH THE SEED: THE PROGRAM's TIES (one call each: nine closed facts by the kernel) AND EACH ROW's TIE, after the 31st guide's Derived/Test/Toyas{Tie, Card}.lean. No idea stands in it: it is a product of the set-up. Laid BY PROGRAM, IN A SANDBOX (cutbox-door.mjs). By AI agents, Wed Nov 11 2026. No macro, syntax, notation, axiom, sorry.
-/
import Derived.Test.YtolcdlopgbgilaaDoorRows
import Derived.LaidByTextLater
import Derived.SevenTiedAt
import Derived.LaidSub
import Derived.LaidOnce
namespace Go.Proofs.YtolcdlopgbgilaaDoor
open Go
set_option maxRecDepth 100000
theorem seatTie1 : Tryd.prog.laidByTextLater [("drayage/deflate.order", Rows.laid_drayage_deflate_order), ("drayage/inflate.order", Rows.laid_drayage_inflate_order)] [.data, .data] true :=
  Program.laidByTextLater_by_one 19 8 20 (by kernel_rfl) (by kernel_rfl) (by kernel_rfl) (by kernel_rfl) (by kernel_rfl) (by kernel_rfl) (fun _ _ => by kernel_rfl)
theorem noOwnUnsafe : Tryd.pinned.checked.prog.headLifts.contains "ownunsafe" = false := by kernel_rfl
theorem tie : Tryd.prog.laidByTextLater [("drayage/inflate.order", Rows.laid_drayage_inflate_order)] [.data] true :=
  Program.laidByTextLater.sub seatTie1 ["drayage/inflate.order"] (by kernel_rfl) (by kernel_rfl)
theorem inflateAll_row_tie : Rows.inflateAllRow.laidByTextAt .later Tryd.pinned [.data] true :=
  OpenClaim.laidByTextAt_later rfl rfl tie noOwnUnsafe
theorem inflateMost_row_tie : Rows.inflateMostRow.laidByTextAt .later Tryd.pinned [.data] true :=
  OpenClaim.laidByTextAt_later rfl rfl tie noOwnUnsafe
theorem inflateShort_row_tie : Rows.inflateShortRow.laidByTextAt .later Tryd.pinned [.data] true :=
  OpenClaim.laidByTextAt_later rfl rfl tie noOwnUnsafe
theorem tie2 : Tryd.prog.laidByTextLater [("drayage/deflate.order", Rows.laid_drayage_deflate_order)] [.data] true :=
  Program.laidByTextLater.sub seatTie1 ["drayage/deflate.order"] (by kernel_rfl) (by kernel_rfl)
theorem deflateForms_row_tie : Rows.deflateFormsRow.laidByTextAt .later Tryd.pinned [.data] true :=
  OpenClaim.laidByTextAt_later rfl rfl tie2 noOwnUnsafe
theorem tie3 : Tryd.prog.laidByTextLater [("drayage/deflate.order", Rows.laid_drayage_deflate_order), ("drayage/inflate.order", Rows.laid_drayage_inflate_order)] [.data, .data] true :=
  Program.laidByTextLater.sub seatTie1 ["drayage/deflate.order", "drayage/inflate.order"] (by kernel_rfl) (by kernel_rfl)
theorem deflateBack_row_tie : Rows.deflateBackRow.laidByTextAt .later Tryd.pinned [.data, .data] true :=
  OpenClaim.laidByTextAt_later rfl rfl tie3 noOwnUnsafe
theorem gzipPacks_row_tie : Rows.gzipPacksRow.laidByTextAt .later Tryd.pinned [.data, .data] true :=
  OpenClaim.laidByTextAt_later rfl rfl tie3 noOwnUnsafe
theorem gzipBack_row_tie : Rows.gzipBackRow.laidByTextAt .later Tryd.pinned [.data, .data] true :=
  OpenClaim.laidByTextAt_later rfl rfl tie3 noOwnUnsafe
theorem gzipTells_row_tie : Rows.gzipTellsRow.laidByTextAt .later Tryd.pinned [.data, .data] true :=
  OpenClaim.laidByTextAt_later rfl rfl tie3 noOwnUnsafe
theorem inflateAllUpto_row_tie : Rows.inflateAllUptoRow.laidByTextAt .later Tryd.pinned [.data] true :=
  OpenClaim.laidByTextAt_later rfl rfl tie noOwnUnsafe
theorem inflateMostUpto_row_tie : Rows.inflateMostUptoRow.laidByTextAt .later Tryd.pinned [.data] true :=
  OpenClaim.laidByTextAt_later rfl rfl tie noOwnUnsafe
theorem inflateShortUpto_row_tie : Rows.inflateShortUptoRow.laidByTextAt .later Tryd.pinned [.data] true :=
  OpenClaim.laidByTextAt_later rfl rfl tie noOwnUnsafe
theorem deflateFormsUpto_row_tie : Rows.deflateFormsUptoRow.laidByTextAt .later Tryd.pinned [.data] true :=
  OpenClaim.laidByTextAt_later rfl rfl tie2 noOwnUnsafe
theorem deflateBackUpto_row_tie : Rows.deflateBackUptoRow.laidByTextAt .later Tryd.pinned [.data, .data] true :=
  OpenClaim.laidByTextAt_later rfl rfl tie3 noOwnUnsafe
theorem gzipPacksUpto_row_tie : Rows.gzipPacksUptoRow.laidByTextAt .later Tryd.pinned [.data, .data] true :=
  OpenClaim.laidByTextAt_later rfl rfl tie3 noOwnUnsafe
theorem gzipBackUpto_row_tie : Rows.gzipBackUptoRow.laidByTextAt .later Tryd.pinned [.data, .data] true :=
  OpenClaim.laidByTextAt_later rfl rfl tie3 noOwnUnsafe
theorem gzipTellsUpto_row_tie : Rows.gzipTellsUptoRow.laidByTextAt .later Tryd.pinned [.data, .data] true :=
  OpenClaim.laidByTextAt_later rfl rfl tie3 noOwnUnsafe
end Go.Proofs.YtolcdlopgbgilaaDoor
