/-
  DERIVED. GIVEN WITH THE SEED: THE CARDS: each row of YtolcdlopgbgilaaDoorRows.lean that lists a variable, with what it lists TIED to the program's text (the seventh form; the later family's looks); each row that meets fmt, with fmt's text TOLD by the authors' own Lean function (tested against real Go, not proved from fmt's source: count such statements apart). THE CARD IS WHAT COUNTS. Prove the row's statement (the work); the ties are given (YtolcdlopgbgilaaDoorTie.lean); close each card by the builder's one call (the guide's Derived/Test/ToyasCard.lean, 'card_holds'). Laid BY PROGRAM, IN A SANDBOX (cutbox-door.mjs). By AI agents, Wed Nov 11 2026. No macro, syntax, notation, axiom, sorry.
-/
import Derived.Test.YtolcdlopgbgilaaDoorRows
import GoSem.ClaimSeven
namespace Go.Proofs.YtolcdlopgbgilaaDoor
namespace Rows

/-- THE TIED CARD OF 'drayagelaw04.InflateAll'. -/
def inflateAllCard : Claim7 := { stood := { row := inflateAllRow, standIns := [], harness := (true, "c9147732db55ced19be2459db2735e5534fa57f0aeee3856fb77b660fbb84141"), looks := false }, kinds := [], alts := [], laidByText := true, laidKinds := [.data], laidTests := true, laidLooks := .later }
def InflateAllCardSaid : Prop := Claim7.holds Tryd.pinned (.plain (OpenSpec.ofChange inflateAllSpec)) inflateAllCard

/-- THE TIED CARD OF 'drayagelaw04.InflateMost'. -/
def inflateMostCard : Claim7 := { stood := { row := inflateMostRow, standIns := [], harness := (true, "c9147732db55ced19be2459db2735e5534fa57f0aeee3856fb77b660fbb84141"), looks := false }, kinds := [], alts := [], laidByText := true, laidKinds := [.data], laidTests := true, laidLooks := .later }
def InflateMostCardSaid : Prop := Claim7.holds Tryd.pinned (.plain (OpenSpec.ofChange inflateMostSpec)) inflateMostCard

/-- THE TIED CARD OF 'drayagelaw04.InflateShort'. -/
def inflateShortCard : Claim7 := { stood := { row := inflateShortRow, standIns := [], harness := (true, "c9147732db55ced19be2459db2735e5534fa57f0aeee3856fb77b660fbb84141"), looks := false }, kinds := [], alts := [], laidByText := true, laidKinds := [.data], laidTests := true, laidLooks := .later }
def InflateShortCardSaid : Prop := Claim7.holds Tryd.pinned (.plain (OpenSpec.ofChange inflateShortSpec)) inflateShortCard

/-- THE TIED CARD OF 'drayagelaw05.DeflateForms'. -/
def deflateFormsCard : Claim7 := { stood := { row := deflateFormsRow, standIns := [], harness := (true, "c9147732db55ced19be2459db2735e5534fa57f0aeee3856fb77b660fbb84141"), looks := false }, kinds := [], alts := [], laidByText := true, laidKinds := [.data], laidTests := true, laidLooks := .later }
def DeflateFormsCardSaid : Prop := Claim7.holds Tryd.pinned (.plain (OpenSpec.ofChange deflateFormsSpec)) deflateFormsCard

/-- THE TIED CARD OF 'drayagelaw05.DeflateBack'. -/
def deflateBackCard : Claim7 := { stood := { row := deflateBackRow, standIns := [], harness := (true, "c9147732db55ced19be2459db2735e5534fa57f0aeee3856fb77b660fbb84141"), looks := false }, kinds := [], alts := [], laidByText := true, laidKinds := [.data, .data], laidTests := true, laidLooks := .later }
def DeflateBackCardSaid : Prop := Claim7.holds Tryd.pinned (.plain (OpenSpec.ofChange deflateBackSpec)) deflateBackCard

/-- THE TIED CARD OF 'drayagelaw06.GzipPacks'. -/
def gzipPacksCard : Claim7 := { stood := { row := gzipPacksRow, standIns := [], harness := (true, "c9147732db55ced19be2459db2735e5534fa57f0aeee3856fb77b660fbb84141"), looks := false }, kinds := [], alts := [], laidByText := true, laidKinds := [.data, .data], laidTests := true, laidLooks := .later }
def GzipPacksCardSaid : Prop := Claim7.holds Tryd.pinned (.plain (OpenSpec.ofChange gzipPacksSpec)) gzipPacksCard

/-- THE TIED CARD OF 'drayagelaw06.GzipBack'. -/
def gzipBackCard : Claim7 := { stood := { row := gzipBackRow, standIns := [], harness := (true, "c9147732db55ced19be2459db2735e5534fa57f0aeee3856fb77b660fbb84141"), looks := false }, kinds := [], alts := [], laidByText := true, laidKinds := [.data, .data], laidTests := true, laidLooks := .later }
def GzipBackCardSaid : Prop := Claim7.holds Tryd.pinned (.plain (OpenSpec.ofChange gzipBackSpec)) gzipBackCard

/-- THE TIED CARD OF 'drayagelaw06.GzipTells'. -/
def gzipTellsCard : Claim7 := { stood := { row := gzipTellsRow, standIns := [], harness := (true, "c9147732db55ced19be2459db2735e5534fa57f0aeee3856fb77b660fbb84141"), looks := false }, kinds := [], alts := [], laidByText := true, laidKinds := [.data, .data], laidTests := true, laidLooks := .later }
def GzipTellsCardSaid : Prop := Claim7.holds Tryd.pinned (.plain (OpenSpec.ofChange gzipTellsSpec)) gzipTellsCard

/-- THE SECOND FORM's CARD OF 'drayagelaw04.InflateAll'. -/
def inflateAllUptoCard : Claim7 := { stood := { row := inflateAllUptoRow, standIns := [], harness := (true, "c9147732db55ced19be2459db2735e5534fa57f0aeee3856fb77b660fbb84141"), looks := false }, kinds := [], alts := [], laidByText := true, laidKinds := [.data], laidTests := true, laidLooks := .later }
def InflateAllUptoCardSaid : Prop := Claim7.holds Tryd.pinned (.plain (OpenSpec.upto inflateAllSpec)) inflateAllUptoCard

/-- THE SECOND FORM's CARD OF 'drayagelaw04.InflateMost'. -/
def inflateMostUptoCard : Claim7 := { stood := { row := inflateMostUptoRow, standIns := [], harness := (true, "c9147732db55ced19be2459db2735e5534fa57f0aeee3856fb77b660fbb84141"), looks := false }, kinds := [], alts := [], laidByText := true, laidKinds := [.data], laidTests := true, laidLooks := .later }
def InflateMostUptoCardSaid : Prop := Claim7.holds Tryd.pinned (.plain (OpenSpec.upto inflateMostSpec)) inflateMostUptoCard

/-- THE SECOND FORM's CARD OF 'drayagelaw04.InflateShort'. -/
def inflateShortUptoCard : Claim7 := { stood := { row := inflateShortUptoRow, standIns := [], harness := (true, "c9147732db55ced19be2459db2735e5534fa57f0aeee3856fb77b660fbb84141"), looks := false }, kinds := [], alts := [], laidByText := true, laidKinds := [.data], laidTests := true, laidLooks := .later }
def InflateShortUptoCardSaid : Prop := Claim7.holds Tryd.pinned (.plain (OpenSpec.upto inflateShortSpec)) inflateShortUptoCard

/-- THE SECOND FORM's CARD OF 'drayagelaw05.DeflateForms'. -/
def deflateFormsUptoCard : Claim7 := { stood := { row := deflateFormsUptoRow, standIns := [], harness := (true, "c9147732db55ced19be2459db2735e5534fa57f0aeee3856fb77b660fbb84141"), looks := false }, kinds := [], alts := [], laidByText := true, laidKinds := [.data], laidTests := true, laidLooks := .later }
def DeflateFormsUptoCardSaid : Prop := Claim7.holds Tryd.pinned (.plain (OpenSpec.upto deflateFormsSpec)) deflateFormsUptoCard

/-- THE SECOND FORM's CARD OF 'drayagelaw05.DeflateBack'. -/
def deflateBackUptoCard : Claim7 := { stood := { row := deflateBackUptoRow, standIns := [], harness := (true, "c9147732db55ced19be2459db2735e5534fa57f0aeee3856fb77b660fbb84141"), looks := false }, kinds := [], alts := [], laidByText := true, laidKinds := [.data, .data], laidTests := true, laidLooks := .later }
def DeflateBackUptoCardSaid : Prop := Claim7.holds Tryd.pinned (.plain (OpenSpec.upto deflateBackSpec)) deflateBackUptoCard

/-- THE SECOND FORM's CARD OF 'drayagelaw06.GzipPacks'. -/
def gzipPacksUptoCard : Claim7 := { stood := { row := gzipPacksUptoRow, standIns := [], harness := (true, "c9147732db55ced19be2459db2735e5534fa57f0aeee3856fb77b660fbb84141"), looks := false }, kinds := [], alts := [], laidByText := true, laidKinds := [.data, .data], laidTests := true, laidLooks := .later }
def GzipPacksUptoCardSaid : Prop := Claim7.holds Tryd.pinned (.plain (OpenSpec.upto gzipPacksSpec)) gzipPacksUptoCard

/-- THE SECOND FORM's CARD OF 'drayagelaw06.GzipBack'. -/
def gzipBackUptoCard : Claim7 := { stood := { row := gzipBackUptoRow, standIns := [], harness := (true, "c9147732db55ced19be2459db2735e5534fa57f0aeee3856fb77b660fbb84141"), looks := false }, kinds := [], alts := [], laidByText := true, laidKinds := [.data, .data], laidTests := true, laidLooks := .later }
def GzipBackUptoCardSaid : Prop := Claim7.holds Tryd.pinned (.plain (OpenSpec.upto gzipBackSpec)) gzipBackUptoCard

/-- THE SECOND FORM's CARD OF 'drayagelaw06.GzipTells'. -/
def gzipTellsUptoCard : Claim7 := { stood := { row := gzipTellsUptoRow, standIns := [], harness := (true, "c9147732db55ced19be2459db2735e5534fa57f0aeee3856fb77b660fbb84141"), looks := false }, kinds := [], alts := [], laidByText := true, laidKinds := [.data, .data], laidTests := true, laidLooks := .later }
def GzipTellsUptoCardSaid : Prop := Claim7.holds Tryd.pinned (.plain (OpenSpec.upto gzipTellsSpec)) gzipTellsUptoCard
end Rows
end Go.Proofs.YtolcdlopgbgilaaDoor
