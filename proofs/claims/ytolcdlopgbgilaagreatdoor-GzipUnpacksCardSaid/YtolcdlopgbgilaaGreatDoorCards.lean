/-
  DERIVED. GIVEN WITH THE SEED: THE CARDS: each row of YtolcdlopgbgilaaGreatDoorRows.lean that lists a variable, with what it lists TIED to the program's text (the seventh form; the later family's looks); each row that meets fmt, with fmt's text TOLD by the authors' own Lean function (tested against real Go, not proved from fmt's source: count such statements apart). THE CARD IS WHAT COUNTS. Prove the row's statement (the work); the ties are given (YtolcdlopgbgilaaGreatDoorTie.lean); close each card by the builder's one call (the guide's Derived/Test/ToyasCard.lean, 'card_holds'). Laid BY PROGRAM, IN A SANDBOX (cutbox-door.mjs). By AI agents, Wed Nov 11 2026. No macro, syntax, notation, axiom, sorry.
-/
import Derived.Test.YtolcdlopgbgilaaGreatDoorRows
import GoSem.ClaimSeven
namespace Go.Proofs.YtolcdlopgbgilaaGreatDoor
namespace Rows

/-- THE TIED CARD OF 'drayagelaw06.GzipUnpacks'. -/
def gzipUnpacksCard : Claim7 := { stood := { row := gzipUnpacksRow, standIns := [], harness := (true, "bc6786e2f3833e496383322709a38a299b8ce077c0b2f4a939a93e526cb095e0"), looks := false }, kinds := [], alts := [], laidByText := true, laidKinds := [.data, .data], laidTests := true, laidLooks := .later }
def GzipUnpacksCardSaid : Prop := Claim7.holds Tryz.pinned (.plain (OpenSpec.ofChange gzipUnpacksSpec)) gzipUnpacksCard

/-- THE SECOND FORM's CARD OF 'drayagelaw06.GzipUnpacks'. -/
def gzipUnpacksUptoCard : Claim7 := { stood := { row := gzipUnpacksUptoRow, standIns := [], harness := (true, "bc6786e2f3833e496383322709a38a299b8ce077c0b2f4a939a93e526cb095e0"), looks := false }, kinds := [], alts := [], laidByText := true, laidKinds := [.data, .data], laidTests := true, laidLooks := .later }
def GzipUnpacksUptoCardSaid : Prop := Claim7.holds Tryz.pinned (.plain (OpenSpec.upto gzipUnpacksSpec)) gzipUnpacksUptoCard
end Rows
end Go.Proofs.YtolcdlopgbgilaaGreatDoor
