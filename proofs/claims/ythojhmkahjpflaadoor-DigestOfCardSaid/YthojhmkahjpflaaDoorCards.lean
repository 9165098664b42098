/-
  DERIVED. GIVEN WITH THE SEED: THE CARDS: each row of YthojhmkahjpflaaDoorRows.lean that lists a variable, with what it lists TIED to the program's text (the seventh form; the later family's looks); each row that meets fmt, with fmt's text TOLD by the authors' own Lean function (tested against real Go, not proved from fmt's source: count such statements apart). THE CARD IS WHAT COUNTS. Prove the row's statement (the work); the ties are given (YthojhmkahjpflaaDoorTie.lean); close each card by the builder's one call (the guide's Derived/Test/ToyasCard.lean, 'card_holds'). Laid BY PROGRAM, IN A SANDBOX (cutbox-door.mjs). By AI agents, Wed Nov 11 2026. No macro, syntax, notation, axiom, sorry.
-/
import Derived.Test.YthojhmkahjpflaaDoorRows
import GoSem.ClaimSeven
namespace Go.Proofs.YthojhmkahjpflaaDoor
namespace Rows

/-- THE TIED CARD OF 'drayagelaw02.DigestCrc'. -/
def digestCrcCard : Claim7 := { stood := { row := digestCrcRow, standIns := [], harness := (true, "8e270821b8abc9ac0a8e3c6643d2d4b85daeb107e507c1a769935acb9f3a2d6b"), looks := false }, kinds := [], alts := [], laidByText := true, laidKinds := [.data, .data, .data], laidTests := true, laidLooks := .later }
def DigestCrcCardSaid : Prop := Claim7.holds Tryd.pinned (.plain (OpenSpec.ofChange digestCrcSpec)) digestCrcCard

/-- THE TIED CARD OF 'drayagelaw02.DigestOf'. -/
def digestOfCard : Claim7 := { stood := { row := digestOfRow, standIns := [], harness := (true, "8e270821b8abc9ac0a8e3c6643d2d4b85daeb107e507c1a769935acb9f3a2d6b"), looks := false }, kinds := [], alts := [], laidByText := true, laidKinds := [.data, .data, .data], laidTests := true, laidLooks := .later }
def DigestOfCardSaid : Prop := Claim7.holds Tryd.pinned (.plain (OpenSpec.ofChange digestOfSpec)) digestOfCard

/-- THE TIED CARD OF 'drayagelaw02.DigestParts'. -/
def digestPartsCard : Claim7 := { stood := { row := digestPartsRow, standIns := [], harness := (true, "8e270821b8abc9ac0a8e3c6643d2d4b85daeb107e507c1a769935acb9f3a2d6b"), looks := false }, kinds := [], alts := [], laidByText := true, laidKinds := [.data, .data, .data], laidTests := true, laidLooks := .later }
def DigestPartsCardSaid : Prop := Claim7.holds Tryd.pinned (.plain (OpenSpec.ofChange digestPartsSpec)) digestPartsCard

/-- THE TIED CARD OF 'drayagelaw02.DigestTells'. -/
def digestTellsCard : Claim7 := { stood := { row := digestTellsRow, standIns := [], harness := (true, "8e270821b8abc9ac0a8e3c6643d2d4b85daeb107e507c1a769935acb9f3a2d6b"), looks := false }, kinds := [], alts := [], laidByText := true, laidKinds := [.data, .data, .data], laidTests := true, laidLooks := .later }
def DigestTellsCardSaid : Prop := Claim7.holds Tryd.pinned (.plain (OpenSpec.ofChange digestTellsSpec)) digestTellsCard

/-- THE SECOND FORM's CARD OF 'drayagelaw02.DigestCrc'. -/
def digestCrcUptoCard : Claim7 := { stood := { row := digestCrcUptoRow, standIns := [], harness := (true, "8e270821b8abc9ac0a8e3c6643d2d4b85daeb107e507c1a769935acb9f3a2d6b"), looks := false }, kinds := [], alts := [], laidByText := true, laidKinds := [.data, .data, .data], laidTests := true, laidLooks := .later }
def DigestCrcUptoCardSaid : Prop := Claim7.holds Tryd.pinned (.plain (OpenSpec.upto digestCrcSpec)) digestCrcUptoCard

/-- THE SECOND FORM's CARD OF 'drayagelaw02.DigestOf'. -/
def digestOfUptoCard : Claim7 := { stood := { row := digestOfUptoRow, standIns := [], harness := (true, "8e270821b8abc9ac0a8e3c6643d2d4b85daeb107e507c1a769935acb9f3a2d6b"), looks := false }, kinds := [], alts := [], laidByText := true, laidKinds := [.data, .data, .data], laidTests := true, laidLooks := .later }
def DigestOfUptoCardSaid : Prop := Claim7.holds Tryd.pinned (.plain (OpenSpec.upto digestOfSpec)) digestOfUptoCard

/-- THE SECOND FORM's CARD OF 'drayagelaw02.DigestParts'. -/
def digestPartsUptoCard : Claim7 := { stood := { row := digestPartsUptoRow, standIns := [], harness := (true, "8e270821b8abc9ac0a8e3c6643d2d4b85daeb107e507c1a769935acb9f3a2d6b"), looks := false }, kinds := [], alts := [], laidByText := true, laidKinds := [.data, .data, .data], laidTests := true, laidLooks := .later }
def DigestPartsUptoCardSaid : Prop := Claim7.holds Tryd.pinned (.plain (OpenSpec.upto digestPartsSpec)) digestPartsUptoCard

/-- THE SECOND FORM's CARD OF 'drayagelaw02.DigestTells'. -/
def digestTellsUptoCard : Claim7 := { stood := { row := digestTellsUptoRow, standIns := [], harness := (true, "8e270821b8abc9ac0a8e3c6643d2d4b85daeb107e507c1a769935acb9f3a2d6b"), looks := false }, kinds := [], alts := [], laidByText := true, laidKinds := [.data, .data, .data], laidTests := true, laidLooks := .later }
def DigestTellsUptoCardSaid : Prop := Claim7.holds Tryd.pinned (.plain (OpenSpec.upto digestTellsSpec)) digestTellsUptoCard
end Rows
end Go.Proofs.YthojhmkahjpflaaDoor
