/-
  No cell of these rows narrows 'for every input' (looked for: loops, veiled, ifaces, maps, wideKeys, modest, calm, conditions, laid).
  DERIVED. THE GIVEN ROWS OF THIS SEAT. 4 by the template 'for every input the law returns true; each argument reads behind the call as it read before'; 0 by the template 'total and deterministic' (their statements: YtogknbpbjgdldaaTotals.lean).
  GIVEN WITH THE SEED: the statements are not yours to turn. If you find one false, say at which input.
  Laid BY PROGRAM, IN A SANDBOX (cutbox-rows.mjs): the forced cells as the released guide's own fill.sh prints them over the translation 5ee49b190e920e8f… (all of the seat's roots in one cut). By AI agents, Wed Nov 11 2026. No macro, syntax, notation, axiom, sorry.
-/
import Derived.Test.YtogknbpbjgdldaaChecked
import GoSem.Claim
import GoSem.ClaimJoined
import GoSem.ClaimMapViews
import Derived.JoinedTies
import Derived.KernelRfl
namespace Go.Proofs.Ytogknbpbjgdldaa
/- THE CELL 'sum', in the pinned program and in every row, IS THE sha256 OF THE DUMP (.gsa) THAT YtogknbpbjgdldaaProg.lean LOADS. Nothing in Lean hashes anything: it is a label: what it is worth is what the hold of that sum in a sandbox is worth. -/
noncomputable def Try.pinned : Pinned := { name := "ytogknbpbjgdldaa", sum := "5ee49b190e920e8f06b20624fd3d7a8596c836a14649aaafb64ab4d8d3347333", checked := Try.checked }
namespace Rows
def none {H : Type} : Left H := { results := [], args := [] }

/-- 'drayagelaw21.RheadPrints': WHATEVER THE INPUT: true; the input reads as it did. -/
def rheadPrintsSpec : ChangeSpec := { name := "rheadPrints", fn := fun _ => fun
  | [d] => { results := [.lit (.bool true)], args := [d] }
  | _ => none }
def rheadPrintsRow : OpenClaim := { program := "ytogknbpbjgdldaa", sum := "5ee49b190e920e8f06b20624fd3d7a8596c836a14649aaafb64ab4d8d3347333", func := "drayage/drayagelaw21.RheadPrints", spec := "rheadPrints", inPlace := ["internal/bytealg.IndexByteString", "internal/bytealg.IndexString", "internal/bytealg.IndexByte"], named := ["internal/bytealg.MaxLen"], apart := false }
def RheadPrintsSaid : Prop := rheadPrintsRow.holds Try.pinned (OpenSpec.ofChange rheadPrintsSpec)

/-- ITS FALSE NEIGHBOUR: 'it returns false'. Refute it at one input. -/
def rheadPrintsWrong : ChangeSpec := { name := "rheadPrints", fn := fun _ => fun
  | [d] => { results := [.lit (.bool false)], args := [d] }
  | _ => none }
def RheadPrintsWrongFalsely : Prop := rheadPrintsRow.holds Try.pinned (OpenSpec.ofChange rheadPrintsWrong)

/-- 'drayagelaw21.RheadParses': WHATEVER THE INPUT: true; the input reads as it did. -/
def rheadParsesSpec : ChangeSpec := { name := "rheadParses", fn := fun _ => fun
  | [d] => { results := [.lit (.bool true)], args := [d] }
  | _ => none }
def rheadParsesRow : OpenClaim := { program := "ytogknbpbjgdldaa", sum := "5ee49b190e920e8f06b20624fd3d7a8596c836a14649aaafb64ab4d8d3347333", func := "drayage/drayagelaw21.RheadParses", spec := "rheadParses", inPlace := ["internal/bytealg.IndexByteString", "internal/bytealg.IndexString", "internal/bytealg.IndexByte"], named := ["internal/bytealg.MaxLen"], apart := false }
def RheadParsesSaid : Prop := rheadParsesRow.holds Try.pinned (OpenSpec.ofChange rheadParsesSpec)

/-- ITS FALSE NEIGHBOUR: 'it returns false'. Refute it at one input. -/
def rheadParsesWrong : ChangeSpec := { name := "rheadParses", fn := fun _ => fun
  | [d] => { results := [.lit (.bool false)], args := [d] }
  | _ => none }
def RheadParsesWrongFalsely : Prop := rheadParsesRow.holds Try.pinned (OpenSpec.ofChange rheadParsesWrong)

/-- 'drayagelaw21.RheadMost': WHATEVER THE INPUT: true; the input reads as it did. -/
def rheadMostSpec : ChangeSpec := { name := "rheadMost", fn := fun _ => fun
  | [d] => { results := [.lit (.bool true)], args := [d] }
  | _ => none }
def rheadMostRow : OpenClaim := { program := "ytogknbpbjgdldaa", sum := "5ee49b190e920e8f06b20624fd3d7a8596c836a14649aaafb64ab4d8d3347333", func := "drayage/drayagelaw21.RheadMost", spec := "rheadMost", inPlace := ["internal/bytealg.IndexByteString", "internal/bytealg.IndexString", "internal/bytealg.IndexByte"], named := ["internal/bytealg.MaxLen"], apart := false }
def RheadMostSaid : Prop := rheadMostRow.holds Try.pinned (OpenSpec.ofChange rheadMostSpec)

/-- ITS FALSE NEIGHBOUR: 'it returns false'. Refute it at one input. -/
def rheadMostWrong : ChangeSpec := { name := "rheadMost", fn := fun _ => fun
  | [d] => { results := [.lit (.bool false)], args := [d] }
  | _ => none }
def RheadMostWrongFalsely : Prop := rheadMostRow.holds Try.pinned (OpenSpec.ofChange rheadMostWrong)

/-- 'drayagelaw21.RheadBack': WHATEVER THE INPUT: true; the input reads as it did. -/
def rheadBackSpec : ChangeSpec := { name := "rheadBack", fn := fun _ => fun
  | [d1, d2, d3] => { results := [.lit (.bool true)], args := [d1, d2, d3] }
  | _ => none }
def rheadBackRow : OpenClaim := { program := "ytogknbpbjgdldaa", sum := "5ee49b190e920e8f06b20624fd3d7a8596c836a14649aaafb64ab4d8d3347333", func := "drayage/drayagelaw21.RheadBack", spec := "rheadBack", inPlace := ["internal/bytealg.IndexByteString", "internal/bytealg.IndexString", "internal/bytealg.IndexByte"], named := ["internal/bytealg.MaxLen"], apart := false }
def RheadBackSaid : Prop := rheadBackRow.holds Try.pinned (OpenSpec.ofChange rheadBackSpec)

/-- ITS FALSE NEIGHBOUR: 'it returns false'. Refute it at one input. -/
def rheadBackWrong : ChangeSpec := { name := "rheadBack", fn := fun _ => fun
  | [d1, d2, d3] => { results := [.lit (.bool false)], args := [d1, d2, d3] }
  | _ => none }
def RheadBackWrongFalsely : Prop := rheadBackRow.holds Try.pinned (OpenSpec.ofChange rheadBackWrong)

/- THE SECOND FORM. 'bulk': how many values and letters a reading holds, each counted each time it is reached (what is shared counts as often as it is met; a slice's spare places count too). A statement '..UptoSaid' is the law's where the arguments, and the package variables that the reading takes, are together of bulk at most 1048576: NARROWER than '..Said'. Prove '..Said' where nothing that the law and all that it calls make is longer than what came in: it says more and counts as full. Else prove '..UptoSaid'. A law counts once. -/
mutual
def uptoBulk {H : Type} : DataW H → Nat
  | .lit (.string bytes) => bytes.length + 1
  | .lit _ => 1
  | .nil => 1
  | .ptr d => uptoBulk d + 1
  | .slice elems spare => uptoBulkAll elems + uptoBulkAll spare + 1
  | .agg parts => uptoBulkAll parts + 1
  | .iface _ d => uptoBulk d + 1
  | .map entries => uptoBulkEntries entries + 1
  | .held _ => 1
def uptoBulkAll {H : Type} : List (DataW H) → Nat
  | [] => 0
  | d :: r => uptoBulk d + uptoBulkAll r
def uptoBulkEntries {H : Type} : List (Lit × DataW H) → Nat
  | [] => 0
  | x :: r => uptoBulkEntry x + uptoBulkEntries r
def uptoBulkEntry {H : Type} : Lit × DataW H → Nat
  | (.string bytes, d) => bytes.length + uptoBulk d + 1
  | (_, d) => uptoBulk d + 1
 end
def uptoSmall : (H : Type) → List (DataW H) → Bool := fun _ ds => decide (uptoBulkAll ds ≤ 1048576)
def OpenSpec.upto (s : _root_.Go.ChangeSpec) : _root_.Go.OpenSpec := { _root_.Go.OpenSpec.ofChange s with cond := some uptoSmall }

/-- 'drayagelaw21.RheadPrints', WHERE WHAT IT READS IS OF BULK AT MOST 1048576: true; the input reads as it did. -/
def rheadPrintsUptoRow : OpenClaim := { program := "ytogknbpbjgdldaa", sum := "5ee49b190e920e8f06b20624fd3d7a8596c836a14649aaafb64ab4d8d3347333", func := "drayage/drayagelaw21.RheadPrints", spec := "rheadPrints", inPlace := ["internal/bytealg.IndexByteString", "internal/bytealg.IndexString", "internal/bytealg.IndexByte"], named := ["internal/bytealg.MaxLen"], apart := false, narrowed := true }
def RheadPrintsUptoSaid : Prop := rheadPrintsUptoRow.holds Try.pinned (OpenSpec.upto rheadPrintsSpec)

/-- 'drayagelaw21.RheadParses', WHERE WHAT IT READS IS OF BULK AT MOST 1048576: true; the input reads as it did. -/
def rheadParsesUptoRow : OpenClaim := { program := "ytogknbpbjgdldaa", sum := "5ee49b190e920e8f06b20624fd3d7a8596c836a14649aaafb64ab4d8d3347333", func := "drayage/drayagelaw21.RheadParses", spec := "rheadParses", inPlace := ["internal/bytealg.IndexByteString", "internal/bytealg.IndexString", "internal/bytealg.IndexByte"], named := ["internal/bytealg.MaxLen"], apart := false, narrowed := true }
def RheadParsesUptoSaid : Prop := rheadParsesUptoRow.holds Try.pinned (OpenSpec.upto rheadParsesSpec)

/-- 'drayagelaw21.RheadMost', WHERE WHAT IT READS IS OF BULK AT MOST 1048576: true; the input reads as it did. -/
def rheadMostUptoRow : OpenClaim := { program := "ytogknbpbjgdldaa", sum := "5ee49b190e920e8f06b20624fd3d7a8596c836a14649aaafb64ab4d8d3347333", func := "drayage/drayagelaw21.RheadMost", spec := "rheadMost", inPlace := ["internal/bytealg.IndexByteString", "internal/bytealg.IndexString", "internal/bytealg.IndexByte"], named := ["internal/bytealg.MaxLen"], apart := false, narrowed := true }
def RheadMostUptoSaid : Prop := rheadMostUptoRow.holds Try.pinned (OpenSpec.upto rheadMostSpec)

/-- 'drayagelaw21.RheadBack', WHERE WHAT IT READS IS OF BULK AT MOST 1048576: true; the input reads as it did. -/
def rheadBackUptoRow : OpenClaim := { program := "ytogknbpbjgdldaa", sum := "5ee49b190e920e8f06b20624fd3d7a8596c836a14649aaafb64ab4d8d3347333", func := "drayage/drayagelaw21.RheadBack", spec := "rheadBack", inPlace := ["internal/bytealg.IndexByteString", "internal/bytealg.IndexString", "internal/bytealg.IndexByte"], named := ["internal/bytealg.MaxLen"], apart := false, narrowed := true }
def RheadBackUptoSaid : Prop := rheadBackUptoRow.holds Try.pinned (OpenSpec.upto rheadBackSpec)

end Rows
end Go.Proofs.Ytogknbpbjgdldaa
