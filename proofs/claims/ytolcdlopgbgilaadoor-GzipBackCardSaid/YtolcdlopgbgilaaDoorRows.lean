/-
  NARROWER THAN 'FOR EVERY INPUT', by the rows' own cells (each row's printed sentence says how): InflateAll: laid · InflateMost: laid · InflateShort: laid · DeflateForms: laid · DeflateBack: laid · GzipPacks: laid · GzipBack: laid · GzipTells: laid.
  DERIVED. THE GIVEN ROWS OF THIS SEAT. 8 by the template 'for every input the law returns true; each argument reads behind the call as it read before'; 0 by the template 'total and deterministic' (their statements: YtolcdlopgbgilaaDoorTotals.lean).
  GIVEN WITH THE SEED: the statements are not yours to turn. If you find one false, say at which input.
  Laid BY PROGRAM, IN A SANDBOX (cutbox-rows.mjs): the forced cells as the released guide's own fill.sh prints them over the translation 925bede0500f457e… (all of the seat's roots in one cut). By AI agents, Wed Nov 11 2026. No macro, syntax, notation, axiom, sorry.
-/
import Derived.Test.YtolcdlopgbgilaaDoorChecked
import GoSem.Claim
import GoSem.ClaimJoined
import GoSem.ClaimMapViews
import Derived.JoinedTies
import Derived.KernelRfl
namespace Go.Proofs.YtolcdlopgbgilaaDoor
/- THE CELL 'sum', in the pinned program and in every row, IS THE sha256 OF THE DUMP (.gsa) THAT YtolcdlopgbgilaaDoorProg.lean LOADS. Nothing in Lean hashes anything: it is a label: what it is worth is what the hold of that sum in a sandbox is worth. -/
noncomputable def Tryd.pinned : Pinned := { name := "ytolcdlopgbgilaadoor", sum := "925bede0500f457e341eee73feca837606c8ab109bd80d8da9a64bd35cd4bcfc", checked := Tryd.checked }
namespace Rows
def none {H : Type} : Left H := { results := [], args := [] }

/- WHAT THE LISTED PACKAGE-LEVEL VARIABLES READ AS WHEN THE CALL BEGINS. Each datum BY PROGRAM (the guide's laid-datum.mjs) off the statement by which the dump's own 'gosem.cut.vars' lays the variable. In a bare row this is a premise. The card (YtolcdlopgbgilaaDoorCards.lean) ties it to the program's text. -/
def laid_drayage_inflate_order {H : Type} : DataW H := .agg [.lit (.int .i64 16), .lit (.int .i64 17), .lit (.int .i64 18), .lit (.int .i64 0), .lit (.int .i64 8), .lit (.int .i64 7), .lit (.int .i64 9), .lit (.int .i64 6), .lit (.int .i64 10), .lit (.int .i64 5), .lit (.int .i64 11), .lit (.int .i64 4), .lit (.int .i64 12), .lit (.int .i64 3), .lit (.int .i64 13), .lit (.int .i64 2), .lit (.int .i64 14), .lit (.int .i64 1), .lit (.int .i64 15)]
def laid_drayage_deflate_order {H : Type} : DataW H := .agg [.lit (.int .i64 16), .lit (.int .i64 17), .lit (.int .i64 18), .lit (.int .i64 0), .lit (.int .i64 8), .lit (.int .i64 7), .lit (.int .i64 9), .lit (.int .i64 6), .lit (.int .i64 10), .lit (.int .i64 5), .lit (.int .i64 11), .lit (.int .i64 4), .lit (.int .i64 12), .lit (.int .i64 3), .lit (.int .i64 13), .lit (.int .i64 2), .lit (.int .i64 14), .lit (.int .i64 1), .lit (.int .i64 15)]

/-- 'drayagelaw04.InflateAll': WHATEVER THE INPUT: true; the input reads as it did. -/
def inflateAllSpec : ChangeSpec := { name := "inflateAll", fn := fun _ => fun
  | [d1, d2] => { results := [.lit (.bool true)], args := [d1, d2] }
  | _ => none }
def inflateAllRow : OpenClaim := { program := "ytolcdlopgbgilaadoor", sum := "925bede0500f457e341eee73feca837606c8ab109bd80d8da9a64bd35cd4bcfc", func := "drayage/drayagelaw04.InflateAll", spec := "inflateAll", named := ["drayage/inflate.order"], plainKeys := false, apart := false, laid := [("drayage/inflate.order", laid_drayage_inflate_order)] }
def InflateAllSaid : Prop := inflateAllRow.holds Tryd.pinned (OpenSpec.ofChange inflateAllSpec)

/-- ITS FALSE NEIGHBOUR: 'it returns false'. Refute it at one input. -/
def inflateAllWrong : ChangeSpec := { name := "inflateAll", fn := fun _ => fun
  | [d1, d2] => { results := [.lit (.bool false)], args := [d1, d2] }
  | _ => none }
def InflateAllWrongFalsely : Prop := inflateAllRow.holds Tryd.pinned (OpenSpec.ofChange inflateAllWrong)

/-- 'drayagelaw04.InflateMost': WHATEVER THE INPUT: true; the input reads as it did. -/
def inflateMostSpec : ChangeSpec := { name := "inflateMost", fn := fun _ => fun
  | [d1, d2, d3, d4] => { results := [.lit (.bool true)], args := [d1, d2, d3, d4] }
  | _ => none }
def inflateMostRow : OpenClaim := { program := "ytolcdlopgbgilaadoor", sum := "925bede0500f457e341eee73feca837606c8ab109bd80d8da9a64bd35cd4bcfc", func := "drayage/drayagelaw04.InflateMost", spec := "inflateMost", named := ["drayage/inflate.order"], plainKeys := false, apart := false, laid := [("drayage/inflate.order", laid_drayage_inflate_order)] }
def InflateMostSaid : Prop := inflateMostRow.holds Tryd.pinned (OpenSpec.ofChange inflateMostSpec)

/-- ITS FALSE NEIGHBOUR: 'it returns false'. Refute it at one input. -/
def inflateMostWrong : ChangeSpec := { name := "inflateMost", fn := fun _ => fun
  | [d1, d2, d3, d4] => { results := [.lit (.bool false)], args := [d1, d2, d3, d4] }
  | _ => none }
def InflateMostWrongFalsely : Prop := inflateMostRow.holds Tryd.pinned (OpenSpec.ofChange inflateMostWrong)

/-- 'drayagelaw04.InflateShort': WHATEVER THE INPUT: true; the input reads as it did. -/
def inflateShortSpec : ChangeSpec := { name := "inflateShort", fn := fun _ => fun
  | [d1, d2] => { results := [.lit (.bool true)], args := [d1, d2] }
  | _ => none }
def inflateShortRow : OpenClaim := { program := "ytolcdlopgbgilaadoor", sum := "925bede0500f457e341eee73feca837606c8ab109bd80d8da9a64bd35cd4bcfc", func := "drayage/drayagelaw04.InflateShort", spec := "inflateShort", named := ["drayage/inflate.order"], plainKeys := false, apart := false, laid := [("drayage/inflate.order", laid_drayage_inflate_order)] }
def InflateShortSaid : Prop := inflateShortRow.holds Tryd.pinned (OpenSpec.ofChange inflateShortSpec)

/-- ITS FALSE NEIGHBOUR: 'it returns false'. Refute it at one input. -/
def inflateShortWrong : ChangeSpec := { name := "inflateShort", fn := fun _ => fun
  | [d1, d2] => { results := [.lit (.bool false)], args := [d1, d2] }
  | _ => none }
def InflateShortWrongFalsely : Prop := inflateShortRow.holds Tryd.pinned (OpenSpec.ofChange inflateShortWrong)

/-- 'drayagelaw05.DeflateForms': WHATEVER THE INPUT: true; the input reads as it did. -/
def deflateFormsSpec : ChangeSpec := { name := "deflateForms", fn := fun _ => fun
  | [d] => { results := [.lit (.bool true)], args := [d] }
  | _ => none }
def deflateFormsRow : OpenClaim := { program := "ytolcdlopgbgilaadoor", sum := "925bede0500f457e341eee73feca837606c8ab109bd80d8da9a64bd35cd4bcfc", func := "drayage/drayagelaw05.DeflateForms", spec := "deflateForms", unfollowed := true, recurses := true, named := ["drayage/deflate.order"], plainKeys := false, apart := false, laid := [("drayage/deflate.order", laid_drayage_deflate_order)] }
def DeflateFormsSaid : Prop := deflateFormsRow.holds Tryd.pinned (OpenSpec.ofChange deflateFormsSpec)

/-- ITS FALSE NEIGHBOUR: 'it returns false'. Refute it at one input. -/
def deflateFormsWrong : ChangeSpec := { name := "deflateForms", fn := fun _ => fun
  | [d] => { results := [.lit (.bool false)], args := [d] }
  | _ => none }
def DeflateFormsWrongFalsely : Prop := deflateFormsRow.holds Tryd.pinned (OpenSpec.ofChange deflateFormsWrong)

/-- 'drayagelaw05.DeflateBack': WHATEVER THE INPUT: true; the input reads as it did. -/
def deflateBackSpec : ChangeSpec := { name := "deflateBack", fn := fun _ => fun
  | [d1, d2] => { results := [.lit (.bool true)], args := [d1, d2] }
  | _ => none }
def deflateBackRow : OpenClaim := { program := "ytolcdlopgbgilaadoor", sum := "925bede0500f457e341eee73feca837606c8ab109bd80d8da9a64bd35cd4bcfc", func := "drayage/drayagelaw05.DeflateBack", spec := "deflateBack", unfollowed := true, recurses := true, named := ["drayage/deflate.order", "drayage/inflate.order"], plainKeys := false, apart := false, laid := [("drayage/deflate.order", laid_drayage_deflate_order), ("drayage/inflate.order", laid_drayage_inflate_order)] }
def DeflateBackSaid : Prop := deflateBackRow.holds Tryd.pinned (OpenSpec.ofChange deflateBackSpec)

/-- ITS FALSE NEIGHBOUR: 'it returns false'. Refute it at one input. -/
def deflateBackWrong : ChangeSpec := { name := "deflateBack", fn := fun _ => fun
  | [d1, d2] => { results := [.lit (.bool false)], args := [d1, d2] }
  | _ => none }
def DeflateBackWrongFalsely : Prop := deflateBackRow.holds Tryd.pinned (OpenSpec.ofChange deflateBackWrong)

/-- 'drayagelaw06.GzipPacks': WHATEVER THE INPUT: true; the input reads as it did. -/
def gzipPacksSpec : ChangeSpec := { name := "gzipPacks", fn := fun _ => fun
  | [d1, d2] => { results := [.lit (.bool true)], args := [d1, d2] }
  | _ => none }
def gzipPacksRow : OpenClaim := { program := "ytolcdlopgbgilaadoor", sum := "925bede0500f457e341eee73feca837606c8ab109bd80d8da9a64bd35cd4bcfc", func := "drayage/drayagelaw06.GzipPacks", spec := "gzipPacks", inPlace := ["internal/bytealg.IndexByteString", "internal/bytealg.IndexString", "internal/bytealg.IndexByte"], unfollowed := true, recurses := true, named := ["internal/bytealg.MaxLen", "drayage/deflate.order", "drayage/inflate.order"], plainKeys := false, apart := false, laid := [("drayage/deflate.order", laid_drayage_deflate_order), ("drayage/inflate.order", laid_drayage_inflate_order)] }
def GzipPacksSaid : Prop := gzipPacksRow.holds Tryd.pinned (OpenSpec.ofChange gzipPacksSpec)

/-- ITS FALSE NEIGHBOUR: 'it returns false'. Refute it at one input. -/
def gzipPacksWrong : ChangeSpec := { name := "gzipPacks", fn := fun _ => fun
  | [d1, d2] => { results := [.lit (.bool false)], args := [d1, d2] }
  | _ => none }
def GzipPacksWrongFalsely : Prop := gzipPacksRow.holds Tryd.pinned (OpenSpec.ofChange gzipPacksWrong)

/-- 'drayagelaw06.GzipBack': WHATEVER THE INPUT: true; the input reads as it did. -/
def gzipBackSpec : ChangeSpec := { name := "gzipBack", fn := fun _ => fun
  | [d1, d2] => { results := [.lit (.bool true)], args := [d1, d2] }
  | _ => none }
def gzipBackRow : OpenClaim := { program := "ytolcdlopgbgilaadoor", sum := "925bede0500f457e341eee73feca837606c8ab109bd80d8da9a64bd35cd4bcfc", func := "drayage/drayagelaw06.GzipBack", spec := "gzipBack", inPlace := ["internal/bytealg.IndexByteString", "internal/bytealg.IndexString", "internal/bytealg.IndexByte"], unfollowed := true, recurses := true, named := ["internal/bytealg.MaxLen", "drayage/deflate.order", "drayage/inflate.order"], plainKeys := false, apart := false, laid := [("drayage/deflate.order", laid_drayage_deflate_order), ("drayage/inflate.order", laid_drayage_inflate_order)] }
def GzipBackSaid : Prop := gzipBackRow.holds Tryd.pinned (OpenSpec.ofChange gzipBackSpec)

/-- ITS FALSE NEIGHBOUR: 'it returns false'. Refute it at one input. -/
def gzipBackWrong : ChangeSpec := { name := "gzipBack", fn := fun _ => fun
  | [d1, d2] => { results := [.lit (.bool false)], args := [d1, d2] }
  | _ => none }
def GzipBackWrongFalsely : Prop := gzipBackRow.holds Tryd.pinned (OpenSpec.ofChange gzipBackWrong)

/-- 'drayagelaw06.GzipTells': WHATEVER THE INPUT: true; the input reads as it did. -/
def gzipTellsSpec : ChangeSpec := { name := "gzipTells", fn := fun _ => fun
  | [d1, d2, d3] => { results := [.lit (.bool true)], args := [d1, d2, d3] }
  | _ => none }
def gzipTellsRow : OpenClaim := { program := "ytolcdlopgbgilaadoor", sum := "925bede0500f457e341eee73feca837606c8ab109bd80d8da9a64bd35cd4bcfc", func := "drayage/drayagelaw06.GzipTells", spec := "gzipTells", inPlace := ["internal/bytealg.IndexByteString", "internal/bytealg.IndexString", "internal/bytealg.IndexByte"], unfollowed := true, recurses := true, named := ["internal/bytealg.MaxLen", "drayage/deflate.order", "drayage/inflate.order"], plainKeys := false, apart := false, laid := [("drayage/deflate.order", laid_drayage_deflate_order), ("drayage/inflate.order", laid_drayage_inflate_order)] }
def GzipTellsSaid : Prop := gzipTellsRow.holds Tryd.pinned (OpenSpec.ofChange gzipTellsSpec)

/-- ITS FALSE NEIGHBOUR: 'it returns false'. Refute it at one input. -/
def gzipTellsWrong : ChangeSpec := { name := "gzipTells", fn := fun _ => fun
  | [d1, d2, d3] => { results := [.lit (.bool false)], args := [d1, d2, d3] }
  | _ => none }
def GzipTellsWrongFalsely : Prop := gzipTellsRow.holds Tryd.pinned (OpenSpec.ofChange gzipTellsWrong)

/- THE SECOND FORM. 'bulk': how many values and letters a reading holds, each counted each time it is reached (what is shared counts as often as it is met; a slice's spare places count too). A statement '..UptoSaid' is the law's where the arguments, and the package variables that the reading takes, are together of bulk at most 1048576: NARROWER than '..Said'. Prove '..Said' where nothing that the law and all that it calls make is longer than what came in: it says more and counts as full. Else prove '..UptoSaid'. A law counts once. -/
mutual
def uptoBulk {H : Type} : DataW H → Nat
  | .lit (.string bytes) => bytes.length + 1
  | .lit _ => 1
  | .nil => 1
  | .ptr d => uptoBulk d + 1
  | .slice elems spare => uptoBulkAll elems + uptoBulkAll spare + 1
  | .agg parts => uptoBulkAll parts + 1
  | .iface _ d => uptoBulk d + 1
  | .map entries => uptoBulkEntries entries + 1
  | .held _ => 1
def uptoBulkAll {H : Type} : List (DataW H) → Nat
  | [] => 0
  | d :: r => uptoBulk d + uptoBulkAll r
def uptoBulkEntries {H : Type} : List (Lit × DataW H) → Nat
  | [] => 0
  | x :: r => uptoBulkEntry x + uptoBulkEntries r
def uptoBulkEntry {H : Type} : Lit × DataW H → Nat
  | (.string bytes, d) => bytes.length + uptoBulk d + 1
  | (_, d) => uptoBulk d + 1
 end
def uptoSmall : (H : Type) → List (DataW H) → Bool := fun _ ds => decide (uptoBulkAll ds ≤ 1048576)
def OpenSpec.upto (s : _root_.Go.ChangeSpec) : _root_.Go.OpenSpec := { _root_.Go.OpenSpec.ofChange s with cond := some uptoSmall }

/-- 'drayagelaw04.InflateAll', WHERE WHAT IT READS IS OF BULK AT MOST 1048576: true; the input reads as it did. -/
def inflateAllUptoRow : OpenClaim := { program := "ytolcdlopgbgilaadoor", sum := "925bede0500f457e341eee73feca837606c8ab109bd80d8da9a64bd35cd4bcfc", func := "drayage/drayagelaw04.InflateAll", spec := "inflateAll", named := ["drayage/inflate.order"], plainKeys := false, apart := false, laid := [("drayage/inflate.order", laid_drayage_inflate_order)], narrowed := true }
def InflateAllUptoSaid : Prop := inflateAllUptoRow.holds Tryd.pinned (OpenSpec.upto inflateAllSpec)

/-- 'drayagelaw04.InflateMost', WHERE WHAT IT READS IS OF BULK AT MOST 1048576: true; the input reads as it did. -/
def inflateMostUptoRow : OpenClaim := { program := "ytolcdlopgbgilaadoor", sum := "925bede0500f457e341eee73feca837606c8ab109bd80d8da9a64bd35cd4bcfc", func := "drayage/drayagelaw04.InflateMost", spec := "inflateMost", named := ["drayage/inflate.order"], plainKeys := false, apart := false, laid := [("drayage/inflate.order", laid_drayage_inflate_order)], narrowed := true }
def InflateMostUptoSaid : Prop := inflateMostUptoRow.holds Tryd.pinned (OpenSpec.upto inflateMostSpec)

/-- 'drayagelaw04.InflateShort', WHERE WHAT IT READS IS OF BULK AT MOST 1048576: true; the input reads as it did. -/
def inflateShortUptoRow : OpenClaim := { program := "ytolcdlopgbgilaadoor", sum := "925bede0500f457e341eee73feca837606c8ab109bd80d8da9a64bd35cd4bcfc", func := "drayage/drayagelaw04.InflateShort", spec := "inflateShort", named := ["drayage/inflate.order"], plainKeys := false, apart := false, laid := [("drayage/inflate.order", laid_drayage_inflate_order)], narrowed := true }
def InflateShortUptoSaid : Prop := inflateShortUptoRow.holds Tryd.pinned (OpenSpec.upto inflateShortSpec)

/-- 'drayagelaw05.DeflateForms', WHERE WHAT IT READS IS OF BULK AT MOST 1048576: true; the input reads as it did. -/
def deflateFormsUptoRow : OpenClaim := { program := "ytolcdlopgbgilaadoor", sum := "925bede0500f457e341eee73feca837606c8ab109bd80d8da9a64bd35cd4bcfc", func := "drayage/drayagelaw05.DeflateForms", spec := "deflateForms", unfollowed := true, recurses := true, named := ["drayage/deflate.order"], plainKeys := false, apart := false, laid := [("drayage/deflate.order", laid_drayage_deflate_order)], narrowed := true }
def DeflateFormsUptoSaid : Prop := deflateFormsUptoRow.holds Tryd.pinned (OpenSpec.upto deflateFormsSpec)

/-- 'drayagelaw05.DeflateBack', WHERE WHAT IT READS IS OF BULK AT MOST 1048576: true; the input reads as it did. -/
def deflateBackUptoRow : OpenClaim := { program := "ytolcdlopgbgilaadoor", sum := "925bede0500f457e341eee73feca837606c8ab109bd80d8da9a64bd35cd4bcfc", func := "drayage/drayagelaw05.DeflateBack", spec := "deflateBack", unfollowed := true, recurses := true, named := ["drayage/deflate.order", "drayage/inflate.order"], plainKeys := false, apart := false, laid := [("drayage/deflate.order", laid_drayage_deflate_order), ("drayage/inflate.order", laid_drayage_inflate_order)], narrowed := true }
def DeflateBackUptoSaid : Prop := deflateBackUptoRow.holds Tryd.pinned (OpenSpec.upto deflateBackSpec)

/-- 'drayagelaw06.GzipPacks', WHERE WHAT IT READS IS OF BULK AT MOST 1048576: true; the input reads as it did. -/
def gzipPacksUptoRow : OpenClaim := { program := "ytolcdlopgbgilaadoor", sum := "925bede0500f457e341eee73feca837606c8ab109bd80d8da9a64bd35cd4bcfc", func := "drayage/drayagelaw06.GzipPacks", spec := "gzipPacks", inPlace := ["internal/bytealg.IndexByteString", "internal/bytealg.IndexString", "internal/bytealg.IndexByte"], unfollowed := true, recurses := true, named := ["internal/bytealg.MaxLen", "drayage/deflate.order", "drayage/inflate.order"], plainKeys := false, apart := false, laid := [("drayage/deflate.order", laid_drayage_deflate_order), ("drayage/inflate.order", laid_drayage_inflate_order)], narrowed := true }
def GzipPacksUptoSaid : Prop := gzipPacksUptoRow.holds Tryd.pinned (OpenSpec.upto gzipPacksSpec)

/-- 'drayagelaw06.GzipBack', WHERE WHAT IT READS IS OF BULK AT MOST 1048576: true; the input reads as it did. -/
def gzipBackUptoRow : OpenClaim := { program := "ytolcdlopgbgilaadoor", sum := "925bede0500f457e341eee73feca837606c8ab109bd80d8da9a64bd35cd4bcfc", func := "drayage/drayagelaw06.GzipBack", spec := "gzipBack", inPlace := ["internal/bytealg.IndexByteString", "internal/bytealg.IndexString", "internal/bytealg.IndexByte"], unfollowed := true, recurses := true, named := ["internal/bytealg.MaxLen", "drayage/deflate.order", "drayage/inflate.order"], plainKeys := false, apart := false, laid := [("drayage/deflate.order", laid_drayage_deflate_order), ("drayage/inflate.order", laid_drayage_inflate_order)], narrowed := true }
def GzipBackUptoSaid : Prop := gzipBackUptoRow.holds Tryd.pinned (OpenSpec.upto gzipBackSpec)

/-- 'drayagelaw06.GzipTells', WHERE WHAT IT READS IS OF BULK AT MOST 1048576: true; the input reads as it did. -/
def gzipTellsUptoRow : OpenClaim := { program := "ytolcdlopgbgilaadoor", sum := "925bede0500f457e341eee73feca837606c8ab109bd80d8da9a64bd35cd4bcfc", func := "drayage/drayagelaw06.GzipTells", spec := "gzipTells", inPlace := ["internal/bytealg.IndexByteString", "internal/bytealg.IndexString", "internal/bytealg.IndexByte"], unfollowed := true, recurses := true, named := ["internal/bytealg.MaxLen", "drayage/deflate.order", "drayage/inflate.order"], plainKeys := false, apart := false, laid := [("drayage/deflate.order", laid_drayage_deflate_order), ("drayage/inflate.order", laid_drayage_inflate_order)], narrowed := true }
def GzipTellsUptoSaid : Prop := gzipTellsUptoRow.holds Tryd.pinned (OpenSpec.upto gzipTellsSpec)

end Rows
end Go.Proofs.YtolcdlopgbgilaaDoor
