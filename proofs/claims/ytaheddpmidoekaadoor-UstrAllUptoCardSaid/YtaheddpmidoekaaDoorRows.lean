/-
  NARROWER THAN 'FOR EVERY INPUT', by the rows' own cells (each row's printed sentence says how): UstrNames: laid · UstrNext: laid · UstrAll: laid · UstrCase: laid · UstrTwice: laid · UstrBytes: laid · UstrParts: laid · UstrTiles: laid.
  DERIVED. THE GIVEN ROWS OF THIS SEAT. 8 by the template 'for every input the law returns true; each argument reads behind the call as it read before'; 0 by the template 'total and deterministic' (their statements: YtaheddpmidoekaaDoorTotals.lean).
  GIVEN WITH THE SEED: the statements are not yours to turn. If you find one false, say at which input.
  Laid BY PROGRAM, IN A SANDBOX (cutbox-rows.mjs): the forced cells as the released guide's own fill.sh prints them over the translation ed298482a1a95598… (all of the seat's roots in one cut). By AI agents, Wed Nov 11 2026. No macro, syntax, notation, axiom, sorry.
-/
import Derived.Test.YtaheddpmidoekaaDoorChecked
import GoSem.PinnedTables
import GoSem.Claim
import GoSem.ClaimJoined
import GoSem.ClaimMapViews
import Derived.JoinedTies
import Derived.KernelRfl
namespace Go.Proofs.YtaheddpmidoekaaDoor
/- THE CELL 'sum', in the pinned program and in every row, IS THE sha256 OF THE DUMP (.gsa) THAT YtaheddpmidoekaaDoorProg.lean LOADS. Nothing in Lean hashes anything: it is a label: what it is worth is what the hold of that sum in a sandbox is worth. -/
noncomputable def Tryd.pinned : Pinned := { name := "ytaheddpmidoekaadoor", sum := "ed298482a1a9559829593d3857bcf3cb0392e714b3ad6c6f4b046cba4ae58271", checked := Tryd.checked }
namespace Rows
def none {H : Type} : Left H := { results := [], args := [] }

/- WHAT THE LISTED PACKAGE-LEVEL VARIABLES READ AS WHEN THE CALL BEGINS. Each datum BY PROGRAM (the guide's laid-datum.mjs) off the statement by which the dump's own 'gosem.cut.vars' lays the variable. In a bare row this is a premise. The card (YtaheddpmidoekaaDoorCards.lean) ties it to the program's text. -/
def laid_unicode_utf8_acceptRanges {H : Type} : DataW H := .agg [.agg [.lit (.int .u8 128), .lit (.int .u8 191)], .agg [.lit (.int .u8 160), .lit (.int .u8 191)], .agg [.lit (.int .u8 128), .lit (.int .u8 159)], .agg [.lit (.int .u8 144), .lit (.int .u8 191)], .agg [.lit (.int .u8 128), .lit (.int .u8 143)], .agg [.lit (.int .u8 0), .lit (.int .u8 0)], .agg [.lit (.int .u8 0), .lit (.int .u8 0)], .agg [.lit (.int .u8 0), .lit (.int .u8 0)], .agg [.lit (.int .u8 0), .lit (.int .u8 0)], .agg [.lit (.int .u8 0), .lit (.int .u8 0)], .agg [.lit (.int .u8 0), .lit (.int .u8 0)], .agg [.lit (.int .u8 0), .lit (.int .u8 0)], .agg [.lit (.int .u8 0), .lit (.int .u8 0)], .agg [.lit (.int .u8 0), .lit (.int .u8 0)], .agg [.lit (.int .u8 0), .lit (.int .u8 0)], .agg [.lit (.int .u8 0), .lit (.int .u8 0)]]
/-- One of Go's own tables, pinned by name: the form's constant. -/
def laid_unicode_utf8_first : DataW Unit := Go.Pinned.utf8First

/-- 'thresherlaw01.UstrNames': WHATEVER THE INPUT: true; the input reads as it did. -/
def ustrNamesSpec : ChangeSpec := { name := "ustrNames", fn := fun _ => fun
  | [] => { results := [.lit (.bool true)], args := [] }
  | _ => none }
def ustrNamesRow : OpenClaim := { program := "ytaheddpmidoekaadoor", sum := "ed298482a1a9559829593d3857bcf3cb0392e714b3ad6c6f4b046cba4ae58271", func := "thresher/thresherlaw01.UstrNames", spec := "ustrNames", inPlace := ["internal/abi.NoEscape"], unfollowed := true, recurses := true, named := ["unicode/utf8.first", "unicode/utf8.acceptRanges"], apart := false, laid := [("unicode/utf8.acceptRanges", laid_unicode_utf8_acceptRanges), ("unicode/utf8.first", laid_unicode_utf8_first)] }
def UstrNamesSaid : Prop := ustrNamesRow.holds Tryd.pinned (OpenSpec.ofChange ustrNamesSpec)

/-- ITS FALSE NEIGHBOUR: 'it returns false'. Refute it at one input. -/
def ustrNamesWrong : ChangeSpec := { name := "ustrNames", fn := fun _ => fun
  | [] => { results := [.lit (.bool false)], args := [] }
  | _ => none }
def UstrNamesWrongFalsely : Prop := ustrNamesRow.holds Tryd.pinned (OpenSpec.ofChange ustrNamesWrong)

/-- 'thresherlaw01.UstrNext': WHATEVER THE INPUT: true; the input reads as it did. -/
def ustrNextSpec : ChangeSpec := { name := "ustrNext", fn := fun _ => fun
  | [d] => { results := [.lit (.bool true)], args := [d] }
  | _ => none }
def ustrNextRow : OpenClaim := { program := "ytaheddpmidoekaadoor", sum := "ed298482a1a9559829593d3857bcf3cb0392e714b3ad6c6f4b046cba4ae58271", func := "thresher/thresherlaw01.UstrNext", spec := "ustrNext", inPlace := ["internal/abi.NoEscape"], unfollowed := true, recurses := true, named := ["unicode/utf8.first", "unicode/utf8.acceptRanges"], apart := false, laid := [("unicode/utf8.acceptRanges", laid_unicode_utf8_acceptRanges), ("unicode/utf8.first", laid_unicode_utf8_first)] }
def UstrNextSaid : Prop := ustrNextRow.holds Tryd.pinned (OpenSpec.ofChange ustrNextSpec)

/-- ITS FALSE NEIGHBOUR: 'it returns false'. Refute it at one input. -/
def ustrNextWrong : ChangeSpec := { name := "ustrNext", fn := fun _ => fun
  | [d] => { results := [.lit (.bool false)], args := [d] }
  | _ => none }
def UstrNextWrongFalsely : Prop := ustrNextRow.holds Tryd.pinned (OpenSpec.ofChange ustrNextWrong)

/-- 'thresherlaw01.UstrAll': WHATEVER THE INPUT: true; the input reads as it did. -/
def ustrAllSpec : ChangeSpec := { name := "ustrAll", fn := fun _ => fun
  | [d1, d2, d3] => { results := [.lit (.bool true)], args := [d1, d2, d3] }
  | _ => none }
def ustrAllRow : OpenClaim := { program := "ytaheddpmidoekaadoor", sum := "ed298482a1a9559829593d3857bcf3cb0392e714b3ad6c6f4b046cba4ae58271", func := "thresher/thresherlaw01.UstrAll", spec := "ustrAll", inPlace := ["internal/abi.NoEscape"], unfollowed := true, recurses := true, named := ["unicode/utf8.first", "unicode/utf8.acceptRanges"], apart := false, laid := [("unicode/utf8.acceptRanges", laid_unicode_utf8_acceptRanges), ("unicode/utf8.first", laid_unicode_utf8_first)] }
def UstrAllSaid : Prop := ustrAllRow.holds Tryd.pinned (OpenSpec.ofChange ustrAllSpec)

/-- ITS FALSE NEIGHBOUR: 'it returns false'. Refute it at one input. -/
def ustrAllWrong : ChangeSpec := { name := "ustrAll", fn := fun _ => fun
  | [d1, d2, d3] => { results := [.lit (.bool false)], args := [d1, d2, d3] }
  | _ => none }
def UstrAllWrongFalsely : Prop := ustrAllRow.holds Tryd.pinned (OpenSpec.ofChange ustrAllWrong)

/-- 'thresherlaw01.UstrCase': WHATEVER THE INPUT: true; the input reads as it did. -/
def ustrCaseSpec : ChangeSpec := { name := "ustrCase", fn := fun _ => fun
  | [d1, d2, d3] => { results := [.lit (.bool true)], args := [d1, d2, d3] }
  | _ => none }
def ustrCaseRow : OpenClaim := { program := "ytaheddpmidoekaadoor", sum := "ed298482a1a9559829593d3857bcf3cb0392e714b3ad6c6f4b046cba4ae58271", func := "thresher/thresherlaw01.UstrCase", spec := "ustrCase", inPlace := ["internal/abi.NoEscape"], unfollowed := true, recurses := true, named := ["unicode/utf8.first", "unicode/utf8.acceptRanges"], apart := false, laid := [("unicode/utf8.acceptRanges", laid_unicode_utf8_acceptRanges), ("unicode/utf8.first", laid_unicode_utf8_first)] }
def UstrCaseSaid : Prop := ustrCaseRow.holds Tryd.pinned (OpenSpec.ofChange ustrCaseSpec)

/-- ITS FALSE NEIGHBOUR: 'it returns false'. Refute it at one input. -/
def ustrCaseWrong : ChangeSpec := { name := "ustrCase", fn := fun _ => fun
  | [d1, d2, d3] => { results := [.lit (.bool false)], args := [d1, d2, d3] }
  | _ => none }
def UstrCaseWrongFalsely : Prop := ustrCaseRow.holds Tryd.pinned (OpenSpec.ofChange ustrCaseWrong)

/-- 'thresherlaw01.UstrTwice': WHATEVER THE INPUT: true; the input reads as it did. -/
def ustrTwiceSpec : ChangeSpec := { name := "ustrTwice", fn := fun _ => fun
  | [d1, d2] => { results := [.lit (.bool true)], args := [d1, d2] }
  | _ => none }
def ustrTwiceRow : OpenClaim := { program := "ytaheddpmidoekaadoor", sum := "ed298482a1a9559829593d3857bcf3cb0392e714b3ad6c6f4b046cba4ae58271", func := "thresher/thresherlaw01.UstrTwice", spec := "ustrTwice", inPlace := ["internal/abi.NoEscape"], unfollowed := true, recurses := true, named := ["unicode/utf8.first", "unicode/utf8.acceptRanges"], apart := false, laid := [("unicode/utf8.acceptRanges", laid_unicode_utf8_acceptRanges), ("unicode/utf8.first", laid_unicode_utf8_first)] }
def UstrTwiceSaid : Prop := ustrTwiceRow.holds Tryd.pinned (OpenSpec.ofChange ustrTwiceSpec)

/-- ITS FALSE NEIGHBOUR: 'it returns false'. Refute it at one input. -/
def ustrTwiceWrong : ChangeSpec := { name := "ustrTwice", fn := fun _ => fun
  | [d1, d2] => { results := [.lit (.bool false)], args := [d1, d2] }
  | _ => none }
def UstrTwiceWrongFalsely : Prop := ustrTwiceRow.holds Tryd.pinned (OpenSpec.ofChange ustrTwiceWrong)

/-- 'thresherlaw01.UstrBytes': WHATEVER THE INPUT: true; the input reads as it did. -/
def ustrBytesSpec : ChangeSpec := { name := "ustrBytes", fn := fun _ => fun
  | [d1, d2] => { results := [.lit (.bool true)], args := [d1, d2] }
  | _ => none }
def ustrBytesRow : OpenClaim := { program := "ytaheddpmidoekaadoor", sum := "ed298482a1a9559829593d3857bcf3cb0392e714b3ad6c6f4b046cba4ae58271", func := "thresher/thresherlaw01.UstrBytes", spec := "ustrBytes", inPlace := ["internal/abi.NoEscape"], unfollowed := true, recurses := true, named := ["unicode/utf8.first", "unicode/utf8.acceptRanges"], apart := false, laid := [("unicode/utf8.acceptRanges", laid_unicode_utf8_acceptRanges), ("unicode/utf8.first", laid_unicode_utf8_first)] }
def UstrBytesSaid : Prop := ustrBytesRow.holds Tryd.pinned (OpenSpec.ofChange ustrBytesSpec)

/-- ITS FALSE NEIGHBOUR: 'it returns false'. Refute it at one input. -/
def ustrBytesWrong : ChangeSpec := { name := "ustrBytes", fn := fun _ => fun
  | [d1, d2] => { results := [.lit (.bool false)], args := [d1, d2] }
  | _ => none }
def UstrBytesWrongFalsely : Prop := ustrBytesRow.holds Tryd.pinned (OpenSpec.ofChange ustrBytesWrong)

/-- 'thresherlaw01.UstrParts': WHATEVER THE INPUT: true; the input reads as it did. -/
def ustrPartsSpec : ChangeSpec := { name := "ustrParts", fn := fun _ => fun
  | [d1, d2, d3] => { results := [.lit (.bool true)], args := [d1, d2, d3] }
  | _ => none }
def ustrPartsRow : OpenClaim := { program := "ytaheddpmidoekaadoor", sum := "ed298482a1a9559829593d3857bcf3cb0392e714b3ad6c6f4b046cba4ae58271", func := "thresher/thresherlaw01.UstrParts", spec := "ustrParts", inPlace := ["internal/abi.NoEscape"], unfollowed := true, recurses := true, named := ["unicode/utf8.first", "unicode/utf8.acceptRanges"], apart := false, laid := [("unicode/utf8.acceptRanges", laid_unicode_utf8_acceptRanges), ("unicode/utf8.first", laid_unicode_utf8_first)] }
def UstrPartsSaid : Prop := ustrPartsRow.holds Tryd.pinned (OpenSpec.ofChange ustrPartsSpec)

/-- ITS FALSE NEIGHBOUR: 'it returns false'. Refute it at one input. -/
def ustrPartsWrong : ChangeSpec := { name := "ustrParts", fn := fun _ => fun
  | [d1, d2, d3] => { results := [.lit (.bool false)], args := [d1, d2, d3] }
  | _ => none }
def UstrPartsWrongFalsely : Prop := ustrPartsRow.holds Tryd.pinned (OpenSpec.ofChange ustrPartsWrong)

/-- 'thresherlaw01.UstrTiles': WHATEVER THE INPUT: true; the input reads as it did. -/
def ustrTilesSpec : ChangeSpec := { name := "ustrTiles", fn := fun _ => fun
  | [d1, d2, d3] => { results := [.lit (.bool true)], args := [d1, d2, d3] }
  | _ => none }
def ustrTilesRow : OpenClaim := { program := "ytaheddpmidoekaadoor", sum := "ed298482a1a9559829593d3857bcf3cb0392e714b3ad6c6f4b046cba4ae58271", func := "thresher/thresherlaw01.UstrTiles", spec := "ustrTiles", inPlace := ["internal/abi.NoEscape"], unfollowed := true, recurses := true, named := ["unicode/utf8.first", "unicode/utf8.acceptRanges"], apart := false, laid := [("unicode/utf8.acceptRanges", laid_unicode_utf8_acceptRanges), ("unicode/utf8.first", laid_unicode_utf8_first)] }
def UstrTilesSaid : Prop := ustrTilesRow.holds Tryd.pinned (OpenSpec.ofChange ustrTilesSpec)

/-- ITS FALSE NEIGHBOUR: 'it returns false'. Refute it at one input. -/
def ustrTilesWrong : ChangeSpec := { name := "ustrTiles", fn := fun _ => fun
  | [d1, d2, d3] => { results := [.lit (.bool false)], args := [d1, d2, d3] }
  | _ => none }
def UstrTilesWrongFalsely : Prop := ustrTilesRow.holds Tryd.pinned (OpenSpec.ofChange ustrTilesWrong)

/- THE SECOND FORM. 'bulk': how many values and letters a reading holds, each counted each time it is reached (what is shared counts as often as it is met; a slice's spare places count too). A statement '..UptoSaid' is the law's where the arguments, and the package variables that the reading takes, are together of bulk at most 1048576: NARROWER than '..Said'. Prove '..Said' where nothing that the law and all that it calls make is longer than what came in: it says more and counts as full. Else prove '..UptoSaid'. A law counts once. -/
mutual
def uptoBulk {H : Type} : DataW H → Nat
  | .lit (.string bytes) => bytes.length + 1
  | .lit _ => 1
  | .nil => 1
  | .ptr d => uptoBulk d + 1
  | .slice elems spare => uptoBulkAll elems + uptoBulkAll spare + 1
  | .agg parts => uptoBulkAll parts + 1
  | .iface _ d => uptoBulk d + 1
  | .map entries => uptoBulkEntries entries + 1
  | .held _ => 1
def uptoBulkAll {H : Type} : List (DataW H) → Nat
  | [] => 0
  | d :: r => uptoBulk d + uptoBulkAll r
def uptoBulkEntries {H : Type} : List (Lit × DataW H) → Nat
  | [] => 0
  | x :: r => uptoBulkEntry x + uptoBulkEntries r
def uptoBulkEntry {H : Type} : Lit × DataW H → Nat
  | (.string bytes, d) => bytes.length + uptoBulk d + 1
  | (_, d) => uptoBulk d + 1
 end
def uptoSmall : (H : Type) → List (DataW H) → Bool := fun _ ds => decide (uptoBulkAll ds ≤ 1048576)
def OpenSpec.upto (s : _root_.Go.ChangeSpec) : _root_.Go.OpenSpec := { _root_.Go.OpenSpec.ofChange s with cond := some uptoSmall }

/-- 'thresherlaw01.UstrNames', WHERE WHAT IT READS IS OF BULK AT MOST 1048576: true; the input reads as it did. -/
def ustrNamesUptoRow : OpenClaim := { program := "ytaheddpmidoekaadoor", sum := "ed298482a1a9559829593d3857bcf3cb0392e714b3ad6c6f4b046cba4ae58271", func := "thresher/thresherlaw01.UstrNames", spec := "ustrNames", inPlace := ["internal/abi.NoEscape"], unfollowed := true, recurses := true, named := ["unicode/utf8.first", "unicode/utf8.acceptRanges"], apart := false, laid := [("unicode/utf8.acceptRanges", laid_unicode_utf8_acceptRanges), ("unicode/utf8.first", laid_unicode_utf8_first)], narrowed := true }
def UstrNamesUptoSaid : Prop := ustrNamesUptoRow.holds Tryd.pinned (OpenSpec.upto ustrNamesSpec)

/-- 'thresherlaw01.UstrNext', WHERE WHAT IT READS IS OF BULK AT MOST 1048576: true; the input reads as it did. -/
def ustrNextUptoRow : OpenClaim := { program := "ytaheddpmidoekaadoor", sum := "ed298482a1a9559829593d3857bcf3cb0392e714b3ad6c6f4b046cba4ae58271", func := "thresher/thresherlaw01.UstrNext", spec := "ustrNext", inPlace := ["internal/abi.NoEscape"], unfollowed := true, recurses := true, named := ["unicode/utf8.first", "unicode/utf8.acceptRanges"], apart := false, laid := [("unicode/utf8.acceptRanges", laid_unicode_utf8_acceptRanges), ("unicode/utf8.first", laid_unicode_utf8_first)], narrowed := true }
def UstrNextUptoSaid : Prop := ustrNextUptoRow.holds Tryd.pinned (OpenSpec.upto ustrNextSpec)

/-- 'thresherlaw01.UstrAll', WHERE WHAT IT READS IS OF BULK AT MOST 1048576: true; the input reads as it did. -/
def ustrAllUptoRow : OpenClaim := { program := "ytaheddpmidoekaadoor", sum := "ed298482a1a9559829593d3857bcf3cb0392e714b3ad6c6f4b046cba4ae58271", func := "thresher/thresherlaw01.UstrAll", spec := "ustrAll", inPlace := ["internal/abi.NoEscape"], unfollowed := true, recurses := true, named := ["unicode/utf8.first", "unicode/utf8.acceptRanges"], apart := false, laid := [("unicode/utf8.acceptRanges", laid_unicode_utf8_acceptRanges), ("unicode/utf8.first", laid_unicode_utf8_first)], narrowed := true }
def UstrAllUptoSaid : Prop := ustrAllUptoRow.holds Tryd.pinned (OpenSpec.upto ustrAllSpec)

/-- 'thresherlaw01.UstrCase', WHERE WHAT IT READS IS OF BULK AT MOST 1048576: true; the input reads as it did. -/
def ustrCaseUptoRow : OpenClaim := { program := "ytaheddpmidoekaadoor", sum := "ed298482a1a9559829593d3857bcf3cb0392e714b3ad6c6f4b046cba4ae58271", func := "thresher/thresherlaw01.UstrCase", spec := "ustrCase", inPlace := ["internal/abi.NoEscape"], unfollowed := true, recurses := true, named := ["unicode/utf8.first", "unicode/utf8.acceptRanges"], apart := false, laid := [("unicode/utf8.acceptRanges", laid_unicode_utf8_acceptRanges), ("unicode/utf8.first", laid_unicode_utf8_first)], narrowed := true }
def UstrCaseUptoSaid : Prop := ustrCaseUptoRow.holds Tryd.pinned (OpenSpec.upto ustrCaseSpec)

/-- 'thresherlaw01.UstrTwice', WHERE WHAT IT READS IS OF BULK AT MOST 1048576: true; the input reads as it did. -/
def ustrTwiceUptoRow : OpenClaim := { program := "ytaheddpmidoekaadoor", sum := "ed298482a1a9559829593d3857bcf3cb0392e714b3ad6c6f4b046cba4ae58271", func := "thresher/thresherlaw01.UstrTwice", spec := "ustrTwice", inPlace := ["internal/abi.NoEscape"], unfollowed := true, recurses := true, named := ["unicode/utf8.first", "unicode/utf8.acceptRanges"], apart := false, laid := [("unicode/utf8.acceptRanges", laid_unicode_utf8_acceptRanges), ("unicode/utf8.first", laid_unicode_utf8_first)], narrowed := true }
def UstrTwiceUptoSaid : Prop := ustrTwiceUptoRow.holds Tryd.pinned (OpenSpec.upto ustrTwiceSpec)

/-- 'thresherlaw01.UstrBytes', WHERE WHAT IT READS IS OF BULK AT MOST 1048576: true; the input reads as it did. -/
def ustrBytesUptoRow : OpenClaim := { program := "ytaheddpmidoekaadoor", sum := "ed298482a1a9559829593d3857bcf3cb0392e714b3ad6c6f4b046cba4ae58271", func := "thresher/thresherlaw01.UstrBytes", spec := "ustrBytes", inPlace := ["internal/abi.NoEscape"], unfollowed := true, recurses := true, named := ["unicode/utf8.first", "unicode/utf8.acceptRanges"], apart := false, laid := [("unicode/utf8.acceptRanges", laid_unicode_utf8_acceptRanges), ("unicode/utf8.first", laid_unicode_utf8_first)], narrowed := true }
def UstrBytesUptoSaid : Prop := ustrBytesUptoRow.holds Tryd.pinned (OpenSpec.upto ustrBytesSpec)

/-- 'thresherlaw01.UstrParts', WHERE WHAT IT READS IS OF BULK AT MOST 1048576: true; the input reads as it did. -/
def ustrPartsUptoRow : OpenClaim := { program := "ytaheddpmidoekaadoor", sum := "ed298482a1a9559829593d3857bcf3cb0392e714b3ad6c6f4b046cba4ae58271", func := "thresher/thresherlaw01.UstrParts", spec := "ustrParts", inPlace := ["internal/abi.NoEscape"], unfollowed := true, recurses := true, named := ["unicode/utf8.first", "unicode/utf8.acceptRanges"], apart := false, laid := [("unicode/utf8.acceptRanges", laid_unicode_utf8_acceptRanges), ("unicode/utf8.first", laid_unicode_utf8_first)], narrowed := true }
def UstrPartsUptoSaid : Prop := ustrPartsUptoRow.holds Tryd.pinned (OpenSpec.upto ustrPartsSpec)

/-- 'thresherlaw01.UstrTiles', WHERE WHAT IT READS IS OF BULK AT MOST 1048576: true; the input reads as it did. -/
def ustrTilesUptoRow : OpenClaim := { program := "ytaheddpmidoekaadoor", sum := "ed298482a1a9559829593d3857bcf3cb0392e714b3ad6c6f4b046cba4ae58271", func := "thresher/thresherlaw01.UstrTiles", spec := "ustrTiles", inPlace := ["internal/abi.NoEscape"], unfollowed := true, recurses := true, named := ["unicode/utf8.first", "unicode/utf8.acceptRanges"], apart := false, laid := [("unicode/utf8.acceptRanges", laid_unicode_utf8_acceptRanges), ("unicode/utf8.first", laid_unicode_utf8_first)], narrowed := true }
def UstrTilesUptoSaid : Prop := ustrTilesUptoRow.holds Tryd.pinned (OpenSpec.upto ustrTilesSpec)

end Rows
end Go.Proofs.YtaheddpmidoekaaDoor
