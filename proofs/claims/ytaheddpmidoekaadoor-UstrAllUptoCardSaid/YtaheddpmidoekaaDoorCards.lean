/-
  DERIVED. GIVEN WITH THE SEED: THE CARDS: each row of YtaheddpmidoekaaDoorRows.lean that lists a variable, with what it lists TIED to the program's text (the seventh form; the later family's looks); each row that meets fmt, with fmt's text TOLD by the authors' own Lean function (tested against real Go, not proved from fmt's source: count such statements apart). THE CARD IS WHAT COUNTS. Prove the row's statement (the work); the ties are given (YtaheddpmidoekaaDoorTie.lean); close each card by the builder's one call (the guide's Derived/Test/ToyasCard.lean, 'card_holds'). Laid BY PROGRAM, IN A SANDBOX (cutbox-door.mjs). By AI agents, Wed Nov 11 2026. No macro, syntax, notation, axiom, sorry.
-/
import Derived.Test.YtaheddpmidoekaaDoorRows
import GoSem.ClaimSeven
namespace Go.Proofs.YtaheddpmidoekaaDoor
namespace Rows

/-- THE TIED CARD OF 'thresherlaw01.UstrNames'. -/
def ustrNamesCard : Claim7 := { stood := { row := ustrNamesRow, standIns := [], harness := (true, "1e277d2fb36e8bfc61332ff168e5bfc945b766ebc36ccbb72872e0ef0c8e333b"), looks := false }, kinds := [], alts := [], laidByText := true, laidKinds := [.data, .pinned], laidTests := true, laidLooks := .later }
def UstrNamesCardSaid : Prop := Claim7.holds Tryd.pinned (.plain (OpenSpec.ofChange ustrNamesSpec)) ustrNamesCard

/-- THE TIED CARD OF 'thresherlaw01.UstrNext'. -/
def ustrNextCard : Claim7 := { stood := { row := ustrNextRow, standIns := [], harness := (true, "1e277d2fb36e8bfc61332ff168e5bfc945b766ebc36ccbb72872e0ef0c8e333b"), looks := false }, kinds := [], alts := [], laidByText := true, laidKinds := [.data, .pinned], laidTests := true, laidLooks := .later }
def UstrNextCardSaid : Prop := Claim7.holds Tryd.pinned (.plain (OpenSpec.ofChange ustrNextSpec)) ustrNextCard

/-- THE TIED CARD OF 'thresherlaw01.UstrAll'. -/
def ustrAllCard : Claim7 := { stood := { row := ustrAllRow, standIns := [], harness := (true, "1e277d2fb36e8bfc61332ff168e5bfc945b766ebc36ccbb72872e0ef0c8e333b"), looks := false }, kinds := [], alts := [], laidByText := true, laidKinds := [.data, .pinned], laidTests := true, laidLooks := .later }
def UstrAllCardSaid : Prop := Claim7.holds Tryd.pinned (.plain (OpenSpec.ofChange ustrAllSpec)) ustrAllCard

/-- THE TIED CARD OF 'thresherlaw01.UstrCase'. -/
def ustrCaseCard : Claim7 := { stood := { row := ustrCaseRow, standIns := [], harness := (true, "1e277d2fb36e8bfc61332ff168e5bfc945b766ebc36ccbb72872e0ef0c8e333b"), looks := false }, kinds := [], alts := [], laidByText := true, laidKinds := [.data, .pinned], laidTests := true, laidLooks := .later }
def UstrCaseCardSaid : Prop := Claim7.holds Tryd.pinned (.plain (OpenSpec.ofChange ustrCaseSpec)) ustrCaseCard

/-- THE TIED CARD OF 'thresherlaw01.UstrTwice'. -/
def ustrTwiceCard : Claim7 := { stood := { row := ustrTwiceRow, standIns := [], harness := (true, "1e277d2fb36e8bfc61332ff168e5bfc945b766ebc36ccbb72872e0ef0c8e333b"), looks := false }, kinds := [], alts := [], laidByText := true, laidKinds := [.data, .pinned], laidTests := true, laidLooks := .later }
def UstrTwiceCardSaid : Prop := Claim7.holds Tryd.pinned (.plain (OpenSpec.ofChange ustrTwiceSpec)) ustrTwiceCard

/-- THE TIED CARD OF 'thresherlaw01.UstrBytes'. -/
def ustrBytesCard : Claim7 := { stood := { row := ustrBytesRow, standIns := [], harness := (true, "1e277d2fb36e8bfc61332ff168e5bfc945b766ebc36ccbb72872e0ef0c8e333b"), looks := false }, kinds := [], alts := [], laidByText := true, laidKinds := [.data, .pinned], laidTests := true, laidLooks := .later }
def UstrBytesCardSaid : Prop := Claim7.holds Tryd.pinned (.plain (OpenSpec.ofChange ustrBytesSpec)) ustrBytesCard

/-- THE TIED CARD OF 'thresherlaw01.UstrParts'. -/
def ustrPartsCard : Claim7 := { stood := { row := ustrPartsRow, standIns := [], harness := (true, "1e277d2fb36e8bfc61332ff168e5bfc945b766ebc36ccbb72872e0ef0c8e333b"), looks := false }, kinds := [], alts := [], laidByText := true, laidKinds := [.data, .pinned], laidTests := true, laidLooks := .later }
def UstrPartsCardSaid : Prop := Claim7.holds Tryd.pinned (.plain (OpenSpec.ofChange ustrPartsSpec)) ustrPartsCard

/-- THE TIED CARD OF 'thresherlaw01.UstrTiles'. -/
def ustrTilesCard : Claim7 := { stood := { row := ustrTilesRow, standIns := [], harness := (true, "1e277d2fb36e8bfc61332ff168e5bfc945b766ebc36ccbb72872e0ef0c8e333b"), looks := false }, kinds := [], alts := [], laidByText := true, laidKinds := [.data, .pinned], laidTests := true, laidLooks := .later }
def UstrTilesCardSaid : Prop := Claim7.holds Tryd.pinned (.plain (OpenSpec.ofChange ustrTilesSpec)) ustrTilesCard

/-- THE SECOND FORM's CARD OF 'thresherlaw01.UstrNames'. -/
def ustrNamesUptoCard : Claim7 := { stood := { row := ustrNamesUptoRow, standIns := [], harness := (true, "1e277d2fb36e8bfc61332ff168e5bfc945b766ebc36ccbb72872e0ef0c8e333b"), looks := false }, kinds := [], alts := [], laidByText := true, laidKinds := [.data, .pinned], laidTests := true, laidLooks := .later }
def UstrNamesUptoCardSaid : Prop := Claim7.holds Tryd.pinned (.plain (OpenSpec.upto ustrNamesSpec)) ustrNamesUptoCard

/-- THE SECOND FORM's CARD OF 'thresherlaw01.UstrNext'. -/
def ustrNextUptoCard : Claim7 := { stood := { row := ustrNextUptoRow, standIns := [], harness := (true, "1e277d2fb36e8bfc61332ff168e5bfc945b766ebc36ccbb72872e0ef0c8e333b"), looks := false }, kinds := [], alts := [], laidByText := true, laidKinds := [.data, .pinned], laidTests := true, laidLooks := .later }
def UstrNextUptoCardSaid : Prop := Claim7.holds Tryd.pinned (.plain (OpenSpec.upto ustrNextSpec)) ustrNextUptoCard

/-- THE SECOND FORM's CARD OF 'thresherlaw01.UstrAll'. -/
def ustrAllUptoCard : Claim7 := { stood := { row := ustrAllUptoRow, standIns := [], harness := (true, "1e277d2fb36e8bfc61332ff168e5bfc945b766ebc36ccbb72872e0ef0c8e333b"), looks := false }, kinds := [], alts := [], laidByText := true, laidKinds := [.data, .pinned], laidTests := true, laidLooks := .later }
def UstrAllUptoCardSaid : Prop := Claim7.holds Tryd.pinned (.plain (OpenSpec.upto ustrAllSpec)) ustrAllUptoCard

/-- THE SECOND FORM's CARD OF 'thresherlaw01.UstrCase'. -/
def ustrCaseUptoCard : Claim7 := { stood := { row := ustrCaseUptoRow, standIns := [], harness := (true, "1e277d2fb36e8bfc61332ff168e5bfc945b766ebc36ccbb72872e0ef0c8e333b"), looks := false }, kinds := [], alts := [], laidByText := true, laidKinds := [.data, .pinned], laidTests := true, laidLooks := .later }
def UstrCaseUptoCardSaid : Prop := Claim7.holds Tryd.pinned (.plain (OpenSpec.upto ustrCaseSpec)) ustrCaseUptoCard

/-- THE SECOND FORM's CARD OF 'thresherlaw01.UstrTwice'. -/
def ustrTwiceUptoCard : Claim7 := { stood := { row := ustrTwiceUptoRow, standIns := [], harness := (true, "1e277d2fb36e8bfc61332ff168e5bfc945b766ebc36ccbb72872e0ef0c8e333b"), looks := false }, kinds := [], alts := [], laidByText := true, laidKinds := [.data, .pinned], laidTests := true, laidLooks := .later }
def UstrTwiceUptoCardSaid : Prop := Claim7.holds Tryd.pinned (.plain (OpenSpec.upto ustrTwiceSpec)) ustrTwiceUptoCard

/-- THE SECOND FORM's CARD OF 'thresherlaw01.UstrBytes'. -/
def ustrBytesUptoCard : Claim7 := { stood := { row := ustrBytesUptoRow, standIns := [], harness := (true, "1e277d2fb36e8bfc61332ff168e5bfc945b766ebc36ccbb72872e0ef0c8e333b"), looks := false }, kinds := [], alts := [], laidByText := true, laidKinds := [.data, .pinned], laidTests := true, laidLooks := .later }
def UstrBytesUptoCardSaid : Prop := Claim7.holds Tryd.pinned (.plain (OpenSpec.upto ustrBytesSpec)) ustrBytesUptoCard

/-- THE SECOND FORM's CARD OF 'thresherlaw01.UstrParts'. -/
def ustrPartsUptoCard : Claim7 := { stood := { row := ustrPartsUptoRow, standIns := [], harness := (true, "1e277d2fb36e8bfc61332ff168e5bfc945b766ebc36ccbb72872e0ef0c8e333b"), looks := false }, kinds := [], alts := [], laidByText := true, laidKinds := [.data, .pinned], laidTests := true, laidLooks := .later }
def UstrPartsUptoCardSaid : Prop := Claim7.holds Tryd.pinned (.plain (OpenSpec.upto ustrPartsSpec)) ustrPartsUptoCard

/-- THE SECOND FORM's CARD OF 'thresherlaw01.UstrTiles'. -/
def ustrTilesUptoCard : Claim7 := { stood := { row := ustrTilesUptoRow, standIns := [], harness := (true, "1e277d2fb36e8bfc61332ff168e5bfc945b766ebc36ccbb72872e0ef0c8e333b"), looks := false }, kinds := [], alts := [], laidByText := true, laidKinds := [.data, .pinned], laidTests := true, laidLooks := .later }
def UstrTilesUptoCardSaid : Prop := Claim7.holds Tryd.pinned (.plain (OpenSpec.upto ustrTilesSpec)) ustrTilesUptoCard
end Rows
end Go.Proofs.YtaheddpmidoekaaDoor
