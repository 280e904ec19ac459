/-
  DERIVED. GIVEN WITH THE SEED: THE CARDS: each row of YtimeodjfihpgeaaDoorRows.lean that lists a variable, with what it lists TIED to the program's text (the seventh form; the later family's looks); each row that meets fmt, with fmt's text TOLD by the authors' own Lean function (tested against real Go, not proved from fmt's source: count such statements apart). THE CARD IS WHAT COUNTS. Prove the row's statement (the work); the ties are given (YtimeodjfihpgeaaDoorTie.lean); close each card by the builder's one call (the guide's Derived/Test/ToyasCard.lean, 'card_holds'). Laid BY PROGRAM, IN A SANDBOX (cutbox-door.mjs). By AI agents, Wed Nov 11 2026. No macro, syntax, notation, axiom, sorry.
-/
import Derived.Test.YtimeodjfihpgeaaDoorRows
import GoSem.ClaimSeven
namespace Go.Proofs.YtimeodjfihpgeaaDoor
namespace Rows

/-- THE TIED CARD OF 'linchpinlaw25.TraceTells'. -/
def traceTellsCard : Claim7 := { stood := { row := traceTellsRow, standIns := [], harness := (true, "e7feedf59ff181a104340043f70b59ee275e4fff4a0462667d31ca2c37e59299"), looks := true }, kinds := [], alts := [], laidByText := true, laidKinds := [.data, .data, .data], laidTests := true, laidLooks := .later }
def TraceTellsCardSaid : Prop := Claim7.holds Tryd.pinned (.plain (OpenSpec.ofChange traceTellsSpec)) traceTellsCard

/-- THE TIED CARD OF 'linchpinlaw25.TraceParts'. -/
def tracePartsCard : Claim7 := { stood := { row := tracePartsRow, standIns := [], harness := (true, "e7feedf59ff181a104340043f70b59ee275e4fff4a0462667d31ca2c37e59299"), looks := true }, kinds := [], alts := [], laidByText := true, laidKinds := [.data, .data, .data], laidTests := true, laidLooks := .later }
def TracePartsCardSaid : Prop := Claim7.holds Tryd.pinned (.plain (OpenSpec.ofChange tracePartsSpec)) tracePartsCard

/-- THE TIED CARD OF 'linchpinlaw25.TraceSpoiled'. -/
def traceSpoiledCard : Claim7 := { stood := { row := traceSpoiledRow, standIns := [], harness := (true, "e7feedf59ff181a104340043f70b59ee275e4fff4a0462667d31ca2c37e59299"), looks := true }, kinds := [], alts := [], laidByText := true, laidKinds := [.data, .data, .data], laidTests := true, laidLooks := .later }
def TraceSpoiledCardSaid : Prop := Claim7.holds Tryd.pinned (.plain (OpenSpec.ofChange traceSpoiledSpec)) traceSpoiledCard

/-- THE SECOND FORM's CARD OF 'linchpinlaw25.TraceTells'. -/
def traceTellsUptoCard : Claim7 := { stood := { row := traceTellsUptoRow, standIns := [], harness := (true, "e7feedf59ff181a104340043f70b59ee275e4fff4a0462667d31ca2c37e59299"), looks := true }, kinds := [], alts := [], laidByText := true, laidKinds := [.data, .data, .data], laidTests := true, laidLooks := .later }
def TraceTellsUptoCardSaid : Prop := Claim7.holds Tryd.pinned (.plain (OpenSpec.upto traceTellsSpec)) traceTellsUptoCard

/-- THE SECOND FORM's CARD OF 'linchpinlaw25.TraceParts'. -/
def tracePartsUptoCard : Claim7 := { stood := { row := tracePartsUptoRow, standIns := [], harness := (true, "e7feedf59ff181a104340043f70b59ee275e4fff4a0462667d31ca2c37e59299"), looks := true }, kinds := [], alts := [], laidByText := true, laidKinds := [.data, .data, .data], laidTests := true, laidLooks := .later }
def TracePartsUptoCardSaid : Prop := Claim7.holds Tryd.pinned (.plain (OpenSpec.upto tracePartsSpec)) tracePartsUptoCard

/-- THE SECOND FORM's CARD OF 'linchpinlaw25.TraceSpoiled'. -/
def traceSpoiledUptoCard : Claim7 := { stood := { row := traceSpoiledUptoRow, standIns := [], harness := (true, "e7feedf59ff181a104340043f70b59ee275e4fff4a0462667d31ca2c37e59299"), looks := true }, kinds := [], alts := [], laidByText := true, laidKinds := [.data, .data, .data], laidTests := true, laidLooks := .later }
def TraceSpoiledUptoCardSaid : Prop := Claim7.holds Tryd.pinned (.plain (OpenSpec.upto traceSpoiledSpec)) traceSpoiledUptoCard
end Rows
end Go.Proofs.YtimeodjfihpgeaaDoor
