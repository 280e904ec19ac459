/-
  DERIVED. GIVEN WITH THE SEED: THE CARDS: each row of YtanlodaimbocoaaDoorRows.lean that lists a variable, with what it lists TIED to the program's text (the seventh form; the later family's looks); each row that meets fmt, with fmt's text TOLD by the authors' own Lean function (tested against real Go, not proved from fmt's source: count such statements apart). THE CARD IS WHAT COUNTS. Prove the row's statement (the work); the ties are given (YtanlodaimbocoaaDoorTie.lean); close each card by the builder's one call (the guide's Derived/Test/ToyasCard.lean, 'card_holds'). Laid BY PROGRAM, IN A SANDBOX (cutbox-door.mjs). By AI agents, Wed Nov 11 2026. No macro, syntax, notation, axiom, sorry.
-/
import Derived.Test.YtanlodaimbocoaaDoorRows
import GoSem.ClaimSeven
namespace Go.Proofs.YtanlodaimbocoaaDoor
namespace Rows

/-- THE TIED CARD OF 'linchpinlaw21.CallReads'. -/
def callReadsCard : Claim7 := { stood := { row := callReadsRow, standIns := [], harness := (true, "c1b01954ffc0753169e2318a28d598a11c4203c1182dc2c9381d645921c02716"), looks := true }, kinds := [], alts := [], laidByText := true, laidKinds := [.data, .data, .data], laidTests := true, laidLooks := .later }
def CallReadsCardSaid : Prop := Claim7.holds Tryd.pinned (.plain (OpenSpec.ofChange callReadsSpec)) callReadsCard

/-- THE TIED CARD OF 'linchpinlaw21.CallTells'. -/
def callTellsCard : Claim7 := { stood := { row := callTellsRow, standIns := [], harness := (true, "c1b01954ffc0753169e2318a28d598a11c4203c1182dc2c9381d645921c02716"), looks := true }, kinds := [], alts := [], laidByText := true, laidKinds := [.data, .data, .data], laidTests := true, laidLooks := .later }
def CallTellsCardSaid : Prop := Claim7.holds Tryd.pinned (.plain (OpenSpec.ofChange callTellsSpec)) callTellsCard

/-- THE TIED CARD OF 'linchpinlaw21.CallWords'. -/
def callWordsCard : Claim7 := { stood := { row := callWordsRow, standIns := [], harness := (true, "c1b01954ffc0753169e2318a28d598a11c4203c1182dc2c9381d645921c02716"), looks := true }, kinds := [], alts := [], laidByText := true, laidKinds := [.data, .data, .data], laidTests := true, laidLooks := .later }
def CallWordsCardSaid : Prop := Claim7.holds Tryd.pinned (.plain (OpenSpec.ofChange callWordsSpec)) callWordsCard

/-- THE TIED CARD OF 'linchpinlaw21.CallNumbers'. -/
def callNumbersCard : Claim7 := { stood := { row := callNumbersRow, standIns := [], harness := (true, "c1b01954ffc0753169e2318a28d598a11c4203c1182dc2c9381d645921c02716"), looks := true }, kinds := [], alts := [], laidByText := true, laidKinds := [.data, .data, .data], laidTests := true, laidLooks := .later }
def CallNumbersCardSaid : Prop := Claim7.holds Tryd.pinned (.plain (OpenSpec.ofChange callNumbersSpec)) callNumbersCard

/-- THE TIED CARD OF 'linchpinlaw21.CallBlank'. -/
def callBlankCard : Claim7 := { stood := { row := callBlankRow, standIns := [], harness := (true, "c1b01954ffc0753169e2318a28d598a11c4203c1182dc2c9381d645921c02716"), looks := true }, kinds := [], alts := [], laidByText := true, laidKinds := [.data, .data, .data], laidTests := true, laidLooks := .later }
def CallBlankCardSaid : Prop := Claim7.holds Tryd.pinned (.plain (OpenSpec.ofChange callBlankSpec)) callBlankCard

/-- THE SECOND FORM's CARD OF 'linchpinlaw21.CallReads'. -/
def callReadsUptoCard : Claim7 := { stood := { row := callReadsUptoRow, standIns := [], harness := (true, "c1b01954ffc0753169e2318a28d598a11c4203c1182dc2c9381d645921c02716"), looks := true }, kinds := [], alts := [], laidByText := true, laidKinds := [.data, .data, .data], laidTests := true, laidLooks := .later }
def CallReadsUptoCardSaid : Prop := Claim7.holds Tryd.pinned (.plain (OpenSpec.upto callReadsSpec)) callReadsUptoCard

/-- THE SECOND FORM's CARD OF 'linchpinlaw21.CallTells'. -/
def callTellsUptoCard : Claim7 := { stood := { row := callTellsUptoRow, standIns := [], harness := (true, "c1b01954ffc0753169e2318a28d598a11c4203c1182dc2c9381d645921c02716"), looks := true }, kinds := [], alts := [], laidByText := true, laidKinds := [.data, .data, .data], laidTests := true, laidLooks := .later }
def CallTellsUptoCardSaid : Prop := Claim7.holds Tryd.pinned (.plain (OpenSpec.upto callTellsSpec)) callTellsUptoCard

/-- THE SECOND FORM's CARD OF 'linchpinlaw21.CallWords'. -/
def callWordsUptoCard : Claim7 := { stood := { row := callWordsUptoRow, standIns := [], harness := (true, "c1b01954ffc0753169e2318a28d598a11c4203c1182dc2c9381d645921c02716"), looks := true }, kinds := [], alts := [], laidByText := true, laidKinds := [.data, .data, .data], laidTests := true, laidLooks := .later }
def CallWordsUptoCardSaid : Prop := Claim7.holds Tryd.pinned (.plain (OpenSpec.upto callWordsSpec)) callWordsUptoCard

/-- THE SECOND FORM's CARD OF 'linchpinlaw21.CallNumbers'. -/
def callNumbersUptoCard : Claim7 := { stood := { row := callNumbersUptoRow, standIns := [], harness := (true, "c1b01954ffc0753169e2318a28d598a11c4203c1182dc2c9381d645921c02716"), looks := true }, kinds := [], alts := [], laidByText := true, laidKinds := [.data, .data, .data], laidTests := true, laidLooks := .later }
def CallNumbersUptoCardSaid : Prop := Claim7.holds Tryd.pinned (.plain (OpenSpec.upto callNumbersSpec)) callNumbersUptoCard

/-- THE SECOND FORM's CARD OF 'linchpinlaw21.CallBlank'. -/
def callBlankUptoCard : Claim7 := { stood := { row := callBlankUptoRow, standIns := [], harness := (true, "c1b01954ffc0753169e2318a28d598a11c4203c1182dc2c9381d645921c02716"), looks := true }, kinds := [], alts := [], laidByText := true, laidKinds := [.data, .data, .data], laidTests := true, laidLooks := .later }
def CallBlankUptoCardSaid : Prop := Claim7.holds Tryd.pinned (.plain (OpenSpec.upto callBlankSpec)) callBlankUptoCard
end Rows
end Go.Proofs.YtanlodaimbocoaaDoor
