/-
  DERIVED. GIVEN WITH THE SEED: THE CARDS: each row of YtdclhgngjbneiaaDoorRows.lean that lists a variable, with what it lists TIED to the program's text (the seventh form; the later family's looks); each row that meets fmt, with fmt's text TOLD by the authors' own Lean function (tested against real Go, not proved from fmt's source: count such statements apart). THE CARD IS WHAT COUNTS. Prove the row's statement (the work); the ties are given (YtdclhgngjbneiaaDoorTie.lean); close each card by the builder's one call (the guide's Derived/Test/ToyasCard.lean, 'card_holds'). Laid BY PROGRAM, IN A SANDBOX (cutbox-door.mjs). By AI agents, Wed Nov 11 2026. No macro, syntax, notation, axiom, sorry.
-/
import Derived.Test.YtdclhgngjbneiaaDoorRows
import GoSem.ClaimSeven
namespace Go.Proofs.YtdclhgngjbneiaaDoor
namespace Rows

/-- THE TIED CARD OF 'sederuntlaw26.PrinterSets'. -/
def printerSetsCard : Claim7 := { stood := { row := printerSetsRow, standIns := [], harness := (true, "9a087bceeca33e926deabcd5159fec8e58d8c3b0eee1cc104789918a41560f6f"), looks := false }, kinds := [], alts := [], laidByText := true, laidKinds := [.data, .data, .data, .data, .pinned], laidTests := true, laidLooks := .later }
def PrinterSetsCardSaid : Prop := Claim7.holds Tryd.pinned (.plain (OpenSpec.ofChange printerSetsSpec)) printerSetsCard

/-- THE TIED CARD OF 'sederuntlaw26.PrinterFaults'. -/
def printerFaultsCard : Claim7 := { stood := { row := printerFaultsRow, standIns := [], harness := (true, "9a087bceeca33e926deabcd5159fec8e58d8c3b0eee1cc104789918a41560f6f"), looks := false }, kinds := [], alts := [], laidByText := true, laidKinds := [.data, .data, .data, .data, .pinned], laidTests := true, laidLooks := .later }
def PrinterFaultsCardSaid : Prop := Claim7.holds Tryd.pinned (.plain (OpenSpec.ofChange printerFaultsSpec)) printerFaultsCard

/-- THE TIED CARD OF 'sederuntlaw26.PrinterClash'. -/
def printerClashCard : Claim7 := { stood := { row := printerClashRow, standIns := [], harness := (true, "9a087bceeca33e926deabcd5159fec8e58d8c3b0eee1cc104789918a41560f6f"), looks := false }, kinds := [], alts := [], laidByText := true, laidKinds := [.data, .data, .data, .data, .pinned], laidTests := true, laidLooks := .later }
def PrinterClashCardSaid : Prop := Claim7.holds Tryd.pinned (.plain (OpenSpec.ofChange printerClashSpec)) printerClashCard

/-- THE TIED CARD OF 'sederuntlaw26.PrinterDifferent'. -/
def printerDifferentCard : Claim7 := { stood := { row := printerDifferentRow, standIns := [], harness := (true, "9a087bceeca33e926deabcd5159fec8e58d8c3b0eee1cc104789918a41560f6f"), looks := false }, kinds := [], alts := [], laidByText := true, laidKinds := [.data, .data, .data, .data, .pinned], laidTests := true, laidLooks := .later }
def PrinterDifferentCardSaid : Prop := Claim7.holds Tryd.pinned (.plain (OpenSpec.ofChange printerDifferentSpec)) printerDifferentCard

/-- THE TIED CARD OF 'sederuntlaw26.PrinterConfig'. -/
def printerConfigCard : Claim7 := { stood := { row := printerConfigRow, standIns := [], harness := (true, "9a087bceeca33e926deabcd5159fec8e58d8c3b0eee1cc104789918a41560f6f"), looks := false }, kinds := [], alts := [], laidByText := true, laidKinds := [.data, .data, .data, .data, .pinned], laidTests := true, laidLooks := .later }
def PrinterConfigCardSaid : Prop := Claim7.holds Tryd.pinned (.plain (OpenSpec.ofChange printerConfigSpec)) printerConfigCard

/-- THE TIED CARD OF 'sederuntlaw26.PrinterTable'. -/
def printerTableCard : Claim7 := { stood := { row := printerTableRow, standIns := [], harness := (true, "9a087bceeca33e926deabcd5159fec8e58d8c3b0eee1cc104789918a41560f6f"), looks := false }, kinds := [], alts := [], laidByText := true, laidKinds := [.data, .data, .data, .data, .pinned], laidTests := true, laidLooks := .later }
def PrinterTableCardSaid : Prop := Claim7.holds Tryd.pinned (.plain (OpenSpec.ofChange printerTableSpec)) printerTableCard

/-- THE SECOND FORM's CARD OF 'sederuntlaw26.PrinterSets'. -/
def printerSetsUptoCard : Claim7 := { stood := { row := printerSetsUptoRow, standIns := [], harness := (true, "9a087bceeca33e926deabcd5159fec8e58d8c3b0eee1cc104789918a41560f6f"), looks := false }, kinds := [], alts := [], laidByText := true, laidKinds := [.data, .data, .data, .data, .pinned], laidTests := true, laidLooks := .later }
def PrinterSetsUptoCardSaid : Prop := Claim7.holds Tryd.pinned (.plain (OpenSpec.upto printerSetsSpec)) printerSetsUptoCard

/-- THE SECOND FORM's CARD OF 'sederuntlaw26.PrinterFaults'. -/
def printerFaultsUptoCard : Claim7 := { stood := { row := printerFaultsUptoRow, standIns := [], harness := (true, "9a087bceeca33e926deabcd5159fec8e58d8c3b0eee1cc104789918a41560f6f"), looks := false }, kinds := [], alts := [], laidByText := true, laidKinds := [.data, .data, .data, .data, .pinned], laidTests := true, laidLooks := .later }
def PrinterFaultsUptoCardSaid : Prop := Claim7.holds Tryd.pinned (.plain (OpenSpec.upto printerFaultsSpec)) printerFaultsUptoCard

/-- THE SECOND FORM's CARD OF 'sederuntlaw26.PrinterClash'. -/
def printerClashUptoCard : Claim7 := { stood := { row := printerClashUptoRow, standIns := [], harness := (true, "9a087bceeca33e926deabcd5159fec8e58d8c3b0eee1cc104789918a41560f6f"), looks := false }, kinds := [], alts := [], laidByText := true, laidKinds := [.data, .data, .data, .data, .pinned], laidTests := true, laidLooks := .later }
def PrinterClashUptoCardSaid : Prop := Claim7.holds Tryd.pinned (.plain (OpenSpec.upto printerClashSpec)) printerClashUptoCard

/-- THE SECOND FORM's CARD OF 'sederuntlaw26.PrinterDifferent'. -/
def printerDifferentUptoCard : Claim7 := { stood := { row := printerDifferentUptoRow, standIns := [], harness := (true, "9a087bceeca33e926deabcd5159fec8e58d8c3b0eee1cc104789918a41560f6f"), looks := false }, kinds := [], alts := [], laidByText := true, laidKinds := [.data, .data, .data, .data, .pinned], laidTests := true, laidLooks := .later }
def PrinterDifferentUptoCardSaid : Prop := Claim7.holds Tryd.pinned (.plain (OpenSpec.upto printerDifferentSpec)) printerDifferentUptoCard

/-- THE SECOND FORM's CARD OF 'sederuntlaw26.PrinterConfig'. -/
def printerConfigUptoCard : Claim7 := { stood := { row := printerConfigUptoRow, standIns := [], harness := (true, "9a087bceeca33e926deabcd5159fec8e58d8c3b0eee1cc104789918a41560f6f"), looks := false }, kinds := [], alts := [], laidByText := true, laidKinds := [.data, .data, .data, .data, .pinned], laidTests := true, laidLooks := .later }
def PrinterConfigUptoCardSaid : Prop := Claim7.holds Tryd.pinned (.plain (OpenSpec.upto printerConfigSpec)) printerConfigUptoCard

/-- THE SECOND FORM's CARD OF 'sederuntlaw26.PrinterTable'. -/
def printerTableUptoCard : Claim7 := { stood := { row := printerTableUptoRow, standIns := [], harness := (true, "9a087bceeca33e926deabcd5159fec8e58d8c3b0eee1cc104789918a41560f6f"), looks := false }, kinds := [], alts := [], laidByText := true, laidKinds := [.data, .data, .data, .data, .pinned], laidTests := true, laidLooks := .later }
def PrinterTableUptoCardSaid : Prop := Claim7.holds Tryd.pinned (.plain (OpenSpec.upto printerTableSpec)) printerTableUptoCard
end Rows
end Go.Proofs.YtdclhgngjbneiaaDoor
