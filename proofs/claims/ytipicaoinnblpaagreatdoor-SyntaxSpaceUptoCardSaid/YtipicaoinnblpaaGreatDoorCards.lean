/-
  DERIVED. GIVEN WITH THE SEED: THE CARDS: each row of YtipicaoinnblpaaGreatDoorRows.lean that lists a variable, with what it lists TIED to the program's text (the seventh form; the later family's looks); each row that meets fmt, with fmt's text TOLD by the authors' own Lean function (tested against real Go, not proved from fmt's source: count such statements apart). THE CARD IS WHAT COUNTS. Prove the row's statement (the work); the ties are given (YtipicaoinnblpaaGreatDoorTie.lean); close each card by the builder's one call (the guide's Derived/Test/ToyasCard.lean, 'card_holds'). Laid BY PROGRAM, IN A SANDBOX (cutbox-door.mjs). By AI agents, Wed Nov 11 2026. No macro, syntax, notation, axiom, sorry.
-/
import Derived.Test.YtipicaoinnblpaaGreatDoorRows
import GoSem.ClaimSeven
namespace Go.Proofs.YtipicaoinnblpaaGreatDoor
namespace Rows

/-- THE TIED CARD OF 'sederuntlaw23.SyntaxParse'. -/
def syntaxParseCard : Claim7 := { stood := { row := syntaxParseRow, standIns := [], harness := (true, "e442c4d77f29347502895361462010d984d3e871d95cb2146f7e9df1d37a9335"), looks := false }, kinds := [], alts := [], laidByText := true, laidKinds := [.data, .data, .data], laidTests := true, laidLooks := .later }
def SyntaxParseCardSaid : Prop := Claim7.holds Tryz.pinned (.plain (OpenSpec.ofChange syntaxParseSpec)) syntaxParseCard

/-- THE TIED CARD OF 'sederuntlaw23.SyntaxTerm'. -/
def syntaxTermCard : Claim7 := { stood := { row := syntaxTermRow, standIns := [], harness := (true, "e442c4d77f29347502895361462010d984d3e871d95cb2146f7e9df1d37a9335"), looks := false }, kinds := [], alts := [], laidByText := true, laidKinds := [.data, .data, .data], laidTests := true, laidLooks := .later }
def SyntaxTermCardSaid : Prop := Claim7.holds Tryz.pinned (.plain (OpenSpec.ofChange syntaxTermSpec)) syntaxTermCard

/-- THE TIED CARD OF 'sederuntlaw23.SyntaxFormatTerm'. -/
def syntaxFormatTermCard : Claim7 := { stood := { row := syntaxFormatTermRow, standIns := [], harness := (true, "e442c4d77f29347502895361462010d984d3e871d95cb2146f7e9df1d37a9335"), looks := false }, kinds := [], alts := [], laidByText := true, laidKinds := [.data, .data, .data], laidTests := true, laidLooks := .later }
def SyntaxFormatTermCardSaid : Prop := Claim7.holds Tryz.pinned (.plain (OpenSpec.ofChange syntaxFormatTermSpec)) syntaxFormatTermCard

/-- THE TIED CARD OF 'sederuntlaw23.SyntaxAgain'. -/
def syntaxAgainCard : Claim7 := { stood := { row := syntaxAgainRow, standIns := [], harness := (true, "e442c4d77f29347502895361462010d984d3e871d95cb2146f7e9df1d37a9335"), looks := false }, kinds := [], alts := [], laidByText := true, laidKinds := [.data, .data, .data], laidTests := true, laidLooks := .later }
def SyntaxAgainCardSaid : Prop := Claim7.holds Tryz.pinned (.plain (OpenSpec.ofChange syntaxAgainSpec)) syntaxAgainCard

/-- THE TIED CARD OF 'sederuntlaw23.SyntaxFormat'. -/
def syntaxFormatCard : Claim7 := { stood := { row := syntaxFormatRow, standIns := [], harness := (true, "e442c4d77f29347502895361462010d984d3e871d95cb2146f7e9df1d37a9335"), looks := false }, kinds := [], alts := [], laidByText := true, laidKinds := [.data, .data, .data], laidTests := true, laidLooks := .later }
def SyntaxFormatCardSaid : Prop := Claim7.holds Tryz.pinned (.plain (OpenSpec.ofChange syntaxFormatSpec)) syntaxFormatCard

/-- THE TIED CARD OF 'sederuntlaw23.SyntaxNames'. -/
def syntaxNamesCard : Claim7 := { stood := { row := syntaxNamesRow, standIns := [], harness := (true, "e442c4d77f29347502895361462010d984d3e871d95cb2146f7e9df1d37a9335"), looks := false }, kinds := [], alts := [], laidByText := true, laidKinds := [.data, .data, .data], laidTests := true, laidLooks := .later }
def SyntaxNamesCardSaid : Prop := Claim7.holds Tryz.pinned (.plain (OpenSpec.ofChange syntaxNamesSpec)) syntaxNamesCard

/-- THE TIED CARD OF 'sederuntlaw23.SyntaxSpace'. -/
def syntaxSpaceCard : Claim7 := { stood := { row := syntaxSpaceRow, standIns := [], harness := (true, "e442c4d77f29347502895361462010d984d3e871d95cb2146f7e9df1d37a9335"), looks := false }, kinds := [], alts := [], laidByText := true, laidKinds := [.data, .data, .data, .data, .pinned], laidTests := true, laidLooks := .later }
def SyntaxSpaceCardSaid : Prop := Claim7.holds Tryz.pinned (.plain (OpenSpec.ofChange syntaxSpaceSpec)) syntaxSpaceCard

/-- THE TIED CARD OF 'sederuntlaw23.SyntaxLarge'. -/
def syntaxLargeCard : Claim7 := { stood := { row := syntaxLargeRow, standIns := [], harness := (true, "e442c4d77f29347502895361462010d984d3e871d95cb2146f7e9df1d37a9335"), looks := false }, kinds := [], alts := [], laidByText := true, laidKinds := [.data, .data, .data], laidTests := true, laidLooks := .later }
def SyntaxLargeCardSaid : Prop := Claim7.holds Tryz.pinned (.plain (OpenSpec.ofChange syntaxLargeSpec)) syntaxLargeCard

/-- THE SECOND FORM's CARD OF 'sederuntlaw23.SyntaxParse'. -/
def syntaxParseUptoCard : Claim7 := { stood := { row := syntaxParseUptoRow, standIns := [], harness := (true, "e442c4d77f29347502895361462010d984d3e871d95cb2146f7e9df1d37a9335"), looks := false }, kinds := [], alts := [], laidByText := true, laidKinds := [.data, .data, .data], laidTests := true, laidLooks := .later }
def SyntaxParseUptoCardSaid : Prop := Claim7.holds Tryz.pinned (.plain (OpenSpec.upto syntaxParseSpec)) syntaxParseUptoCard

/-- THE SECOND FORM's CARD OF 'sederuntlaw23.SyntaxTerm'. -/
def syntaxTermUptoCard : Claim7 := { stood := { row := syntaxTermUptoRow, standIns := [], harness := (true, "e442c4d77f29347502895361462010d984d3e871d95cb2146f7e9df1d37a9335"), looks := false }, kinds := [], alts := [], laidByText := true, laidKinds := [.data, .data, .data], laidTests := true, laidLooks := .later }
def SyntaxTermUptoCardSaid : Prop := Claim7.holds Tryz.pinned (.plain (OpenSpec.upto syntaxTermSpec)) syntaxTermUptoCard

/-- THE SECOND FORM's CARD OF 'sederuntlaw23.SyntaxFormatTerm'. -/
def syntaxFormatTermUptoCard : Claim7 := { stood := { row := syntaxFormatTermUptoRow, standIns := [], harness := (true, "e442c4d77f29347502895361462010d984d3e871d95cb2146f7e9df1d37a9335"), looks := false }, kinds := [], alts := [], laidByText := true, laidKinds := [.data, .data, .data], laidTests := true, laidLooks := .later }
def SyntaxFormatTermUptoCardSaid : Prop := Claim7.holds Tryz.pinned (.plain (OpenSpec.upto syntaxFormatTermSpec)) syntaxFormatTermUptoCard

/-- THE SECOND FORM's CARD OF 'sederuntlaw23.SyntaxAgain'. -/
def syntaxAgainUptoCard : Claim7 := { stood := { row := syntaxAgainUptoRow, standIns := [], harness := (true, "e442c4d77f29347502895361462010d984d3e871d95cb2146f7e9df1d37a9335"), looks := false }, kinds := [], alts := [], laidByText := true, laidKinds := [.data, .data, .data], laidTests := true, laidLooks := .later }
def SyntaxAgainUptoCardSaid : Prop := Claim7.holds Tryz.pinned (.plain (OpenSpec.upto syntaxAgainSpec)) syntaxAgainUptoCard

/-- THE SECOND FORM's CARD OF 'sederuntlaw23.SyntaxFormat'. -/
def syntaxFormatUptoCard : Claim7 := { stood := { row := syntaxFormatUptoRow, standIns := [], harness := (true, "e442c4d77f29347502895361462010d984d3e871d95cb2146f7e9df1d37a9335"), looks := false }, kinds := [], alts := [], laidByText := true, laidKinds := [.data, .data, .data], laidTests := true, laidLooks := .later }
def SyntaxFormatUptoCardSaid : Prop := Claim7.holds Tryz.pinned (.plain (OpenSpec.upto syntaxFormatSpec)) syntaxFormatUptoCard

/-- THE SECOND FORM's CARD OF 'sederuntlaw23.SyntaxNames'. -/
def syntaxNamesUptoCard : Claim7 := { stood := { row := syntaxNamesUptoRow, standIns := [], harness := (true, "e442c4d77f29347502895361462010d984d3e871d95cb2146f7e9df1d37a9335"), looks := false }, kinds := [], alts := [], laidByText := true, laidKinds := [.data, .data, .data], laidTests := true, laidLooks := .later }
def SyntaxNamesUptoCardSaid : Prop := Claim7.holds Tryz.pinned (.plain (OpenSpec.upto syntaxNamesSpec)) syntaxNamesUptoCard

/-- THE SECOND FORM's CARD OF 'sederuntlaw23.SyntaxSpace'. -/
def syntaxSpaceUptoCard : Claim7 := { stood := { row := syntaxSpaceUptoRow, standIns := [], harness := (true, "e442c4d77f29347502895361462010d984d3e871d95cb2146f7e9df1d37a9335"), looks := false }, kinds := [], alts := [], laidByText := true, laidKinds := [.data, .data, .data, .data, .pinned], laidTests := true, laidLooks := .later }
def SyntaxSpaceUptoCardSaid : Prop := Claim7.holds Tryz.pinned (.plain (OpenSpec.upto syntaxSpaceSpec)) syntaxSpaceUptoCard

/-- THE SECOND FORM's CARD OF 'sederuntlaw23.SyntaxLarge'. -/
def syntaxLargeUptoCard : Claim7 := { stood := { row := syntaxLargeUptoRow, standIns := [], harness := (true, "e442c4d77f29347502895361462010d984d3e871d95cb2146f7e9df1d37a9335"), looks := false }, kinds := [], alts := [], laidByText := true, laidKinds := [.data, .data, .data], laidTests := true, laidLooks := .later }
def SyntaxLargeUptoCardSaid : Prop := Claim7.holds Tryz.pinned (.plain (OpenSpec.upto syntaxLargeSpec)) syntaxLargeUptoCard
end Rows
end Go.Proofs.YtipicaoinnblpaaGreatDoor
