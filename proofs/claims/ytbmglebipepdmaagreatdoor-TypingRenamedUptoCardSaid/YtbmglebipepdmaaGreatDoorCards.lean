/-
  DERIVED. GIVEN WITH THE SEED: THE CARDS: each row of YtbmglebipepdmaaGreatDoorRows.lean that lists a variable, with what it lists TIED to the program's text (the seventh form; the later family's looks); each row that meets fmt, with fmt's text TOLD by the authors' own Lean function (tested against real Go, not proved from fmt's source: count such statements apart). THE CARD IS WHAT COUNTS. Prove the row's statement (the work); the ties are given (YtbmglebipepdmaaGreatDoorTie.lean); close each card by the builder's one call (the guide's Derived/Test/ToyasCard.lean, 'card_holds'). Laid BY PROGRAM, IN A SANDBOX (cutbox-door.mjs). By AI agents, Wed Nov 11 2026. No macro, syntax, notation, axiom, sorry.
-/
import Derived.Test.YtbmglebipepdmaaGreatDoorRows
import GoSem.ClaimSeven
namespace Go.Proofs.YtbmglebipepdmaaGreatDoor
namespace Rows

/-- THE TIED CARD OF 'sederuntlaw24.TypingBeginning'. -/
def typingBeginningCard : Claim7 := { stood := { row := typingBeginningRow, standIns := [], harness := (true, "0f7b908d230810c296bc0dad28cbc6afd19b5937a3c68955588e794bf48b0b47"), looks := false }, kinds := [], alts := [], laidByText := true, laidKinds := [.data, .data, .data], laidTests := true, laidLooks := .later }
def TypingBeginningCardSaid : Prop := Claim7.holds Tryz.pinned (.plain (OpenSpec.ofChange typingBeginningSpec)) typingBeginningCard

/-- THE TIED CARD OF 'sederuntlaw24.TypingText'. -/
def typingTextCard : Claim7 := { stood := { row := typingTextRow, standIns := [], harness := (true, "0f7b908d230810c296bc0dad28cbc6afd19b5937a3c68955588e794bf48b0b47"), looks := false }, kinds := [], alts := [], laidByText := true, laidKinds := [.data, .data, .data], laidTests := true, laidLooks := .later }
def TypingTextCardSaid : Prop := Claim7.holds Tryz.pinned (.plain (OpenSpec.ofChange typingTextSpec)) typingTextCard

/-- THE TIED CARD OF 'sederuntlaw24.TypingUses'. -/
def typingUsesCard : Claim7 := { stood := { row := typingUsesRow, standIns := [], harness := (true, "0f7b908d230810c296bc0dad28cbc6afd19b5937a3c68955588e794bf48b0b47"), looks := false }, kinds := [], alts := [], laidByText := true, laidKinds := [.data, .data, .data], laidTests := true, laidLooks := .later }
def TypingUsesCardSaid : Prop := Claim7.holds Tryz.pinned (.plain (OpenSpec.ofChange typingUsesSpec)) typingUsesCard

/-- THE TIED CARD OF 'sederuntlaw24.TypingRenamed'. -/
def typingRenamedCard : Claim7 := { stood := { row := typingRenamedRow, standIns := [], harness := (true, "0f7b908d230810c296bc0dad28cbc6afd19b5937a3c68955588e794bf48b0b47"), looks := false }, kinds := [], alts := [], laidByText := true, laidKinds := [.data, .data, .data], laidTests := true, laidLooks := .later }
def TypingRenamedCardSaid : Prop := Claim7.holds Tryz.pinned (.plain (OpenSpec.ofChange typingRenamedSpec)) typingRenamedCard

/-- THE TIED CARD OF 'sederuntlaw24.TypingNames'. -/
def typingNamesCard : Claim7 := { stood := { row := typingNamesRow, standIns := [], harness := (true, "0f7b908d230810c296bc0dad28cbc6afd19b5937a3c68955588e794bf48b0b47"), looks := false }, kinds := [], alts := [], laidByText := true, laidKinds := [.data, .data, .data], laidTests := true, laidLooks := .later }
def TypingNamesCardSaid : Prop := Claim7.holds Tryz.pinned (.plain (OpenSpec.ofChange typingNamesSpec)) typingNamesCard

/-- THE TIED CARD OF 'sederuntlaw24.TypingTerm'. -/
def typingTermCard : Claim7 := { stood := { row := typingTermRow, standIns := [], harness := (true, "0f7b908d230810c296bc0dad28cbc6afd19b5937a3c68955588e794bf48b0b47"), looks := false }, kinds := [], alts := [], laidByText := true, laidKinds := [.data, .data, .data], laidTests := true, laidLooks := .later }
def TypingTermCardSaid : Prop := Claim7.holds Tryz.pinned (.plain (OpenSpec.ofChange typingTermSpec)) typingTermCard

/-- THE TIED CARD OF 'sederuntlaw24.TypingUnused'. -/
def typingUnusedCard : Claim7 := { stood := { row := typingUnusedRow, standIns := [], harness := (true, "0f7b908d230810c296bc0dad28cbc6afd19b5937a3c68955588e794bf48b0b47"), looks := false }, kinds := [], alts := [], laidByText := true, laidKinds := [.data, .data, .data], laidTests := true, laidLooks := .later }
def TypingUnusedCardSaid : Prop := Claim7.holds Tryz.pinned (.plain (OpenSpec.ofChange typingUnusedSpec)) typingUnusedCard

/-- THE SECOND FORM's CARD OF 'sederuntlaw24.TypingBeginning'. -/
def typingBeginningUptoCard : Claim7 := { stood := { row := typingBeginningUptoRow, standIns := [], harness := (true, "0f7b908d230810c296bc0dad28cbc6afd19b5937a3c68955588e794bf48b0b47"), looks := false }, kinds := [], alts := [], laidByText := true, laidKinds := [.data, .data, .data], laidTests := true, laidLooks := .later }
def TypingBeginningUptoCardSaid : Prop := Claim7.holds Tryz.pinned (.plain (OpenSpec.upto typingBeginningSpec)) typingBeginningUptoCard

/-- THE SECOND FORM's CARD OF 'sederuntlaw24.TypingText'. -/
def typingTextUptoCard : Claim7 := { stood := { row := typingTextUptoRow, standIns := [], harness := (true, "0f7b908d230810c296bc0dad28cbc6afd19b5937a3c68955588e794bf48b0b47"), looks := false }, kinds := [], alts := [], laidByText := true, laidKinds := [.data, .data, .data], laidTests := true, laidLooks := .later }
def TypingTextUptoCardSaid : Prop := Claim7.holds Tryz.pinned (.plain (OpenSpec.upto typingTextSpec)) typingTextUptoCard

/-- THE SECOND FORM's CARD OF 'sederuntlaw24.TypingUses'. -/
def typingUsesUptoCard : Claim7 := { stood := { row := typingUsesUptoRow, standIns := [], harness := (true, "0f7b908d230810c296bc0dad28cbc6afd19b5937a3c68955588e794bf48b0b47"), looks := false }, kinds := [], alts := [], laidByText := true, laidKinds := [.data, .data, .data], laidTests := true, laidLooks := .later }
def TypingUsesUptoCardSaid : Prop := Claim7.holds Tryz.pinned (.plain (OpenSpec.upto typingUsesSpec)) typingUsesUptoCard

/-- THE SECOND FORM's CARD OF 'sederuntlaw24.TypingRenamed'. -/
def typingRenamedUptoCard : Claim7 := { stood := { row := typingRenamedUptoRow, standIns := [], harness := (true, "0f7b908d230810c296bc0dad28cbc6afd19b5937a3c68955588e794bf48b0b47"), looks := false }, kinds := [], alts := [], laidByText := true, laidKinds := [.data, .data, .data], laidTests := true, laidLooks := .later }
def TypingRenamedUptoCardSaid : Prop := Claim7.holds Tryz.pinned (.plain (OpenSpec.upto typingRenamedSpec)) typingRenamedUptoCard

/-- THE SECOND FORM's CARD OF 'sederuntlaw24.TypingNames'. -/
def typingNamesUptoCard : Claim7 := { stood := { row := typingNamesUptoRow, standIns := [], harness := (true, "0f7b908d230810c296bc0dad28cbc6afd19b5937a3c68955588e794bf48b0b47"), looks := false }, kinds := [], alts := [], laidByText := true, laidKinds := [.data, .data, .data], laidTests := true, laidLooks := .later }
def TypingNamesUptoCardSaid : Prop := Claim7.holds Tryz.pinned (.plain (OpenSpec.upto typingNamesSpec)) typingNamesUptoCard

/-- THE SECOND FORM's CARD OF 'sederuntlaw24.TypingTerm'. -/
def typingTermUptoCard : Claim7 := { stood := { row := typingTermUptoRow, standIns := [], harness := (true, "0f7b908d230810c296bc0dad28cbc6afd19b5937a3c68955588e794bf48b0b47"), looks := false }, kinds := [], alts := [], laidByText := true, laidKinds := [.data, .data, .data], laidTests := true, laidLooks := .later }
def TypingTermUptoCardSaid : Prop := Claim7.holds Tryz.pinned (.plain (OpenSpec.upto typingTermSpec)) typingTermUptoCard

/-- THE SECOND FORM's CARD OF 'sederuntlaw24.TypingUnused'. -/
def typingUnusedUptoCard : Claim7 := { stood := { row := typingUnusedUptoRow, standIns := [], harness := (true, "0f7b908d230810c296bc0dad28cbc6afd19b5937a3c68955588e794bf48b0b47"), looks := false }, kinds := [], alts := [], laidByText := true, laidKinds := [.data, .data, .data], laidTests := true, laidLooks := .later }
def TypingUnusedUptoCardSaid : Prop := Claim7.holds Tryz.pinned (.plain (OpenSpec.upto typingUnusedSpec)) typingUnusedUptoCard
end Rows
end Go.Proofs.YtbmglebipepdmaaGreatDoor
