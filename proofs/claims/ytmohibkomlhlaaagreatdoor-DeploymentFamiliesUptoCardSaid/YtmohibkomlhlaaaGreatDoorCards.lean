/-
  DERIVED. GIVEN WITH THE SEED: THE CARDS: each row of YtmohibkomlhlaaaGreatDoorRows.lean that lists a variable, with what it lists TIED to the program's text (the seventh form; the later family's looks); each row that meets fmt, with fmt's text TOLD by the authors' own Lean function (tested against real Go, not proved from fmt's source: count such statements apart). THE CARD IS WHAT COUNTS. Prove the row's statement (the work); the ties are given (YtmohibkomlhlaaaGreatDoorTie.lean); close each card by the builder's one call (the guide's Derived/Test/ToyasCard.lean, 'card_holds'). Laid BY PROGRAM, IN A SANDBOX (cutbox-door.mjs). By AI agents, Wed Nov 11 2026. No macro, syntax, notation, axiom, sorry.
-/
import Derived.Test.YtmohibkomlhlaaaGreatDoorRows
import GoSem.ClaimSeven
namespace Go.Proofs.YtmohibkomlhlaaaGreatDoor
namespace Rows

/-- THE TIED CARD OF 'sederuntlaw25.DeploymentMeaning'. -/
def deploymentMeaningCard : Claim7 := { stood := { row := deploymentMeaningRow, standIns := [], harness := (true, "f312ee81a9c294addc6893c1830981da1f0b95b290bc9fbde5f56b4372c107af"), looks := false }, kinds := [], alts := [], laidByText := true, laidKinds := [.data, .data, .data], laidTests := true, laidLooks := .later }
def DeploymentMeaningCardSaid : Prop := Claim7.holds Tryz.pinned (.plain (OpenSpec.ofChange deploymentMeaningSpec)) deploymentMeaningCard

/-- THE TIED CARD OF 'sederuntlaw25.DeploymentFamilies'. -/
def deploymentFamiliesCard : Claim7 := { stood := { row := deploymentFamiliesRow, standIns := [], harness := (true, "f312ee81a9c294addc6893c1830981da1f0b95b290bc9fbde5f56b4372c107af"), looks := false }, kinds := [], alts := [], laidByText := true, laidKinds := [.data, .data, .data], laidTests := true, laidLooks := .later }
def DeploymentFamiliesCardSaid : Prop := Claim7.holds Tryz.pinned (.plain (OpenSpec.ofChange deploymentFamiliesSpec)) deploymentFamiliesCard

/-- THE TIED CARD OF 'sederuntlaw25.DeploymentNames'. -/
def deploymentNamesCard : Claim7 := { stood := { row := deploymentNamesRow, standIns := [], harness := (true, "f312ee81a9c294addc6893c1830981da1f0b95b290bc9fbde5f56b4372c107af"), looks := false }, kinds := [], alts := [], laidByText := true, laidKinds := [.data, .data, .data], laidTests := true, laidLooks := .later }
def DeploymentNamesCardSaid : Prop := Claim7.holds Tryz.pinned (.plain (OpenSpec.ofChange deploymentNamesSpec)) deploymentNamesCard

/-- THE SECOND FORM's CARD OF 'sederuntlaw25.DeploymentMeaning'. -/
def deploymentMeaningUptoCard : Claim7 := { stood := { row := deploymentMeaningUptoRow, standIns := [], harness := (true, "f312ee81a9c294addc6893c1830981da1f0b95b290bc9fbde5f56b4372c107af"), looks := false }, kinds := [], alts := [], laidByText := true, laidKinds := [.data, .data, .data], laidTests := true, laidLooks := .later }
def DeploymentMeaningUptoCardSaid : Prop := Claim7.holds Tryz.pinned (.plain (OpenSpec.upto deploymentMeaningSpec)) deploymentMeaningUptoCard

/-- THE SECOND FORM's CARD OF 'sederuntlaw25.DeploymentFamilies'. -/
def deploymentFamiliesUptoCard : Claim7 := { stood := { row := deploymentFamiliesUptoRow, standIns := [], harness := (true, "f312ee81a9c294addc6893c1830981da1f0b95b290bc9fbde5f56b4372c107af"), looks := false }, kinds := [], alts := [], laidByText := true, laidKinds := [.data, .data, .data], laidTests := true, laidLooks := .later }
def DeploymentFamiliesUptoCardSaid : Prop := Claim7.holds Tryz.pinned (.plain (OpenSpec.upto deploymentFamiliesSpec)) deploymentFamiliesUptoCard

/-- THE SECOND FORM's CARD OF 'sederuntlaw25.DeploymentNames'. -/
def deploymentNamesUptoCard : Claim7 := { stood := { row := deploymentNamesUptoRow, standIns := [], harness := (true, "f312ee81a9c294addc6893c1830981da1f0b95b290bc9fbde5f56b4372c107af"), looks := false }, kinds := [], alts := [], laidByText := true, laidKinds := [.data, .data, .data], laidTests := true, laidLooks := .later }
def DeploymentNamesUptoCardSaid : Prop := Claim7.holds Tryz.pinned (.plain (OpenSpec.upto deploymentNamesSpec)) deploymentNamesUptoCard
end Rows
end Go.Proofs.YtmohibkomlhlaaaGreatDoor
