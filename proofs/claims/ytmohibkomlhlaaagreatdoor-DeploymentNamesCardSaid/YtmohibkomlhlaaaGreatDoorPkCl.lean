/- The contract of slices.Clone at declarations: a new row with the same elements. Lists that are not empty, of a length up to a bound. -/
import Derived.Test.YtmohibkomlhlaaaGreatDoorPkHead
import Derived.Deep.MidRow
import Derived.WalkSpells
namespace Go.Proofs.YtmohibkomlhlaaaGreatDoor
open Go.RowKit
end Go.Proofs.YtmohibkomlhlaaaGreatDoor
