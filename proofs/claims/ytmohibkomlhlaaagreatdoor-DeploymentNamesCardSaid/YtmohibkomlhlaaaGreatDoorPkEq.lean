/- The contracts of the aU comparisons of lists of numbers and of strings, at equal lists: they return true. zD by gen_eq.py. The contract of the aU comparison of terms, at equal terms: it returns true. The contract of the aU comparison of lists of faults, at equal lists: it returns true. The contract of the aU comparison of declarations, at declarations that are equal (apart from the lines, where these do not count): it returns true. zD by gen_equal.py. The contract of the aU Size: the size and the depth of a term. Terms of a size up to a bound. -/
import Derived.Test.YtmohibkomlhlaaaGreatDoorPkFmta
import Derived.StillTailTactics
import Derived.Deep.MidRow
import Derived.Deep.RegionHeld3
import Derived.Test.YtmohibkomlhlaaaGreatDoorPkPlain
namespace Go.Proofs.YtmohibkomlhlaaaGreatDoor
open Go.RowKit
end Go.Proofs.YtmohibkomlhlaaaGreatDoor
