/- The contracts of the bJ comparisons of lists of numbers and of strings, at equal lists: they return true. gX by gen_eq.py. The contract of the bJ comparison of terms, at equal terms: it returns true. The contract of the bJ comparison of lists of faults, at equal lists: it returns true. The contract of the bJ comparison of declarations, at declarations that are equal (apart from the lines, where these do not count): it returns true. gX by gen_equal.py. -/
import Derived.Test.YtbmglebipepdmaaGreatDoorPkFmta
import Derived.StillTailTactics
import Derived.Deep.MidRow
import Derived.Deep.RegionHeld3
import Derived.Test.YtbmglebipepdmaaGreatDoorPkPlain
namespace Go.Proofs.YtbmglebipepdmaaGreatDoor
open Go.RowKit

end Go.Proofs.YtbmglebipepdmaaGreatDoor
namespace Go.Proofs.YtbmglebipepdmaaGreatDoor
open Go.RowKit

end Go.Proofs.YtbmglebipepdmaaGreatDoor
namespace Go.Proofs.YtbmglebipepdmaaGreatDoor
open Go.RowKit

end Go.Proofs.YtbmglebipepdmaaGreatDoor
namespace Go.Proofs.YtbmglebipepdmaaGreatDoor
open Go.RowKit

def loadD (p : Value) : Sem Value := Instr.loadAt 41 p
theorem qf (ρ : Operand → Value) (dst : Option Tmp) (x : Operand) (ty : TypeId) (pos : String) (after : Array Edge) (guard : Option (Nat × Bool)) :
  execOp ρ { dst, op := .load 41 x, type := ty, pos, after, guard } = (do pure (.value (← loadD (ρ x)))) := rfl
theorem pG (w : World) (g o : Nat) (cs : List Value) (h : w.rangeAt g o cs) (hc : cs.length = 22) : (loadD (.pointer (some ⟨g, o, none⟩))).run Tryz.prog w = .ok (.agg cs.toArray) w := by
 unfold loadD
 exact run_loadAt_mid (P := Tryz.prog) w g o 41 cs _ h Tryz.underlying41 rfl (by rw [hc]; exact dJ)
end Go.Proofs.YtbmglebipepdmaaGreatDoor
