/- The contracts of the bg comparisons of lists of numbers and of strings, at equal lists: they return true. BA by gen_eq.py. The contract of the bg comparison of terms, at equal terms: it returns true. The contract of the bg comparison of lists of faults, at equal lists: it returns true. The contract of the bg comparison of declarations, at declarations that are equal (apart from the lines, where these do not count): it returns true. BA by gen_equal.py. The contract of the bg Size: the size and the depth of a term. Terms of a size up to a bound. -/
import Derived.Test.YtmohibkomlhlaaaGreatDoorPkFmta
namespace Go.Proofs.YtmohibkomlhlaaaGreatDoor
open Go.RowKit
open _root_.Go.Proofs.Tryz
def loadD(p:Value):Sem Value:=Instr.loadAt 35 p
theorem zq(ρ:Operand→Value)(dst:Option Tmp)(x:Operand)(ty:TypeId)(pos:String)(after:Array Edge)(guard:Option (Nat × Bool)):
  execOp ρ { dst,op:=.load 35 x,type:=ty,pos,after,guard }=(do pure (.value (←loadD (ρ x)))):=rfl
theorem Cg(w:World)(g o:Nat)(cs:List Value)(h:w.rangeAt g o cs)(hc:cs.length=22):(loadD (.pointer (some ⟨g,o,none⟩))).run prog w=.ok (.agg cs.toArray) w:=by
 unfold loadD
 exact run_loadAt_mid (P:=prog) w g o 35 cs _ h underlying35 rfl (by rw[hc];exact cZ)
end Go.Proofs.YtmohibkomlhlaaaGreatDoor
