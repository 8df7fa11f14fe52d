/- The contract of slices.Clone at declarations: a new row with the same elements. Lists that are not empty, of a length up to a bound. -/
import Derived.Test.YtmohibkomlhlaaaGreatDoorPkHead
import Derived.WalkSpells
namespace Go.Proofs.YtmohibkomlhlaaaGreatDoor
open Go.RowKit
theorem dc_one{w:World}{S:Nat→Prop}{d:Dc}{v:Value}(h:dS w S d v):∀u∈cellsOf v,u.oneCell'=true:=by
 obtain⟨cs,nA,nc,hcl,hone,rfl,-⟩:=j4 h
 intro u hu
 have:u∈cs.toArray:=by simpa [cellsOf,Value.cells] using hu
 exact Array.all_eq_true_iff_forall_mem.1 hone u this
theorem flat22{vs:List Value}(h:∀u∈vs,(cellsOf u).length=22):(vs.flatMap cellsOf).length=vs.length * 22:=by
 induction vs with
 |nil=>simp
 |cons x r ih=>rw[List.flatMap_cons,bD,ih (fun u hu=>h u (List.mem_cons_of_mem _ hu)),h x (fO ..),fM,Nat.succ_mul];omega
end Go.Proofs.YtmohibkomlhlaaaGreatDoor
