/- DeploymentFamilies: the read and write sets of every configuration of the deployment that Of makes of any declarations accept a set exactly if the reference's Holds finds that the set satisfies its terms, and its members are those that occur in its sets; up to a bulk of 1048576 (the second form), the listed tables as the program's text lays them. -/
import Derived.Test.YtmohibkomlhlaaaGreatDoorPff
set_option maxRecDepth 100000
namespace Go.Proofs.YtmohibkomlhlaaaGreatDoor.families
open Go.ChangeShapes Go.WideShapes Go.ChangeAt Go.RowKit
open _root_.Go.Proofs.Tryz
theorem contract(H:Type)(enc:TypeId × Value→H)(W:World)(base:Nat)(args:Array Value)(ds gs:List (DataW H))(before:List MemPlace)
  (hval:∀(j:Nat) t v,Tryz.f4.params[j]?=some t→args[j]?=some v→Value.okWide prog W .any base t v)
  (hW:DataW.Whole enc prog Tryz.f4.params.toList Rows.deploymentFamiliesSpec.vars false W args.toList ds gs before) (hL:laidMetH prog Rows.deploymentFamiliesUptoRow.laid W) (hk:Rows.uptoSmall H (ds++gs)=true):
  Calls prog 4 args W fun e W'=>∃v,e=.returned v∧Rows.deploymentFamiliesSpec.post enc prog Tryz.f4 false true false false W args v W':=by
 have hW':=hW
 obtain⟨p,q,hA0,hV,rfl,hfz,hnd⟩:=hW
 have hA:DataW.TrodAll enc prog W 0 (fun _=>true) true Tryz.f4.params.toList args.toList ds p:=hA0
 rw[params4] at hA hval
 obtain⟨v0,vs0,d0,ds0,p0,q0,hargs,rfl,rfl,h0,r0⟩:=trodAll_cons hA
 obtain⟨v1,vs1,d1,ds1,p1,q1,rfl,rfl,rfl,h1,r1⟩:=trodAll_cons r0
 obtain⟨rfl,rfl,rfl⟩:=trodAll_nil r1
 obtain rfl:args=#[v0,v1]:=by cases args;simp_all
 obtain⟨rfl,rfl⟩:=trodVars_none hV
 clear hA0
 have o0:=hval 0 22 v0 rfl rfl
 have o1:=hval 1 28 v1 rfl rfl
 obtain⟨A,c,l,rfl,hl,hlc,hsz⟩:=Ij o0 h0
 obtain⟨z,rfl,rfl,rfl,wz⟩:=open_int underlying28 o1 h1
 obtain⟨s,hs,rfl⟩:=u16_of wz
 have hbk:=JO hk
 simp only[List.cons_append,List.nil_append,Rows.uptoBulkAll] at hbk
 refine (fam_law l A c s W (·<W.heap.size) hl (fun g h=>h) (by omega) hs (EL hL) (G5 hL)).mono fun e W' hh=>?_
 rw[hh.1]
 exact⟨_,rfl,close_law (by kernel_rfl) rfl rfl hW' rfl hh.2⟩
theorem reads(os:Os){H:Type}(enc:TypeId × Value→H):∃places,DataW.whole enc prog ((wK os).forCall (fun _ _=>0) ⟨#[],#[.slice none 0 0,.int .u16 0],[]⟩).memory Tryz.f4.params.toList Rows.deploymentFamiliesSpec.vars false (#[.slice none 0 0,.int .u16 0]:Array Value).toList 8=some ([.nil,.lit (.int .u16 0)],[],places):=
 ⟨[],by kernel_rfl⟩
theorem lifted(os:Os)(started:os.Started)(H:Type)(enc:TypeId × Value→H)(F:Stop.Interp):
  ReturnsInHanded {} Tryz.checked os 4 .any ((Rows.OpenSpec.upto Rows.deploymentFamiliesSpec).preRow enc prog Tryz.f4 Rows.deploymentFamiliesUptoRow.domain false Rows.deploymentFamiliesUptoRow.laid) (((Rows.OpenSpec.upto Rows.deploymentFamiliesSpec).at F).post enc prog Tryz.f4 false true false false):=by
 obtain⟨places,hx⟩:=reads os enc
 refine returnsInHanded_of_row (C:=Tryz.checked) (s:=Rows.OpenSpec.upto Rows.deploymentFamiliesSpec) own_knob started (by kernel_rfl) func4
  (witness_row_at (enc:=enc) (C:=Tryz.checked) false (wK os) #[.slice none 0 0,.int .u16 0] rfl (by kernel_rfl) (by kernel_rfl) (by kernel_rfl)
   (OpenSpec.preRow_of_cond 8 hx (by kernel_rfl) (fun k hk=>by cases hk;kernel_rfl) (by kernel_rfl) (laid_met os _))) ?_
 intro W base args ds gs before hval hW _ hcond _ hL _ _
 exact contract H enc W base args ds gs before hval hW hL (hcond _ rfl)
theorem said:Rows.DeploymentFamiliesUptoSaid:=
 OpenClaim.holds_of_cond 4 Tryz.f4 rfl rfl rfl rfl rfl rfl rfl ⟨rfl,rfl,rfl,rfl,rfl⟩ rfl rfl rfl rfl rfl (by kernel_rfl) func4 (by kernel_rfl)
  (of_decide_eq_true (by kernel_rfl)) (by unfold Func.isWrapper;first|(rw[if_pos (by decide +kernel)];kernel_rfl)|(rw[if_neg (by decide +kernel)];exact⟨rfl,rfl⟩))
  (fun os started H enc _ F=>by rw[OpenClaim.pre_eq_preRow];exact lifted os started H enc F)
theorem plain(f:FuncId)(fn:Func) (hf:Tryz.pinned.checked.prog.funcNamed "sederunt/sederuntlaw25.DeploymentFamilies" = some f) (hfn : Tryz.pinned.checked.prog.funcs[f]? = some fn) :
  false=Tryz.pinned.checked.prog.looks []∧∀(j:Nat) t,fn.params[j]?=some t→Tryz.pinned.checked.prog.wantsStandIn t=false:=by
 obtain rfl:f=4:=Option.some.inj ((show prog.funcNamed "sederunt/sederuntlaw25.DeploymentFamilies" = some 4 by kernel_rfl).symm.trans hf) |>.symm
 obtain rfl:fn=Tryz.f4:=(Option.some.inj (func4.symm.trans hfn)).symm
 refine⟨by kernel_rfl,fun j t ht=>?_⟩
 rw[params4] at ht
 have hm:t∈[22,28]:=by simpa using Array.mem_of_getElem? ht
 have hall:([22,28].all fun u=>!prog.wantsStandIn u)=true:=by kernel_rfl
 exact (show prog.wantsStandIn t=false by simpa using List.all_eq_true.1 hall t hm)
theorem card:Rows.DeploymentFamiliesUptoCardSaid:=
 Claim7.holds_tied_plain_at .later [] _ _ _ _ said (fun _ h=>by cases h) (by kernel_rfl) (fun _ h=>by cases h) deploymentFamiliesUpto_row_tie rfl ⟨rfl,rfl⟩ (by kernel_rfl) rfl plain (by kernel_rfl)
#print axioms card
end Go.Proofs.YtmohibkomlhlaaaGreatDoor.families
