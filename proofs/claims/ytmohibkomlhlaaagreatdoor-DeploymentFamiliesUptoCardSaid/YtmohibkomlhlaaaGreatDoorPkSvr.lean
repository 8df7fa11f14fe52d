/- The contracts of Servers (of the program and of the reference): the names of all servers. Fewer names than a bound. The contracts of behind, Kind and Term of the program: the scope behind declarations, the kind of a name, the error of a term. Declarations of a size up to a bound. -/
import Derived.Test.YtmohibkomlhlaaaGreatDoorPkHead
import Derived.Test.YtmohibkomlhlaaaGreatDoorPkFmtb
set_option maxRecDepth 100000
set_option maxHeartbeats 4000000
namespace Go.Proofs.YtmohibkomlhlaaaGreatDoor
open Go.RowKit
open _root_.Go.Proofs.Tryz
def tu(l:List Dc)(w:World)(e:Ending)(w':World):Prop:=∃v,e=.returned v∧w'.ownsRow w.heap.size 9 1 v (ai l).length (aC (ai l))∧Below w.heap.size w w'
theorem vO{l:List Dc}{k:Nat}(h:k<l.length){d:Dc}(hd:d=l[k])(hk:d.kind=1):ai (l.take (k+1))=ai (l.take k)++d.names:=by
 rw[F9 l k h,←hd];unfold ai bV;rw[List.flatMap_append];simp[hk]
theorem yM{l:List Dc}{k:Nat}(h:k<l.length){d:Dc}(hd:d=l[k])(hk:d.kind≠1):ai (l.take (k+1))=ai (l.take k):=by
 rw[F9 l k h,←hd];unfold ai bV;rw[List.flatMap_append];simp[hk]
theorem vQ(l:List Dc)(A:Option Addr)(c:Nat)(w:World)(S:Nat→Prop)(hl:aO (dS w S) w S 22 A l)(hS:∀g,S g→g<w.heap.size)(hsz:(ai l).length≤100000000)(hll:l.length≤100000000):
  Calls prog 38 #[.slice A l.length c] w (tu l w):=by
 have HL:=jI hl
 clear hl
 go_enter func38,ntmps38
 go_wp2
 go_loopw [3,8] (fun v x wr=>∃k:Nat,k≤l.length∧x=.int .i64 k∧wr.ownsRow w.heap.size 9 1 v (ai (l.take k)).length (aC (ai (l.take k)))∧Below w.heap.size w wr) (fun _ x _=>l.length-(intOf x).toNat)
 case atStart=>exact⟨0,cu _,rfl,World.ownsRow_nil _ _ _ _,jQ _ _⟩
 case round=>
  obtain⟨k,hk,rfl,hown,hb⟩:=hrel
  have hsr:=hb.size
  by_cases hlt:k<l.length
  ·obtain⟨g,o,v2,rfl,hSg,hp,hc⟩:=dB (fun _ _ h=>lD h) (HL.out.keep (P':=dS wr S) (aj hb hS) (fun _ _ h=>h.keep (aj hb hS))) hlt
   have hgs:g<wr.heap.size:=by have:=hS g hSg;omega
   obtain⟨d,hd⟩:=kE (l[k])
   rw[←hd] at hp
   have hq:(ai (l.take k)).length≤100000000:=by have:=mD (fun d:Dc=>if d.kind=1 then d.names else []) l k;unfold ai bV at hsz ⊢;omega
   have hq2:(ai (l.take (k+1))).length≤100000000:=by have:=mD (fun d:Dc=>if d.kind=1 then d.names else []) l (k+1);unfold ai bV at hsz ⊢;omega
   obtain⟨cs,nA,nc,hcl,hone,rfl,c0,-,-,c3,-,hsn,hnc⟩:=j4 hp
   have hrange:wr.rangeAt g (o+k * 22) cs:=fun j u hu=>hc j u (by simpa [cellsOf,Value.cells] using hu)
   have mW:(prog.info? 35).map (·.size)=some cs.length:=by rw[hcl];exact cZ
   have hcs2:cs.toArray.size=22:=by simpa using hcl
   have nD:=jI hone
   have HCS:=jI hcs2
   have C0:=jI c0
   have C3:=jI c3
   have HSN:=jI hsn
   have hkI:(k:Int)<(l.length:Int):=by omega
   have hk0:(0:Int)≤(k:Int):=by omega
   have hbA:∀o,Below wr.heap.size wr (wr.alloc o):=fun o=>(jQ _ _).alloc (aP _) o
   by_cases hk1:d.kind=1
   ·have hsv:=vO hlt hd hk1
    rw[hsv,bD] at hq2
    have hkb:(d.kind==(1:Int))=true:=by rw[hk1];rfl
    have HSV:=jI hsv
    have HDK:=jI hk1
    obtain⟨cur,hcur⟩:=kE (ai (l.take k))
    rw[←hcur] at hown hq hq2 HSV
    clear hcur hp hc hone hcs2 c0 c3 hsn hsv hk1 hd
    go_wp2_with (first|(with_reducible refine wpList_load_mid rfl 35 (.tmp 10) rfl g (o+k * 22) rfl cs _ hrange underlying35 rfl mW ?_)|(with_reducible refine bO _ rfl rfl (.tmp 5) (.tmp 11) rfl wr.heap.size cs.toArray rfl rfl _ (jR wr _) rfl HCS.out nD.out ?_;intro W5 hr5 hg5;have e0:=aY hr5 C0.out;have e3:=aY hr5 C3.out;have hb5:Below wr.heap.size wr W5:=(hbA _).trans (below_grown hg5 (aP _) (by simp));have hs5:w.heap.size≤W5.heap.size:=cK hsr hb5.size;clear hr5 hg5)|(at_builtin;refine jU W5 rfl (.tmp 15) (.tmp 17) rfl w.heap.size _ _ _ (own_below hown hb5 (aP _)) rfl S nA _ nc d.names rfl rfl (HSN.out.keep (aA hb5)) (by omega) (by omega) hs5 ?_;intro v3 w3 hown3 hg3 hv3))
    go_roundw
    case rel=>
     refine⟨k+1,by omega,by go_num,?_,(hb.trans (hb5.mono hsr)).trans (aN (own_below hown hb5 (aP _)) hg3 hs5)⟩
     rw[HSV.out,bD,pY]
     exact hown3
    case measure=>simp[intOf];omega
   ·have hsv:=yM hlt hd hk1
    have hkb:(d.kind==(1:Int))=false:=by rw[bP];exact hk1
    have HSV:=jI hsv
    clear hp hc hone hcs2 c0 c3 hsn hsv hk1 hd
    go_wp2_with (first|(with_reducible refine wpList_load_mid rfl 35 (.tmp 10) rfl g (o+k * 22) rfl cs _ hrange underlying35 rfl mW ?_)|(with_reducible refine bO _ rfl rfl (.tmp 5) (.tmp 11) rfl wr.heap.size cs.toArray rfl rfl _ (jR wr _) rfl HCS.out nD.out ?_;intro W5 hr5 hg5;have e0:=aY hr5 C0.out;have hb5:Below wr.heap.size wr W5:=(hbA _).trans (below_grown hg5 (aP _) (by simp));clear hr5 hg5))
    go_roundw
    case rel=>
     refine⟨k+1,by omega,by go_num,?_,hb.trans (hb5.mono hsr)⟩
     rw[HSV.out]
     exact own_below hown hb5 (aP _)
    case measure=>simp[intOf];omega
  ·obtain rfl:k=l.length:=by omega
   have hkI:¬(l.length:Int)<(l.length:Int):=by omega
   rw[List.take_length] at hown
   go_wp2
   go_ret
   exact⟨_,rfl,hown,hb⟩
theorem vP(l:List Dc)(A:Option Addr)(c:Nat)(w:World)(S:Nat→Prop)(hl:aO (dS w S) w S 22 A l)(hS:∀g,S g→g<w.heap.size)(hsz:(ai l).length≤100000000)(hll:l.length≤100000000):
  Calls prog 71 #[.slice A l.length c] w (tu l w):=by
 have HL:=jI hl
 clear hl
 go_enter func71,ntmps71
 go_wp2
 go_loopw [3,4] (fun v x wr=>∃k:Nat,k≤l.length∧x=.int .i64 k∧wr.ownsRow w.heap.size 9 1 v (ai (l.take k)).length (aC (ai (l.take k)))∧Below w.heap.size w wr) (fun _ x _=>l.length-(intOf x).toNat)
 case atStart=>exact⟨0,cu _,rfl,World.ownsRow_nil _ _ _ _,jQ _ _⟩
 case round=>
  obtain⟨k,hk,rfl,hown,hb⟩:=hrel
  have hsr:=hb.size
  by_cases hlt:k<l.length
  ·obtain⟨g,o,v2,rfl,hSg,hp,hc⟩:=dB (fun _ _ h=>lD h) (HL.out.keep (P':=dS wr S) (aj hb hS) (fun _ _ h=>h.keep (aj hb hS))) hlt
   have hgs:g<wr.heap.size:=by have:=hS g hSg;omega
   obtain⟨d,hd⟩:=kE (l[k])
   rw[←hd] at hp
   have hq:(ai (l.take k)).length≤100000000:=by have:=mD (fun d:Dc=>if d.kind=1 then d.names else []) l k;unfold ai bV at hsz ⊢;omega
   have hq2:(ai (l.take (k+1))).length≤100000000:=by have:=mD (fun d:Dc=>if d.kind=1 then d.names else []) l (k+1);unfold ai bV at hsz ⊢;omega
   obtain⟨cs,nA,nc,hcl,hone,rfl,c0,-,-,c3,-,hsn,hnc⟩:=j4 hp
   have e0:wr.cell? ⟨g,o+k * 22,none⟩=some (.int .i64 d.kind):=hc 0 _ (by simpa [cellsOf,Value.cells] using c0)
   have e3:wr.cell? ⟨g,o+k * 22+3,none⟩=some (.slice nA d.names.length nc):=hc 3 _ (by simpa [cellsOf,Value.cells] using c3)
   have HSN:=jI hsn
   have hkI:(k:Int)<(l.length:Int):=by omega
   have hk0:(0:Int)≤(k:Int):=by omega
   by_cases hk1:d.kind=1
   ·have hsv:=vO hlt hd hk1
    rw[hsv,bD] at hq2
    have hkb:(d.kind==(1:Int))=true:=by rw[hk1];rfl
    have HSV:=jI hsv
    obtain⟨cur,hcur⟩:=kE (ai (l.take k))
    rw[←hcur] at hown hq hq2 HSV
    clear hcur hp hc hone c0 c3 hsn hsv hk1 hd
    go_wp2_with (at_builtin;refine jU wr rfl (.tmp 17) (.tmp 22) rfl w.heap.size _ _ _ hown rfl S nA _ nc d.names rfl rfl HSN.out (by omega) (by omega) hsr ?_;intro v3 w3 hown3 hg3 hv3)
    go_roundw
    case rel=>
     refine⟨k+1,by omega,by go_num,?_,hb.trans (aN hown hg3 hsr)⟩
     rw[HSV.out,bD,pY]
     exact hown3
    case measure=>simp[intOf];omega
   ·have hsv:=yM hlt hd hk1
    have hkb:(d.kind==(1:Int))=false:=by rw[bP];exact hk1
    have HSV:=jI hsv
    clear hp hc hone c0 c3 hsn hsv hk1 hd
    go_wp2
    go_roundw
    case rel=>
     refine⟨k+1,by omega,by go_num,?_,hb⟩
     rw[HSV.out]
     exact hown
    case measure=>simp[intOf];omega
  ·obtain rfl:k=l.length:=by omega
   have hkI:¬(l.length:Int)<(l.length:Int):=by omega
   rw[List.take_length] at hown
   go_wp2
   go_ret
   exact⟨_,rfl,hown,hb⟩
structure BOk(l:List Dc):Prop where
 each:∀d∈l,(-9223372036854775808≤d.kind∧d.kind≤9223372036854775807)∧d.name.size≤maxLen∧∀x∈d.names,x.size≤maxLen
 all:(l.map fun d=>d.names.length+1).sum≤100000000
def nb2(l:List Dc):Nat:=(l.map fun d=>d.names.length+1).sum
theorem Gr(l:List Dc)(d:Dc):nb2 (l++[d])=nb2 l+1+d.names.length:=by simp[nb2];omega
theorem ER(l:List Dc):aH l≤nb2 l:=by
 unfold aH nb2
 induction l with
 |nil=>simp
 |cons d r ih=>rw[List.map_cons,List.sum_cons,List.map_cons,List.sum_cons];split<;>omega
theorem Gs(k:Int)(l:List Dc):dR k l≤nb2 l:=by
 unfold dR nb2
 induction l with
 |nil=>simp
 |cons d r ih=>rw[List.countP_cons,List.map_cons,List.sum_cons];split<;>omega
theorem nb2_len(l:List Dc):l.length≤nb2 l:=by
 unfold nb2
 induction l with
 |nil=>simp
 |cons d r ih=>rw[List.map_cons,List.sum_cons,fM];omega
def JY(l:List Dc)(S:Nat→Prop)(w:World)(e:Ending)(w':World):Prop:=
 ∃b kb db wb cb zb n zn,e=.returned (.pointer (some ⟨b,0,none⟩))∧Sc prog 121 w' S b kb db wb cb zb n zn (kZ l) (aH l) (dR 4 l) (dR 6 l) (dw l) (fP l) [] [] (fun _=>none)∧Below w.heap.size w w'
theorem JR(l:List Dc)(A:Option Addr)(c:Nat)(w:World)(S:Nat→Prop)(hl:aO (dS w S) w S 22 A l)(hS:∀g,S g→g<w.heap.size)(hB:BOk l):
  Calls prog 64 #[.slice A l.length c] w (JY l S w):=by
 have HL:=jI hl
 have HB:=jI hB.each
 have HBA:=jI hB.all
 have hll:l.length≤100000000:=cK (nb2_len l) hB.all
 have HEM:=jI (Dv w S hS)
 clear hl hB
 go_enter func64,ntmps64
 go_wp2_with fail
 refine HEM.out.mono ?_
 rintro e w2 ⟨b,kb,db,wb,cb,zb,rfl,hsc,hb2,hlo⟩
 have HSC:=jI hsc
 clear hsc
 go_wp2_with fail
 go_loopw [9] (fun x wr=>∃k:Nat,k≤l.length∧x=.int .i64 k∧Below w.heap.size w wr∧Hid (Sc prog 121 wr S b kb db wb cb zb (nb2 (l.take k)) 0 (kZ (l.take k)) (aH (l.take k)) (dR 4 (l.take k)) (dR 6 (l.take k)) (dw (l.take k)) (fP (l.take k)) [] [] (fun _=>none))) (fun x _=>l.length-(intOf x).toNat)
 case atStart=>exact⟨0,cu _,rfl,hb2,jI HSC.out⟩
 case round=>
  obtain⟨k,hk,rfl,hb,hsc⟩:=hrel
  have hsr:=hb.size
  by_cases hlt:k<l.length
  ·obtain⟨g,o,v2,rfl,hSg,hp,hc⟩:=dB (fun _ _ h=>lD h) (HL.out.keep (P':=dS wr S) (aj hb hS) (fun _ _ h=>h.keep (aj hb hS))) hlt
   obtain⟨d,hd⟩:=kE (l[k])
   have hmem:d∈l:=by rw[hd];exact bQ hlt
   have htk:=F9 l k hlt
   rw[←hd] at hp htk
   have hq2:=sum_takeA (fun d:Dc=>d.names.length+1) l (k+1)
   have hba:=HBA.out
   rw[htk] at hq2
   have hq3:nb2 (l.take k++[d])≤100000000:=cK hq2 hba
   rw[Gr] at hq3
   obtain⟨hd1,hd2,hd3⟩:=HB.out d hmem
   have hps:=ER (l.take k)
   have hp4:=Gs 4 (l.take k)
   have hp6:=Gs 6 (l.take k)
   obtain⟨cs,nA,nc,hcl,hone,rfl,-,-,-,-,-,-,-⟩:=j4 hp
   have hrange:wr.rangeAt g (o+k * 22) cs:=fun j u hu=>hc j u (by simpa [cellsOf,Value.cells] using hu)
   have mW:(prog.info? 35).map (·.size)=some cs.length:=by rw[hcl];exact cZ
   have hcs2:cs.toArray.size=22:=by simpa using hcl
   have nD:=jI hone
   have HCS:=jI hcs2
   have HP:=jI hp
   have HTK:=jI htk
   have HD:=jI (show (-9223372036854775808≤d.kind∧d.kind≤9223372036854775807)∧d.name.size≤maxLen∧∀x∈d.names,x.size≤maxLen from ⟨hd1,hd2,hd3⟩)
   have hkI:(k:Int)<(l.length:Int):=by omega
   have hk0:(0:Int)≤(k:Int):=by omega
   have hbA:∀o,Below wr.heap.size wr (wr.alloc o):=fun o=>(jQ _ _).alloc (aP _) o
   obtain⟨lk,hlk⟩:=kE (l.take k)
   rw[←hlk] at hsc hq3 hps hp4 hp6 HTK
   clear hlk hp hc hone hcs2 htk hd hmem hq2 hba hd1 hd2 hd3 hcl
   have hsz0:=hsc.out.lt.1
   have hk1:=hsc.out.kinds.lt
   have hk2:db<wr.heap.size:=by obtain⟨g,hg,-⟩:=hsc.out.decls;exact hg.lt
   go_wp2_with (first|(with_reducible refine wpList_load_mid rfl 35 (.tmp 11) rfl g (o+k * 22) rfl cs _ hrange underlying35 rfl mW ?_)|(with_reducible refine bO _ rfl rfl (.tmp 5) (.tmp 12) rfl wr.heap.size cs.toArray rfl rfl _ (jR wr _) rfl HCS.out nD.out ?_;intro W5 hr5 hg5)|(with_reducible refine gy _ rfl (.tmp 5) rfl wr.heap.size rfl _ hr5 HCS.out ?_))
   have hb5:Below wr.heap.size wr W5:=(hbA _).trans (below_grown hg5 (aP _) (by simp))
   have tV:Below w.heap.size w W5:=hb.trans (hb5.mono hsr)
   have HAD:=jI (add_any (hsc.out.below hb5) d _ (HP.out.keep (aA hb5)) HD.out.1 HD.out.2.1 HD.out.2.2 (by omega) (by omega) (by omega) (by omega))
   clear hr5 hg5 hrange
   refine HAD.out.mono ?_
   rintro e w7 ⟨rfl,hsc7,hbt7⟩
   have HS7:=jI hsc7
   have hbw7:Below w.heap.size w w7:=tV.trans (hbt7.below (fun g hg=>by unfold AddT at hg;omega) (by have:=tV.size;omega))
   clear hsc7
   go_wp2
   go_roundw
   case rel=>
    refine⟨k+1,by omega,by go_num,hbw7,jI ?_⟩
    rw[HTK.out,Gr,qL,rz,oM,oM,qG,tJ]
    exact HS7.out
   case measure=>simp[intOf];omega
  ·obtain rfl:k=l.length:=by omega
   have hkI:¬(l.length:Int)<(l.length:Int):=by omega
   rw[List.take_length] at hsc
   go_wp2
   go_ret
   exact⟨b,kb,db,wb,cb,zb,_,_,rfl,hsc.out,hb⟩
def nH(l:List Dc)(t:Tm):Nat:=if (eF t).2≠0 then (eF t).2 else iP (tab l) (aH l) t
theorem term_any2(l:List Dc)(A:Option Addr)(c:Nat)(t:Tm)(v:Value)(w:World)(S:Nat→Prop)(hl:aO (dS w S) w S 22 A l)(ht:dX w S t v)(hS:∀g,S g→g<w.heap.size)(hB:BOk l)(hsz:ax t≤2000000)(hpw:Pow w):
  Calls prog 28 #[.slice A l.length c,v] w fun e w'=>e=.returned (.int .i64 (nH l t))∧Below w.heap.size w w':=by
 have hbA:∀o,Below w.heap.size w (w.alloc o):=fun o=>(jQ _ _).alloc (aP _) o
 have ht2:=ht
 obtain⟨op,nm,nd,wA,wn,wc,kA,kn,kc,rfl⟩:=ht2.form
 obtain⟨fe,hfe⟩:=kE ((eF t).2)
 have HF:=jI (fun o=>yw t _ (w.alloc o) S (ht.keep (aA (hbA o))) (fun g hg=>by have:=hS g hg;simp;omega) (by omega) (hpw.below (hbA o)))
 simp only[←hfe] at HF
 have HBE:=jI (fun(W:World)(hb:Below w.heap.size w W)=>JR l A c W S (hl.keep (aj hb hS) (fun _ _ h=>h.keep (aj hb hS))) (fun g hg=>by have:=hS g hg;have:=hb.size;omega) hB)
 have HT:=jI (fun(W:World)(hb:Below w.heap.size w W)=>ht.keep (aj hb hS))
 obtain⟨r,hr⟩:=kE (nH l t)
 rw[←hr]
 unfold nH at hr
 rw[←hfe] at hr
 have HR:=jI hr
 clear ht ht2 hl hB hpw hfe hr
 go_enter func28,ntmps28
 go_wp2_with fail
 refine (HF.out _).mono ?_
 rintro e W1 ⟨rfl,hb1⟩
 have hs1:=hb1.size
 rw[show (w.alloc (.cells #[.int .i64 op,.string nm,.int .i64 nd,.slice wA wn wc,.slice kA kn kc] 26)).heap.size=w.heap.size+1 by simp] at hs1 hb1
 have iC:Below w.heap.size w W1:=(hbA _).trans (hb1.mono (by omega))
 have hr1:W1.heap[w.heap.size]?=some (.cells #[.int .i64 op,.string nm,.int .i64 nd,.slice wA wn wc,.slice kA kn kc] 26 (0,0)):=(hb1.block _ (by omega)).trans (jR w _)
 obtain⟨c0,c1,c2,c3,c4,-⟩:=uL hr1
 have HR1:=jI hr1
 clear hr1 hb1
 by_cases hz:fe=0
 ·subst hz
  have hr2:=HR.out
  rw[if_neg (by decide)] at hr2
  have HR2:=jI hr2
  have hlt2:w.heap.size<W1.heap.size:=by omega
  clear hr2
  go_wp2_with fail
  go_region_held3 (fun w'=>w'.cell? ⟨w.heap.size,0,none⟩=some (.int .i64 op)∧w'.cell? ⟨w.heap.size,1,none⟩=some (.string nm)∧w'.cell? ⟨w.heap.size,2,none⟩=some (.int .i64 nd)∧w'.cell? ⟨w.heap.size,3,none⟩=some (.slice wA wn wc)∧w'.cell? ⟨w.heap.size,4,none⟩=some (.slice kA kn kc)) (first|go_keep|exact hkeep3|exact hkeep4)
   (first|(go_at_call 64;(refine (HBE.out _ (below_drewN iC _)).mono ?_;rintro e W3 ⟨b,kb,db,wb,cb,zb,n,zn,rfl,hsc,hb3⟩;have hz3:W1.heap.size≤W3.heap.size:=hb3.size;have jC:Below w.heap.size w W3:=(below_drewN iC _).trans (hb3.mono (show w.heap.size≤W1.heap.size from dF hlt2));have hr3:=(hb3.block _ (show w.heap.size<W1.heap.size from hlt2)).trans HR1.out;have hkeep3:=zl hr3;have HSC:=jI hsc;clear hsc))|(go_at_call 65;(refine (oo t _ W3 S (HT.out _ jC) (fun g hg=>by have:=hS g hg;omega) (by omega) (Ah HSC.out.row).1 (Ah HSC.out.row).2.2.1 HSC.out.kinds).mono ?_;rintro e W4 ⟨rfl,hb4⟩;have hr4:=(hb4.block _ (jS hr3)).trans hr3;have hkeep4:=zl hr4)))
  all_goals (
   go_wp2
   go_ret
   have e9:=HR2.out
   rw[←lI] at e9
   exact⟨by rw[e9];rfl,jC.trans (hb4.mono jC.size)⟩)
 ·have hqn:((fe:Int) != 0)=true:=j6 hz
  have hr2:=HR.out
  rw[if_pos hz] at hr2
  have HR2:=jI hr2
  clear hr2 hz
  go_wp2
  go_ret
  exact⟨by rw[HR2.out];rfl,iC⟩
end Go.Proofs.YtmohibkomlhlaaaGreatDoor
