/- Config and Server, of the program and of the reference: what has a name, or ErrNotFound. -/
import Derived.Test.YtmohibkomlhlaaaGreatDoorPna
set_option maxRecDepth 100000
set_option maxHeartbeats 4000000
namespace Go.Proofs.YtmohibkomlhlaaaGreatDoor
open Go.RowKit
open _root_.Go.Proofs.Tryz
section
variable {w w':World} {S S':Nat→Prop}
theorem eH.keep{x:BF}{v:Value}(h:eH w S x v)(hk:Kept S w w'):eH w' S x v:=by
 obtain⟨rA,rc,wA,wc,fA,fc,rfl,h1,h2,h3⟩:=h
 exact⟨_,_,_,_,_,_,rfl,h1.keep hk,h2.keep hk,h3.keep hk⟩
theorem eH.mono{x:BF}{v:Value}(h:eH w S x v)(hS:∀g,S g→g<w.heap.size→S' g):eH w S' x v:=by
 obtain⟨rA,rc,wA,wc,fA,fc,rfl,h1,h2,h3⟩:=h
 exact⟨_,_,_,_,_,_,rfl,h1.mono hS (by decide),h2.mono hS (by decide),h3.mono hS (by decide)⟩
theorem oh.keep{x:DCli}{v:Value}(h:oh w S x v)(hk:Kept S w w'):oh w' S x v:=by
 obtain⟨fA,fc,rfl,h1⟩:=h
 exact⟨_,_,rfl,h1.keep hk⟩
theorem xV.keep{x:DDep}{v:Value}(h:xV w S x v)(hk:Kept S w w'):xV w' S x v:=by
 obtain⟨sA,sc,tA,tc,cA,cc,hA,hc,kA,kc,rfl,h1,h2,h3,h4,h5⟩:=h
 exact⟨_,_,_,_,_,_,_,_,_,_,rfl,h1.keep hk,h2.keep hk,h3.keep hk (fun _ _ h=>h.keep hk),h4.keep hk,h5.keep hk (fun _ _ h=>h.keep hk)⟩
theorem FO{x:BF}{v:Value}(h:eH w S x v):(cellsOf v).length=6:=by
 obtain⟨rA,rc,wA,wc,fA,fc,rfl,-⟩:=h;rfl
end
theorem ba_eqd(x y:ByteArray):(x.toList==y.toList)=(x==y):=by
 by_cases h:x=y
 ·subst h;rw[ba_self];simp
 ·rw[ba_ne h,ba_nee h]
def zCfg:BF:=⟨⟨#[]⟩,0,0,[],[],[]⟩
def yB(d:DDep)(n:ByteArray):BF:=(d.gI.find? fun c=>c.name==n).getD zCfg
def xJ(d:DDep)(n:ByteArray):Nat:=if (d.gI.find? fun c=>c.name==n).isSome then 0 else 4
theorem pV(w:World)(S:Nat→Prop):eH w S zCfg (.agg #[.string ⟨#[]⟩,.int .i64 0,.int .u16 0,.slice none 0 0,.slice none 0 0,.slice none 0 0]):=⟨none,0,none,0,none,0,rfl,.empty _ _ _ _,.empty _ _ _ _,.empty _ _ _ _⟩
theorem cfg_test(x:BF)(v:Value)(n:ByteArray)(p:Nat)(w:World)(S:Nat→Prop)(hx:eH w S x v)(hp:w.heap[p]?=some (.cells #[.string n] 9 (0,0))):
  Calls prog 44 #[v,.pointer (some ⟨p,0,none⟩)] w fun e w'=>e=.returned (.bool (x.name==n))∧Below w.heap.size w w':=by
 obtain⟨rA,rc,wA,wc,fA,fc,rfl,-⟩:=hx
 have hb:Below w.heap.size w (w.alloc (.cells #[.string x.name,.int .i64 x.kind,.int .u16 (x.mem:Nat),.slice rA x.read.length rc,.slice wA x.write.length wc,.slice fA x.faults.length fc] 54)):=(jQ _ _).alloc (aP _) _
 have hr:=jR w (.cells #[.string x.name,.int .i64 x.kind,.int .u16 (x.mem:Nat),.slice rA x.read.length rc,.slice wA x.write.length wc,.slice fA x.faults.length fc] 54)
 obtain⟨W,hW⟩:=kE (w.alloc (.cells #[.string x.name,.int .i64 x.kind,.int .u16 (x.mem:Nat),.slice rA x.read.length rc,.slice wA x.write.length wc,.slice fA x.faults.length fc] 54))
 rw[←hW] at hb hr
 have c0:=ah hr 0 _ rfl
 have c1:=ah ((hb.block _ (jS hp)).trans hp) 0 _ rfl
 have H1:=jI hW
 have HB:=jI hb
 clear hW hb hr hp
 go_enter func44,ntmps44
 go_upto_region 1 with fail
 rw[←H1.out]
 go_wp2
 go_ret
 exact⟨by rw[←ba_eqd];rfl,HB.out⟩
theorem fx_cfg(l:List BF)(S:Nat→Prop)(A:Option Addr)(c:Nat)(w:World)(hl:aO (eH w S) w S 6 A l)(hS:∀g,S g→g<w.heap.size)(hlim:l.length≤1000000000000)
  (fid:Nat) (he:∀(args:Array Value)(w:World),(callFunc fid args).run prog w=.ok (.enter fid args) w) (p1:Value) (q:BF→Bool) (hf:rY (fun W x v=>eH W S x v) w fid [p1] l q):
  Calls prog 42 #[.slice A l.length c,.func (.func fid) #[] #[p1]] w (D8 l q w):=by
 have HF:=jI hf
 have HLS:=jI hl
 clear hf hl
 go_enter func42,ntmps42
 go_wp2
 go_loopw [8] (fun x wr=>∃k:Nat,k≤l.length∧x=.int .i64 k∧Hid (∀j (hj:j<l.length),j<k→q l[j]=false)∧Below w.heap.size w wr) (fun x _=>l.length-(intOf x).toNat)
 case atStart=>exact⟨0,cu _,rfl,(fun j _ h=>absurd h (by omega)),jQ _ _⟩
 case round=>
  obtain⟨k,hk,rfl,hno,hb⟩:=hrel
  have hsz:=hb.size
  by_cases hlt:k<l.length
  ·have hlr:=HLS.out.keep (P':=eH wr S) (aj hb hS) (fun _ _ h=>h.keep (aj hb hS))
   obtain⟨g,o,v,rfl,hSg,htm,hcs⟩:=dB (fun _ _ h=>FO h) hlr hlt
   have hgs:g<wr.heap.size:=by have:=hS g hSg;omega
   obtain⟨cs,hcl,rfl⟩:∃cs:List Value,cs.length=6∧v=.agg cs.toArray:=by
    obtain⟨rA,rc,wA,wc,fA,fc,hv,-⟩:=htm
    exact⟨_,rfl,hv⟩
   have hrange:wr.rangeAt g (o+k * 6) cs:=fun j u hu=>hcs j u (by simpa [cellsOf,Value.cells] using hu)
   have mW:(prog.info? 54).map (·.size)=some cs.length:=by rw[hcl];exact mO
   clear hcs
   have hc:=HF.out l[k] (bQ hlt) _ wr htm hb
   have hkI:(k:Int)<(l.length:Int):=by omega
   have hk0:(0:Int)≤(k:Int):=by omega
   cases hq:q l[k]
   ·rw[hq] at hc
    have HC:=jI hc
    have HQ:=jI hq
    clear hc hq hlr
    go_wp2_with (with_reducible refine wpList_load_mid rfl 54 (.tmp 14) rfl g (o+k * 6) rfl cs _ hrange underlying54 rfl mW ?_)
    refine HC.out.mono ?_
    rintro e W2 ⟨rfl,hb2⟩
    go_wp2
    go_roundw
    case rel=>
     refine⟨k+1,by omega,by go_num,?_,hb.trans (hb2.mono hsz)⟩
     intro j hj hjk
     by_cases h9:j<k
     ·exact hno.out j hj h9
     ·obtain rfl:j=k:=by omega
      exact HQ.out
    case measure=>simp[intOf];omega
   ·rw[hq] at hc
    have HC:=jI hc
    have HQ:=jI hq
    clear hc hq hlr
    go_wp2_with (with_reducible refine wpList_load_mid rfl 54 (.tmp 14) rfl g (o+k * 6) rfl cs _ hrange underlying54 rfl mW ?_)
    refine HC.out.mono ?_
    rintro e W2 ⟨rfl,hb2⟩
    go_wp2
    go_ret
    exact⟨Or.inr ⟨k,l[k],rfl,dD hlt,HQ.out,xh hlt hno.out HQ.out⟩,hb.trans (hb2.mono hsz)⟩
  ·have HQ:=jI (nW (fun j hj=>hno.out j hj (by omega)))
   have hkI:¬(k:Int)<(l.length:Int):=by omega
   go_wp2
   go_ret
   exact⟨Or.inl ⟨rfl,HQ.out⟩,hb⟩
def DLim(d:DDep):Prop:=d.servers.length≤1000000∧d.sites.length≤1000000∧d.gI.length≤1000000∧d.chain.length≤1000000∧d.clients.length≤1000000∧∀x∈d.gI,x.read.length≤1000∧x.write.length≤1000∧x.faults.length≤1000
theorem FM(d:DDep)(v:Value)(n:ByteArray)(w:World)(S:Nat→Prop)(hd:xV w S d v)(hS:∀g,S g→g<w.heap.size)(hl:DLim d):
  Calls prog 13 #[v,.string n] w fun e w'=>∃v',e=.returned (.tuple #[v',.int .i64 (xJ d n:Nat)])∧eH w' (w.heap.size≤·) (yB d n) v'∧Below w.heap.size w w':=by
 obtain⟨sA,sc,tA,tc,cA,cc,hA,hc,kA,kc,rfl,-,-,hC,-,-⟩:=hd
 obtain⟨-,-,hl3,-,-,hl6⟩:=hl
 have hbA:∀(W:World)(o:Obj),Below W.heap.size W (W.alloc o):=fun W o=>(jQ _ _).alloc (aP _) o
 obtain⟨W1,hW1⟩:=kE (w.alloc (.cells #[.slice sA d.servers.length sc,.slice tA d.sites.length tc,.int .u16 (d.wit:Nat),.slice cA d.gI.length cc,.slice hA d.chain.length hc,.slice kA d.clients.length kc] 48))
 have hb1:Below w.heap.size w W1:=by rw[hW1];exact hbA _ _
 have hr1:W1.heap[w.heap.size]?=some (.cells #[.slice sA d.servers.length sc,.slice tA d.sites.length tc,.int .u16 (d.wit:Nat),.slice cA d.gI.length cc,.slice hA d.chain.length hc,.slice kA d.clients.length kc] 48 (0,0)):=by rw[hW1];exact jR _ _
 have hz1:W1.heap.size=w.heap.size+1:=by rw[hW1];simp
 obtain⟨W2,hW2⟩:=kE (W1.alloc (.cells #[.string n] 9))
 have hb2:Below W1.heap.size W1 W2:=by rw[hW2];exact hbA _ _
 have hr2:W2.heap[w.heap.size+1]?=some (.cells #[.string n] 9 (0,0)):=by rw[hW2,←hz1];exact jR _ _
 have hz2:W2.heap.size=w.heap.size+2:=by rw[hW2,World.size_alloc,hz1]
 obtain⟨W3,hW3⟩:=kE (W2.alloc (.cells #[.string ⟨#[]⟩,.int .i64 0,.int .u16 0,.slice none 0 0,.slice none 0 0,.slice none 0 0] 54))
 have hb3:Below W2.heap.size W2 W3:=by rw[hW3];exact hbA _ _
 have hr3:W3.heap[w.heap.size+2]?=some (.cells #[.string ⟨#[]⟩,.int .i64 0,.int .u16 0,.slice none 0 0,.slice none 0 0,.slice none 0 0] 54 (0,0)):=by rw[hW3,←hz2];exact jR _ _
 have hz3:W3.heap.size=w.heap.size+3:=by rw[hW3,World.size_alloc,hz2]
 have hb:=hb1.trans ((hb2.trans (hb3.mono (by omega))).mono (by omega))
 have q1:=((hb2.trans (hb3.mono (by omega))).block _ (by omega)).trans hr1
 have q2:=(hb3.block _ (by omega)).trans hr2
 have HX:=jI (fx_cfg d.gI S cA cc W3 (hC.keep (P':=eH W3 S) (aj hb hS) (fun _ _ h=>h.keep (aj hb hS))) (fun g hg=>by have:=hS g hg;omega) (by omega) 44 (enters_of func44 (by kernel_rfl) rfl) (.pointer (some ⟨w.heap.size+1,0,none⟩)) (fun c=>c.name==n)
  (fun x _ v W hv hbW=>cfg_test x v n _ W S hv ((hbW.block _ (by omega)).trans q2)))
 have HC:=jI hC
 have H1:=jI hW1
 have H2:=jI hW2
 have H3:=jI hW3
 have HB:=jI hb
 have HQ1:=jI q1
 have HR3:=jI hr3
 have HZ3:=jI hz3
 have c3:=ah q1 3 _ rfl
 have HL6:=jI hl6
 clear hC hW1 hW2 hW3 hb hb1 hb2 hb3 hr1 hr2 hr3 hz1 hz2 hz3 q1 q2 hl6
 go_enter func13,ntmps13
 go_upto_region 1 with fail
 rw[←H1.out,←H2.out,←H3.out]
 go_wp2_with fail
 refine HX.out.mono ?_
 rintro e W4 ⟨hf,hb4⟩
 have hz4:=hb4.size
 have hz3:=HZ3.out
 have r4:=(hb4.block _ (by omega)).trans HR3.out
 have q4:=(hb4.block _ (by omega)).trans HQ1.out
 have hbw:=HB.out.trans (hb4.mono HB.out.size)
 have HB4:=jI hbw
 obtain⟨p0,p1,p2,p3,p4,p5⟩:=dz r4
 have l0:=jT _ _ 0 _ _ r4
 have l1:=jT _ _ 1 _ _ r4
 have l2:=jT _ _ 2 _ _ r4
 have l3:=jT _ _ 3 _ _ r4
 have l4:=jT _ _ 4 _ _ r4
 have l5:=jT _ _ 5 _ _ r4
 have c3:=ah q4 3 _ rfl
 have HR4:=jI r4
 clear r4 q4 hb4 hbw hz3
 rcases hf with ⟨rfl,hn⟩|⟨k,x,rfl,hk,-,hn⟩
 ·have E:Hid (yB d n=zCfg∧xJ d n=4):=jI (by unfold yB xJ;rw[hn];exact⟨rfl,rfl⟩)
  clear hn
  go_wp2
  obtain⟨e1,e2⟩:=set6 HR4.out (.string ⟨#[]⟩) (.int .i64 0) (.int .u16 0) (.slice none 0 0) (.slice none 0 0) (.slice none 0 0)
  refine pE rfl rfl rfl rfl e1 rfl ?_
  rw[E.out.1,E.out.2]
  exact⟨_,rfl,pV _ _,HB4.out.trans (below_grown e2 (by omega) HB4.out.size)⟩
 ·have E:Hid (yB d n=x∧xJ d n=0):=jI (by unfold yB xJ;rw[hn];exact⟨rfl,rfl⟩)
  have hkl:=(List.getElem?_eq_some_iff.1 hk).1
  have hxk:d.gI[k]=x:=(List.getElem?_eq_some_iff.1 hk).2
  have hkept:=aj HB4.out hS
  obtain⟨g,o,u,rfl,hSg,htm,hcs⟩:=dB (fun _ _ h=>FO h) (HC.out.keep (P':=eH W4 S) hkept (fun _ _ h=>h.keep hkept)) hkl
  rw[hxk] at htm
  obtain⟨b1,b2,b3⟩:=HL6.out x (hxk▸bQ hkl)
  have HCP:=jI (JD x u W4 S htm (fun g hg=>by have:=hS g hg;have:=HB4.out.size;omega) b1 b2 b3)
  have hgs:g<W4.heap.size:=by have:=hS g hSg;have:=HB4.out.size;omega
  obtain⟨cs,hcl,rfl⟩:∃cs:List Value,cs.length=6∧u=.agg cs.toArray:=by
   obtain⟨rA,rc,wA,wc,fA,fc,hv,-⟩:=htm
   exact⟨_,rfl,hv⟩
  have hrange:W4.rangeAt g (o+k * 6) cs:=fun j u hu=>hcs j u (by simpa [cellsOf,Value.cells] using hu)
  have mW:(prog.info? 54).map (·.size)=some cs.length:=by rw[hcl];exact mO
  have hkI:(k:Int)<(d.gI.length:Int):=by omega
  have hk0:(0:Int)≤(k:Int):=by omega
  have hk1:¬(k:Int)<0:=by omega
  clear hcs htm hk hn hxk
  go_wp2_with (with_reducible refine wpList_load_mid rfl 54 (.tmp 17) rfl g (o+k * 6) rfl cs _ hrange underlying54 rfl mW ?_)
  refine HCP.out.mono ?_
  rintro e W5 ⟨v5,rfl,hx5,hb5⟩
  have r5:=(hb5.block _ (jS HR4.out)).trans HR4.out
  have tV:=HB4.out.trans (hb5.mono HB4.out.size)
  have hsz5:=HB4.out.size
  have hz5:=HZ3.out
  have hx6:=hx5.mono (S':=fun g=>w.heap.size+3≤g) (fun g hg _=>by omega)
  obtain⟨rA,rc,wA,wc,fA,fc,rfl,s1,s2,s3⟩:=hx6
  obtain⟨p0,p1,p2,p3,p4,p5⟩:=dz r5
  have l0:=jT _ _ 0 _ _ r5
  have l1:=jT _ _ 1 _ _ r5
  have l2:=jT _ _ 2 _ _ r5
  have l3:=jT _ _ 3 _ _ r5
  have l4:=jT _ _ 4 _ _ r5
  have l5:=jT _ _ 5 _ _ r5
  have HS:=jI (And.intro s1 (And.intro s2 s3))
  have HR5:=jI r5
  have HB5:=jI tV
  clear s1 s2 s3 r5 tV hx5 hb5
  go_wp2
  obtain⟨e1,e2⟩:=set6 HR5.out (.string x.name) (.int .i64 x.kind) (.int .u16 (x.mem:Nat)) (.slice rA x.read.length rc) (.slice wA x.write.length wc) (.slice fA x.faults.length fc)
  have hk9:Kept (fun g=>w.heap.size+3≤g) W5 _:=(aR e2).mono fun g hg=>by omega
  refine pE rfl rfl rfl rfl e1 rfl ?_
  rw[E.out.1,E.out.2]
  exact⟨_,rfl,eH.mk ((HS.out.1.keep hk9).mono (fun g hg _=>by omega) (by decide)) ((HS.out.2.1.keep hk9).mono (fun g hg _=>by omega) (by decide)) ((HS.out.2.2.keep hk9).mono (fun g hg _=>by omega) (by decide)),HB5.out.trans (below_grown e2 (by omega) HB5.out.size)⟩
end Go.Proofs.YtmohibkomlhlaaaGreatDoor
