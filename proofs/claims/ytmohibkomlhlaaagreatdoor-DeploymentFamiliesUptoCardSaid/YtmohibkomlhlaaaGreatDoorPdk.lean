/- The contract of the bg Holds of a term: the servers of a site. Terms that are typed. The contract of the bg Holds of a term: any term. Terms that are typed. The contract of the bg Holds: all terms that are typed and that expand. Declarations that the check finds good, of a size up to a bound. The contract of the bg used: the names that a declaration uses, in its own order. The contract of the bg Short: it answers. Declarations of a size up to a bound. The contract of slices.Clone at declarations, with the ownership of the row: lists of any length up to a bound. -/
import Derived.Test.YtmohibkomlhlaaaGreatDoorPdj
set_option maxRecDepth 100000
set_option maxHeartbeats 8000000
namespace Go.Proofs.YtmohibkomlhlaaaGreatDoor
section
open Go.RowKit
open _root_.Go.Proofs.Tryz
theorem Hy{A:Option Addr}{c:Nat}{l pre:List Dc}{env:ByteArray→Ex × Nat}(hp:Plain l pre)(hL:RLim l)(hks:uF l)(op:Int)(name:ByteArray)(need:Int)(ws:List Int)(kids:List Tm)(ht:Typed pre (.mk op name need ws kids))
  (hkl:kids.length≤10000000) (hwl:ws.length≤10000000) (wU:∀x,aQ (tab pre) x=4→(env x).2=0→jf A c l (jd l x).term (env x).1) (AZ:∀x,aQ (tab pre) x=4→(env x).2=0→qA (env x).1)
  (ih:∀k∈kids,(fK l env k).2=0→jf A c l k (fK l env k).1) (he:(fK l env (.mk op name need ws kids)).2=0)
  (hca:(op=6∨op=7∨op=8)∧ws=[]∧kids=[]∧(name=(⟨#[115,101,114,118,101,114,115]⟩:ByteArray)∨name≠(⟨#[115,101,114,118,101,114,115]⟩:ByteArray)∧aQ (tab pre) name=1)):jf A c l (.mk op name need ws kids) (fK l env (.mk op name need ws kids)).1:=by
 intro v w S s hls hv hS hs0
 have HCAS:=jI hca
 clear hca
 have hbA:∀(W:World)(o:Obj),Below W.heap.size W (W.alloc o):=fun W o=>(jQ _ _).alloc (aP _) o
 cases hv with
 |mk _ _ _ _ _ wA kA wc kc vs hvw hwc hvk hkc hvl hvh=>
 have HKI:=jI (show aO (dX w S) w S 5 kA kids from ⟨vs,hvl,hvk,hvh⟩)
 have HVW:=jI hvw
 obtain⟨-,h2,h3⟩:=kH he
 have hwk:∀x∈kids.map (fun t=>(fK l env t).1),qA x:=fun x hx=>by
  obtain⟨t,htm,rfl⟩:=List.mem_map.1 hx
  exact sW hp AZ _ t (aP _) (ht.parts.2.2.2 t htm) (h3 t htm)
 rw[h2] at he ⊢
 obtain⟨rb,hrb⟩:=kE (bW (gX l env op name need ws (kids.map fun t=>(fK l env t).1)).1 s)
 rw[←hrb]
 have HRB:=jI hrb
 clear hrb
 have HIH:=jI (fun k hk=>ih k hk (h3 k hk))
 have hLS:=fun(W:World)(hW:Below w.heap.size w W)=>(⟨hls.keep (P':=dS W S) (aj hW hS) (fun _ _ h=>h.keep (aj hW hS)),fun g hg=>by have:=hS g hg;have:=hW.size;omega⟩:aO (dS W S) W S 22 A l∧∀g,S g→g<W.heap.size)
 have HLS:=jI hLS
 have HG:=jI (fun(W:World)(hW:Below w.heap.size w W)=>oI A c W S (hLS W hW).1 (hLS W hW).2 hL.len hL.nd hL.sv name hL.names)
 have HKD:=jI (fun(W:World)(hW:Below w.heap.size w W)=>rD l A c name W S (hLS W hW).1 (hLS W hW).2 hL.tab hL.len)
 have HSET:=jI (fun(W:World)(hW:Below w.heap.size w W)(nA:Option Addr)(T:Nat→Prop)(hn:ak W T 1 nA 1 (aC [name]))(hT:∀g,T g→g<W.heap.size)=>qQ A c W S (hLS W hW).1 (hLS W hW).2 hL.len hL.nd hL.sv [name] nA 1 T hn hT (by simp))
 have HFI:=jI (fun(W:World)(hW:Below w.heap.size w W)=>nK A c W S (hLS W hW).1 (hLS W hW).2 (by have:=hL.len;omega) name)
 have hG12:=qW hL.sv name
 obtain⟨W0,hW0⟩:=kE (w.alloc (.cells #[.int .i64 op,.string name,.int .i64 need,.slice wA ws.length wc,.slice kA kids.length kc] 26))
 have hb0:Below w.heap.size w W0:=by rw[hW0];exact hbA _ _
 have hr0:W0.heap[w.heap.size]?=some (.cells #[.int .i64 op,.string name,.int .i64 need,.slice wA ws.length wc,.slice kA kids.length kc] 26 (0,0)):=by rw[hW0];exact jR _ _
 have HR0:=jI hr0
 have zk:=jS hr0
 have H0:=jI hW0
 have HP:=jI hp
 have HT:=jI ht
 have HHE:=jI he
 have HWK:=jI hwk
 have HEN:=jI wU
 have HLM:=jI hL
 have HKS:=jI hks
 clear hW0 hr0 hls hvw hvk hvl hvh ih he ht wU AZ hwk h2 h3 hLS hL hks hp
 go_enter func11,ntmps11
 go_wp2_with fail
 rw[←H0.out]
 refine (HG.out W0 hb0).mono ?_
 rintro e w1 ⟨rfl,hb1⟩
 have iC:=hb0.trans (hb1.mono hb0.size)
 have hr1:=(hb1.block _ zk).trans HR0.out
 have HR1:=jI hr1
 obtain⟨z0,z1,z2,z3,z4⟩:=aV hr1
 obtain⟨G,hG⟩:=kE (kM l name)
 rw[←hG] at hG12 ⊢
 have HGE:=jI hG
 have HB1:=jI iC
 have hlt1:=jS hr1
 have hgs:=u16_and_nat G s (by omega) (by omega)
 have wW:G&&&s<65536:=fG Nat.and_le_left (by omega)
 obtain⟨GS,hGS⟩:=kE (G&&&s)
 rw[←hGS] at hgs wW
 have HGS:=jI hGS
 clear hG hr1 hGS hb1 iC hb0 H0 HR0 zk HG
 go_wp2
 go_loop [8,9,10] (fun a b i=>∃k:Nat,k≤12∧i=.int .i64 k∧a=.int .i64 (iy k G:Nat)∧b=.int .i64 (iy k GS:Nat)) (fun _ _ i=>12-(intOf i).toNat)
 case atStart=>exact⟨0,cu _,rfl,rfl,rfl⟩
 case round=>
  obtain⟨k,hk,rfl,rfl,rfl⟩:=hrel
  have hc1:=lF k G
  have hc2:=lF k GS
  by_cases hlt:k<12
  ·have hb1:=bitN G k (by omega)
   have hb2:=bitN GS k wW
   have e1:=eG k G
   have e2:=eG k GS
   have hn1:(if G.testBit k then 1 else 0:Nat)≤1:=by split<;>omega
   have hn2:(if GS.testBit k then 1 else 0:Nat)≤1:=by split<;>omega
   generalize (if G.testBit k then 1 else 0:Nat)=B1 at hb1 e1 hn1
   generalize (if GS.testBit k then 1 else 0:Nat)=B2 at hb2 e2 hn2
   generalize iy k G=C1 at hc1 e1 ⊢
   generalize iy k GS=C2 at hc2 e2 ⊢
   have E1:=jI e1
   have E2:=jI e2
   have hkI:(k:Int)<12:=by omega
   have hk0:(0:Int)≤(k:Int):=by omega
   clear e1 e2
   go_wp2
   go_round
   case rel=>exact⟨k+1,by omega,by go_num,by rw[E1.out];go_num,by rw[E2.out];go_num⟩
   case measure=>simp[intOf];omega
  ·obtain rfl:k=12:=by omega
   have hkI:¬((12:Nat):Int)<12:=by decide
   obtain⟨hop,rfl,rfl,hnm⟩:=HCAS.out
   have hge:G=gH l name:=by
    rw[HGE.out]
    exact rGroup_eq HP.out.once HKS.out (by
     rcases hnm with h|⟨h1,h2⟩
     ·exact Or.inl h
     ·exact Or.inr ⟨h1,by rw[HP.out.sub name (by rw[h2];decide)];exact h2⟩)
   have hG2:G<2^(ai l).length:=by rw[hge];exact Fv name
   obtain⟨c1,c2⟩:=Et HLM.out.sv hG2 s
   rw[←HGS.out] at c2
   have hle:=cntTo_and 12 G s
   rw[←HGS.out] at hle
   have hwx:=BS (G:=G) HLM.out.sv
   have he:=HHE.out
   unfold gX at he
   rw[if_neg (by omega),if_neg (by omega),if_neg (by omega),if_neg (by omega),if_neg (by omega)] at he
   have hx0:(List.map (fun t=>(fK l env t).1) ([]:List Tm))++iH (gH l name) (ai l).length=iH G (ai l).length:=by rw[List.map_nil,List.nil_append,←hge]
   simp only[hx0,c1] at he
   have hE:=qK he hwx s
   rw[c2] at hE
   have HE:=jI (show rb=decide ((if op=6 then ((iy 12 G / 2+1:Nat):Int) else if op=7 then ((iy 12 G:Nat):Int) else if op=8 then 1 else 0)≤((iy 12 GS:Nat):Int)) by
    rw[HRB.out]
    unfold gX
    rw[if_neg (by omega),if_neg (by omega),if_neg (by omega),if_neg (by omega),if_neg (by omega)]
    simp only[hx0,c1]
    exact hE)
   clear he hE hge hG2 hwx hx0
   generalize iy 12 G=C1 at hc1 c1 hle HE ⊢
   generalize iy 12 GS=C2 at hc2 c2 hle HE ⊢
   clear c1 c2
   rcases hop with rfl|rfl|rfl
   ·have HE2:=jI (show rb=decide (((C1 / 2:Nat):Int)<(C2:Int)) by rw[HE.out,if_pos rfl,Bool.eq_iff_iff,decide_eq_true_eq,decide_eq_true_eq];omega)
    have hq:(C1:Int).tdiv 2=((C1 / 2:Nat):Int):=by rw[Int.tdiv_eq_ediv_of_nonneg (by omega)];omega
    go_wp2
    go_ret
    exact⟨by rw[HE2.out];rfl,HB1.out⟩
   ·have HE2:=jI (show rb=((C2:Int)==(C1:Int)) by rw[HE.out,if_neg (by decide),if_pos rfl,Bool.eq_iff_iff,decide_eq_true_eq,beq_iff_eq];omega)
    go_wp2
    go_ret
    exact⟨by rw[HE2.out];rfl,HB1.out⟩
   ·have HE2:=jI (show rb=decide (0<C2) by rw[HE.out,if_neg (by decide),if_neg (by decide),if_pos rfl,Bool.eq_iff_iff,decide_eq_true_eq,decide_eq_true_eq];omega)
    go_wp2
    go_ret
    exact⟨by rw[HE2.out];rfl,HB1.out⟩
theorem EA{A:Option Addr}{c:Nat}{l pre:List Dc}{env:ByteArray→Ex × Nat}(hp:Plain l pre)(hL:RLim l)(hks:uF l)(op:Int)(name:ByteArray)(need:Int)(ws:List Int)(kids:List Tm)(ht:Typed pre (.mk op name need ws kids))
  (hkl:kids.length≤10000000) (hwl:ws.length≤10000000) (wU:∀x,aQ (tab pre) x=4→(env x).2=0→jf A c l (jd l x).term (env x).1) (AZ:∀x,aQ (tab pre) x=4→(env x).2=0→qA (env x).1)
  (ih:∀k∈kids,(fK l env k).2=0→jf A c l k (fK l env k).1) (he:(fK l env (.mk op name need ws kids)).2=0):jf A c l (.mk op name need ws kids) (fK l env (.mk op name need ws kids)).1:=by
 rcases ht.cases with ⟨h1,h2,h3,-,hf⟩|⟨h1,-⟩|⟨hop,-⟩|⟨h1,-,h2,hl1⟩|⟨hop,h2,h3,hnm⟩
 ·exact EG hp hL hks op name need ws kids ht hkl hwl wU AZ ih he ⟨h1,h2,h3,hf⟩
 ·exact yQ hp hL hks op name need ws kids ht hkl hwl wU AZ ih he (Or.inl h1)
 ·exact yQ hp hL hks op name need ws kids ht hkl hwl wU AZ ih he (Or.inr hop)
 ·exact EH hp hL hks op name need ws kids ht hkl hwl wU AZ ih he ⟨h1,h2,hl1⟩
 ·exact Hy hp hL hks op name need ws kids ht hkl hwl wU AZ ih he ⟨hop,h2,h3,hnm⟩
theorem Ch{A:Option Addr}{c:Nat}{l pre:List Dc}{env:ByteArray→Ex × Nat}(hp:Plain l pre)(hL:RLim l)(hks:uF l)
  (wU:∀x,aQ (tab pre) x=4→(env x).2=0→jf A c l (jd l x).term (env x).1) (AZ:∀x,aQ (tab pre) x=4→(env x).2=0→qA (env x).1):
  ∀(n:Nat)(t:Tm),ax t≤n→ax t≤1550000→Typed pre t→(fK l env t).2=0→jf A c l t (fK l env t).1:=by
 intro n
 induction n with
 |zero=>intro t ht;cases t;simp[ax] at ht
 |succ n ih=>
  intro t hs hs2 ht he
  cases t with
  |mk op name need ws kids=>
   have h1:ax (.mk op name need ws kids)=1+name.size+ws.length+dG kids:=gQ (.mk op name need ws kids)
   have h2:=lW kids
   refine EA hp hL hks op name need ws kids ht (by omega) (by omega) wU AZ (fun k hk h=>?_) he
   have h3:=eZ (l:=kids) hk
   exact ih k (by omega) (by omega) (ht.parts.2.2.2 k hk) h
theorem tab_le(l:List Dc):(tab l).length≤(l.map aW).sum:=by
 induction l with
 |nil=>decide
 |cons d r ih=>
  have h:(rT d).length≤d.names.length+1:=by
   unfold rT
   repeat' split
   all_goals simp
  have e1:aW d=d.name.size+aZ d.names+(d.faults.map dJ).sum+ax d.term+d.proto.size+ax d.read+ax d.write+d.use.size+1:=rfl
  have h2:=dh d.names
  have e:tab (d::r)=rT d++tab r:=List.flatMap_cons ..
  rw[e,bD,List.map_cons,List.sum_cons]
  omega
theorem rlim_of{l:List Dc}(hc:(bf l).2=0)(hsz:(l.map aW).sum≤1100000):RLim l:=
 ⟨by have:=gY l;omega,(mQ l).nodup (fw hc).1,by have:=(fw hc).2;omega,fun d hd=>by
  have h1:=gZ hd
  have e1:aW d=d.name.size+aZ d.names+(d.faults.map dJ).sum+ax d.term+d.proto.size+ax d.read+ax d.write+d.use.size+1:=rfl
  have h2:=dh d.names
  omega,by have:=tab_le l;omega⟩
theorem rholds_q{A:Option Addr}{c:Nat}{l:List Dc}(hc:(bf l).2=0)(hsz:(l.map aW).sum≤1100000):∀x,aQ (tab l) x=4→(jg (qGo l l) x).2=0→jf A c l (jd l x).term (jg (qGo l l) x).1:=by
 have hks:=(dW hc).2
 have hL:=rlim_of hc hsz
 intro x hx h
 refine (Am hc (fun x r=>r.2=0→jf A c l (jd l x).term r.1∧qA r.1) (fun i hi hk ht ih h=>?_) x hx h).1
 have e:jd l l[i].name=l[i]:=by
  unfold jd
  rw[Gz (fw hc).1 hks (bQ hi) (by rw[hk];decide)]
  rfl
 rw[e]
 exact⟨Ch (ic hc i) hL hks (fun x hx h=>(ih x hx h).1) (fun x hx h=>(ih x hx h).2) _ _ (aP _) (om hsz (bQ hi)).1 ht h,
  sW (ic hc i) (fun x hx h=>(ih x hx h).2) _ _ (aP _) ht h⟩
def fJ(f:Ft):List ByteArray:=f.aI++f.aB++[f.name]
def mJ(d:Dc):List ByteArray:=d.faults.flatMap fJ++fT d.term++fT d.read++fT d.write++[d.use]++(if d.kind=5∨d.kind=7 then d.names else [])
theorem fresh_lit{w W:World}(hb:Below w.heap.size w W)(s:ByteArray):∃(X:World)(b:Nat),X=W.alloc (.cells #[.string s] 9)∧b=W.heap.size∧ak X (fun g=>g=b) 1 (some ⟨b,0,none⟩) 1 (aC [s])∧Below w.heap.size w X∧Below W.heap.size W X∧b<X.heap.size:=
 ⟨_,_,rfl,rfl,⟨by simp[aC],fun _=>⟨W.heap.size,0,rfl,rfl,fun j u hu=>by rw[j5 _ _ (0+j) _ _ _ (jR W _)];simpa [aC] using hu⟩⟩,hb.alloc hb.size _,(jQ _ _).alloc (aP _) _,by simp⟩
theorem step_strs(w:World){ops:Array Oper}{o:Oper}{a:Act}{K:Act→World→Prop}{Q:Exit→Act→World→Prop}{E:Prop}(hgd:o.guard=none)(s x:Operand)
  (ho:o.op=.call { callee:=.builtin .append,args:=#[s,x],argTypes:=#[32,32] })
  (base:Nat) (v:Value) (n:Nat) (xs:List Value) (hown:w.ownsRow base 9 1 v n xs) (hs:a.eval s=v)
  (S:Nat→Prop) (A:Option Addr) (m c:Nat) (ss:List ByteArray) (hx:a.eval x=.slice A m c) (hmm:m=ss.length) (hr:ak w S 1 A ss.length (aC ss))
  (hn:n≤1000000000000) (hm:ss.length≤1000000000000) (hbase:base≤w.heap.size)
  (h:∀v' w',w'.ownsRow base 9 1 v' (n+ss.length) (xs++aC ss)→w.grownBy w' v.ownBlock→(v'.ownBlock=v.ownBlock∨v'.ownBlock=some w.heap.size)→K (a.put o.dst v') w'):
  if Region.wanted o (yielded ops a.tmps)=true then Oper.wp prog o a w K Q else E:=by
 subst hmm
 have hw:Region.wanted o (yielded ops a.tmps)=true:=by unfold Region.wanted;rw[hgd]
 rw[if_pos hw]
 obtain⟨v',w',h1,h2,h3,h4⟩:=Gl w o.type base v n xs hown S A c ss hr hn hm hbase
 unfold Oper.wp execOp
 simp only[ho,resolve,invoke,builtin,Sem.run_bind,Sem.run_pure,Result.andThen_ok,List.map_toArray,List.map_cons,List.map_nil,hs,hx,h1]
 exact h v' w' h2 h3 h4
theorem own_lt{w w':World}{base e size n B:Nat}{v:Value}{xs:List Value}(h:w.ownsRow base e size v n xs)(hb:Below B w w')(hlt:∀g,v.ownBlock=some g→g<B):w'.ownsRow base e size v n xs:=by
 obtain⟨h1,h2⟩:=h
 refine⟨h1,?_⟩
 rcases h2 with h2|⟨g,cap,cur,hv,hg,hh,r⟩
 ·exact Or.inl h2
 ·exact Or.inr ⟨g,cap,cur,hv,hg,by rw[hb.block g (hlt g (by rw[hv];rfl))];exact hh,r⟩
theorem sK(w:World){o:Oper}{a:Act}{K:Act→World→Prop}{Q:Exit→Act→World→Prop}(hgd:o.guard=none)(s x:Operand)
  (ho:o.op=.call { callee:=.builtin .append,args:=#[s,x],argTypes:=#[32,32] })
  (base:Nat) (v:Value) (n:Nat) (xs:List Value) (hown:w.ownsRow base 9 1 v n xs) (hs:a.eval s=v)
  (S:Nat→Prop) (A:Option Addr) (m c:Nat) (ss:List ByteArray) (hx:a.eval x=.slice A m c) (hmm:m=ss.length) (hr:ak w S 1 A ss.length (aC ss))
  (hn:n≤1000000000000) (hm:ss.length≤1000000000000) (hbase:base≤w.heap.size)
  (h:∀v' w',w'.ownsRow base 9 1 v' (n+ss.length) (xs++aC ss)→w.grownBy w' v.ownBlock→(v'.ownBlock=v.ownBlock∨v'.ownBlock=some w.heap.size)→K (a.put o.dst v') w'):Oper.wp prog o a w K Q:=by
 have:=step_strs (ops:=#[]) (Q:=Q) (E:=True) w hgd s x ho base v n xs hown hs S A m c ss hx hmm hr hn hm hbase h
 rwa [if_pos (by unfold Region.wanted;rw[hgd])] at this
theorem lit_of{w W:World}(hb:Below w.heap.size w W)(s:ByteArray):ak (W.alloc (.cells #[.string s] 9)) (w.heap.size≤·) 1 (some ⟨W.heap.size,0,none⟩) 1 (aC [s]):=
 ak.own (World.ownsRow_lit (base:=w.heap.size) (e:=9) (size:=1) W #[.string s] 1 hb.size (by decide) rfl)
theorem size_le{W:World}(o:Obj):W.heap.size≤(W.alloc o).heap.size:=((jQ _ W).alloc (aP _) o).size
theorem fresh_nil{w W:World}(hb:Below w.heap.size w W):∃(X:World)(b:Nat),X=W.alloc (.cells #[] 9)∧b=W.heap.size∧X.ownsRow w.heap.size 9 1 (.slice (some ⟨b,0,none⟩) 0 0) 0 []∧Below w.heap.size w X∧Below W.heap.size W X:=
 ⟨_,_,rfl,rfl,World.ownsRow_lit (base:=w.heap.size) (e:=9) (size:=1) W #[] 0 hb.size (by decide) rfl,hb.alloc hb.size _,(jQ _ _).alloc (aP _) _⟩
theorem used_ref(d:Dc)(v:Value)(w:World)(S:Nat→Prop)(hd:dS w S d v)(hS:∀g,S g→g<w.heap.size)(hlim:ax d.term≤100000000∧ax d.read≤100000000∧ax d.write≤100000000)(hfl:(d.faults.flatMap fJ).length≤100000000)(hnl:d.names.length≤100000000)(hff:d.faults.length≤100000000):
  Calls prog 26 #[v] w fun e w'=>∃v',e=.returned v'∧w'.ownsRow w.heap.size 9 1 v' (mJ d).length (aC (mJ d))∧Below w.heap.size w w':=by
 obtain⟨nA,nc',fA,fc,vt,vr,vw,hv,hnA,hnc,hfA,hfc,h5,h6,h7⟩:=hd
 have HT5:=jI h5
 have HT6:=jI h6
 have HT7:=jI h7
 obtain⟨o1,m1,d1,wA1,wn1,wc1,kA1,kn1,kc1,rfl⟩:=h5.form
 obtain⟨o2,m2,d2,wA2,wn2,wc2,kA2,kn2,kc2,rfl⟩:=h6.form
 obtain⟨o3,m3,d3,wA3,wn3,wc3,kA3,kn3,kc3,rfl⟩:=h7.form
 clear h5 h6 h7
 simp only[Value.cells,List.append_toArray,List.cons_append,List.nil_append] at hv
 rw[hv]
 have n1:=jy d.term
 have n2:=jy d.read
 have n3:=jy d.write
 obtain⟨l1,l2,l3⟩:=hlim
 obtain⟨w0,hw0⟩:=kE (w.alloc (.cells (xX d.kind d.line d.name nA d.names.length nc' fA d.faults.length fc o1 m1 d1 wA1 wn1 wc1 kA1 kn1 kc1 d.proto o2 m2 d2 wA2 wn2 wc2 kA2 kn2 kc2 o3 m3 d3 wA3 wn3 wc3 kA3 kn3 kc3 d.use) 35 (0,0)))
 have hb0:Below w.heap.size w w0:=by rw[hw0];exact (jQ _ _).alloc (aP _) _
 have hz0:w0.heap.size=w.heap.size+1:=by rw[hw0];simp
 have hr0:w0.heap[w.heap.size]?=some (.cells (xX d.kind d.line d.name nA d.names.length nc' fA d.faults.length fc o1 m1 d1 wA1 wn1 wc1 kA1 kn1 kc1 d.proto o2 m2 d2 wA2 wn2 wc2 kA2 kn2 kc2 o3 m3 d3 wA3 wn3 wc3 kA3 kn3 kc3 d.use) 35 (0,0)):=by rw[hw0];exact jR w _
 have HB:=jI (show ∀W',Below w0.heap.size w0 W'→W'.heap[w.heap.size]?=some (.cells (xX d.kind d.line d.name nA d.names.length nc' fA d.faults.length fc o1 m1 d1 wA1 wn1 wc1 kA1 kn1 kc1 d.proto o2 m2 d2 wA2 wn2 wc2 kA2 kn2 kc2 o3 m3 d3 wA3 wn3 wc3 kA3 kn3 kc3 d.use) 35 (0,0)) from fun W' hW=>(hW.block _ (by omega)).trans hr0)
 have hS2:∀W',Below w0.heap.size w0 W'→∀g,S g→g<W'.heap.size:=fun W' hW g hg=>by have:=hS g hg;have:=hW.size;omega
 have hk2:∀W',Below w0.heap.size w0 W'→Kept S w W':=fun W' hW=>aj (hb0.trans (hW.mono hb0.size)) hS
 have HN1:=jI (fun(W:World)(hW:Below w0.heap.size w0 W)=>wE d.term _ W S (HT5.out.keep (hk2 W hW)) (hS2 W hW) (by omega))
 have HN2:=jI (fun(W:World)(hW:Below w0.heap.size w0 W)=>wE d.read _ W S (HT6.out.keep (hk2 W hW)) (hS2 W hW) (by omega))
 have HN3:=jI (fun(W:World)(hW:Below w0.heap.size w0 W)=>wE d.write _ W S (HT7.out.keep (hk2 W hW)) (hS2 W hW) (by omega))
 have HW0:=jI hw0
 have HNA:=jI hnA
 have HFA:=jI hfA
 have HBW:=jI hb0
 obtain⟨us,hus⟩:=kE (mJ d)
 rw[←hus]
 have HUS:=jI hus
 clear hw0 hr0 hnA hfA hv hus
 go_enter func26,ntmps26
 go_upto_region 1 with fail
 rw[←HW0.out]
 clear HW0
 go_wp2_with fail
 go_loopw [3,4] (fun v x wr=>∃k:Nat,k≤d.faults.length∧x=.int .i64 k∧wr.ownsRow w0.heap.size 9 1 v ((d.faults.take k).flatMap fJ).length (aC ((d.faults.take k).flatMap fJ))∧Below w0.heap.size w0 wr) (fun _ x _=>d.faults.length-(intOf x).toNat)
 case atStart=>exact⟨0,cu _,rfl,World.ownsRow_nil _ _ _ _,jQ _ _⟩
 case round=>
  obtain⟨k,hk,rfl,hown,hb⟩:=hrel
  have hsr:=hb.size
  have hbw:Below w.heap.size w wr:=HBW.out.trans (hb.mono HBW.out.size)
  obtain⟨vA,vc,rfl,hvc⟩:=aD hown
  have q4:wr.cell? ⟨w.heap.size,4,none⟩=some (.slice fA d.faults.length fc):=ah (HB.out wr hb) 4 _ rfl
  by_cases hlt:k<d.faults.length
  ·obtain⟨g,o,op,nm,x,y,bA,bn,bc,cA,cn,cc,rfl,hSg,hft,k0,k1,k2,k3,k4,k5⟩:=mZ (HFA.out.keep (P':=ng wr S) (aj hbw hS) (fun _ _ h=>h.keep (aj hbw hS))) hlt
   have hgs:g<wr.heap.size:=World.block_lt_of_cell? wr _ k0
   have hkI:(k:Int)<(d.faults.length:Int):=by omega
   have hk0:(0:Int)≤(k:Int):=by omega
   obtain⟨f,hf⟩:=kE (d.faults[k])
   rw[←hf] at hft
   have htk:d.faults.take (k+1)=d.faults.take k++[f]:=by rw[hf];exact cO hlt
   obtain⟨bA',bc',cA',cc',hv,hs4,-,hs5,-⟩:=hft
   simp only[Value.agg.injEq,Array.mk.injEq,List.cons.injEq,Value.int.injEq,Value.string.injEq,Value.slice.injEq,true_and,and_true] at hv
   obtain⟨rfl,rfl,rfl,rfl,⟨rfl,rfl,rfl⟩,⟨rfl,rfl,rfl⟩⟩:=hv
   obtain⟨cur,hcur⟩:=kE ((d.faults.take k).flatMap fJ)
   have hcn:(d.faults.take (k+1)).flatMap fJ=cur++fJ f:=by rw[htk,hcur,List.flatMap_append,List.flatMap_cons,List.flatMap_nil,List.append_nil]
   have hcl:cur.length+(fJ f).length≤100000000:=by
    rw[←bD,←hcn]
    have h1:((d.faults.take (k+1)).flatMap fJ).length≤(d.faults.flatMap fJ).length:=by
     conv=>rhs;rw[←List.take_append_drop (k+1) d.faults,List.flatMap_append,bD]
     omega
    omega
   have hfu:(fJ f).length=f.aI.length+f.aB.length+1:=by unfold fJ;simp only[bD,fM,List.length_nil]
   rw[←hcur] at hown hvc ⊢
   obtain⟨Wv,hWv⟩:=kE (wr.alloc (.cells #[.int .i64 f.op,.string f.name,.int .i64 f.byz,.int .i64 f.iw,.slice bA f.aI.length bc,.slice cA f.aB.length cc] 68 (0,0)))
   have hbv:Below wr.heap.size wr Wv:=by rw[hWv];exact (jQ _ _).alloc (aP _) _
   have hzv:Wv.heap.size=wr.heap.size+1:=by rw[hWv];simp
   have hrv:Wv.heap[wr.heap.size]?=some (.cells #[.int .i64 f.op,.string f.name,.int .i64 f.byz,.int .i64 f.iw,.slice bA f.aI.length bc,.slice cA f.aB.length cc] 68 (0,0)):=by rw[hWv];exact jR wr _
   have hbf:wr.heap.size<Wv.heap.size:=by omega
   have hovl:=hown.lt
   have HOV:=jI (fun(W:World)(hW:Below Wv.heap.size Wv W)=>own_lt (own_below hown hbv (aP _)) hW (fun g hg=>by have:=(hovl g hg).2;omega))
   have HNE:=jI (show (Value.slice vA cur.length vc).ownBlock≠some wr.heap.size from fun h=>by have:=(hovl _ h).2;omega)
   have HS4:=jI (fun(W:World)(hW:Below Wv.heap.size Wv W)=>show ak W S 1 bA f.aI.length (aC f.aI) from (hs4.keep (aA hbv)).keep (fun g hg _=>hW.block g (by have:=hS g hg;have:=hbw.size;omega)))
   have HS5:=jI (fun(W:World)(hW:Below Wv.heap.size Wv W)=>show ak W S 1 cA f.aB.length (aC f.aB) from (hs5.keep (aA hbv)).keep (fun g hg _=>hW.block g (by have:=hS g hg;have:=hbw.size;omega)))
   have HF:=jI hrv
   have HWV:=jI hWv
   have HZ:=jI (show w0.heap.size≤Wv.heap.size by omega)
   have HB0:=jI (show Below w0.heap.size w0 Wv from hb.trans (hbv.mono hsr))
   have HCN:=jI hcn
   have HPT:=jI (fun(W:World)(u:Value)(h:W.ownsRow Wv.heap.size 9 1 u (0+f.aI.length+f.aB.length+[f.name].length) ([]++aC f.aI++aC f.aB++aC [f.name]))=>show W.ownsRow Wv.heap.size 9 1 u (fJ f).length (aC (fJ f)) by
    have e1:(0+f.aI.length+f.aB.length+[f.name].length)=(fJ f).length:=by rw[hfu];simp
    have e2:([]++aC f.aI++aC f.aB++aC [f.name]:List Value)=aC (fJ f):=by unfold fJ aC;simp
    rw[e1,e2] at h;exact h)
   have HPE:=jI (fun(W:World)(u:Value)(h:W.ownsRow w0.heap.size 9 1 u (cur.length+(fJ f).length) (aC cur++aC (fJ f)))=>show W.ownsRow w0.heap.size 9 1 u ((d.faults.take (k+1)).flatMap fJ).length (aC ((d.faults.take (k+1)).flatMap fJ)) by
    rw[hcn,bD,pY];exact h)
   clear hWv hrv hcur hcn htk hf hs4 hs5 hovl hown hfl
   go_upto_region 6 with fail
   rw[←HWV.out]
   refine av.start (fun W'=>W'.heap[wr.heap.size]?=some (.cells #[.int .i64 f.op,.string f.name,.int .i64 f.byz,.int .i64 f.iw,.slice bA f.aI.length bc,.slice cA f.aB.length cc] 68 (0,0))) [] [0,2,3,5,6,8,9] (by kernel_rfl) HF.out (fun hHeld=>?_)
   have bx:Below Wv.heap.size Wv Wv.drew:=(jQ _ _).drew
   obtain⟨X0,hX0⟩:=kE Wv.drew
   rw[←hX0] at bx hHeld ⊢
   clear hX0 hzv
   repeat
    refine av.take (v:=?_) rfl (by decide +kernel) (by rfl) (fun _ _ _ h=>h) hHeld ?_ ?_
    rotate_left
    focus
     intro w9 h9
     try dsimp only at h9
     have z1:=ah h9 1 _ rfl
     have z4:=ah h9 4 _ rfl
     have z5:=ah h9 5 _ rfl
     clear h9
     go_simp
     (try with_reducible rfl)
     done
    try simp only[Act.put,List.getElem_toArray,List.getElem_cons_succ,List.getElem_cons_zero,List.setIfInBounds_toArray,List.set_cons_zero,List.set_cons_succ]
   repeat'
    first
    |refine av.two 1 10 rfl rfl (by decide +kernel) (by rfl) (by rfl) (fun K hK=>?_) (fun K hK=>?_)
    |refine av.two 4 10 rfl rfl (by decide +kernel) (by rfl) (by rfl) (fun K hK=>?_) (fun K hK=>?_)
    |refine av.two 7 10 rfl rfl (by decide +kernel) (by rfl) (by rfl) (fun K hK=>?_) (fun K hK=>?_)
    |refine av.one 1 rfl (by decide +kernel) (by rfl) (fun K hK=>?_)
    |refine av.one 4 rfl (by decide +kernel) (by rfl) (fun K hK=>?_)
    |refine av.one 7 rfl (by decide +kernel) (by rfl) (fun K hK=>?_)
    |refine av.one 10 rfl (by decide +kernel) (by rfl) (fun K hK=>?_)
    |refine av.one 11 rfl (by decide +kernel) (by rfl) (fun K hK=>?_)
    |refine av.one 12 rfl (by decide +kernel) (by rfl) (fun K hK=>?_)
    |refine av.one 13 rfl (by decide +kernel) (by rfl) (fun K hK=>?_)
    |refine sK _ rfl (.tmp 19) (.tmp 21) rfl Wv.heap.size _ _ _ own rfl S bA _ bc f.aI rfl rfl (HS4.out _ bx) (by omega) (by omega) bx.size ?_
     intro v2 X2 o2 g2 q2
     have bn:=aN own g2 bx.size
     have bx:=bx.trans bn
     try have hlit:=hlit.keep (fun g hg hl=>g2.block g hl (by rw[hg];exact fun h=>hne h.symm))
     try have hne:v2.ownBlock=some bl→False:=fun h=>q2.elim (fun e=>hne (e.symm.trans h)) (fun e=>by rw[e] at h;injection h;omega)
     try have hbl:=bZ hbl g2.size
     have own:=o2
     refine hK.out _ _ (fun _=>(bx.block _ hbf).trans HF.out) ?_
     clear hK K
    |refine sK _ rfl (.tmp 22) (.tmp 24) rfl Wv.heap.size _ _ _ own rfl S cA _ cc f.aB rfl rfl (HS5.out _ bx) (by omega) (by omega) bx.size ?_
     intro v3 X3 o3 g3 q3
     have bx:=bx.trans (aN own g3 bx.size)
     try have hlit:=hlit.keep (fun g hg hl=>g3.block g hl (by rw[hg];exact fun h=>hne h.symm))
     try have hne:v3.ownBlock=some bl→False:=fun h=>q3.elim (fun e=>hne (e.symm.trans h)) (fun e=>by rw[e] at h;injection h;omega)
     try have hbl:=bZ hbl g3.size
     have own:=o3
     refine hK.out _ _ (fun _=>(bx.block _ hbf).trans HF.out) ?_
     clear hK K
    |refine sK _ rfl (.tmp 25) (.tmp 28) rfl Wv.heap.size _ _ _ own rfl _ _ _ 1 [f.name] rfl rfl hlit (by omega) (by simp) bx.size ?_
     intro v5 X5 o5 g5 q5
     have bx:=bx.trans (aN own g5 bx.size)
     refine hK.out _ _ (fun _=>(bx.block _ hbf).trans HF.out) ?_
     have HO5:=jI (HPT.out _ _ o5)
     obtain⟨At,ct,rfl,hct⟩:=aD HO5.out
     clear hK K
    |refine sK _ rfl (.tmp 18) (.tmp 29) rfl w0.heap.size _ _ _ (HOV.out _ bx) rfl (fun g=>Wv.heap.size≤g) At _ ct (fJ f) rfl rfl (ak.own HO5.out) (by omega) (by omega) (cK HZ.out bx.size) ?_
     intro v6 X6 o6 g6 q6
     have b6:=aN (HOV.out _ bx) g6 (cK HZ.out bx.size)
     have yj:=(g6.block wr.heap.size (bZ hbf bx.size) (fun h=>HNE.out h.symm)).trans ((bx.block _ hbf).trans HF.out)
     refine hK.out _ _ (fun _=>yj) ?_
     clear hK K
    |go_simp
     first
     |obtain⟨X,b,hX,hb,ow,bn,bw⟩:=fresh_nil bx
      refine hK.out _ (World.alloc _ (.cells #[] 9)) (fun _=>by rw[←hX];exact (bn.block _ hbf).trans HF.out) ?_
      rw[←hX,←hb]
      have own:=ow
      have bx:=bn
      try have hlit:=hlit.keep (aA bw)
      try have hne:(Value.slice (some ⟨b,0,none⟩) 0 0).ownBlock=some bl→False:=fun h=>by have h9:some b=some bl:=h;injection h9;omega
      try have hbl:=bZ hbl bw.size
      clear hK K hX hb bn ow
     |obtain⟨X,bl,hX,hb,hlit,bn,bw,hbl⟩:=fresh_lit bx f.name
      refine hK.out _ (World.alloc _ (.cells #[.string f.name] 9)) (fun _=>by rw[←hX];exact (bn.block _ hbf).trans HF.out) ?_
      rw[←hX,←hb]
      try have hne:=fun h=>Nat.lt_irrefl _ (Nat.lt_of_lt_of_eq (own.lt bl h).2 hb.symm)
      try have own:=own_below own bw (aP _)
      have bx:=bn
      clear hK K hX hb bn
     |refine hK.out _ _ (fun _=>yj) ?_
      clear hK K
   all_goals
    refine av.done (by decide +kernel) ?_
    go_wp2
    go_roundw
    case rel=>exact⟨k+1,by omega,by go_num,HPE.out _ _ o6,HB0.out.trans ((bx.mono HZ.out).trans b6)⟩
    case measure=>simp[intOf];omega
  ·obtain rfl:k=d.faults.length:=by omega
   have hkI:¬(d.faults.length:Int)<(d.faults.length:Int):=by omega
   rw[List.take_length] at hown hvc ⊢
   obtain⟨cur,hcur⟩:=kE (d.faults.flatMap fJ)
   have HU2:=jI (show us=cur++fT d.term++fT d.read++fT d.write++[d.use]++(if d.kind=5∨d.kind=7 then d.names else []) by rw[HUS.out,hcur];rfl)
   rw[←hcur] at hown hvc hfl ⊢
   obtain⟨N1,hN1⟩:=kE (fT d.term)
   obtain⟨N2,hN2⟩:=kE (fT d.read)
   obtain⟨N3,hN3⟩:=kE (fT d.write)
   rw[←hN1] at HU2 HN1 n1
   rw[←hN2] at HU2 HN2 n2
   rw[←hN3] at HU2 HN3 n3
   clear hcur hN1 hN2 hN3
   have a5:wr.cell? ⟨w.heap.size,5,none⟩=some (.int .i64 o1):=ah (HB.out wr hb) 5 _ rfl
   have a6:wr.cell? ⟨w.heap.size,6,none⟩=some (.string m1):=ah (HB.out wr hb) 6 _ rfl
   have a7:wr.cell? ⟨w.heap.size,7,none⟩=some (.int .i64 d1):=ah (HB.out wr hb) 7 _ rfl
   have a8:wr.cell? ⟨w.heap.size,8,none⟩=some (.slice wA1 wn1 wc1):=ah (HB.out wr hb) 8 _ rfl
   have a9:wr.cell? ⟨w.heap.size,9,none⟩=some (.slice kA1 kn1 kc1):=ah (HB.out wr hb) 9 _ rfl
   go_wp2_with fail
   refine (HN1.out wr hb).mono ?_
   rintro e W2 ⟨A2,c2,rfl,-,hs2,hb2⟩
   have hown2:=own_below hown hb2 (aP _)
   have hb02:=hb.trans (hb2.mono hsr)
   have hz2:=hb02.size
   clear a5 a6 a7 a8 a9 q4
   go_wp2_with (at_builtin;refine jU W2 rfl (.tmp 31) (.tmp 34) rfl w0.heap.size _ _ _ hown2 rfl _ A2 _ c2 N1 rfl rfl hs2 (by omega) (by omega) hz2 ?_;intro v3 W3 hown3 hg3 hv3;have hb03:=hb02.trans (aN hown2 hg3 hz2);have b11:W3.cell? ⟨w.heap.size,11,none⟩=some (.int .i64 o2):=ah (HB.out W3 hb03) 11 _ rfl;have b12:W3.cell? ⟨w.heap.size,12,none⟩=some (.string m2):=ah (HB.out W3 hb03) 12 _ rfl;have b13:W3.cell? ⟨w.heap.size,13,none⟩=some (.int .i64 d2):=ah (HB.out W3 hb03) 13 _ rfl;have b14:W3.cell? ⟨w.heap.size,14,none⟩=some (.slice wA2 wn2 wc2):=ah (HB.out W3 hb03) 14 _ rfl;have b15:W3.cell? ⟨w.heap.size,15,none⟩=some (.slice kA2 kn2 kc2):=ah (HB.out W3 hb03) 15 _ rfl)
   refine (HN2.out W3 hb03).mono ?_
   rintro e W4 ⟨A4,c4,rfl,-,hs4,hb4⟩
   have jX:=own_below hown3 hb4 (aP _)
   have hb04:=hb03.trans (hb4.mono hb03.size)
   have hz4:=hb04.size
   clear b11 b12 b13 b14 b15
   go_wp2_with (at_builtin;refine jU W4 rfl (.tmp 36) (.tmp 39) rfl w0.heap.size _ _ _ jX rfl _ A4 _ c4 N2 rfl rfl hs4 (by omega) (by omega) hz4 ?_;intro v5 W5 hown5 hg5 hv5;have hb05:=hb04.trans (aN jX hg5 hz4);have b16:W5.cell? ⟨w.heap.size,16,none⟩=some (.int .i64 o3):=ah (HB.out W5 hb05) 16 _ rfl;have b17:W5.cell? ⟨w.heap.size,17,none⟩=some (.string m3):=ah (HB.out W5 hb05) 17 _ rfl;have b18:W5.cell? ⟨w.heap.size,18,none⟩=some (.int .i64 d3):=ah (HB.out W5 hb05) 18 _ rfl;have b19:W5.cell? ⟨w.heap.size,19,none⟩=some (.slice wA3 wn3 wc3):=ah (HB.out W5 hb05) 19 _ rfl;have b20:W5.cell? ⟨w.heap.size,20,none⟩=some (.slice kA3 kn3 kc3):=ah (HB.out W5 hb05) 20 _ rfl)
   refine (HN3.out W5 hb05).mono ?_
   rintro e W6 ⟨A6,c6,rfl,-,hs6,hb6⟩
   have hown6:=own_below hown5 hb6 (aP _)
   have hb06:=hb05.trans (hb6.mono hb05.size)
   have hz6:=hb06.size
   clear b16 b17 b18 b19 b20
   have HFN:=jI (fun(W:World)(u:Value)(n:Nat)(xs:List Value)(h:W.ownsRow w0.heap.size 9 1 u n xs)(e1:n=us.length)(e2:xs=aC us)=>show W.ownsRow w.heap.size 9 1 u us.length (aC us) by subst e1 e2;exact AJ h HBW.out.size)
   by_cases hk5:d.kind=5
   ·have b5:(d.kind==(5:Int))=true:=by rw[hk5];rfl
    have HU:=jI (show us=cur++N1++N2++N3++[d.use]++d.names by rw[HU2.out,if_pos (Or.inl hk5)])
    clear hk5
    go_wp2_with (first|(at_builtin;refine jU W6 rfl (.tmp 41) (.tmp 44) rfl w0.heap.size _ _ _ hown6 rfl _ A6 _ c6 N3 rfl rfl hs6 (by omega) (by omega) hz6 ?_;intro v7 W7 fu hg7 hv7;have hb07:=hb06.trans (aN hown6 hg7 hz6);have hz7:=hb07.size;have e21:W7.cell? ⟨w.heap.size,21,none⟩=some (.string d.use):=ah (HB.out W7 hb07) 21 _ rfl)|(at_builtin;refine gK W7 rfl (.tmp 46) (.tmp 49) rfl w0.heap.size _ _ _ fu rfl d.use rfl (by omega) hz7 ?_;intro v8 W8 iq hg8 hv8;have Fs:=hb07.trans (aN fu hg8 hz7);have hz8:=Fs.size;have e0:W8.cell? ⟨w.heap.size,0,none⟩=some (.int .i64 d.kind):=ah (HB.out W8 Fs) 0 _ rfl;have e3:W8.cell? ⟨w.heap.size,3,none⟩=some (.slice nA d.names.length nc'):=ah (HB.out W8 Fs) 3 _ rfl)|(at_builtin;refine jU W8 rfl (.tmp 59) (.tmp 61) rfl w0.heap.size _ _ _ iq rfl S nA _ nc' d.names rfl rfl (HNA.out.keep (hk2 W8 Fs)) (by simp;omega) (by omega) hz8 ?_;intro v9 W9 hown9 hg9 hv9;have hb09:=Fs.trans (aN iq hg9 hz8)))
    go_ret
    refine⟨v9,rfl,HFN.out _ _ _ _ hown9 ?_ ?_,HBW.out.trans (hb09.mono HBW.out.size)⟩
    ·rw[HU.out];simp only[bD,fM,List.length_nil]
    ·rw[HU.out];simp[aC]
   have b5:(d.kind==(5:Int))=false:=by rw[bP];exact hk5
   by_cases hk7:d.kind=7
   ·have b7:(d.kind==(7:Int))=true:=by rw[hk7];rfl
    have HU:=jI (show us=cur++N1++N2++N3++[d.use]++d.names by rw[HU2.out,if_pos (Or.inr hk7)])
    clear hk5 hk7
    go_wp2_with (first|(at_builtin;refine jU W6 rfl (.tmp 41) (.tmp 44) rfl w0.heap.size _ _ _ hown6 rfl _ A6 _ c6 N3 rfl rfl hs6 (by omega) (by omega) hz6 ?_;intro v7 W7 fu hg7 hv7;have hb07:=hb06.trans (aN hown6 hg7 hz6);have hz7:=hb07.size;have e21:W7.cell? ⟨w.heap.size,21,none⟩=some (.string d.use):=ah (HB.out W7 hb07) 21 _ rfl)|(at_builtin;refine gK W7 rfl (.tmp 46) (.tmp 49) rfl w0.heap.size _ _ _ fu rfl d.use rfl (by omega) hz7 ?_;intro v8 W8 iq hg8 hv8;have Fs:=hb07.trans (aN fu hg8 hz7);have hz8:=Fs.size;have e0:W8.cell? ⟨w.heap.size,0,none⟩=some (.int .i64 d.kind):=ah (HB.out W8 Fs) 0 _ rfl;have e3:W8.cell? ⟨w.heap.size,3,none⟩=some (.slice nA d.names.length nc'):=ah (HB.out W8 Fs) 3 _ rfl)|(at_builtin;refine jU W8 rfl (.tmp 59) (.tmp 61) rfl w0.heap.size _ _ _ iq rfl S nA _ nc' d.names rfl rfl (HNA.out.keep (hk2 W8 Fs)) (by simp;omega) (by omega) hz8 ?_;intro v9 W9 hown9 hg9 hv9;have hb09:=Fs.trans (aN iq hg9 hz8)))
    go_ret
    refine⟨v9,rfl,HFN.out _ _ _ _ hown9 ?_ ?_,HBW.out.trans (hb09.mono HBW.out.size)⟩
    ·rw[HU.out];simp only[bD,fM,List.length_nil]
    ·rw[HU.out];simp[aC]
   have b7:(d.kind==(7:Int))=false:=by rw[bP];exact hk7
   have HU:=jI (show us=cur++N1++N2++N3++[d.use] by rw[HU2.out,if_neg (fun h=>h.elim hk5 hk7),List.append_nil])
   clear hk5 hk7
   go_wp2_with (first|(at_builtin;refine jU W6 rfl (.tmp 41) (.tmp 44) rfl w0.heap.size _ _ _ hown6 rfl _ A6 _ c6 N3 rfl rfl hs6 (by omega) (by omega) hz6 ?_;intro v7 W7 fu hg7 hv7;have hb07:=hb06.trans (aN hown6 hg7 hz6);have hz7:=hb07.size;have e21:W7.cell? ⟨w.heap.size,21,none⟩=some (.string d.use):=ah (HB.out W7 hb07) 21 _ rfl)|(at_builtin;refine gK W7 rfl (.tmp 46) (.tmp 49) rfl w0.heap.size _ _ _ fu rfl d.use rfl (by omega) hz7 ?_;intro v8 W8 iq hg8 hv8;have Fs:=hb07.trans (aN fu hg8 hz7);have hz8:=Fs.size;have e0:W8.cell? ⟨w.heap.size,0,none⟩=some (.int .i64 d.kind):=ah (HB.out W8 Fs) 0 _ rfl))
   go_ret
   refine⟨v8,rfl,HFN.out _ _ _ _ iq ?_ ?_,HBW.out.trans (Fs.mono HBW.out.size)⟩
   ·rw[HU.out];simp only[bD,fM,List.length_nil]
   ·rw[HU.out];simp[aC]
end
section
open Go.RowKit
open _root_.Go.Proofs.Tryz
theorem Gx{α:Type}(f:α→Nat){l:List α}{x:α}(h:x∈l):f x≤(l.map f).sum:=by
 induction l with
 |nil=>cases h
 |cons a r ih=>
  rw[List.map_cons,List.sum_cons]
  rcases List.mem_cons.1 h with rfl|h
  ·omega
  ·have:=ih h;omega
theorem CG{α:Type}(f:α→Nat)(h:∀x,1≤f x)(l:List α):l.length≤(l.map f).sum:=by
 induction l with
 |nil=>simp
 |cons a r ih=>have:=h a;rw[List.map_cons,List.sum_cons,fM];omega
theorem kz(l:List ByteArray):l.length≤aZ l:=by unfold aZ;exact CG _ (fun _=>by omega) l
theorem BL(d:Dc):(d.faults.flatMap fJ).length≤(d.faults.map dJ).sum:=by
 induction d.faults with
 |nil=>simp
 |cons f r ih=>
  have h1:=kz f.aI
  have h2:=kz f.aB
  have e:dJ f=f.name.size+aZ f.aI+aZ f.aB+1:=rfl
  rw[List.flatMap_cons,bD,List.map_cons,List.sum_cons]
  unfold fJ at ih ⊢
  simp only[bD,fM,List.length_nil] at ih ⊢
  omega
theorem used_allR{l:List Dc}(hsz:(l.map aW).sum≤10000000){d:Dc}(hm:d∈l):(ax d.term≤100000000∧ax d.read≤100000000∧ax d.write≤100000000)∧(d.faults.flatMap fJ).length≤100000000∧d.names.length≤100000000∧d.faults.length≤100000000:=by
 have h1:=Gx aW hm
 have h2:=BL d
 have h3:=kz d.names
 have h4:d.faults.length≤(d.faults.map dJ).sum:=CG dJ (fun f=>by unfold dJ;omega) d.faults
 have e1:aW d=d.name.size+aZ d.names+(d.faults.map dJ).sum+ax d.term+d.proto.size+ax d.read+ax d.write+d.use.size+1:=rfl
 omega
theorem Eh{l:List Dc}(hsz:(l.map aW).sum≤10000000){d:Dc}(hm:d∈l):(mJ d).length≤1000000000:=by
 have h1:=Gx aW hm
 have h2:=BL d
 have h3:=kz d.names
 have e1:aW d=d.name.size+aZ d.names+(d.faults.map dJ).sum+ax d.term+d.proto.size+ax d.read+ax d.write+d.use.size+1:=rfl
 have n1:=jy d.term
 have n2:=jy d.read
 have n3:=jy d.write
 have h4:(if d.kind=5∨d.kind=7 then d.names else []).length≤d.names.length:=by split<;>simp
 unfold mJ
 simp only[bD,fM,List.length_nil]
 omega
def ysOf(d:Dc):List ByteArray:=mJ d++[d.name]++d.names
def tL(d:Dc):Bool:=(ysOf d).all fun y=>decide (y.size<30)
attribute [local go_sem ↓] zq in
theorem short_ref(l:List Dc)(A:Option Addr)(c:Nat)(w:World)(S:Nat→Prop)(hl:aO (dS w S) w S 22 A l)(hS:∀g,S g→g<w.heap.size)(hsz:(l.map aW).sum≤3000000):
  Calls prog 7 #[.slice A l.length c,.int .i64 30] w fun e w'=>e=.returned (.bool (l.all tL))∧Below w.heap.size w w':=by
 have HL:=jI hl
 have hll:=gY l
 clear hl
 go_enter func7,ntmps7
 go_wp2
 go_loopw [5] (fun x wr=>∃k:Nat,k≤l.length∧x=.int .i64 k∧Below w.heap.size w wr∧Hid (l.all tL=(l.drop k).all tL)) (fun x _=>l.length-(intOf x).toNat)
 case atStart=>exact⟨0,cu _,rfl,jQ _ _,rfl⟩
 case round=>
 obtain⟨k,hk,rfl,hb,hdr⟩:=hrel
 rename World=>w0
 have hsr:=hb.size
 by_cases hlt:k<l.length
 ·obtain⟨g,o,v2,rfl,hSg,hp,hc⟩:=dB (fun _ _ h=>lD h) HL.out hlt
  have hgs:g<w.heap.size:=hS g hSg
  obtain⟨d,hd⟩:=kE (l[k])
  have hmem:d∈l:=by rw[hd];exact bQ hlt
  have HDR:=jI (show (l.drop k).all tL=(tL d&&(l.drop (k+1)).all tL) by rw[fE hlt,List.all_cons,hd])
  rw[←hd] at hp
  have hp2:=hp
  obtain⟨cs,nA,nc,hcl,hone,rfl,c0,-,c2,c3,-,hsn,hnc⟩:=j4 hp2
  have hrange:w.rangeAt g (o+k * 22) cs:=fun j u hu=>hc j u (by simpa [cellsOf,Value.cells] using hu)
  have HRG:=jI (fun(W:World)(hW:Below w.heap.size w W)=>Ai hrange hW hgs)
  have HSN:=jI (fun(W:World)(hW:Below w.heap.size w W)=>hsn.keep (aj hW hS))
  have HCL:=jI hcl
  have C2:=jI c2
  have C3:=jI c3
  have hul:=used_allR (l:=l) (by omega) hmem
  have HUS:=jI (fun(W:World)(hW:Below w.heap.size w W)=>used_ref d _ W S (hp.keep (aj hW hS)) (fun g hg=>by have:=hS g hg;have:=hW.size;omega) hul.1 hul.2.1 hul.2.2.1 hul.2.2.2)
  have hub:=Eh (l:=l) (by omega) hmem
  have hnl:=hul.2.2.1
  have HYS:=jI (show tL d=(ysOf d).all fun y=>decide (y.size<30) from rfl)
  obtain⟨ys,hys⟩:=kE (ysOf d)
  have hyl:ys.length=(mJ d).length+1+d.names.length:=by rw[hys];simp[ysOf];omega
  have HY2:=jI (show aC ys=aC (mJ d)++aC [d.name]++aC d.names by rw[hys];simp[ysOf,aC])
  rw[←hys] at HYS
  obtain⟨us,hus⟩:=kE (mJ d)
  rw[←hus] at HUS hub hyl HY2
  have hkI:(k:Int)<(l.length:Int):=by omega
  have hk0:(0:Int)≤(k:Int):=by omega
  clear hd hp hp2 hc hcl c0 c2 c3 hone hsn hul hys hus hrange hmem
  go_upto_region 4 with fail
  go_cut [6] (fun v wx=>∃B n,v=.slice B ys.length n∧Hid (ak wx (fun g=>g<wx.heap.size) 1 B ys.length (aC ys))∧Below w0.heap.size w0 wx)
  case first=>
   refine av.start (fun W'=>Below w0.heap.size w0 W') [] [0,1,2,3,5,6,7,8,9,12,13,14,15,16,18] (by kernel_rfl) (jQ _ _).drew (fun bx=>?_)
   repeat
    refine av.take (v:=?_) rfl (by decide +kernel) (by rfl) (fun _ _ _ h=>h) bx ?_ ?_
    rotate_left
    focus
     intro w9 h9
     have hrg:=HRG.out w9 (hb.trans (h9.mono hsr))
     have ra:=Cg w9 g (o+k * 22) cs hrg HCL.out
     have e2:=hrg 2 _ C2.out
     have e3:=hrg 3 _ C3.out
     first
     |(show Sem.run prog (do pure (Next.value (←loadD (.pointer (some ⟨g,o+k * 22,none⟩))))) w9=_;rw[Sem.run_bind,ra];rfl)
     |go_simp;(try with_reducible rfl);done
    simp only[Act.put,List.getElem_toArray,List.getElem_cons_succ,List.getElem_cons_zero,List.setIfInBounds_toArray,List.set_cons_zero,List.set_cons_succ]
   repeat'
    first
    |refine av.two 4 10 rfl rfl (by decide +kernel) (by rfl) (by rfl) (fun K hK=>?_) (fun K hK=>?_)
    |refine av.one 4 rfl (by decide +kernel) (by rfl) (fun K hK=>?_)
    |refine av.one 10 rfl (by decide +kernel) (by rfl) (fun K hK=>?_)
    |refine av.one 11 rfl (by decide +kernel) (by rfl) (fun K hK=>?_)
    |refine av.one 17 rfl (by decide +kernel) (by rfl) (fun K hK=>?_)
    |refine av.one 18 rfl (by decide +kernel) (by rfl) (fun K hK=>?_)
    |refine sK _ rfl (.tmp 18) (.tmp 24) rfl _ _ us.length _ hown rfl _ _ 1 _ [d.name] rfl rfl hlit (by omega) (by simp) hbase ?_
     intro v7 W7 fu hg7 hv7
     have bx:=bx.trans ((aN hown hg7 hbase).mono hb0)
     have hbase:=cK hbase hg7.size
     refine hK.out _ _ (fun _=>bx) ?_
     clear hK K hown
    |refine sK _ rfl (.tmp 25) (.tmp 30) rfl _ _ (us.length+1) _ fu rfl _ _ d.names.length _ d.names rfl rfl (HSN.out _ (hb.trans (bx.mono hsr))) (by omega) (by omega) hbase ?_
     intro v8 W8 iq hg8 hv8
     have bx:=bx.trans ((aN fu hg8 hbase).mono hb0)
     refine hK.out _ _ (fun _=>bx) ?_
     clear hK K fu
    |go_simp
     first
     |go_at_call 26
      refine (HUS.out _ (hb.trans (bx.mono hsr))).mono ?_
      rintro e W6 ⟨v6,rfl,hown,hb6⟩
      have hbase:=hb6.size
      have hb0:=bx.size
      have bx:=bx.trans (hb6.mono bx.size)
      try have hlit:=hlit.keep (aA hb6)
      try go_simp
      refine hK.out _ _ (fun _=>bx) ?_
      clear hK K
     |refine hK.out _ (World.alloc _ _) (fun _=>bx.alloc bx.size _) ?_
      have hlit:=lit_of bx d.name
      try have hown:=hown.alloc (.cells #[.string d.name] 9)
      try have hbase:=cK hbase (size_le (.cells #[.string d.name] 9))
      have bx:=bx.alloc bx.size (.cells #[.string d.name] 9)
      clear hK K
     |refine hK.out _ _ (fun _=>bx) ?_
      clear hK K
   all_goals
    obtain⟨B,n,rfl,hn⟩:=aD iq
    refine av.done (by decide +kernel) ?_
    go_wp2_with fail
    go_meet
    exact⟨B,n,by rw[hyl],jI (by rw[HY2.out,hyl];exact (ak.own iq).mono (fun g _ h=>h) (by decide)),bx⟩
  case rest=>
  obtain⟨B,n,rfl,J3,hb2⟩:=hcut
  have hb3:=hb.trans (hb2.mono hsr)
  go_wp2
  go_loop [7] (fun y=>∃j:Nat,j≤ys.length∧y=.int .i64 j∧Hid ((ys.all fun y=>decide (y.size<30))=(ys.drop j).all fun y=>decide (y.size<30))) (fun y=>ys.length-(intOf y).toNat)
  case atStart=>exact⟨0,cu _,rfl,rfl⟩
  case round=>
  obtain⟨j,hj,rfl,hda⟩:=hrel
  by_cases hlj:j<ys.length
  ·obtain⟨g2,o2,rfl,hSg2,k1⟩:=one_cell (f:=Value.string) J3.out hlj
   have HD:=jI (show ((ys.drop j).all fun y=>decide (y.size<30))=(decide (ys[j].size<30)&&(ys.drop (j+1)).all fun y=>decide (y.size<30)) by rw[fE hlj,List.all_cons])
   generalize ys[j]=u at k1 HD
   have hjI:(j:Int)<(ys.length:Int):=by omega
   have hj0:(0:Int)≤(j:Int):=by omega
   by_cases hu:u.size<30
   ·have hge:¬(30:Int)≤(u.size:Int):=by omega
    have E:=jI (decide_eq_true hu)
    go_wp2
    go_round
    case rel=>exact⟨j+1,by omega,by go_num,jI (by rw[hda.out,HD.out,E.out];rfl)⟩
    case measure=>simp[intOf];omega
   ·have hge:(30:Int)≤(u.size:Int):=by omega
    have E:=jI (decide_eq_false hu)
    go_wp2
    go_ret
    exact⟨by rw[hdr.out,HDR.out,HYS.out,hda.out,HD.out,E.out];rfl,hb3⟩
  obtain rfl:j=ys.length:=by omega
  have hjI:¬(ys.length:Int)<(ys.length:Int):=by omega
  go_wp2
  go_roundw
  case rel=>exact⟨k+1,by omega,by go_num,hb3,jI (by rw[hdr.out,HDR.out,HYS.out,hda.out,List.drop_length];rfl)⟩
  case measure=>simp[intOf];omega
 ·obtain rfl:k=l.length:=by omega
  have hkI:¬(l.length:Int)<(l.length:Int):=by omega
  go_wp2
  go_ret
  exact⟨by rw[hdr.out,List.drop_length];rfl,hb⟩
end
section
open Go.RowKit
open _root_.Go.Proofs.Tryz
theorem wp_decls2(w:World){ops:Array Oper}{rest:List Oper}{o:Oper}{a:Act}{Q:Exit→Act→World→Prop}(hgd:o.guard=none)(s x:Operand)
  (ho:o.op=.call { callee:=.builtin .append,args:=#[s,x],argTypes:=#[22,22] })
  (base:Nat) (v:Value) (n:Nat) (xs:List Value) (hown:w.ownsRow base 35 22 v n xs) (hs:a.eval s=v)
  (p:Addr) (m c:Nat) (news:List Value) (hx:a.eval x=.slice (some p) m c) (hl:news.length=m * 22) (hcells:∀j u,news[j]?=some u→w.cell? (p.add j)=some u) (h1:∀u∈news,u.oneCell'=true)
  (hlim:n+m≤100000000) (hbase:base≤w.heap.size)
  (h:∀v' w',w'.ownsRow base 35 22 v' (n+m) (xs++news)→w.grownBy w' v.ownBlock→(v'.ownBlock=v.ownBlock∨v'.ownBlock=some w.heap.size)→wpList prog ops Q rest (a.put o.dst v') w'):
  wpList prog ops Q (o::rest) a w:=by
 obtain⟨i0,hi,hz0,hz1,hz2⟩:=info_parts CV
 refine wpList_plain hgd fun _ hK=>?_
 obtain⟨v',w',h1',h2,h3,_,h5⟩:=run_append_own_at (P:=prog) w base 22 o.type 35 i0 _ 22 352 underlying22 hi hz0 hz1 hz2 rfl (by decide) v n xs hown p m c news hl hcells h1 (by unfold maxLen;omega) (by omega) hbase
 unfold Oper.wp execOp
 simp only[ho,resolve,invoke,builtin,Sem.run_bind,Sem.run_pure,Result.andThen_ok,List.map_toArray,List.map_cons,List.map_nil,hs,hx,h1']
 exact hK _ _ (h v' w' h2 h3 h5)
def BG(S:Nat→Prop)(l:List Dc)(w:World)(e:Ending)(w':World):Prop:=∃(v:Value)(vs:List Value),e=.returned v∧vs.length=l.length∧w'.ownsRow w.heap.size 35 22 v l.length (vs.flatMap cellsOf)∧(∀(i:Nat)(d:Dc)(u:Value),l[i]?=some d→vs[i]?=some u→dS w' S d u)∧Below w.heap.size w w'
theorem clone_own(l:List Dc)(A:Option Addr)(c:Nat)(w:World)(S:Nat→Prop)(hl:aO (dS w S) w S 22 A l)(hS:∀g,S g→g<w.heap.size)(hll:l.length≤10000000):
  Calls prog 8 #[.slice A l.length c] w (BG S l w):=by
 obtain⟨vs,h1,h2,h3⟩:=hl
 have hd:∀i (h:i<vs.length),∃d,l[i]?=some d∧dS w S d vs[i]:=fun i h=>⟨l[i]'(by omega),dD _,h3 i _ _ (dD (by omega)) (dD h)⟩
 have h22:∀u∈vs,(cellsOf u).length=22:=fun u hu=>by
  obtain⟨i,hi,rfl⟩:=List.getElem_of_mem hu
  obtain⟨d,-,hd⟩:=hd i hi
  exact lD hd
 have hone:∀u∈vs.flatMap cellsOf,u.oneCell'=true:=fun u hu=>by
  obtain⟨v,hv,hu⟩:=List.mem_flatMap.1 hu
  obtain⟨i,hi,rfl⟩:=List.getElem_of_mem hv
  obtain⟨d,-,hd⟩:=hd i hi
  exact dc_one hd u hu
 obtain⟨flat,lg⟩:=kE (vs.flatMap cellsOf)
 rw[←lg] at hone
 have hlen:flat.length=l.length * 22:=by rw[lg,flat22 h22,h1]
 cases A with
 |none=>
  have h0:l=[]:=by
   cases l with
   |nil=>rfl
   |cons x r=>obtain⟨g,o,e,-⟩:=h2.cells (by simp);cases e
  have uH:=jI (show BG S l w (.returned (.slice none 0 0)) w from ⟨_,vs,rfl,h1,by rw[h0] at h1 ⊢;rw[List.length_eq_zero_iff.1 h1];exact World.ownsRow_nil _ _ _ _,h3,jQ _ _⟩)
  clear h1 h2 h3 hd h22 hone lg hlen hS
  obtain⟨n,hn⟩:=kE l.length
  rw[←hn]
  have heq:=fun(W:World)=>Lib.run_eql_slice_nil (P:=prog) W 22 35 none n c 0 0 underlying22
  clear hn hll h0
  go_enter func8,ntmps8
  go_wp2
  go_ret
  exact uH.out
 |some p=>
  have hc:∀j u,flat[j]?=some u→w.cell? (p.add j)=some u∧(p.add j).block<w.heap.size:=by
   intro j u hu
   have hj:=(List.getElem?_eq_some_iff.1 hu).1
   obtain⟨g,o,e,hSg,h⟩:=h2.cells (by omega)
   cases e
   rw[Go.WideShapes.add_plain]
   exact⟨h j u (by rw[←lg];exact hu),hS g hSg⟩
  obtain⟨X,hX⟩:=kE (w.alloc (.cells #[] 35 (0,0)))
  have hbX:Below w.heap.size w X:=by rw[hX];exact (jQ _ _).alloc (aP _) _
  have hzX:w.heap.size≤X.heap.size:=hbX.size
  have hoX:X.ownsRow w.heap.size 35 22 (.slice (some ⟨w.heap.size,0,none⟩) 0 0) 0 []:=by rw[hX];exact World.ownsRow_lit (base:=w.heap.size) (e:=35) (size:=22) w #[] 0 (aP _) (by decide) rfl
  have hcX:∀j u,flat[j]?=some u→X.cell? (p.add j)=some u:=fun j u hu=>(hbX.cell (p:=p.add j) (hc j u hu).2).trans (hc j u hu).1
  have HX:=jI hX
  have HC:=jI hcX
  have nD:=jI hone
  have HLEN:=jI hlen
  have uH:=jI (fun(W:World)(v:Value)(hown:W.ownsRow w.heap.size 35 22 v (0+l.length) ([]++flat))(hb:Below w.heap.size w W)=>show BG S l w (.returned v) W from
   ⟨v,vs,rfl,h1,by rw[Nat.zero_add,List.nil_append,lg] at hown;exact hown,fun i d u hd hu=>(h3 i d u hd hu).keep (aj hb hS),hb⟩)
  clear hX hcX hc hone hlen h1 h2 h3 hd h22 lg hS
  have heq:=fun(W:World)=>Lib.run_eql_slice_nil (P:=prog) W 22 35 (some p) l.length c 0 0 underlying22
  go_enter func8,ntmps8
  go_upto_region 3 with fail
  go_wp2_with (rw[←HX.out];refine wp_decls2 X rfl (.tmp 5) (.tmp 6) rfl w.heap.size _ 0 [] hoX rfl p l.length c flat rfl HLEN.out HC.out nD.out (by omega) hzX ?_;intro v3 X3 hown3 hg3 hv3)
  go_ret
  exact uH.out X3 v3 hown3 (hbX.trans (aN hoX hg3 hzX))
end
end Go.Proofs.YtmohibkomlhlaaaGreatDoor
